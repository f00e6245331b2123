/- Several texts of this claim, one behind the other: D5, E1, D1, D2, C2, E2, E3, E4, E5, E6, E7, F7, G1, G2, G3, G4, F1, F2, F3, F4, F5, J1, ZA, L0, SH, H1, H2, H3, H4, H5, H7, H8, H9, G5, HA, EG, J2, HB. -/
import Derived.Test.YtnjeogcgfoabhaaGreatE0B9
import Derived.Test.YtnjeogcgfoabhaaGreatE0AT
import Derived.Test.YtnjeogcgfoabhaaGreatE0AN
import Derived.Test.YtnjeogcgfoabhaaGreatE0C1
import Derived.Shelf.Abstract
import Derived.WalkKit
import Derived.OwnWalkIn
import Derived.TacticsInMore
import Derived.LoopNIn
import Derived.LoopIn
import Derived.Sort.OwnSorted
import Derived.Below
import Derived.Shelf.Sort.Plain
import Derived.Shelf.Slices.In.SortNone
import Derived.Test.YtnjeogcgfoabhaaGreatProg
import Derived.Sort.Walk0
set_option maxRecDepth 100000
set_option maxHeartbeats 4000000
set_option linter.unusedVariables false
set_option linter.unusedSimpArgs false
namespace Go.Abs
theorem idxNat {α β : Type} {l : List α} {f : α → β} {i : Nat} {k : β → Prop} (h : i < l.length) (h1 : k (f l[i])) : qA (l.map f) (i : Int).toNat k := ab h h1
end Go.Abs
section
namespace Go.Abs
open Go Go.Proofs
abbrev B := List UInt8
def ofB (l : B) : ByteArray := ⟨l.toArray⟩
def bs (s : ByteArray) : B := s.data.toList
theorem jQ (l : B) : bs (ofB l) = l := by simp [bs, ofB]
theorem kO (s : ByteArray) : ofB (bs s) = s := by simp [bs, ofB]
theorem AB {s t : ByteArray} (h : bs s = bs t) : s = t := by rw [← kO s, h, kO]
theorem bZ {l m : B} (h : ofB l = ofB m) : l = m := by rw [← jQ l, h, jQ]
theorem bG {l m : B} : ofB l = ofB m ↔ l = m := ⟨bZ, fun h => by rw [h]⟩
theorem Id (s t : ByteArray) : bs (s ++ t) = bs s ++ bs t := by simp [bs]
theorem bj (l m : B) : ofB l ++ ofB m = ofB (l ++ m) := AB (by rw [Id, jQ, jQ, jQ])
theorem zk (s : ByteArray) : s.size = (bs s).length := by simp [bs]
theorem aG (l : B) : (ofB l).size = l.length := by rw [zk, jQ]
theorem wt (s : ByteArray) (a b : Nat) : bs (s.extract a b) = ((bs s).take b).drop a := by
 simp [bs, ByteArray.data_extract, List.drop_take]
theorem jm (l : B) (a b : Nat) : (ofB l).extract a b = ofB ((l.take b).drop a) := AB (by rw [wt, jQ, jQ])
theorem jf (l : B) {i : Nat} (h : i < l.length) : aE (ofB l) i = ((l[i]).toNat : Int) := by
 have hs : i < (ofB l).size := by rw [aG]; exact h
 unfold aE;rw [dif_pos hs];rfl
theorem fS (l : B) : strOfNums (l.map fun b => (b.toNat : Int)) = ofB l := AB (by
 rw [jQ];show (strOfNums _).data.toList = _;rw [strOfNums_data, List.map_map];conv => rhs; rw [← List.map_id l]
 refine List.map_congr_left fun b _ => ?_;simp)
theorem NB {a b : UInt8} : ((a.toNat : Int) = (b.toNat : Int)) ↔ a = b := ⟨fun h => UInt8.toNat_inj.1 (by omega), fun h => by rw [h]⟩
end Go.Abs
end
section
namespace Go.Abs
open Go Go.Proofs
attribute [local irreducible] aH aE aO firstIdx
def vs (s : B) : AV := .val (.string (ofB s))
def vi (i : Int) : AV := .val (.int .i64 i)
def bl (l : List B) : List (List AV) := l.map fun s => [vs s]
theorem aC (l : List B) : (bl l).length = l.length := by simp [bl]
theorem dy (l m : List B) : bl (l ++ m) = bl l ++ bl m := by simp [bl]
def gl : List B → Nat → List (ByteArray × AV)
 | [], _ => []
 | s :: l, i => (ofB s, vi i) :: gl l (i + 1)
theorem uO (l : List B) (s : B) : ∀ i, gl (l ++ [s]) i = gl l i ++ [(ofB s, vi (i + l.length))] := by
 induction l with
 | nil => intro i; simp [gl]
 | cons a l ih => intro i; simp [gl, ih, Int.add_assoc]; congr 2; omega
theorem zT {l : List B} {s : B} (h : s ∉ l) : ∀ i, cB (gl l i) (ofB s) = none := by
 induction l with
 | nil => intro i; rfl
 | cons a l ih =>
  intro i;simp only [List.mem_cons, not_or] at h;simp only [gl, cB];rw [if_neg (fun e => h.1 (bZ e).symm)];exact ih h.2 _
theorem zS {l : List B} {s : B} (h : s ∈ l) : ∀ i, ∃ j : Int, cB (gl l i) (ofB s) = some (vi j) := by
 induction l with
 | nil => cases h
 | cons a l ih =>
  intro i;simp only [gl, cB];by_cases e : a = s
  ·subst e; rw [if_pos rfl]; exact ⟨_, rfl⟩
  ·rw [if_neg (fun e' => e (bZ e'))];exact ih (by simpa [Ne.symm e, eq_comm] using h) _
theorem Em {l : List B} {s : B} {v : AV} (h : s ∉ l) : ∀ i, dZ (gl l i) (ofB s) v = gl l i ++ [(ofB s, v)] := by
 induction l with
 | nil => intro i; rfl
 | cons a l ih =>
  intro i;simp only [List.mem_cons, not_or] at h;simp only [gl, dZ];rw [if_neg (fun e => h.1 (bZ e).symm), ih h.2];rfl
def dp : aF := .cells 221 [.val (.slice none 0 0), .val (.map none)]
def bM (n m : Nat) (l : List B) : aF := .cells 221 [.sl (some n) 1 (bl l), .mapv m]
def bL (l : List B) : aF := .row 9 1 l.length
def bK (l : List B) : aF := .map (gl l 0)
def cP (l : List B) (s : B) : List B := if s ∈ l then l else l ++ [s]
theorem cg : (tab.ti 9).bytes = 16 := rfl
theorem F1 (s : B) {R} (h : R (.tup [vi 0, .val (.bool true)]) [bM 1 2 [s], bL [s], bK [s]]) :
  ag Tryz.prog 156 [.ptr 0 0, vs s] [dp] R := by
 refine aa (an := KK) tab_ok Tryz.func156 ?_;conv=>whnf
 refine ⟨(by rw [cg]; decide : 1 * ((tab.ti 9).bytes + 1) ≤ 140737488355328), ?_⟩;conv=>whnf
 exact h
theorem put_old (l : List B) (s : B) (hs : s ∈ l) {R} (h : ∀ j, R (.tup [vi j, .val (.bool false)]) [bM 1 2 l, bL l, bK l]) :
  ag Tryz.prog 156 [.ptr 0 0, vs s] [bM 1 2 l, bL l, bK l] R := by
 refine aa (an := KK) tab_ok Tryz.func156 ?_;obtain ⟨j, hj⟩ := zS hs 0;conv=>whnf
 rw [hj];conv=>whnf
 exact h j
theorem BE (l : List B) (s : B) (hl : l.length < 1000000) (hs : s ∉ l) {R} (h : R (.tup [vi l.length, .val (.bool true)]) [bM 1 2 (l ++ [s]), bL (l ++ [s]), bK (l ++ [s])]) :
  ag Tryz.prog 156 [.ptr 0 0, vs s] [bM 1 2 l, bL l, bK l] R := by
 refine aa (an := KK) tab_ok Tryz.func156 ?_;conv=>whnf
 rw [zT hs];conv=>whnf
 refine ⟨(aC l).symm, ?_, ?_⟩
 ·rw [aC, cg]; simp; omega
 conv=>whnf
 have e1 : (bl l ++ [[AV.val (Value.string (ofB s))]]) = bl (l ++ [s]) := (dy l [s]).symm;have e2 : IntKind.i64.wrap (((bl (l ++ [s])).length : Int) - 1) = (l.length : Int) := by
  rw [aC, aM (by rw [List.length_append]; simp <;> omega) (by rw [List.length_append]; simp <;> omega)]; simp
 have e3 : (bl l).length + [[AV.val (Value.string (ofB s))]].length = (l ++ [s]).length := by simp [aC]
 rw [Em hs, e3, e1, e2, aC];unfold bK at h;rw [uO, show (((0 : Nat) : Int) + (l.length : Int)) = l.length by omega] at h;exact h
theorem dP {l : List B} {s : B} (h : s ∈ l) : cP l s = l := by simp [cP, h]
theorem dx {l : List B} {s : B} (h : s ∉ l) : cP l s = l ++ [s] := by simp [cP, h]
theorem qR (s : B) {R} (h : R (.tup [uv 0, .val (.bool true)]) [bM 1 2 [s], bL [s], bK [s]]) :
  ag Tryz.prog 159 [.ptr 0 0, vs s] [dp] R := by
 refine aa (an := KH) tab_ok Tryz.func159 ?_;conv=>whnf
 refine F1 s ?_;conv=>whnf
 exact h
theorem jT (l : List B) (s : B) (hs : s ∈ l) {R} (h : ∀ j : Int, R (.tup [.val (.int .u64 j), .val (.bool false)]) [bM 1 2 l, bL l, bK l]) :
  ag Tryz.prog 159 [.ptr 0 0, vs s] [bM 1 2 l, bL l, bK l] R := by
 refine aa (an := KH) tab_ok Tryz.func159 ?_;conv=>whnf
 refine put_old l s hs fun j => ?_;conv=>whnf
 exact h _
theorem gT (l : List B) (s : B) (hl : l.length < 1000000) (hs : s ∉ l) {R} (h : ∀ j : Int, R (.tup [.val (.int .u64 j), .val (.bool true)]) [bM 1 2 (l ++ [s]), bL (l ++ [s]), bK (l ++ [s])]) :
  ag Tryz.prog 159 [.ptr 0 0, vs s] [bM 1 2 l, bL l, bK l] R := by
 refine aa (an := KH) tab_ok Tryz.func159 ?_;conv=>whnf
 refine BE l s hl hs ?_;conv=>whnf
 exact h _
theorem uD (l : List B) {R} (h : R (vi l.length) [bM 1 2 l, bL l, bK l]) :
  ag Tryz.prog 203 [.ptr 0 0] [bM 1 2 l, bL l, bK l] R := by
 refine aa (an := RD) tab_ok Tryz.func203 ?_;conv=>whnf
 rw [aC];exact h
def qi (l : List B) : List aF := match l with | [] => [dp] | _ => [bM 1 2 l, bL l, bK l]
theorem n8 {R} (h : R (.ptr 0 0) [dp]) : ag Tryz.prog 116 [.val (.slice none 0 0)] [] R := by
 refine aa (an := Nq) tab_ok Tryz.func116 ?_;conv=>whnf
 refine aq.step ?_;conv=>whnf
 exact h
def mR (l : List B) : List B := l.foldl cP []
theorem lw (a : B) (l : List B) (hl : l.length < 100000) {R} (h : ∀ m, m = mR (a :: l) → R (.ptr 0 0) [bM 1 2 m, bL m, bK m]) : ag Tryz.prog 116 [.sl none 1 (bl (a :: l))] [] R := by
 refine aa (an := Nq) tab_ok Tryz.func116 ?_;conv=>whnf
 have hsl : (bl (a :: l)).length = l.length + 1 := by rw [aC]; rfl
 refine aq.step ?_;conv=>whnf
 refine aK (by rw [hsl]; simp <;> omega) ?_;conv=>whnf
 refine F1 a ?_;conv=>whnf
 refine aq.ind2 (fun (i : Nat) (m : List B) => [(10, vi i)]) (fun i m => [(ak 7, bM (ay 18 0) (ay 18 1) m), (ay 18 0, bL m), (ay 18 1, bK m)]) (fun i _ => l.length + 1 - i)
  (fun i m => 1 ≤ i ∧ i ≤ l.length + 1 ∧ m.length ≤ i ∧ (l.drop (i - 1)).foldl cP m = mR (a :: l)) 1 [a] rfl ⟨by omega, by omega, by simp, by simp [mR, cP]⟩ ?_
 rintro i m ⟨h0, h1, h2, h3⟩ IH;conv=>whnf
 refine ae (fun hc => ?_) (fun hc => ?_)
 ·have hc : i < l.length + 1 := by rw [hsl] at hc; simp at hc; omega
  have hi : i < (a :: l).length := by simpa using hc
  conv=>whnf
  refine ab (show (i : Int).toNat < (a :: l).length by simpa using hc) ?_;obtain ⟨s, hs⟩ : ∃ s, s = (a :: l)[(i : Int).toNat]'(by simpa using hc) := ⟨_, rfl⟩;rw [← hs];have hd : l.drop (i - 1) = s :: l.drop i := by
   rw [List.drop_eq_getElem_cons (show i - 1 < l.length by omega), show i - 1 + 1 = i by omega, hs];congr 1;obtain ⟨j, rfl⟩ : ∃ j, i = j + 1 := ⟨i - 1, by omega⟩;simp
  rw [hd, List.foldl_cons] at h3;conv=>whnf
  by_cases hm : s ∈ m
  ·refine put_old m s hm fun j => ?_;rw [dP hm] at h3;conv=>whnf
   rw [aM (by omega) (by omega)];exact IH (i + 1) m ⟨by omega, by omega, by omega, by simpa using h3⟩ (by omega)
  ·refine BE m s (by omega) hm ?_;rw [dx hm] at h3;conv=>whnf
   rw [aM (by omega) (by omega)];exact IH (i + 1) (m ++ [s]) ⟨by omega, by omega, by simp; omega, by simpa using h3⟩ (by omega)
 ·have hc : i = l.length + 1 := by rw [hsl] at hc; simp at hc; omega
  subst hc;rw [Nat.add_sub_cancel, List.drop_length] at h3;conv=>whnf
  exact h m h3
end Go.Abs
end
section
namespace Go.Abs
open Go Go.Proofs
namespace Dig
def G7 : U := 0x9e3779b97f4a7c15#64
def first : U := 0xbf58476d1ce4e5b9#64
def other : U := 0x94d049bb133111eb#64
def down (k : Nat) (x : U) : U := x ^^^ (x >>> k)
def dig (n : U) : U := down 31 (down 27 (down 30 (n + G7) * first) * other)
def up (k : Nat) (h : U) : U := h ^^^ ((h ^^^ (h >>> k)) >>> k)
def back (n : U) : U := let b0 := n; let s := fun b : U => b * (2 - n * b); s (s (s (s (s (s b0)))))
def gS (h : U) : U := up 30 (up 27 (up 31 h * back other) * back first) - G7
def iH (n : U) (l : List U) : U := l.foldl (fun h x => dig (h ^^^ x)) (dig n)
theorem za (k : Nat) (hk : 22 ≤ k) (x : U) : up k (down k x) = x := by
 unfold up down;have h1 : ∀ a b : U, (a ^^^ b) >>> k = (a >>> k) ^^^ (b >>> k) := fun a b => BitVec.ushiftRight_xor_distrib a b k;have h0 : x >>> k >>> k >>> k = 0#64 := by
  rw [← BitVec.shiftRight_add, ← BitVec.shiftRight_add];exact BitVec.ushiftRight_eq_zero (by omega)
 simp only [h1, h0];apply BitVec.eq_of_getLsbD_eq;intro i hi;simp only [BitVec.getLsbD_xor]
 cases x.getLsbD i <;> cases (x >>> k).getLsbD i <;> cases (x >>> k >>> k).getLsbD i <;> simp
theorem E9 (x : U) : x * first * back first = x := by
 rw [BitVec.mul_assoc];have : first * back first = 1#64 := by decide +kernel
 rw [this, BitVec.mul_one]
theorem E7 (x : U) : x * other * back other = x := by
 rw [BitVec.mul_assoc];have : other * back other = 1#64 := by decide +kernel
 rw [this, BitVec.mul_one]
theorem ls (n : U) : gS (dig n) = n := by
 unfold gS dig;rw [za 31 (by omega), E7, za 27 (by omega), E9, za 30 (by omega), BitVec.add_sub_cancel]
end Dig
open Dig
theorem qG (b : Int) {R} (h : R (.fn (.func 254) [] [.cptr [.val (.int .u64 b)] 0]) []) : ag Tryz.prog 221 [.val (.int .u64 b)] [] R := by
 refine aa (an := Rs) tab_ok Tryz.func221 ?_;conv=>whnf
 exact h
theorem oI (b : Int) {R} (h : R (.fn (.func 255) [] [.cptr [.val (.int .u64 b)] 0]) []) : ag Tryz.prog 222 [.val (.int .u64 b)] [] R := by
 refine aa (an := Rr) tab_ok Tryz.func222 ?_;conv=>whnf
 exact h
theorem uG (b : Int) {R} (h : R (.fn (.func 227) [] [.cptr [.val (.int .u64 b)] 0]) []) : ag Tryz.prog 175 [.val (.int .u64 b)] [] R := by
 refine aa (an := RS) tab_ok Tryz.func175 ?_;conv=>whnf
 exact h
def KX (e : List AV) (g : U → U) : Prop := ∃ f cs, e = [.fn (.func f) [] [.cptr cs 0]] ∧ tab.fn f = true ∧ ∀ x R, R (uv (g x)) [] → ag Tryz.prog f [uv x, .cptr cs 0] [] R
theorem Dl (x : U) (k : Nat) (hk : k ≤ 64) : ((x.toNat : Int)).fdiv (2 ^ min ((k : Int)).toNat IntKind.u64.bits) = ((x >>> k).toNat : Int) := by
 have : min ((k : Int)).toNat IntKind.u64.bits = k := by
  show min ((k : Int)).toNat 64 = k;simp; omega
 rw [this, PT]
theorem sW (k : Nat) (hk : k ≤ 64) : KX [.fn (.func 254) [] [.cptr [.val (.int .u64 k)] 0]] (down k) := by
 refine ⟨_, _, rfl, rfl, fun x R h => ?_⟩;refine aa (an := Q5) tab_ok Tryz.func254 ?_;conv=>whnf
 rw [Dl x k hk, l9];exact h
theorem qg (n : U) : KX [.fn (.func 255) [] [.cptr [uv n] 0]] (· * n) := by
 refine ⟨_, _, rfl, rfl, fun x R h => ?_⟩;refine aa (an := Q4) tab_ok Tryz.func255 ?_;conv=>whnf
 rw [uH];exact h
theorem zb (k : Nat) (hk : k = 27 ∨ k = 30 ∨ k = 31) : KX [.fn (.func 227) [] [.cptr [.val (.int .u64 k)] 0]] (up k) := by
 refine ⟨_, _, rfl, rfl, fun x R h => ?_⟩;refine aa (an := Rm) tab_ok Tryz.func227 ?_;have key : ∀ (o : Int), o = (((x ^^^ ((x ^^^ (x >>> k)) >>> k)) : U).toNat : Int) → R (.val (.int .u64 o)) [] := by
  rintro o rfl; exact h
 have e1 : aH .xor .u64 (x.toNat : Int) ((x.toNat : Int).fdiv (2 ^ min ((k : Int)).toNat IntKind.u64.bits)) = ((x ^^^ (x >>> k)).toNat : Int) := by
  rw [Dl x k (by omega), l9]
 have e2 : aH .xor .u64 (x.toNat : Int) ((aH .xor .u64 (x.toNat : Int) ((x.toNat : Int).fdiv (2 ^ min ((k : Int)).toNat IntKind.u64.bits))).fdiv (2 ^ min ((k : Int)).toNat IntKind.u64.bits)) = ((x ^^^ ((x ^^^ (x >>> k)) >>> k)).toNat : Int) := by
  rw [e1, Dl _ k (by omega), l9]
 rcases hk with rfl | rfl | rfl
 all_goals
  conv=>whnf
  refine aq.step ?_;conv=>whnf
  refine aq.step ?_;conv=>whnf
  refine aq.step ?_;conv=>whnf
  exact key _ e2
end Go.Abs
end
section
namespace Go.Abs
open Go Go.Proofs Dig
attribute [local irreducible] aH aE aO
theorem tH (n : U) {R} (h : ∀ e, KX [e] (· * back n) → R e []) : ag Tryz.prog 176 [uv n] [] R := by
 refine aa (an := RR) tab_ok Tryz.func176 ?_;have st : ∀ b : U, IntKind.u64.wrap ((b.toNat : Int) * IntKind.u64.wrap (2 - IntKind.u64.wrap ((n.toNat : Int) * (b.toNat : Int)))) = ((b * (2 - n * b) : U).toNat : Int) := by
  intro b;rw [uH, show (2 : Int) = ((2 : U).toNat : Int) from rfl, IQ, uH]
 conv=>whnf
 refine aq.step ?_;conv=>whnf
 rw [st];refine aq.step ?_;conv=>whnf
 rw [st];refine aq.step ?_;conv=>whnf
 rw [st];refine aq.step ?_;conv=>whnf
 rw [st];refine aq.step ?_;conv=>whnf
 rw [st];refine aq.step ?_;conv=>whnf
 rw [st];refine aq.step ?_;conv=>whnf
 exact oI _ (h _ (qg _))
theorem m9 {α : Type} {l : List α} {i : Int} (h0 : 0 ≤ i) (h1 : i < (l.length : Int)) : i.toNat < l.length := by omega
theorem xW (x : U) (l : List (List AV)) (gs : List (U → U)) (hl : l.length = gs.length) (hlen : l.length < 1000) (hd : ∀ i (h : i < l.length), KX l[i] (gs[i]'(by omega))) (own : Option Nm) {R} (h : R (uv (gs.foldl (fun h g => g h) x)) []) :
  ag Tryz.prog 174 [uv x, .sl none 1 l] [] R := by
 refine aa (an := RT) tab_ok Tryz.func174 ?_;conv=>whnf
 refine aq.ind (α := Int × Int) (fun p => [(0, .val (.int .u64 p.2)), (9, .val (.int .i64 p.1))]) (fun _ => []) (fun p => l.length - p.1.toNat)
  (fun p => 0 ≤ p.1 ∧ p.1 ≤ l.length ∧ ∃ y : U, p.2 = (y.toNat : Int) ∧ (gs.drop p.1.toNat).foldl (fun h g => g h) y = gs.foldl (fun h g => g h) x) (0, (x.toNat : Int)) rfl ⟨by simp, by simp, x, rfl, by simp⟩ ?_
 rintro ⟨i, yy⟩ ⟨h0, h1, y, rfl, hy⟩ IH;simp only at h0 h1 hy IH;conv=>whnf
 refine ae (fun hc => ?_) (fun hc => ?_)
 ·have hc : i < (l.length : Int) := by simpa using hc
  conv=>whnf
  refine ac (by simpa using h0) ?_;refine vO (m9 h0 hc) ?_;obtain ⟨f, cs, e1, e2, e3⟩ := hd i.toNat (m9 h0 hc);rw [e1];conv=>whnf
  refine ac e2 ?_;refine e3 y _ ?_;conv=>whnf
  rw [aM (by omega) (by omega)];refine IH (i + 1, _) ⟨?_, ?_, _, rfl, ?_⟩ ?_
  ·simp only; omega
  ·simp only; omega
  ·simp only;rw [← hy, show (i + 1).toNat = i.toNat + 1 by omega, List.drop_eq_getElem_cons (show i.toNat < gs.length by omega), List.foldl_cons]
  ·simp only; omega
 ·have hc : i = (l.length : Int) := by simp at hc; omega
  conv=>whnf
  have : gs.drop i.toNat = [] := List.drop_eq_nil_of_le (by omega);rw [this] at hy;simp only [List.foldl_nil] at hy;rw [hy];exact h
theorem sm (n : U) {R} (h : ∀ d, d = dig n → R (uv d) []) : ag Tryz.prog 172 [uv n] [] R := by
 refine aa (an := { RV with chg := [], own := [], vec := [] }) tab_ok Tryz.func172 ?_;conv=>whnf
 refine qG _ ?_;conv=>whnf
 refine oI _ ?_;conv=>whnf
 refine qG _ ?_;conv=>whnf
 refine oI _ ?_;conv=>whnf
 refine qG _ ?_;conv=>whnf
 rw [show (11400714819323198485 : Int) = (G7.toNat : Int) from rfl, tt];refine xW _ _ [down 30, (· * first), down 27, (· * other), down 31] rfl (by simp) (fun i hi => ?_) none ?_
 ·match i, hi with
  | 0, _ => exact sW 30 (by omega)
  | 1, _ => exact qg first
  | 2, _ => exact sW 27 (by omega)
  | 3, _ => exact qg other
  | 4, _ => exact sW 31 (by omega)
 ·conv=>whnf
  exact h _ rfl
theorem FA (n : U) {R} (h : ∀ d, d = gS n → R (uv d) []) : ag Tryz.prog 131 [uv n] [] R := by
 refine aa (an := { Sn with chg := [], own := [], vec := [] }) tab_ok Tryz.func131 ?_;conv=>whnf
 refine uG _ ?_;conv=>whnf
 refine tH other fun e1 h1 => ?_;obtain ⟨f1, c1, he1, h1', h1''⟩ := h1;injection he1 with he1
 subst he1;conv=>whnf
 refine uG _ ?_;conv=>whnf
 refine tH first fun e2 h2 => ?_
 obtain ⟨f2, c2, he2, h2', h2''⟩ := h2;injection he2 with he2
 subst he2;conv=>whnf
 refine uG _ ?_;conv=>whnf
 refine xW _ _ [up 31, (· * back other), up 27, (· * back first), up 30] rfl (by simp) (fun i hi => ?_) none ?_
 ·match i, hi with
  | 0, _ => exact zb 31 (by omega)
  | 1, _ => exact ⟨f1, c1, rfl, h1', h1''⟩
  | 2, _ => exact zb 27 (by omega)
  | 3, _ => exact ⟨f2, c2, rfl, h2', h2''⟩
  | 4, _ => exact zb 30 (by omega)
 ·conv=>whnf
  rw [show (11400714819323198485 : Int) = (G7.toNat : Int) from rfl, IQ];exact h _ rfl
def dq (l : List U) : List (List AV) := l.map fun x => [uv x]
theorem Fu (n : U) (l : List U) (hl : l.length ≤ 1000000) {X : List (List AV)} (hX : X = dq l) {R} (h : ∀ d, d = iH n l → R (uv d) []) : ag Tryz.prog 177 [uv n, .sl none 1 X] [] R := by
 subst hX;refine aa (an := RQ) tab_ok Tryz.func177 ?_;have hnl : (dq l).length = l.length := by simp [dq]
 conv=>whnf
 refine sm n fun d0 hd0 => ?_;conv=>whnf
 refine aq.ind (α := Int × U) (fun p => [(5, uv p.2), (12, .val (.int .i64 p.1))]) (fun _ => []) (fun p => l.length - p.1.toNat)
  (fun p => 0 ≤ p.1 ∧ p.1 ≤ l.length ∧ (l.drop p.1.toNat).foldl (fun h x => dig (h ^^^ x)) p.2 = iH n l) (0, d0) rfl ⟨by simp, by simp, by simp [iH, hd0]⟩ ?_
 rintro ⟨i, y⟩ ⟨h0, h1, hy⟩ IH;simp only at h0 h1 hy IH;conv=>whnf
 refine ae (fun hc => ?_) (fun hc => ?_)
 ·have hc : i < (l.length : Int) := by simpa [hnl] using hc
  conv=>whnf
  refine ac (by simpa using h0) ?_;refine ab (m9 h0 hc) ?_;conv=>whnf
  rw [l9];refine sm _ fun d hd => ?_;conv=>whnf
  rw [aM (by omega) (by omega)];refine IH (i + 1, _) ⟨?_, ?_, ?_⟩ ?_
  ·simp only; omega
  ·simp only; omega
  ·show List.foldl _ _ (List.drop (i + 1).toNat l) = _;rw [← hy, show (i + 1).toNat = i.toNat + 1 by omega, List.drop_eq_getElem_cons (m9 h0 hc), List.foldl_cons, ← hd]
  ·simp only; omega
 ·have hc : i = (l.length : Int) := by simp [hnl] at hc; omega
  conv=>whnf
  rw [List.drop_eq_nil_of_le (by omega)] at hy;simp only [List.foldl_nil] at hy;exact h _ hy
theorem q8 (x : U) (k : Nat) (hk : k < 63) {c : Int} (hc : c = 2 ^ k) : IntKind.u64.wrap ((x.toNat : Int).tdiv c) = ((x >>> k).toNat : Int) := by
 subst hc;rw [iL];have h1 : (x.toNat : Int).tdiv (2 ^ k) = ((x >>> k).toNat : Int) := by
  rw [BitVec.toNat_ushiftRight, Nat.shiftRight_eq_div_pow];rw [Int.tdiv_eq_ediv_of_nonneg (by omega)];simp
 rw [h1];have := (x >>> k).isLt;omega
theorem jk (n : U) {R} (h : ∀ d, d = dig n → R (uv d) []) : ag Tryz.prog 23 [uv n] [] R := by
 refine aa (an := UU) tab_ok Tryz.func23 ?_;conv=>whnf
 rw [show (11400714819323198485 : Int) = (G7.toNat : Int) from rfl, show (13787848793156543929 : Int) = (first.toNat : Int) from rfl, show (10723151780598845931 : Int) = (other.toNat : Int) from rfl];have e30 := fun x => q8 x 30 (by omega) (c := 1073741824) rfl;have e27 := fun x => q8 x 27 (by omega) (c := 134217728) rfl;have e31 := fun x => q8 x 31 (by omega) (c := 2147483648) rfl;rw [tt, e30, l9, uH, e27, l9, uH, e31, l9];exact h _ rfl
end Go.Abs
end
section
namespace Go.Abs
open Go Go.Proofs Dig
theorem wH {l : List AV} (h : fV tab 12 [] l) : l = [] := h
theorem oD {x : Int} (h : (Lit.int .u64 x).wf = true) : x = ((BitVec.ofInt 64 x : U).toNat : Int) := by
 simp only [Lit.wf, Bool.and_eq_true, decide_eq_true_eq] at h;have e1 : IntKind.u64.min = 0 := rfl;have e2 : IntKind.u64.max = 18446744073709551615 := rfl;rw [e1, e2] at h;exact PU (by omega) (by omega)
end Go.Abs
end
section
namespace Go.Abs
open Go Go.Proofs
attribute [local irreducible] aH aE aO firstIdx
structure Nd where
 name : B
 source : Bool
 rule : U
 deps : List B
def Nd.enc (n : Nd) : List AV := [vs n.name, .val (.bool n.source), uv n.rule, .sl none 1 (bl n.deps)]
def nds (l : List Nd) : List (List AV) := l.map Nd.enc
theorem hU (l : List Nd) : (nds l).length = l.length := by simp [nds]
def cZ (l : List Nat) : List (List AV) := l.map fun (i : Nat) => [vi (i : Int)]
theorem b8 (l : List Nat) : (cZ l).length = l.length := by simp [cZ]
def dh (s : B) : Bool := decide (1 ≤ s.length) && decide (s.length ≤ 64)
theorem n9 (s : B) {R} (h : R (.val (.bool (dh s))) []) : ag Tryz.prog 136 [vs s] [] R := by
 refine aa (an := Si) tab_ok Tryz.func136 ?_;have hsz : (ofB s).size = s.length := aG s;conv=>whnf
 rw [hsz];refine ae (fun hc => ?_) (fun hc => ?_)
 ·conv=>whnf
  have : dh s = decide ((s.length : Int) ≤ 64) := by
   unfold dh;rw [hsz] at *;have hc : 1 ≤ s.length := by simp at hc; omega
   simp [hc];omega
  rw [hsz, ← this];exact h
 ·conv=>whnf
  have : dh s = false := by
   have hc : s.length = 0 := by simp at hc; omega
   simp [dh, hc]
  rw [this] at h;exact h
theorem iO (s : B) {R} (h : R (.val (.bool (dh s))) []) : ag Tryz.prog 106 [vs s] [] R := by
 refine aa (an := SJ) tab_ok Tryz.func106 ?_;have hsz : (ofB s).size = s.length := aG s;conv=>whnf
 refine ae (fun hc => ?_) (fun hc => ?_)
 ·have hc : s ≠ [] := by
   rintro rfl;simp at hc;exact hc rfl
  have hl : 1 ≤ s.length := by cases s with | nil => exact absurd rfl hc | cons a s => simp
  conv=>whnf
  have : dh s = decide ((s.length : Int) < 65) := by
   unfold dh;simp [hl];omega
  rw [hsz, ← this];exact h
 ·have hc : s = [] := by
   simp at hc;have : ofB s = ofB [] := hc;exact bZ this
  subst hc;conv=>whnf
  exact h
def i6 : List B → B → Option Nat
 | [], _ => none
 | a :: l, s => if a = s then some 0 else (i6 l s).map (· + 1)
def gp (l : List B) (s : B) : Int := match i6 l s with | some i => i | none => -1
theorem iu {l : List B} {s : B} : i6 l s = none ↔ s ∉ l := by
 induction l with
 | nil => simp [i6]
 | cons a l ih =>
  simp only [i6];by_cases h : a = s
  ·simp [h]
  ·rw [if_neg h];simp only [Option.map_eq_none_iff, ih, List.mem_cons, not_or];exact ⟨fun h' => ⟨fun e => h e.symm, h'⟩, fun h' => h'.2⟩
theorem rz {l : List B} {s : B} {i : Nat} (h : i6 l s = some i) : l[i]? = some s ∧ ∀ j, j < i → l[j]? ≠ some s := by
 induction l generalizing i with
 | nil => simp [i6] at h
 | cons a l ih =>
  simp only [i6] at h;by_cases e : a = s
  ·rw [if_pos e] at h
   cases h;subst e;exact ⟨rfl, fun j hj => by omega⟩
  ·rw [if_neg e] at h;obtain ⟨k, hk, rfl⟩ := Option.map_eq_some_iff.1 h;obtain ⟨h1, h2⟩ := ih hk;refine ⟨by simpa using h1, fun j hj => ?_⟩
   cases j with
   | zero => simpa using e
   | succ j => simpa using h2 j (by omega)
theorem cJ {l : List B} {s : B} : gp l s < 0 ↔ s ∉ l := by
 rw [← iu];unfold gp
 cases i6 l s with
 | none => simp
 | some i => simp
theorem lH {l : List B} {s : B} {i : Nat} (h : l[i]? = some s) (h' : ∀ j, j < i → l[j]? ≠ some s) : i6 l s = some i := by
 cases e : i6 l s with
 | none => exact absurd (List.mem_of_getElem? h) (iu.1 e)
 | some k =>
  obtain ⟨h1, h2⟩ := rz e;rcases Nat.lt_trichotomy i k with hl | rfl | hl
  ·exact absurd h (h2 _ hl)
  ·rfl
  ·exact absurd h1 (h' _ hl)
theorem al {i : Nat} (h : i < 1000000000) : IntKind.i64.wrap ((i : Int) + 1) = ((i + 1 : Nat) : Int) := aM (by omega) (by omega)
theorem gJ {i n : Nat} (h : decide ((i : Int) < (n : Int)) = true) : i < n := by simpa using h
theorem gN {i n : Nat} (h : decide ((i : Int) < (n : Int)) = false) : n ≤ i := by simp at h; omega
theorem ap {i n m : Nat} (e : m = n) (h : decide ((i : Int) < (m : Int)) = true) : i < n := by subst e; simpa using h
theorem au {i n m : Nat} (e : m = n) (h : decide ((i : Int) < (m : Int)) = false) : n ≤ i := by subst e; simp at h; omega
theorem fP (l : List B) (s : B) (hl : l.length < 1000000) {X : List (List AV)} (hX : X = bl l) {R} (h : ∀ p, p = gp l s → R (vi p) []) : ag Tryz.prog 107 [.sl none 1 X, vs s] [] R := by
 subst hX;refine aa (an := SI) tab_ok Tryz.func107 ?_;have hsl := aC l;conv=>whnf
 refine aq.ind1 (fun (i : Nat) => [(5, vi i)]) (fun _ => []) (fun i => l.length - i) (fun i => i ≤ l.length ∧ ∀ j, j < i → l[j]? ≠ some s) 0 rfl ⟨by omega, fun j hj => by omega⟩ ?_;rintro i ⟨h0, h1⟩ IH;conv=>whnf
 rw [hsl];refine ae (fun hc => ?_) (fun hc => ?_)
 ·have hc := gJ hc
  (conv=>whnf); (repeat ((with_reducible refine ac ?_ ?_); exact decide_eq_true (by omega); (conv=>whnf)))
  refine idxNat (by simpa using hc) ?_;conv=>whnf
  refine ae (fun he => ?_) (fun he => ?_)
  ·have he : l[i] = s := by simpa [bG] using he
   conv=>whnf
   refine h _ ?_;rw [gp, lH (i := i) (by rw [List.getElem?_eq_getElem hc, he]) h1]
  ·have he : l[i] ≠ s := by simpa [bG] using he
   conv=>whnf
   rw [al (by omega)];refine IH (i + 1) ⟨by omega, fun j hj => ?_⟩ (by omega);rcases Nat.lt_or_ge j i with hlt | hge
   ·exact h1 j hlt
   ·obtain rfl : j = i := by omega
    rw [List.getElem?_eq_getElem hc];simpa using he
 ·have hc := gN hc;conv=>whnf
  refine h (-1) ?_;have : s ∉ l := by
   intro hm;obtain ⟨j, hj, e⟩ := List.getElem_of_mem hm;exact h1 j (by omega) (by rw [List.getElem?_eq_getElem hj, e])
  rw [gp, iu.2 this]
theorem jB (l : List Nd) (s : B) (hl : l.length < 1000000) {X : List (List AV)} (hX : X = nds l) {R} (h : ∀ p, p = gp (l.map (·.name)) s → R (vi p) []) : ag Tryz.prog 24 [.sl none 4 X, vs s] [] R := by
 subst hX;refine aa (an := UT) tab_ok Tryz.func24 ?_;have hsl := hU l;conv=>whnf
 refine aq.ind1 (fun (i : Nat) => [(5, vi i)]) (fun _ => []) (fun i => l.length - i) (fun i => i ≤ l.length ∧ ∀ j, j < i → (l.map (·.name))[j]? ≠ some s) 0 rfl ⟨by omega, fun j hj => by omega⟩ ?_;rintro i ⟨h0, h1⟩ IH;conv=>whnf
 rw [hsl];refine ae (fun hc => ?_) (fun hc => ?_)
 ·have hc := gJ hc
  (conv=>whnf); (repeat ((with_reducible refine ac ?_ ?_); exact decide_eq_true (by omega); (conv=>whnf)))
  refine idxNat (by simpa using hc) ?_;conv=>whnf
  refine ae (fun he => ?_) (fun he => ?_)
  ·have he : l[i].name = s := by simpa [bG] using he
   conv=>whnf
   refine h _ ?_;rw [gp, lH (i := i) (by rw [List.getElem?_map, List.getElem?_eq_getElem hc]; simp [he]) h1]
  ·have he : l[i].name ≠ s := by simpa [bG] using he
   conv=>whnf
   rw [al (by omega)];refine IH (i + 1) ⟨by omega, fun j hj => ?_⟩ (by omega);rcases Nat.lt_or_ge j i with hlt | hge
   ·exact h1 j hlt
   ·obtain rfl : j = i := by omega
    rw [List.getElem?_map, List.getElem?_eq_getElem hc];simpa using he
 ·have hc := gN hc;conv=>whnf
  refine h (-1) ?_;have : s ∉ l.map (·.name) := by
   intro hm;obtain ⟨j, hj, e⟩ := List.getElem_of_mem hm;exact h1 j (by simp at hj; omega) (by rw [List.getElem?_eq_getElem hj, e])
  rw [gp, iu.2 this]
theorem B3 (l : List Nat) (x : Int) (hl : l.length < 1000000) {X : List (List AV)} (hX : X = cZ l) {R} (h : ∀ b, b = decide (∃ i ∈ l, (i : Int) = x) → R (.val (.bool b)) []) : ag Tryz.prog 97 [.sl none 1 X, vi x] [] R := by
 subst hX;refine aa (an := TW) tab_ok Tryz.func97 ?_;have hsl := b8 l;conv=>whnf
 refine aq.ind1 (fun (i : Nat) => [(5, vi i)]) (fun _ => []) (fun i => l.length - i) (fun i => i ≤ l.length ∧ ∀ j (hj : j < l.length), j < i → ((l[j] : Nat) : Int) ≠ x) 0 rfl ⟨by omega, fun j hj hlt => by omega⟩ ?_;rintro i ⟨h0, h1⟩ IH;conv=>whnf
 rw [hsl];refine ae (fun hc => ?_) (fun hc => ?_)
 ·have hc := gJ hc
  (conv=>whnf); (repeat ((with_reducible refine ac ?_ ?_); exact decide_eq_true (by omega); (conv=>whnf)))
  refine idxNat (by simpa using hc) ?_;conv=>whnf
  refine ae (fun he => ?_) (fun he => ?_)
  ·have he : ((l[i] : Nat) : Int) = x := by simpa using he
   conv=>whnf
   exact h true (decide_eq_true ⟨l[i], List.getElem_mem hc, he⟩).symm
  ·have he : ((l[i] : Nat) : Int) ≠ x := by simpa using he
   conv=>whnf
   rw [al (by omega)];refine IH (i + 1) ⟨by omega, fun j hj hlt => ?_⟩ (by omega);rcases Nat.lt_or_ge j i with hlt | hge
   ·exact h1 j hj hlt
   ·obtain rfl : j = i := by omega
    exact he
 ·have hc := gN hc;conv=>whnf
  refine h false (decide_eq_false ?_).symm;rintro ⟨a, ha, e⟩;obtain ⟨j, hj, rfl⟩ := List.getElem_of_mem ha;exact h1 j hj (by omega) e
def ltB (a b : B) : Bool := Op.bytesLess a b
theorem GI (a b : B) : aO (ofB a) (ofB b) = ltB a b := by
 unfold aO ltB;rw [ByteArray.toList_eq, ByteArray.toList_eq];show Op.bytesLess (bs (ofB a)) (bs (ofB b)) = _;rw [jQ, jQ]
theorem BW {a b : B} : ∀ {i : Nat}, (∀ j, j < i → a[j]? = b[j]?) → i ≤ a.length → i ≤ b.length → ltB (a.drop i) (b.drop i) = ltB a b := by
 intro i
 induction i generalizing a b with
 | zero => intro _ _ _; simp
 | succ i ih =>
  intro h ha hb
  cases a with
  | nil => simp at ha
  | cons x a =>
   cases b with
   | nil => simp at hb
   | cons y b =>
    have h0 : x = y := by simpa using h 0 (by omega)
    subst h0;simp only [List.drop_succ_cons];rw [ih (fun j hj => by simpa using h (j + 1) (by omega)) (by simpa using ha) (by simpa using hb)];simp [ltB, Op.bytesLess]
theorem PV {a b : UInt8} : decide (((a.toNat : Nat) : Int) < ((b.toNat : Nat) : Int)) = decide (a < b) := by
 apply decide_eq_decide.2;rw [UInt8.lt_iff_toNat_lt];omega
theorem od (a b : B) (ha : a.length < 1000000) (hb : b.length < 1000000) {R} (h : ∀ p, p = ltB a b → R (.val (.bool p)) []) : ag Tryz.prog 98 [vs a, vs b] [] R := by
 refine aa (an := TV) tab_ok Tryz.func98 ?_;have hsa := aG a;have hsb := aG b;conv=>whnf
 refine aq.ind1 (fun (i : Nat) => [(5, vi i)]) (fun _ => []) (fun i => a.length - i) (fun i => i ≤ a.length ∧ i ≤ b.length ∧ ∀ j, j < i → a[j]? = b[j]?) 0 rfl ⟨by omega, by omega, fun j hj => by omega⟩ ?_;rintro i ⟨h0, h0', h1⟩ IH;have hend : (a.length ≤ i ∨ b.length ≤ i) → ltB a b = decide ((a.length : Int) < (b.length : Int)) := by
  intro hc;rw [← BW h1 h0 h0'];rcases hc with hc | hc
  ·rw [List.drop_eq_nil_of_le hc]
   cases hd : b.drop i with
   | nil =>
    have := List.drop_eq_nil_iff.1 hd;simp [ltB, Op.bytesLess]; omega
   | cons y l =>
    have : i < b.length := by
     rcases Nat.lt_or_ge i b.length with h | h
     ·exact h
     ·rw [List.drop_eq_nil_of_le h] at hd; cases hd
    simp [ltB, Op.bytesLess]; omega
  ·rw [List.drop_eq_nil_of_le hc];have : ltB (a.drop i) [] = false := by cases a.drop i <;> rfl
   rw [this];simp; omega
 conv=>whnf
 rw [hsa];refine ae (fun hc => ?_) (fun hc => ?_)
 ·have hc := gJ hc;conv=>whnf
  rw [hsb];refine ae (fun hc' => ?_) (fun hc' => ?_)
  ·have hc' := gJ hc';have ea : aE (ofB a) (i : Int).toNat = ((a[i]).toNat : Int) := by rw [Int.toNat_natCast, jf a hc]
   have eb : aE (ofB b) (i : Int).toNat = ((b[i]).toNat : Int) := by rw [Int.toNat_natCast, jf b hc']
   (conv=>whnf); (repeat ((with_reducible refine ac ?_ ?_); exact decide_eq_true (by omega); (conv=>whnf)))
   rw [ea, eb];refine ae (fun he => ?_) (fun he => ?_)
   ·have he : a[i] ≠ b[i] := by
     intro e;rw [e] at he;simp at he
    (conv=>whnf); (repeat ((with_reducible refine ac ?_ ?_); exact decide_eq_true (by omega); (conv=>whnf)))
    rw [ea, eb, PV];refine h _ ?_;rw [← BW h1 h0 h0', List.drop_eq_getElem_cons hc, List.drop_eq_getElem_cons hc'];simp [ltB, Op.bytesLess, he]
   ·have he : a[i] = b[i] := by
     simp at he;exact NB.1 he
    conv=>whnf
    rw [al (by omega)];refine IH (i + 1) ⟨by omega, by omega, fun j hj => ?_⟩ (by omega);rcases Nat.lt_or_ge j i with hlt | hge
    ·exact h1 j hlt
    ·obtain rfl : j = i := by omega
     rw [List.getElem?_eq_getElem hc, List.getElem?_eq_getElem hc', he]
  ·have hc' := gN hc';conv=>whnf
   rw [hsa, hsb];exact h _ (hend (.inr hc')).symm
 ·have hc := gN hc;conv=>whnf
  rw [hsa, hsb];exact h _ (hend (.inl hc)).symm
theorem Dy : ∀ (l m : List B), (l.foldl cP m).length ≤ m.length + l.length ∧ ((l.foldl cP m).length = m.length + l.length ↔ l.Nodup ∧ ∀ x ∈ l, x ∉ m) := by
 intro l
 induction l with
 | nil => intro m; simp
 | cons a l ih =>
  intro m;rw [List.foldl_cons];obtain ⟨h1, h2⟩ := ih (cP m a);by_cases ha : a ∈ m
  ·rw [dP ha] at h1 h2 ⊢;refine ⟨by simp; omega, ⟨fun h => by simp at h; omega, fun h => absurd ha (h.2 a (by simp))⟩⟩
  ·rw [dx ha] at h1 h2 ⊢;simp only [List.length_append, List.length_cons, List.length_nil] at h1 h2 ⊢;refine ⟨by omega, ?_⟩;rw [show (List.foldl cP (m ++ [a]) l).length = m.length + (l.length + 1) ↔ (List.foldl cP (m ++ [a]) l).length = m.length + (0 + 1) + l.length by omega, h2];simp only [List.nodup_cons, List.mem_append, List.mem_cons, List.not_mem_nil, or_false, not_or];constructor
   ·rintro ⟨g1, g2⟩;exact ⟨⟨fun h => (g2 a h).2 rfl, g1⟩, fun x hx => by
     rcases hx with rfl | hx
     ·exact ha
     ·exact (g2 x hx).1⟩
   ·rintro ⟨⟨g1, g2⟩, g3⟩;exact ⟨g2, fun x hx => ⟨g3 x (.inr hx), fun e => g1 (e ▸ hx)⟩⟩
theorem IY (l : List B) : ((mR l).length : Int) = l.length ↔ l.Nodup := by
 have := (Dy l []).2;unfold mR;rw [show (((List.foldl cP [] l).length : Nat) : Int) = ((l.length : Nat) : Int) ↔ (List.foldl cP [] l).length = ([] : List B).length + l.length by simp; omega, this];simp
def f9 (n : Nd) : Bool := !dh n.name || (n.source && (decide (0 < n.deps.length) || !decide (n.rule = 0)))
def jd (n : Nd) : Int := if f9 n = true then 1 else if ¬ (n.name :: n.deps).Nodup then 1 else if 16 < n.deps.length then 5 else 0
theorem yl (n : Nd) (hn : n.deps.length < 10000) {R} (h : ∀ e, e = jd n → R (vi e) []) : ag Tryz.prog 167 [.agg n.enc] [] R := by
 refine aa (an := R0) tab_ok Tryz.func167 ?_;have hsl := aC n.deps;have bad : f9 n = true → R (vi 1) [] := fun hb => h 1 (by simp [jd, hb]);have len : (bl n.deps).length = n.deps.length := aC _;conv=>whnf
 refine n9 n.name ?_;conv=>whnf
 refine ae (fun h1 => ?_) (fun h1 => ?_)
 ·conv=>whnf
  exact bad (by simp at h1; simp [f9, h1])
 have h1 : dh n.name = true := by simpa using h1
 have rest : f9 n = false → (∀ m, m = mR (n.name :: n.deps) → ((m.length : Int) = n.deps.length + 1 ↔ (n.name :: n.deps).Nodup)) := fun hb m hm => by
  subst hm;have := IY (n.name :: n.deps);rw [List.length_cons] at this
  push_cast at this
  exact this
 conv=>whnf
 refine ae (fun h2 => ?_) (fun h2 => ?_)
 ·conv=>whnf
  refine ae (fun h3 => ?_) (fun h3 => ?_)
  ·conv=>whnf
   refine bad ?_;have h3 : 0 < n.deps.length := by rw [len] at h3; simp at h3; omega
   simp [f9, h2, h3]
  ·conv=>whnf
   have h3 : n.deps.length = 0 := by rw [len] at h3; simpa using h3
   refine ae (fun h4 => ?_) (fun h4 => ?_)
   ·conv=>whnf
    refine bad ?_;have h4 : ¬ n.rule = 0 := by
     rintro e;rw [e] at h4;simp at h4
    unfold f9;rw [h1, h2, decide_eq_false h4];simp
   ·conv=>whnf
    have h4 : n.rule = 0 := by
     have : ((n.rule.toNat : Nat) : Int) = ((0 : U).toNat : Int) := by simpa using h4
     exact IR.1 this
    have hb : f9 n = false := by
     unfold f9;rw [h1, h2, h3, h4];simp
    refine ⟨rfl, (show (1 + (bl n.deps).length) * ((tab.ti 9).bytes + 1) ≤ 140737488355328 by rw [len, cg]; omega), ?_⟩;conv=>whnf
    refine lw n.name n.deps (by omega) fun m hm => ?_;have hm' := rest hb m hm;conv=>whnf
    refine uD m ?_;conv=>whnf
    have fin : ∀ p : Bool, p = decide (¬ (n.name :: n.deps).Nodup) → jd n = (if p = true then 1 else if 16 < n.deps.length then 5 else 0) := by
     rintro p rfl;unfold jd;rw [if_neg (by rw [hb]; simp)];by_cases hd : (n.name :: n.deps).Nodup
     ·have hdd : decide (¬ (n.name :: n.deps).Nodup) = false := decide_eq_false (not_not_intro hd);rw [if_neg (not_not_intro hd)];simp only [hdd, Bool.false_eq_true, if_false]
     ·rw [if_pos hd, if_pos (decide_eq_true hd)]
    rw [len, aM (by omega) (by omega)];refine ae (fun g1 => ?_) (fun g1 => ?_)
    ·conv=>whnf
     refine h 1 ?_;rw [fin true]
     ·simp
     ·symm
      apply decide_eq_true;rw [← hm'];intro e;rw [e] at g1;simp at g1
    ·have g1 : (n.name :: n.deps).Nodup := by
      rw [← hm'];simpa using g1
     have fin := fin false (by simp only [g1, not_true, decide_false]);conv=>whnf
     rw [len];refine ae (fun g2 => ?_) (fun g2 => ?_)
     ·conv=>whnf
      refine h 5 ?_;rw [fin];have : 16 < n.deps.length := by simp at g2; omega
      simp [this]
     ·conv=>whnf
      refine h 0 ?_;rw [fin];have : ¬ 16 < n.deps.length := by simp at g2; omega
      simp [this]
 ·conv=>whnf
  have hb : f9 n = false := by
   unfold f9;rw [h1, h2];simp
  refine ⟨rfl, (show (1 + (bl n.deps).length) * ((tab.ti 9).bytes + 1) ≤ 140737488355328 by rw [len, cg]; omega), ?_⟩;conv=>whnf
  refine lw n.name n.deps (by omega) fun m hm => ?_;have hm' := rest hb m hm;conv=>whnf
  refine uD m ?_;conv=>whnf
  have fin : ∀ p : Bool, p = decide (¬ (n.name :: n.deps).Nodup) → jd n = (if p = true then 1 else if 16 < n.deps.length then 5 else 0) := by
   rintro p rfl;unfold jd;rw [if_neg (by rw [hb]; simp)];by_cases hd : (n.name :: n.deps).Nodup
   ·have hdd : decide (¬ (n.name :: n.deps).Nodup) = false := decide_eq_false (not_not_intro hd);rw [if_neg (not_not_intro hd)];simp only [hdd, Bool.false_eq_true, if_false]
   ·rw [if_pos hd, if_pos (decide_eq_true hd)]
  rw [len, aM (by omega) (by omega)];refine ae (fun g1 => ?_) (fun g1 => ?_)
  ·conv=>whnf
   refine h 1 ?_;rw [fin true]
   ·simp
   ·symm
    apply decide_eq_true;rw [← hm'];intro e;rw [e] at g1;simp at g1
  ·have g1 : (n.name :: n.deps).Nodup := by
    rw [← hm'];simpa using g1
   have fin := fin false (by simp only [g1, not_true, decide_false]);conv=>whnf
   rw [len];refine ae (fun g2 => ?_) (fun g2 => ?_)
   ·conv=>whnf
    refine h 5 ?_;rw [fin];have : 16 < n.deps.length := by simp at g2; omega
    simp [this]
   ·conv=>whnf
    refine h 0 ?_;rw [fin];have : ¬ 16 < n.deps.length := by simp at g2; omega
    simp [this]
theorem kc {a : B} {l : List B} {i : Nat} (hi : i < l.length) : (a :: l.take (i + 1)).Nodup ↔ (a :: l.take i).Nodup ∧ l[i] ≠ a ∧ l[i] ∉ l.take i := by
 rw [List.take_succ_eq_append_getElem hi];simp only [List.nodup_cons, List.mem_append, List.mem_singleton, not_or, List.nodup_append, List.nodup_nil, and_true, List.not_mem_nil, not_false_eq_true];constructor
 ·rintro ⟨⟨h1, h2⟩, h3, h4, h5⟩;exact ⟨⟨h1, h3⟩, fun e => h2 e.symm, fun hm => h5 _ hm _ rfl rfl⟩
 ·rintro ⟨⟨h1, h3⟩, h2, h5⟩;exact ⟨⟨h1, fun e => h2 e.symm⟩, h3, trivial, fun x hx y hy e => h5 (by rw [← hy, ← e]; exact hx)⟩
theorem zz (n : Nd) (hn : n.deps.length < 10000) {R} (h : ∀ e, e = jd n → R (vi e) []) : ag Tryz.prog 61 [.agg n.enc] [] R := by
 refine aa (an := Uq) tab_ok Tryz.func61 ?_;have bad : f9 n = true → R (vi 1) [] := fun hb => h 1 (by simp [jd, hb]);have len : (bl n.deps).length = n.deps.length := aC _;conv=>whnf
 refine iO n.name ?_;conv=>whnf
 refine ae (fun h1 => ?_) (fun h1 => ?_)
 ·conv=>whnf
  exact bad (by simp at h1; simp [f9, h1])
 have h1 : dh n.name = true := by simpa using h1
 conv=>whnf
 refine ae (fun h2 => ?_) (fun h2 => ?_)
 ·conv=>whnf
  refine ae (fun h3 => ?_) (fun h3 => ?_)
  ·conv=>whnf
   refine bad ?_;have h3 : 0 < n.deps.length := by rw [len] at h3; simp at h3; omega
   simp [f9, h2, h3]
  ·conv=>whnf
   have h3 : n.deps.length = 0 := by rw [len] at h3; simpa using h3
   refine ae (fun h4 => ?_) (fun h4 => ?_)
   ·conv=>whnf
    refine bad ?_;have h4 : ¬ n.rule = 0 := by
     rintro e;rw [e] at h4;simp at h4
    unfold f9;rw [h1, h2, decide_eq_false h4];simp
   ·conv=>whnf
    have h4 : n.rule = 0 := by
     have : ((n.rule.toNat : Nat) : Int) = ((0 : U).toNat : Int) := by simpa using h4
     exact IR.1 this
    have hb : f9 n = false := by
     unfold f9;rw [h1, h2, h3, h4];simp
    refine aq.ind1 (fun (i : Nat) => [(3, vi i)]) (fun _ => []) (fun i => n.deps.length - i) (fun i => i ≤ n.deps.length ∧ (n.name :: n.deps.take i).Nodup) 0 rfl ⟨by omega, by simp⟩ ?_;rintro i ⟨h0, hd⟩ IH;conv=>whnf
    refine ae (fun hc => ?_) (fun hc => ?_)
    ·have hc := ap len hc;have dup : ¬ (n.name :: n.deps.take (i + 1)).Nodup → R (vi 1) [] := by
      intro hn;refine h 1 ?_;have : ¬ (n.name :: n.deps).Nodup := by
       intro hd';apply hn;have : (n.name :: n.deps.take (i + 1)).Sublist (n.name :: n.deps) := List.Sublist.cons_cons _ (List.take_sublist _ _);exact hd'.sublist this
      unfold jd;rw [if_neg (by rw [hb]; simp), if_pos this]
     (conv=>whnf); (repeat ((with_reducible refine ac ?_ ?_); exact decide_eq_true (by omega); (conv=>whnf)))
     refine idxNat (by simpa using hc) ?_;conv=>whnf
     refine ae (fun he => ?_) (fun he => ?_)
     ·have he : n.deps[i] = n.name := by simpa [bG] using he
      conv=>whnf
      exact dup (by rw [kc hc]; intro hh; exact hh.2.1 he)
     ·have he : n.deps[i] ≠ n.name := by simpa [bG] using he
      (conv=>whnf); (repeat ((with_reducible refine ac ?_ ?_); exact decide_eq_true (by omega); (conv=>whnf)))
      refine idxNat (by simpa using hc) ?_;conv=>whnf
      refine fP (n.deps.take i) n.deps[i] (by simp; omega) (by simp [bl, List.map_take]) fun p hp => ?_;conv=>whnf
      refine ae (fun hg => ?_) (fun hg => ?_)
      ·have hg : n.deps[i] ∈ n.deps.take i := by
        have : 0 ≤ p := by simpa using hg
        rw [hp] at this;exact Classical.byContradiction fun e => by have := cJ.2 e; omega
       conv=>whnf
       exact dup (by rw [kc hc]; intro hh; exact hh.2.2 hg)
      ·have hg : n.deps[i] ∉ n.deps.take i := by
        have : p < 0 := by simpa using hg
        rw [hp] at this;exact cJ.1 this
       conv=>whnf
       rw [al (by omega)];exact IH (i + 1) ⟨by omega, (kc hc).2 ⟨hd, he, hg⟩⟩ (by omega)
    ·have hc := au len hc;rw [List.take_of_length_le hc] at hd;have fin : jd n = (if 16 < n.deps.length then 5 else 0) := by
      unfold jd;rw [if_neg (by rw [hb]; simp), if_neg (not_not_intro hd)]
     conv=>whnf
     rw [len];refine ae (fun g2 => ?_) (fun g2 => ?_)
     ·conv=>whnf
      refine h 5 ?_;rw [fin];have : 16 < n.deps.length := by simp at g2; omega
      simp [this]
     ·conv=>whnf
      refine h 0 ?_;rw [fin];have : ¬ 16 < n.deps.length := by simp at g2; omega
      simp [this]
 ·conv=>whnf
  have hb : f9 n = false := by
   unfold f9;rw [h1, h2];simp
  refine aq.ind1 (fun (i : Nat) => [(3, vi i)]) (fun _ => []) (fun i => n.deps.length - i) (fun i => i ≤ n.deps.length ∧ (n.name :: n.deps.take i).Nodup) 0 rfl ⟨by omega, by simp⟩ ?_;rintro i ⟨h0, hd⟩ IH;conv=>whnf
  refine ae (fun hc => ?_) (fun hc => ?_)
  ·have hc := ap len hc;have dup : ¬ (n.name :: n.deps.take (i + 1)).Nodup → R (vi 1) [] := by
    intro hn;refine h 1 ?_;have : ¬ (n.name :: n.deps).Nodup := by
     intro hd';apply hn;have : (n.name :: n.deps.take (i + 1)).Sublist (n.name :: n.deps) := List.Sublist.cons_cons _ (List.take_sublist _ _);exact hd'.sublist this
    unfold jd;rw [if_neg (by rw [hb]; simp), if_pos this]
   (conv=>whnf); (repeat ((with_reducible refine ac ?_ ?_); exact decide_eq_true (by omega); (conv=>whnf)))
   refine idxNat (by simpa using hc) ?_;conv=>whnf
   refine ae (fun he => ?_) (fun he => ?_)
   ·have he : n.deps[i] = n.name := by simpa [bG] using he
    conv=>whnf
    exact dup (by rw [kc hc]; intro hh; exact hh.2.1 he)
   ·have he : n.deps[i] ≠ n.name := by simpa [bG] using he
    (conv=>whnf); (repeat ((with_reducible refine ac ?_ ?_); exact decide_eq_true (by omega); (conv=>whnf)))
    refine idxNat (by simpa using hc) ?_;conv=>whnf
    refine fP (n.deps.take i) n.deps[i] (by simp; omega) (by simp [bl, List.map_take]) fun p hp => ?_;conv=>whnf
    refine ae (fun hg => ?_) (fun hg => ?_)
    ·have hg : n.deps[i] ∈ n.deps.take i := by
      have : 0 ≤ p := by simpa using hg
      rw [hp] at this;exact Classical.byContradiction fun e => by have := cJ.2 e; omega
     conv=>whnf
     exact dup (by rw [kc hc]; intro hh; exact hh.2.2 hg)
    ·have hg : n.deps[i] ∉ n.deps.take i := by
      have : p < 0 := by simpa using hg
      rw [hp] at this;exact cJ.1 this
     conv=>whnf
     rw [al (by omega)];exact IH (i + 1) ⟨by omega, (kc hc).2 ⟨hd, he, hg⟩⟩ (by omega)
  ·have hc := au len hc;rw [List.take_of_length_le hc] at hd;have fin : jd n = (if 16 < n.deps.length then 5 else 0) := by
    unfold jd;rw [if_neg (by rw [hb]; simp), if_neg (not_not_intro hd)]
   conv=>whnf
   rw [len];refine ae (fun g2 => ?_) (fun g2 => ?_)
   ·conv=>whnf
    refine h 5 ?_;rw [fin];have : 16 < n.deps.length := by simp at g2; omega
    simp [this]
   ·conv=>whnf
    refine h 0 ?_;rw [fin];have : ¬ 16 < n.deps.length := by simp at g2; omega
    simp [this]
def ko (Pv : AV → Prop) (es : List (ByteArray × AV)) (S : B → Prop) : Prop := ∀ s, (S s → ∃ v, cB es (ofB s) = some v ∧ Pv v) ∧ (¬ S s → cB es (ofB s) = none)
theorem tM (es : List (ByteArray × AV)) (k k' : ByteArray) (v : AV) : cB (dZ es k v) k' = if k = k' then some v else cB es k' := by
 induction es with
 | nil => simp [dZ, cB]
 | cons e es ih =>
  obtain ⟨s, u⟩ := e;simp only [dZ];by_cases h : s = k
  ·subst h;rw [if_pos rfl];simp only [cB];split <;> simp_all
  ·rw [if_neg h];simp only [cB, ih];by_cases h1 : s = k'
   ·subst h1;rw [if_pos rfl, if_neg (Ne.symm h), if_pos rfl]
   ·rw [if_neg h1, if_neg h1]
theorem ko.nil (Pv : AV → Prop) : ko Pv [] fun _ => False := fun s => ⟨fun h => h.elim, fun _ => rfl⟩
theorem ko.put {Pv : AV → Prop} {es : List (ByteArray × AV)} {S S' : B → Prop} (h : ko Pv es S) (k : B) {v : AV} (hv : Pv v) (hS : ∀ s, S' s ↔ S s ∨ s = k) : ko Pv (dZ es (ofB k) v) S' := by
 intro s;rw [tM];by_cases e : k = s
 ·subst e;rw [if_pos rfl];exact ⟨fun _ => ⟨v, rfl, hv⟩, fun hn => absurd ((hS k).2 (.inr rfl)) hn⟩
 ·rw [if_neg (fun e' => e (bZ e'))];refine ⟨fun hs => (h s).1 (((hS s).1 hs).resolve_right (fun e' => e e'.symm)), fun hs => (h s).2 fun hs' => hs ((hS s).2 (.inl hs'))⟩
theorem ry (l : List Nd) (hl : l.length < 1000000) {R} (h : ∀ es, ko (fun v => ∃ j, v = vi j) es (fun s => s ∈ l.map (·.name)) → R (.mapv 0) [.map es]) : ag Tryz.prog 168 [.sl none 4 (nds l)] [] R := by
 refine aa (an := RZ) tab_ok Tryz.func168 ?_;have hsl := hU l;conv=>whnf
 refine aq.ind2 (fun (i : Nat) (es : List (ByteArray × AV)) => [(9, vi i)]) (fun _ es => [(ak 6, .map es)]) (fun i _ => l.length - i) (fun i es => i ≤ l.length ∧ ko (fun v => ∃ j, v = vi j) es (fun s => s ∈ (l.take i).map (·.name))) 0 [] rfl ⟨by omega, by simpa using ko.nil _⟩ ?_;rintro i es ⟨h0, h1⟩ IH;conv=>whnf
 refine ae (fun hc => ?_) (fun hc => ?_)
 ·have hc := ap hsl hc
  (conv=>whnf); (repeat ((with_reducible refine ac ?_ ?_); exact decide_eq_true (by omega); (conv=>whnf)))
  refine idxNat (by simpa using hc) ?_;conv=>whnf
  rw [al (by omega)];refine IH (i + 1) (dZ es (ofB l[i].name) (vi i)) ⟨by omega, ?_⟩ (by omega);refine h1.put l[i].name ⟨_, rfl⟩ fun s => ?_;rw [List.take_succ_eq_append_getElem hc];simp only [List.map_append, List.map_cons, List.map_nil, List.mem_append, List.mem_singleton]
 ·have hc := au hsl hc;conv=>whnf
  refine h es ?_;rwa [List.take_of_length_le hc] at h1
def nm (l : List Nd) (i : Nat) : B := ((l[i]?).map (·.name)).getD []
theorem eZ {l : List Nd} {i : Nat} (h : i < l.length) : nm l i = l[i].name := by simp [nm, List.getElem?_eq_getElem h]
def dps (l : List Nd) (i : Nat) : List B := ((l[i]?).map (·.deps)).getD []
theorem qF {l : List Nd} {i : Nat} (h : i < l.length) : dps l i = l[i].deps := by simp [dps, List.getElem?_eq_getElem h]
def ready (l : List Nd) (D : List B) (i : Nat) : Bool := decide (nm l i ∉ D) && decide (∀ d ∈ dps l i, d ∈ D)
def nl (l : List Nd) (D : List B) (il : Option Nat) (i : Nat) : Option Nat :=
 if ready l D i = true ∧ (∀ b, il = some b → ltB (nm l i) (nm l b) = true) then some i else il
def il (l : List Nd) (D : List B) (k : Nat) : Option Nat := (List.range k).foldl (nl l D) none
theorem ge (l : List Nd) (D : List B) (k : Nat) : il l D (k + 1) = nl l D (il l D k) k := by simp [il, List.range_succ]
theorem iy {l : List Nd} {D : List B} : ∀ {k b : Nat}, il l D k = some b → b < k ∧ ready l D b = true := by
 intro k
 induction k with
 | zero => intro b h; simp [il] at h
 | succ k ih =>
  intro b h;rw [ge] at h;unfold nl at h;split at h
  ·rename_i hc;simp only [Option.some.injEq] at h;subst h;exact ⟨by omega, hc.1⟩
  ·have := ih h;exact ⟨by omega, this.2⟩
def t6 (o : Option Nat) : Int := match o with | none => -1 | some b => b
def dD (l : List Nd) : Nat → List Nat → List Nat
 | 0, out => out
 | k + 1, out => match il l (out.map (nm l)) l.length with
  | none => out
  | some b => dD l k (out ++ [b])
def dc (l : List Nd) : List Nat := dD l l.length []
abbrev isT (v : AV) : Prop := v = .val (.bool true)
theorem DZ (s : B) (D : List B) (es : List (ByteArray × AV)) (hk : ko isT es (· ∈ D)) {R} (h : R (.val (.bool (decide (s ∉ D)))) [.cells 241 [.mapv 1], .map es]) :
  ag Tryz.prog 170 [vs s, .ptr 0 0] [.cells 241 [.mapv 1], .map es] R := by
 refine aa (an := RX) tab_ok Tryz.func170 ?_;by_cases hs : s ∈ D
 ·obtain ⟨v, h1, rfl⟩ := (hk s).1 hs;conv=>whnf
  rw [h1];rw [decide_eq_false (not_not_intro hs)] at h;conv=>whnf
  exact h
 ·have h1 := (hk s).2 hs;conv=>whnf
  rw [h1];rw [decide_eq_true hs] at h;conv=>whnf
  exact h
theorem zt (l : List B) (hl : l.length < 1000000) (D : List B) (es : List (ByteArray × AV)) (hk : ko isT es (· ∈ D)) {R} (h : ∀ p : Int, (0 ≤ p ↔ ∃ d ∈ l, d ∉ D) → R (vi p) [.cells 241 [.mapv 1], .map es]) :
  ag Tryz.prog 219 [.sl none 1 (bl l), .fn (.func 170) [] [.ptr 0 0]] [.cells 241 [.mapv 1], .map es] R := by
 refine aa (an := Rt) tab_ok Tryz.func219 ?_;have hsl := aC l;conv=>whnf
 refine aq.ind1 (fun (i : Nat) => [(8, vi i)]) (fun _ => [(0, .cells 241 [.mapv 1]), (1, .map es)]) (fun i => l.length - i) (fun i => i ≤ l.length ∧ ∀ d ∈ l.take i, d ∈ D) 0 rfl ⟨by omega, by simp⟩ ?_;rintro i ⟨h0, h1⟩ IH;conv=>whnf
 refine ae (fun hc => ?_) (fun hc => ?_)
 ·have hc := ap hsl hc
  (conv=>whnf); (repeat ((with_reducible refine ac ?_ ?_); exact decide_eq_true (by omega); (conv=>whnf)))
  refine idxNat (by simpa using hc) ?_;conv=>whnf
  refine DZ l[i] D es hk ?_;conv=>whnf
  refine ae (fun he => ?_) (fun he => ?_)
  ·have he : l[i] ∉ D := of_decide_eq_true he;conv=>whnf
   exact h _ ⟨fun _ => ⟨_, List.getElem_mem hc, he⟩, fun _ => by omega⟩
  ·have he : l[i] ∈ D := by simpa using he
   conv=>whnf
   rw [al (by omega)];refine IH (i + 1) ⟨by omega, fun d hd => ?_⟩ (by omega);rw [List.take_succ_eq_append_getElem hc, List.mem_append, List.mem_singleton] at hd;rcases hd with hd | rfl
   ·exact h1 d hd
   ·exact he
 ·have hc := au hsl hc;rw [List.take_of_length_le hc] at h1;conv=>whnf
  exact h (-1) ⟨fun hh => by omega, fun ⟨d, hd, hn⟩ => absurd (h1 d hd) hn⟩
theorem zu (l : List B) (hl : l.length < 1000000) (D : List B) (es : List (ByteArray × AV)) (hk : ko isT es (· ∈ D)) {R} (h : ∀ b, b = decide (∃ d ∈ l, d ∉ D) → R (.val (.bool b)) [.cells 241 [.mapv 1], .map es]) :
  ag Tryz.prog 169 [.sl none 1 (bl l), .fn (.func 170) [] [.ptr 0 0]] [.cells 241 [.mapv 1], .map es] R := by
 refine aa (an := RY) tab_ok Tryz.func169 ?_;conv=>whnf
 refine zt l hl D es hk fun p hp => ?_;conv=>whnf
 refine h _ ?_;exact decide_eq_decide.2 hp
def gg (l : List Nd) : Prop := l.length < 100000 ∧ ∀ n ∈ l, n.deps.length < 10000 ∧ n.name.length < 10000 ∧ ∀ d ∈ n.deps, d.length < 10000
theorem sH (l : List Nd) (hl : gg l) {R} (h : ∀ r, r = dc l → R (.sl none 1 (cZ r)) []) : ag Tryz.prog 127 [.sl none 4 (nds l)] [] R := by
 refine aa (an := Ss) tab_ok Tryz.func127 ?_;obtain ⟨hlen, hsm⟩ := hl;have hsl := hU l;conv=>whnf
 refine aq.ind2 (fun (out : List Nat) (es : List (ByteArray × AV)) => [(4, .sl (some (ak 4)) 1 (cZ out)), (12, vi out.length)]) (fun out es => [(ak 3, .cells 241 [.mapv (ak 9)]), (ak 4, .row 3 1 out.length), (ak 9, .map es)])
  (fun out _ => l.length - out.length) (fun out es => out.length ≤ l.length ∧ dD l (l.length - out.length) out = dc l ∧ ko isT es (· ∈ out.map (nm l)) ∧ ∀ b ∈ out, b < l.length) [] [] rfl ⟨by simp, rfl, by simpa using ko.nil _, by simp⟩ ?_
 rintro out es ⟨h0, h1, hk, hb⟩ IH;have hol := b8 out;conv=>whnf
 refine ae (fun hc => ?_) (fun hc => ?_)
 ·have hc := ap hsl hc;conv=>whnf
  refine aq.ind1 (fun (k : Nat) => [(5, vi (t6 (il l (out.map (nm l)) k))), (16, vi k)]) (fun _ => [(ak 3, .cells 241 [.mapv (ak 9)]), (ak 4, .row 3 1 out.length), (ak 9, .map es)]) (fun k => l.length - k) (fun k => k ≤ l.length) 0 rfl (by omega) ?_;rintro k hk0 IH2;conv=>whnf
  refine ae (fun hc2 => ?_) (fun hc2 => ?_)
  ·have hc2 := ap hsl hc2
   (conv=>whnf); (repeat ((with_reducible refine ac ?_ ?_); exact decide_eq_true (by omega); (conv=>whnf)))
   refine idxNat (by simpa using hc2) ?_;conv=>whnf
   have same : ready l (out.map (nm l)) k = false → t6 (il l (out.map (nm l)) k) = t6 (il l (out.map (nm l)) (k + 1)) := by
    intro hr;rw [ge];unfold nl;rw [if_neg (by rw [hr]; simp)]
   by_cases hs : l[k].name ∈ out.map (nm l)
   ·obtain ⟨v, e1, rfl⟩ := (hk _).1 hs;have hr : ready l (out.map (nm l)) k = false := by
     unfold ready;rw [eZ hc2, decide_eq_false (not_not_intro hs), Bool.false_and]
    rw [e1, same hr];conv=>whnf
    rw [al (by omega)];exact IH2 (k + 1) (by omega) (by omega)
   ·rw [(hk _).2 hs];conv=>whnf
    refine zu l[k].deps (by have := (hsm _ (List.getElem_mem hc2)).1; omega) (out.map (nm l)) es hk fun b hbq => ?_;conv=>whnf
    refine ae (fun hb1 => ?_) (fun hb1 => ?_)
    ·have hb1 : b = false := by simpa using hb1
     have hr : ready l (out.map (nm l)) k = true := by
      unfold ready;rw [eZ hc2, qF hc2, decide_eq_true hs, Bool.true_and];apply decide_eq_true;intro d hd;rw [hb1] at hbq;have := of_decide_eq_false hbq.symm;exact Classical.byContradiction fun hn => this ⟨d, hd, hn⟩
     cases hbk : il l (out.map (nm l)) k with
     | none =>
      have e2 : il l (out.map (nm l)) (k + 1) = some k := by
       rw [ge, hbk];unfold nl;rw [if_pos ⟨hr, fun b hb => by cases hb⟩]
      conv=>whnf
      rw [al (by omega)];have := IH2 (k + 1) (by omega) (by omega);rw [e2] at this;exact this
     | some b0 =>
      obtain ⟨g1, g2⟩ := iy hbk;have g1 : b0 < l.length := by omega
      rw [show t6 (some b0) = (b0 : Int) from rfl]
      (conv=>whnf); (repeat ((with_reducible refine ac ?_ ?_); exact decide_eq_true (by omega); (conv=>whnf)))
      refine idxNat (by simpa using g1) ?_;conv=>whnf
      rw [GI];refine ae (fun hlt => ?_) (fun hlt => ?_)
      ·have e2 : il l (out.map (nm l)) (k + 1) = some k := by
        rw [ge, hbk];unfold nl;rw [if_pos ⟨hr, fun b hb => by cases hb; rw [eZ hc2, eZ g1]; exact hlt⟩]
       conv=>whnf
       rw [al (by omega)];have := IH2 (k + 1) (by omega) (by omega);rw [e2] at this;exact this
      ·have e2 : il l (out.map (nm l)) (k + 1) = some b0 := by
        rw [ge, hbk];unfold nl;rw [if_neg (fun hh => by have := hh.2 b0 rfl; rw [eZ hc2, eZ g1, hlt] at this; cases this)]
       conv=>whnf
       rw [al (by omega)];have := IH2 (k + 1) (by omega) (by omega);rw [e2] at this;exact this
    ·have hb1 : b = true := by simpa using hb1
     have hr : ready l (out.map (nm l)) k = false := by
      unfold ready;rw [qF hc2, Bool.and_eq_false_iff]
      right
      apply decide_eq_false;intro hall;rw [hb1] at hbq;obtain ⟨d, hd, hn⟩ := of_decide_eq_true hbq.symm;exact hn (hall d hd)
     rw [same hr];conv=>whnf
     rw [al (by omega)];exact IH2 (k + 1) (by omega) (by omega)
  ·have hc2 := au hsl hc2;obtain rfl : k = l.length := by omega
   obtain ⟨j, hj⟩ : ∃ j, l.length - out.length = j + 1 := ⟨l.length - out.length - 1, by omega⟩;rw [hj, dD] at h1
   cases hbk : il l (out.map (nm l)) l.length with
   | none =>
    rw [hbk] at h1;conv=>whnf
    exact h _ h1
   | some b =>
    rw [hbk] at h1;obtain ⟨g1, g2⟩ := iy hbk;rw [show t6 (some b) = (b : Int) from rfl]
    (conv=>whnf); (repeat ((with_reducible refine ac ?_ ?_); exact decide_eq_true (by omega); (conv=>whnf)))
    refine idxNat (by simpa using g1) ?_;conv=>whnf
    refine ⟨hol.symm, ?_, ?_⟩
    ·rw [hol];show (out.length + 1) * (8 + 1) ≤ _;omega
    conv=>whnf
    have e1 : cZ out ++ [[AV.val (Value.int IntKind.i64 (b : Int))]] = cZ (out ++ [b]) := by simp [cZ, vi]
    have e2 : (cZ out).length + [[AV.val (Value.int IntKind.i64 (b : Int))]].length = (out ++ [b]).length := by simp [hol]
    rw [e1, e2, al (by omega), show out.length + 1 = (out ++ [b]).length by simp];refine IH (out ++ [b]) (dZ es (ofB l[b].name) (.val (.bool true))) ⟨by simp; omega, ?_, ?_, ?_⟩ (by simp; omega)
    ·rw [← h1];congr 1;simp; omega
    ·refine hk.put l[b].name rfl fun s => ?_;simp only [List.map_append, List.map_cons, List.map_nil, List.mem_append, List.mem_singleton, eZ g1]
    ·intro x hx;rw [List.mem_append, List.mem_singleton] at hx;rcases hx with hx | rfl
     ·exact hb x hx
     ·exact g1
 ·have hc := au hsl hc;conv=>whnf
  refine h out ?_;rw [show l.length - out.length = 0 by omega] at h1;exact h1
theorem N7 {l : List Nd} (hd : (l.map (·.name)).Nodup) {i j : Nat} (hi : i < l.length) (hj : j < l.length) (h : nm l i = nm l j) : i = j := by
 rw [eZ hi, eZ hj] at h;have h1 : (l.map (·.name))[i]'(by simpa using hi) = (l.map (·.name))[j]'(by simpa using hj) := by simpa using h
 exact (List.getElem_inj hd).1 h1
theorem zP {l : List Nd} (hd : (l.map (·.name)).Nodup) {out : List Nat} (hb : ∀ b ∈ out, b < l.length) {i : Nat} (hi : i < l.length) : i ∈ out ↔ l[i].name ∈ out.map (nm l) := by
 rw [List.mem_map];constructor
 ·exact fun h => ⟨i, h, eZ hi⟩
 ·rintro ⟨j, hj, e⟩;rw [← eZ hi] at e;rw [← N7 hd (hb j hj) hi e];exact hj
theorem Ha {l : List Nd} (hd : (l.map (·.name)).Nodup) {out : List Nat} (hb : ∀ b ∈ out, b < l.length) (d : B) : (∃ i ∈ out, (i : Int) = gp (l.map (·.name)) d) ↔ d ∈ out.map (nm l) := by
 unfold gp
 cases e : i6 (l.map (·.name)) d with
 | none =>
  simp only;refine ⟨fun ⟨i, _, hi⟩ => by omega, fun h => ?_⟩;obtain ⟨j, hj, e'⟩ := List.mem_map.1 h;rw [eZ (hb j hj)] at e';exact absurd (List.mem_map.2 ⟨_, List.getElem_mem (hb j hj), e'⟩) (iu.1 e)
 | some p =>
  simp only;obtain ⟨h1, h2⟩ := rz e;have hp : p < l.length := by
   have := (List.getElem?_eq_some_iff.1 h1).1;simpa using this
  have hn : l[p].name = d := by
   rw [List.getElem?_map, List.getElem?_eq_getElem hp] at h1;simpa using h1
  rw [← hn, ← zP hd hb hp];exact ⟨fun ⟨i, hi, e⟩ => by have : i = p := (by omega); rwa [← this], fun h => ⟨p, h, rfl⟩⟩
theorem kT (l : List Nd) (hl : gg l) (hd : (l.map (·.name)).Nodup) {R} (h : ∀ r, r = dc l → R (.sl none 1 (cZ r)) []) : ag Tryz.prog 49 [.sl none 4 (nds l)] [] R := by
 refine aa (an := UC) tab_ok Tryz.func49 ?_;obtain ⟨hlen, hsm⟩ := hl;have hsl := hU l;conv=>whnf
 refine aq.ind1 (fun (out : List Nat) => [(3, .sl (some (ak 8)) 1 (cZ out))]) (fun out => [(ak 8, .row 3 1 out.length)])
  (fun out => l.length - out.length) (fun out => out.length ≤ l.length ∧ dD l (l.length - out.length) out = dc l ∧ out.Nodup ∧ ∀ b ∈ out, b < l.length) [] rfl ⟨by simp, rfl, by simp, by simp⟩ ?_
 rintro out ⟨h0, h1, hnd, hb⟩ IH;have hol := b8 out;conv=>whnf
 refine aq.ind1 (fun (k : Nat) => [(4, vi (t6 (il l (out.map (nm l)) k))), (5, vi k)]) (fun _ => [(ak 8, .row 3 1 out.length)]) (fun k => l.length - k) (fun k => k ≤ l.length) 0 rfl (by omega) ?_;rintro k hk0 IH2;conv=>whnf
 refine ae (fun hc2 => ?_) (fun hc2 => ?_)
 ·have hc2 := ap hsl hc2;have hsl2 := aC l[k].deps;obtain ⟨hs1, hs2, hs3⟩ := hsm _ (List.getElem_mem hc2);conv=>whnf
  refine B3 out k (by omega) rfl fun b hbq => ?_;have hbq : b = decide (l[k].name ∈ out.map (nm l)) := by
   rw [hbq];apply decide_eq_decide.2;rw [← zP hd hb hc2];exact ⟨fun ⟨i, hi, e⟩ => by have : i = k := (by omega); rwa [← this], fun h => ⟨k, h, rfl⟩⟩
  conv=>whnf
  refine aq.ind2 (fun (j : Nat) (r : Bool) => [(6, .val (.bool r)), (7, vi j)]) (fun _ _ => [(ak 8, .row 3 1 out.length)]) (fun j _ => l[k].deps.length - j)
   (fun j r => j ≤ l[k].deps.length ∧ (r = true ↔ (l[k].name ∉ out.map (nm l) ∧ ∀ d ∈ l[k].deps.take j, d ∈ out.map (nm l)))) 0 (!b) rfl ⟨by omega, by rw [hbq]; simp⟩ ?_
  rintro j r ⟨hj0, hr⟩ IH3
  (conv=>whnf); (repeat ((with_reducible refine ac ?_ ?_); exact decide_eq_true (by omega); (conv=>whnf)))
  refine idxNat (by simpa using hc2) ?_;conv=>whnf
  refine ae (fun hc3 => ?_) (fun hc3 => ?_)
  ·have hc3 := ap hsl2 hc3;have hr' : ∀ r' : Bool, (r' = true ↔ (r = true ∧ l[k].deps[j] ∈ out.map (nm l))) → (r' = true ↔ (l[k].name ∉ out.map (nm l) ∧ ∀ d ∈ l[k].deps.take (j + 1), d ∈ out.map (nm l))) := by
    intro r' e;rw [e, hr, List.take_succ_eq_append_getElem hc3];constructor
    ·rintro ⟨⟨g1, g2⟩, g3⟩;refine ⟨g1, fun d hd => ?_⟩;rw [List.mem_append, List.mem_singleton] at hd;rcases hd with hd | rfl
     ·exact g2 d hd
     ·exact g3
    ·rintro ⟨g1, g2⟩;exact ⟨⟨g1, fun d hd => g2 d (List.mem_append_left _ hd)⟩, g2 _ (List.mem_append_right _ (by simp))⟩
   conv=>whnf
   refine ae (fun hc4 => ?_) (fun hc4 => ?_)
   ·(conv=>whnf); (repeat ((with_reducible refine ac ?_ ?_); exact decide_eq_true (by omega); (conv=>whnf)))
    refine idxNat (by simpa using hc2) ?_
    (conv=>whnf); (repeat ((with_reducible refine ac ?_ ?_); exact decide_eq_true (by omega); (conv=>whnf)))
    refine idxNat (by simpa using hc3) ?_;conv=>whnf
    refine jB l l[k].deps[j] (by omega) rfl fun p hp => ?_;conv=>whnf
    refine B3 out p (by omega) rfl fun b' hb' => ?_;conv=>whnf
    rw [al (by omega)];refine IH3 (j + 1) b' ⟨by omega, hr' b' ?_⟩ (by omega);rw [hb', decide_eq_true_iff, hp, Ha hd hb];exact ⟨fun h => ⟨hc4, h⟩, fun h => h.2⟩
   ·conv=>whnf
    rw [al (by omega)];refine IH3 (j + 1) false ⟨by omega, hr' false ?_⟩ (by omega);have hc4 : r = false := hc4;rw [hc4];simp
  ·have hc3 := au hsl2 hc3;rw [List.take_of_length_le hc3] at hr;have hrr : ready l (out.map (nm l)) k = r := by
    unfold ready;rw [eZ hc2, qF hc2, Bool.eq_iff_iff, Bool.and_eq_true, decide_eq_true_iff, decide_eq_true_iff, hr]
   conv=>whnf
   refine ae (fun hc4 => ?_) (fun hc4 => ?_)
   ·have hr2 : ready l (out.map (nm l)) k = true := hrr.trans hc4
    cases hbk : il l (out.map (nm l)) k with
    | none =>
     have e2 : il l (out.map (nm l)) (k + 1) = some k := by
      rw [ge, hbk];unfold nl;rw [if_pos ⟨hr2, fun b hb => by cases hb⟩]
     conv=>whnf
     rw [al (by omega)];have := IH2 (k + 1) (by omega) (by omega);rw [e2] at this;exact this
    | some b0 =>
     obtain ⟨g1, g2⟩ := iy hbk;have g1 : b0 < l.length := by omega
     rw [show t6 (some b0) = (b0 : Int) from rfl]
     (conv=>whnf); (repeat ((with_reducible refine ac ?_ ?_); exact decide_eq_true (by omega); (conv=>whnf)))
     refine idxNat (by simpa using hc2) ?_
     (conv=>whnf); (repeat ((with_reducible refine ac ?_ ?_); exact decide_eq_true (by omega); (conv=>whnf)))
     refine idxNat (by simpa using g1) ?_;conv=>whnf
     refine od l[k].name l[b0].name (by omega) (by have := (hsm _ (List.getElem_mem g1)).2.1; omega) fun p hp => ?_;conv=>whnf
     refine ae (fun hlt => ?_) (fun hlt => ?_)
     ·have hlt : p = true := hlt;have e2 : il l (out.map (nm l)) (k + 1) = some k := by
       rw [ge, hbk];unfold nl;rw [if_pos ⟨hr2, fun b hb => by cases hb; rw [eZ hc2, eZ g1, ← hp]; exact hlt⟩]
      conv=>whnf
      rw [al (by omega)];have := IH2 (k + 1) (by omega) (by omega);rw [e2] at this;exact this
     ·have hlt : p = false := hlt;have e2 : il l (out.map (nm l)) (k + 1) = some b0 := by
       rw [ge, hbk];unfold nl;rw [if_neg (fun hh => by have := hh.2 b0 rfl; rw [eZ hc2, eZ g1, ← hp, hlt] at this; cases this)]
      conv=>whnf
      rw [al (by omega)];have := IH2 (k + 1) (by omega) (by omega);rw [e2] at this;exact this
   ·have hr2 : ready l (out.map (nm l)) k = false := hrr.trans hc4;have e2 : il l (out.map (nm l)) (k + 1) = il l (out.map (nm l)) k := by
     rw [ge];unfold nl;rw [if_neg (by rw [hr2]; simp)]
    conv=>whnf
    rw [al (by omega)];have := IH2 (k + 1) (by omega) (by omega);rw [e2] at this;exact this
 ·have hc2 := au hsl hc2;obtain rfl : k = l.length := by omega
  cases hbk : il l (out.map (nm l)) l.length with
  | none =>
   have hr : dD l (l.length - out.length) out = out := by
    cases l.length - out.length with
    | zero => rfl
    | succ j => rw [dD, hbk]
   conv=>whnf
   exact h _ (hr.symm.trans h1)
  | some b =>
   obtain ⟨g1, g2⟩ := iy hbk;have hbn : b ∉ out := by
    unfold ready at g2;rw [Bool.and_eq_true, decide_eq_true_iff, eZ g1] at g2;intro hm;exact g2.1 ((zP hd hb g1).1 hm)
   have hlt : out.length < l.length := by
    have hnd' : (b :: out).Nodup := List.nodup_cons.2 ⟨hbn, hnd⟩;have hsub : (b :: out) ⊆ List.range l.length := by
     intro x hx;rw [List.mem_cons] at hx;rcases hx with rfl | hx
     ·exact List.mem_range.2 g1
     ·exact List.mem_range.2 (hb x hx)
    have := hnd'.length_le_of_subset hsub;rw [List.length_range, List.length_cons] at this;omega
   obtain ⟨j, hj⟩ : ∃ j, l.length - out.length = j + 1 := ⟨l.length - out.length - 1, by omega⟩;rw [hj, dD, hbk] at h1;rw [show t6 (some b) = (b : Int) from rfl];conv=>whnf
   refine ⟨hol.symm, ?_, ?_⟩
   ·rw [hol];show (out.length + 1) * (8 + 1) ≤ _;omega
   conv=>whnf
   have e1 : cZ out ++ [[AV.val (Value.int IntKind.i64 (b : Int))]] = cZ (out ++ [b]) := by simp [cZ, vi]
   have e2 : (cZ out).length + [[AV.val (Value.int IntKind.i64 (b : Int))]].length = (out ++ [b]).length := by simp [hol]
   rw [e1, e2];refine IH (out ++ [b]) ⟨by simp; omega, ?_, ?_, ?_⟩ (by simp; omega)
   ·rw [← h1];congr 1;simp; omega
   ·rw [List.nodup_append];exact ⟨hnd, by simp, fun x hx y hy e => hbn (by rw [List.mem_singleton] at hy; rw [← hy, ← e]; exact hx)⟩
   ·intro x hx;rw [List.mem_append, List.mem_singleton] at hx;rcases hx with hx | rfl
    ·exact hb x hx
    ·exact g1
def jO : List Nd → List B → Int
 | [], _ => 0
 | n :: r, seen => if n.name ∈ seen then 1 else if jd n ≠ 0 then jd n else jO r (seen ++ [n.name])
def qI (l : List Nd) : Bool := l.all fun n => n.deps.all fun d => decide (d ∈ l.map (·.name))
def aY (l : List Nd) : Int := if 64 < l.length then 5 else if jO l [] ≠ 0 then jO l [] else if qI l = false then 6 else if (dc l).length < l.length then 9 else 0
theorem nY : ∀ (l : List Nd) (seen : List B), jO l seen = 0 → (l.map (·.name)).Nodup ∧ ∀ n ∈ l, n.name ∉ seen := by
 intro l
 induction l with
 | nil => intro seen _; simp
 | cons n r ih =>
  intro seen h;unfold jO at h;split at h
  ·cases h
  ·rename_i hn;split at h
   ·rename_i h0; exact absurd h h0
   ·obtain ⟨h1, h2⟩ := ih _ h;refine ⟨?_, fun m hm => ?_⟩
    ·rw [List.map_cons, List.nodup_cons];refine ⟨fun hm => ?_, h1⟩;obtain ⟨m, hm, e⟩ := List.mem_map.1 hm;exact h2 m hm (by rw [e]; simp)
    ·rw [List.mem_cons] at hm;rcases hm with rfl | hm
     ·exact hn
     ·exact fun hs => h2 m hm (by simp [hs])
theorem s8 {l : List Nd} {i : Nat} (hi : i < l.length) (seen : List B) : jO (l.drop i) seen = if l[i].name ∈ seen then 1 else if jd l[i] ≠ 0 then jd l[i] else jO (l.drop (i + 1)) (seen ++ [l[i].name]) := by
 rw [List.drop_eq_getElem_cons hi, jO]
def names (l : List Nd) : List B := l.map (·.name)
theorem nK {l : List Nd} {i : Nat} (hi : i < l.length) : names (l.take (i + 1)) = names (l.take i) ++ [l[i].name] := by
 unfold names;rw [List.take_succ_eq_append_getElem hi, List.map_append];rfl
theorem nV {l : List Nd} {i j : Nat} (hi : i < l.length) (hj : j < l[i].deps.length) (h : l[i].deps[j] ∉ names l) : qI l = false := by
 unfold qI;apply Bool.eq_false_iff.2;intro hall;have := List.all_eq_true.1 (List.all_eq_true.1 hall _ (List.getElem_mem hi)) _ (List.getElem_mem hj);exact h (of_decide_eq_true this)
theorem mv {l : List Nd} (h : ∀ n ∈ l, ∀ d ∈ n.deps, d ∈ names l) : qI l = true := by
 unfold qI;rw [List.all_eq_true];intro n hn;rw [List.all_eq_true];intro d hd;exact decide_eq_true (h n hn d hd)
theorem Db (l : List Nd) (hl : gg l) {R} (h : ∀ e, e = aY l → R (vi e) []) : ag Tryz.prog 126 [.sl none 4 (nds l)] [] R := by
 refine aa (an := Su) tab_ok Tryz.func126 ?_;have hl' := hl;obtain ⟨hlen, hsm⟩ := hl;have hsl := hU l;conv=>whnf
 refine ae (fun hc => ?_) (fun hc => ?_)
 ·conv=>whnf
  refine h 5 ?_;have : 64 < l.length := by rw [hsl] at hc; simp at hc; omega
  simp [aY, this]
 have h64 : ¬ 64 < l.length := by rw [hsl] at hc; simp at hc; omega
 have bad1 : ∀ e, e ≠ 0 → jO l [] = e → R (vi e) [] := fun e hb he => h _ (by unfold aY; rw [if_neg h64, if_pos (by rw [he]; exact hb), he]);conv=>whnf
 refine n8 ?_;conv=>whnf
 refine aq.step ?_;conv=>whnf
 refine ae (fun hc => ?_) (fun hc => ?_)
 ·have hc : 0 < l.length := ap (i := 0) hsl hc;obtain ⟨hs1, hs2, hs3⟩ := hsm _ (List.getElem_mem hc);have hd0 := s8 hc [];rw [List.drop_zero, if_neg (by simp)] at hd0
  (conv=>whnf); (repeat ((with_reducible refine ac ?_ ?_); exact decide_eq_true (by omega); (conv=>whnf)))
  refine idxNat (by simpa using hc) ?_;conv=>whnf
  refine qR l[0].name ?_;conv=>whnf
  refine yl l[0] (by omega) fun e he => ?_;conv=>whnf
  refine ae (fun g => ?_) (fun g => ?_)
  ·have g : e ≠ 0 := by simpa using g
   conv=>whnf
   exact bad1 e g (by rw [hd0, ← he, if_pos g])
  ·have g : e = 0 := by simpa using g
   rw [← he, if_neg (by rw [g]; simp)] at hd0;have e0 : names (l.take 1) = [l[0].name] := nK (i := 0) hc;conv=>whnf
   refine aq.ind1 (fun (i : Nat) => [(22, vi i)]) (fun i => [(ay 19 0, bM (ay 30 0) (ay 30 1) (names (l.take i))), (ay 30 0, bL (names (l.take i))), (ay 30 1, bK (names (l.take i)))]) (fun i => l.length - i) (fun i => i ≤ l.length ∧ jO (l.drop i) (names (l.take i)) = jO l []) 1 ?_ ⟨by omega, ?_⟩ ?_
   ·rw [e0]; rfl
   ·rw [e0]; exact hd0.symm
   rintro i ⟨h0, hch⟩ IH;have hnl : (names (l.take i)).length ≤ l.length := by simp [names]; omega
   conv=>whnf
   refine ae (fun hc => ?_) (fun hc => ?_)
   ·have hc := ap hsl hc;obtain ⟨hs1, hs2, hs3⟩ := hsm _ (List.getElem_mem hc);rw [s8 hc] at hch
    (conv=>whnf); (repeat ((with_reducible refine ac ?_ ?_); exact decide_eq_true (by omega); (conv=>whnf)))
    refine idxNat (by simpa using hc) ?_;conv=>whnf
    by_cases hm : l[i].name ∈ names (l.take i)
    ·rw [if_pos hm] at hch;refine jT _ _ hm fun j => ?_;conv=>whnf
     exact bad1 1 (by omega) hch.symm
    ·rw [if_neg hm] at hch;refine gT _ _ (by omega) hm fun j => ?_;conv=>whnf
     refine yl l[i] (by omega) fun e he => ?_;rw [← he] at hch;conv=>whnf
     refine ae (fun g => ?_) (fun g => ?_)
     ·have g : e ≠ 0 := by simpa using g
      rw [if_pos g] at hch;conv=>whnf
      exact bad1 e g hch.symm
     ·have g : e = 0 := by simpa using g
      rw [if_neg (by rw [g]; simp), ← nK hc] at hch;conv=>whnf
      rw [al (by omega), ← nK hc];exact IH (i + 1) ⟨by omega, hch⟩ (by omega)
   ·have hc := au hsl hc;rw [List.drop_eq_nil_of_le hc, jO] at hch;have hchk := hch.symm;conv=>whnf
    refine ry l (by omega) fun es hes => ?_;conv=>whnf
    refine aq.ind1 (fun (i : Nat) => [(45, vi i)]) (fun _ => [(ay 42 0, .map es)]) (fun i => l.length - i) (fun i => i ≤ l.length ∧ ∀ n ∈ l.take i, ∀ d ∈ n.deps, d ∈ names l) 0 rfl ⟨by omega, by simp⟩ ?_;rintro i ⟨h0, hdo⟩ IH;conv=>whnf
    refine ae (fun hc => ?_) (fun hc => ?_)
    ·have hc := ap hsl hc;have hsl3 := aC l[i].deps;obtain ⟨hs1, hs2, hs3⟩ := hsm _ (List.getElem_mem hc)
     (conv=>whnf); (repeat ((with_reducible refine ac ?_ ?_); exact decide_eq_true (by omega); (conv=>whnf)))
     refine idxNat (by simpa using hc) ?_;conv=>whnf
     refine aq.ind1 (fun (j : Nat) => [(52, vi j)]) (fun _ => [(ay 42 0, .map es)]) (fun j => l[i].deps.length - j) (fun j => j ≤ l[i].deps.length ∧ ∀ d ∈ l[i].deps.take j, d ∈ names l) 0 rfl ⟨by omega, by simp⟩ ?_;rintro j ⟨hj0, hjo⟩ IH2;conv=>whnf
     refine ae (fun hc2 => ?_) (fun hc2 => ?_)
     ·have hc2 := ap hsl3 hc2
      (conv=>whnf); (repeat ((with_reducible refine ac ?_ ?_); exact decide_eq_true (by omega); (conv=>whnf)))
      refine idxNat (by simpa using hc2) ?_;conv=>whnf
      by_cases hm : l[i].deps[j] ∈ names l
      ·obtain ⟨v, e1, x, rfl⟩ := (hes _).1 hm;rw [e1];conv=>whnf
       rw [al (by omega)];refine IH2 (j + 1) ⟨by omega, fun d hd => ?_⟩ (by omega);rw [List.take_succ_eq_append_getElem hc2, List.mem_append, List.mem_singleton] at hd;rcases hd with hd | rfl
       ·exact hjo d hd
       ·exact hm
      ·rw [(hes _).2 hm];conv=>whnf
       refine h 6 ?_;unfold aY;rw [if_neg h64, if_neg (by rw [hchk]; simp), if_pos (nV hc hc2 hm)]
     ·have hc2 := au hsl3 hc2;rw [List.take_of_length_le hc2] at hjo;conv=>whnf
      rw [al (by omega)];refine IH (i + 1) ⟨by omega, fun n hn => ?_⟩ (by omega);rw [List.take_succ_eq_append_getElem hc, List.mem_append, List.mem_singleton] at hn;rcases hn with hn | rfl
      ·exact hdo n hn
      ·exact hjo
    ·have hc := au hsl hc;rw [List.take_of_length_le hc] at hdo;conv=>whnf
     refine sH l hl' fun r hr => ?_;have hrl := b8 r;have fin : aY l = if r.length < l.length then 9 else 0 := by
      unfold aY;rw [if_neg h64, if_neg (by rw [hchk]; simp), if_neg (by rw [mv hdo]; simp), hr]
     conv=>whnf
     rw [hrl, hsl];refine ae (fun g2 => ?_) (fun g2 => ?_)
     ·conv=>whnf
      exact h 9 (by rw [fin, if_pos (gJ g2)])
     ·conv=>whnf
      exact h 0 (by rw [fin, if_neg (by have := gN g2; omega)])
 ·have hc : l.length ≤ 0 := au (i := 0) hsl hc;have hnil : l = [] := List.eq_nil_of_length_eq_zero (by omega);have hchk : jO l [] = 0 := by rw [hnil]; rfl
  conv=>whnf
  refine ry l (by omega) fun es hes => ?_;conv=>whnf
  refine aq.ind1 (fun (i : Nat) => [(45, vi i)]) (fun _ => [(ay 42 0, .map es)]) (fun i => l.length - i) (fun i => i ≤ l.length ∧ ∀ n ∈ l.take i, ∀ d ∈ n.deps, d ∈ names l) 0 rfl ⟨by omega, by simp⟩ ?_;rintro i ⟨h0, hdo⟩ IH;conv=>whnf
  refine ae (fun hc => ?_) (fun hc => ?_)
  ·have hc := ap hsl hc;have hsl3 := aC l[i].deps;obtain ⟨hs1, hs2, hs3⟩ := hsm _ (List.getElem_mem hc)
   (conv=>whnf); (repeat ((with_reducible refine ac ?_ ?_); exact decide_eq_true (by omega); (conv=>whnf)))
   refine idxNat (by simpa using hc) ?_;conv=>whnf
   refine aq.ind1 (fun (j : Nat) => [(52, vi j)]) (fun _ => [(ay 42 0, .map es)]) (fun j => l[i].deps.length - j) (fun j => j ≤ l[i].deps.length ∧ ∀ d ∈ l[i].deps.take j, d ∈ names l) 0 rfl ⟨by omega, by simp⟩ ?_;rintro j ⟨hj0, hjo⟩ IH2;conv=>whnf
   refine ae (fun hc2 => ?_) (fun hc2 => ?_)
   ·have hc2 := ap hsl3 hc2
    (conv=>whnf); (repeat ((with_reducible refine ac ?_ ?_); exact decide_eq_true (by omega); (conv=>whnf)))
    refine idxNat (by simpa using hc2) ?_;conv=>whnf
    by_cases hm : l[i].deps[j] ∈ names l
    ·obtain ⟨v, e1, x, rfl⟩ := (hes _).1 hm;rw [e1];conv=>whnf
     rw [al (by omega)];refine IH2 (j + 1) ⟨by omega, fun d hd => ?_⟩ (by omega);rw [List.take_succ_eq_append_getElem hc2, List.mem_append, List.mem_singleton] at hd;rcases hd with hd | rfl
     ·exact hjo d hd
     ·exact hm
    ·rw [(hes _).2 hm];conv=>whnf
     refine h 6 ?_;unfold aY;rw [if_neg h64, if_neg (by rw [hchk]; simp), if_pos (nV hc hc2 hm)]
   ·have hc2 := au hsl3 hc2;rw [List.take_of_length_le hc2] at hjo;conv=>whnf
    rw [al (by omega)];refine IH (i + 1) ⟨by omega, fun n hn => ?_⟩ (by omega);rw [List.take_succ_eq_append_getElem hc, List.mem_append, List.mem_singleton] at hn;rcases hn with hn | rfl
    ·exact hdo n hn
    ·exact hjo
  ·have hc := au hsl hc;rw [List.take_of_length_le hc] at hdo;conv=>whnf
   refine sH l hl' fun r hr => ?_;have hrl := b8 r;have fin : aY l = if r.length < l.length then 9 else 0 := by
    unfold aY;rw [if_neg h64, if_neg (by rw [hchk]; simp), if_neg (by rw [mv hdo]; simp), hr]
   conv=>whnf
   rw [hrl, hsl];refine ae (fun g2 => ?_) (fun g2 => ?_)
   ·conv=>whnf
    exact h 9 (by rw [fin, if_pos (gJ g2)])
   ·conv=>whnf
    exact h 0 (by rw [fin, if_neg (by have := gN g2; omega)])
theorem lD (l : List Nd) (hl : gg l) {R} (h : ∀ e, e = aY l → R (vi e) []) : ag Tryz.prog 25 [.sl none 4 (nds l)] [] R := by
 refine aa (an := US) tab_ok Tryz.func25 ?_;have hl' := hl;obtain ⟨hlen, hsm⟩ := hl;have hsl := hU l;conv=>whnf
 refine ae (fun hc => ?_) (fun hc => ?_)
 ·conv=>whnf
  refine h 5 ?_;have : 64 < l.length := by rw [hsl] at hc; simp at hc; omega
  simp [aY, this]
 have h64 : ¬ 64 < l.length := by rw [hsl] at hc; simp at hc; omega
 have bad1 : ∀ e, e ≠ 0 → jO l [] = e → R (vi e) [] := fun e hb he => h _ (by unfold aY; rw [if_neg h64, if_pos (by rw [he]; exact hb), he]);conv=>whnf
 refine aq.ind1 (fun (i : Nat) => [(3, vi i)]) (fun i => []) (fun i => l.length - i) (fun i => i ≤ l.length ∧ jO (l.drop i) (names (l.take i)) = jO l []) 0 rfl ⟨by omega, by simp [names]⟩ ?_;rintro i ⟨h0, hch⟩ IH;conv=>whnf
 refine ae (fun hc => ?_) (fun hc => ?_)
 ·have hc := ap hsl hc;obtain ⟨hs1, hs2, hs3⟩ := hsm _ (List.getElem_mem hc);rw [s8 hc] at hch
  (conv=>whnf); (repeat ((with_reducible refine ac ?_ ?_); exact decide_eq_true (by omega); (conv=>whnf)))
  refine idxNat (by simpa using hc) ?_;conv=>whnf
  refine jB (l.take i) l[i].name (by simp; omega) (by simp [nds, List.map_take]) fun p hp => ?_;have hp : p = gp (names (l.take i)) l[i].name := hp;conv=>whnf
  refine ae (fun hg => ?_) (fun hg => ?_)
  ·have hm : l[i].name ∈ names (l.take i) := by
    have : 0 ≤ p := by simpa using hg
    rw [hp] at this;exact Classical.byContradiction fun e => by have := cJ.2 e; omega
   rw [if_pos hm] at hch;conv=>whnf
   exact bad1 1 (by omega) hch.symm
  ·have hm : l[i].name ∉ names (l.take i) := by
    have : p < 0 := by simpa using hg
    rw [hp] at this;exact cJ.1 this
   rw [if_neg hm] at hch
   (conv=>whnf); (repeat ((with_reducible refine ac ?_ ?_); exact decide_eq_true (by omega); (conv=>whnf)))
   refine idxNat (by simpa using hc) ?_;conv=>whnf
   refine zz l[i] (by omega) fun e he => ?_;rw [← he] at hch;conv=>whnf
   refine ae (fun g => ?_) (fun g => ?_)
   ·have g : e ≠ 0 := by simpa using g
    rw [if_pos g] at hch;conv=>whnf
    exact bad1 e g hch.symm
   ·have g : e = 0 := by simpa using g
    rw [if_neg (by rw [g]; simp), ← nK hc] at hch;conv=>whnf
    rw [al (by omega)];exact IH (i + 1) ⟨by omega, hch⟩ (by omega)
 ·have hc := au hsl hc;rw [List.drop_eq_nil_of_le hc, jO] at hch;have hchk := hch.symm;clear IH;conv=>whnf
  refine aq.ind1 (fun (i : Nat) => [(5, vi i)]) (fun _ => []) (fun i => l.length - i) (fun i => i ≤ l.length ∧ ∀ n ∈ l.take i, ∀ d ∈ n.deps, d ∈ names l) 0 rfl ⟨by omega, by simp⟩ ?_;rintro i ⟨h0, hdo⟩ IH;conv=>whnf
  refine ae (fun hc => ?_) (fun hc => ?_)
  ·have hc := ap hsl hc;have hsl3 := aC l[i].deps;obtain ⟨hs1, hs2, hs3⟩ := hsm _ (List.getElem_mem hc);conv=>whnf
   refine aq.ind1 (fun (j : Nat) => [(6, vi j)]) (fun _ => []) (fun j => l[i].deps.length - j) (fun j => j ≤ l[i].deps.length ∧ ∀ d ∈ l[i].deps.take j, d ∈ names l) 0 rfl ⟨by omega, by simp⟩ ?_;rintro j ⟨hj0, hjo⟩ IH2
   (conv=>whnf); (repeat ((with_reducible refine ac ?_ ?_); exact decide_eq_true (by omega); (conv=>whnf)))
   refine idxNat (by simpa using hc) ?_;conv=>whnf
   refine ae (fun hc2 => ?_) (fun hc2 => ?_)
   ·have hc2 := ap hsl3 hc2
    (conv=>whnf); (repeat ((with_reducible refine ac ?_ ?_); exact decide_eq_true (by omega); (conv=>whnf)))
    refine idxNat (by simpa using hc) ?_
    (conv=>whnf); (repeat ((with_reducible refine ac ?_ ?_); exact decide_eq_true (by omega); (conv=>whnf)))
    refine idxNat (by simpa using hc2) ?_;conv=>whnf
    refine jB l l[i].deps[j] (by omega) rfl fun p hp => ?_;have hp : p = gp (names l) l[i].deps[j] := hp;conv=>whnf
    refine ae (fun hg => ?_) (fun hg => ?_)
    ·have hm : l[i].deps[j] ∉ names l := by
      have : p < 0 := by simpa using hg
      rw [hp] at this;exact cJ.1 this
     conv=>whnf
     refine h 6 ?_;unfold aY;rw [if_neg h64, if_neg (by rw [hchk]; simp), if_pos (nV hc hc2 hm)]
    ·have hm : l[i].deps[j] ∈ names l := by
      have : 0 ≤ p := by simpa using hg
      rw [hp] at this;exact Classical.byContradiction fun e => by have := cJ.2 e; omega
     conv=>whnf
     rw [al (by omega)];refine IH2 (j + 1) ⟨by omega, fun d hd => ?_⟩ (by omega);rw [List.take_succ_eq_append_getElem hc2, List.mem_append, List.mem_singleton] at hd;rcases hd with hd | rfl
     ·exact hjo d hd
     ·exact hm
   ·have hc2 := au hsl3 hc2;rw [List.take_of_length_le hc2] at hjo;conv=>whnf
    rw [al (by omega)];refine IH (i + 1) ⟨by omega, fun n hn => ?_⟩ (by omega);rw [List.take_succ_eq_append_getElem hc, List.mem_append, List.mem_singleton] at hn;rcases hn with hn | rfl
    ·exact hdo n hn
    ·exact hjo
  ·have hc := au hsl hc;rw [List.take_of_length_le hc] at hdo;conv=>whnf
   refine kT l hl' (nY l [] hchk).1 fun r hr => ?_;have hrl := b8 r;have fin : aY l = if r.length < l.length then 9 else 0 := by
    unfold aY;rw [if_neg h64, if_neg (by rw [hchk]; simp), if_neg (by rw [mv hdo]; simp), hr]
   conv=>whnf
   rw [hrl, hsl];refine ae (fun g2 => ?_) (fun g2 => ?_)
   ·conv=>whnf
    exact h 9 (by rw [fin, if_pos (gJ g2)])
   ·conv=>whnf
    exact h 0 (by rw [fin, if_neg (by have := gN g2; omega)])
def cn (l : List Nd) : List Nat := if aY l = 0 then dc l else []
theorem C9 (l : List Nd) (hl : gg l) {R} (h : ∀ o e, o = cn l → e = aY l → R (.tup [.sl none 1 (cZ o), vi e]) []) : ag Tryz.prog 91 [.sl none 4 (nds l)] [] R := by
 refine ag.res ?_;refine aa (an := T1) tab_ok Tryz.func91 ?_;conv=>whnf
 refine Db l hl fun e he => ?_;conv=>whnf
 refine ae (fun g => ?_) (fun g => ?_)
 ·have g : e ≠ 0 := by simpa using g
  conv=>whnf
  refine cR (gQ (leL.cons (cC 1) (leL.cons (.refl _) leL.nil))) rfl (h [] e ?_ he);unfold cn;rw [← he, if_neg g]
 ·have g : e = 0 := by simpa using g
  conv=>whnf
  refine sH l hl fun r hr => ?_;conv=>whnf
  refine bE ?_;have := h r 0 (by unfold cn; rw [← he, if_pos g, hr]) (by rw [← he, g]);exact this
theorem t8 (l : List Nd) (hl : l.length ≤ maxLen) (hn : ∀ n ∈ l, n.deps.length ≤ maxLen) {R} (h : ∀ b : Bool, (b = false → l.length ≤ 80 ∧ ∀ n ∈ l, n.deps.length ≤ 30 ∧ n.name.length ≤ 100 ∧ ∀ d ∈ n.deps, d.length ≤ 100) → R (.val (.bool b)) []) :
  ag Tryz.prog 39 [.sl none 4 (nds l)] [] R := by
 refine aa (an := UI) tab_ok Tryz.func39 ?_;have hsl := hU l;have yes : R (.val (.bool true)) [] := h true (fun e => by cases e);conv=>whnf
 refine aq.ind1 (fun (i : Nat) => [(9, vi i)]) (fun _ => []) (fun i => l.length - i) (fun i => i ≤ l.length ∧ ∀ n ∈ l.take i, n.deps.length ≤ 30 ∧ n.name.length ≤ 100 ∧ ∀ d ∈ n.deps, d.length ≤ 100) 0 rfl ⟨by omega, by simp⟩ ?_;rintro i ⟨h0, hdo⟩ IH;conv=>whnf
 refine ae (fun hc => ?_) (fun hc => ?_)
 ·have hc := ap hsl hc;have hsl3 := aC l[i].deps;have hm := hn _ (List.getElem_mem hc);have hmx : maxLen ≤ 9223372036854775807 := by decide
  (conv=>whnf); (repeat ((with_reducible refine ac ?_ ?_); exact decide_eq_true (by omega); (conv=>whnf)))
  refine idxNat (by simpa using hc) ?_;conv=>whnf
  rw [hsl3];refine ae (fun g1 => ?_) (fun g1 => ?_)
  ·conv=>whnf
   exact yes
  have g1 : l[i].deps.length ≤ 30 := by simp at g1; omega
  have hsn := aG l[i].name;conv=>whnf
  rw [hsn];refine ae (fun g2 => ?_) (fun g2 => ?_)
  ·conv=>whnf
   exact yes
  have g2 : l[i].name.length ≤ 100 := by simp at g2; omega
  conv=>whnf
  refine aq.ind1 (fun (j : Nat) => [(26, vi j)]) (fun _ => []) (fun j => l[i].deps.length - j) (fun j => j ≤ l[i].deps.length ∧ ∀ d ∈ l[i].deps.take j, d.length ≤ 100) 0 rfl ⟨by omega, by simp⟩ ?_;rintro j ⟨hj0, hjo⟩ IH2;conv=>whnf
  refine ae (fun hc2 => ?_) (fun hc2 => ?_)
  ·have hc2 := ap hsl3 hc2
   (conv=>whnf); (repeat ((with_reducible refine ac ?_ ?_); exact decide_eq_true (by omega); (conv=>whnf)))
   refine idxNat (by simpa using hc2) ?_;have hsd := aG l[i].deps[j];conv=>whnf
   rw [hsd];refine ae (fun g3 => ?_) (fun g3 => ?_)
   ·conv=>whnf
    exact yes
   have g3 : l[i].deps[j].length ≤ 100 := by simp at g3; omega
   conv=>whnf
   rw [al (by omega)];refine IH2 (j + 1) ⟨by omega, fun d hd => ?_⟩ (by omega);rw [List.take_succ_eq_append_getElem hc2, List.mem_append, List.mem_singleton] at hd;rcases hd with hd | rfl
   ·exact hjo d hd
   ·exact g3
  ·have hc2 := au hsl3 hc2;rw [List.take_of_length_le hc2] at hjo;conv=>whnf
   rw [aM (by omega) (by omega), show ((i : Int) + 1) = ((i + 1 : Nat) : Int) by omega];refine IH (i + 1) ⟨by omega, fun n hn => ?_⟩ (by omega);rw [List.take_succ_eq_append_getElem hc, List.mem_append, List.mem_singleton] at hn;rcases hn with hn | rfl
   ·exact hdo n hn
   ·exact ⟨g1, g2, hjo⟩
 ·have hc := au hsl hc;rw [List.take_of_length_le hc] at hdo;conv=>whnf
  rw [hsl];refine h _ fun e => ⟨?_, hdo⟩;simp at e;omega
theorem Dr {n : Nat} {l : List (List AV)} (h : ∀ x ∈ l, cD tab (n + 1) 9 x) : ∃ m : List B, l = bl m := by
 induction l with
 | nil => exact ⟨[], rfl⟩
 | cons x l ih =>
  obtain ⟨m, rfl⟩ := ih fun y hy => h y (by simp [hy]);obtain ⟨s, rfl, hs⟩ : ∃ s : ByteArray, x = [.val (.string s)] ∧ s.size ≤ maxLen := h x (by simp);exact ⟨bs s :: m, by simp only [bl, List.map_cons, vs, kO]⟩
theorem uJ {n : Nat} {x : List AV} (h : cD tab (n + 3) 73 x) : ∃ nd : Nd, x = nd.enc ∧ nd.deps.length ≤ maxLen := by
 obtain ⟨a1, r1, rfl, ⟨s, rfl, hs⟩, a2, r2, rfl, ⟨b, rfl⟩, a3, r3, rfl, ⟨u, rfl, hu⟩, a4, r4, rfl, ⟨l, rfl, hl, hx⟩, rfl⟩ : ∃ a r, x = a ++ r ∧ (∃ s : ByteArray, a = [.val (.string s)] ∧ s.size ≤ maxLen) ∧
   ∃ a r', r = a ++ r' ∧ (∃ b, a = [.val (.bool b)]) ∧ ∃ a r'', r' = a ++ r'' ∧ (∃ y, a = [.val (.int .u64 y)] ∧ (Lit.int .u64 y).wf = true) ∧
   ∃ a r''', r'' = a ++ r''' ∧ (∃ l : List (List AV), a = [.sl none 1 l] ∧ l.length ≤ maxLen ∧ ∀ x ∈ l, cD tab (n + 1) 9 x) ∧ r''' = [] := h
 obtain ⟨m, rfl⟩ := Dr hx;refine ⟨⟨bs s, b, BitVec.ofInt 64 u, m⟩, ?_, by simpa [bl] using hl⟩;simp only [Nd.enc, vs, kO, uv, List.cons_append, List.nil_append];rw [← oD hu]
theorem oE {n : Nat} {l : List (List AV)} (h : ∀ x ∈ l, cD tab (n + 3) 73 x) : ∃ m : List Nd, l = nds m ∧ ∀ nd ∈ m, nd.deps.length ≤ maxLen := by
 induction l with
 | nil => exact ⟨[], rfl, by simp⟩
 | cons x l ih =>
  obtain ⟨m, rfl, hm⟩ := ih fun y hy => h y (by simp [hy]);obtain ⟨nd, rfl, hn⟩ := uJ (h x (by simp));exact ⟨nd :: m, rfl, by
   intro y hy;rw [List.mem_cons] at hy;rcases hy with rfl | hy
   ·exact hn
   ·exact hm y hy⟩
end Go.Abs
end
section
namespace Go.Abs
open Go Go.Proofs Dig
attribute [local irreducible] aH aE aO firstIdx
structure Dp where
 name : B
 hash : U
 order : Bool
 deriving DecidableEq
def Dp.enc (d : Dp) : List AV := [vs d.name, uv d.hash, .val (.bool d.order)]
def dU (l : List Dp) : List (List AV) := l.map Dp.enc
theorem bD (l : List Dp) : (dU l).length = l.length := by simp [dU]
structure Rc where
 kind : Int
 target : B
 rule : U
 deps : List Dp
 out : U
 wen : U
 tag : B
 deriving DecidableEq
def Rc.enc (r : Rc) : List AV := [vi r.kind, vs r.target, uv r.rule, .sl none 3 (dU r.deps), uv r.out, uv r.wen, vs r.tag]
def bf (l : List Rc) : List (List AV) := l.map Rc.enc
theorem be (l : List Rc) : (bf l).length = l.length := by simp [bf]
theorem jz (l : List U) : (dq l).length = l.length := by simp [dq]
def dG : List B → List U → List Dp
 | n :: ns, h :: hs => ⟨n, h, false⟩ :: dG ns hs
 | _, _ => []
theorem mL {ns : List B} {hs : List U} (h : hs.length = ns.length) : (dG ns hs).length = ns.length := by
 induction ns generalizing hs with
 | nil => rfl
 | cons n ns ih =>
  cases hs with
  | nil => simp at h
  | cons x hs => simp [dG, ih (by simpa using h)]
theorem mw {ns : List B} {hs : List U} (h : hs.length = ns.length) {i : Nat} (hi : i < ns.length) :
  dG (ns.take (i + 1)) (hs.take (i + 1)) = dG (ns.take i) (hs.take i) ++ [⟨ns[i], hs[i], false⟩] := by
 induction ns generalizing hs i with
 | nil => simp at hi
 | cons n ns ih =>
  cases hs with
  | nil => simp at h
  | cons x hs =>
   cases i with
   | zero => simp [dG]
   | succ i => simp [dG, ih (hs := hs) (i := i) (by simpa using h) (by simpa using hi)]
def cE : Rc := ⟨0, [], 0, [], 0, 0, []⟩
def fZ (n : Nd) (hs : List U) : Bool := n.source || decide (hs.length ≠ n.deps.length)
def dL (n : Nd) (hs : List U) (c w : U) : Rc := if fZ n hs = true then cE else ⟨1, n.name, n.rule, dG n.deps hs, dig c, w, []⟩
def sD (n : Nd) (hs : List U) : Int := if fZ n hs = true then 1 else 0
theorem o8 : leL [.val (.int .i64 0), .val (.string ⟨#[]⟩), .val (.int .u64 0), .val (.slice none 0 0), .val (.int .u64 0), .val (.int .u64 0), .val (.string ⟨#[]⟩)] cE.enc :=
 leL.cons (.refl _) (leL.cons (.refl _) (leL.cons (.refl _) (leL.cons (cC 3) (leL.refl _))))
theorem C3 (n : Nd) (hn : n.deps.length < 1000000) (hs : List U) (c w : U) {R} (h : ∀ r e, r = dL n hs c w → e = sD n hs → R (.tup [.agg r.enc, vi e]) []) :
  ag Tryz.prog 133 [.agg n.enc, .sl none 1 (dq hs), uv c, uv w] [] R := by
 refine ag.res ?_;refine aa (an := Sl) tab_ok Tryz.func133 ?_;have hsd := aC n.deps;have hsh := jz hs;have bad : fZ n hs = true → ∃ r', AV.le (.tup [.agg [.val (.int .i64 0), .val (.string ⟨#[]⟩), .val (.int .u64 0), .val (.slice none 0 0), .val (.int .u64 0), .val (.int .u64 0), .val (.string ⟨#[]⟩)], vi 1]) r' ∧ (∀ m ∈ r'.names, m ∈ (AV.tup [.agg [.val (.int .i64 0), .val (.string ⟨#[]⟩), .val (.int .u64 0), .val (.slice none 0 0), .val (.int .u64 0), .val (.int .u64 0), .val (.string ⟨#[]⟩)], vi 1]).names) ∧ R r' [] := fun hb =>
  cR (gQ (leL.cons (iE o8) (leL.refl _))) rfl (h cE 1 (by rw [dL, if_pos hb]) (by rw [sD, if_pos hb]))
 conv=>whnf
 refine ae (fun g1 => ?_) (fun g1 => ?_)
 ·conv=>whnf
  exact bad (by rw [fZ, g1]; rfl)
 conv=>whnf
 rw [hsh, hsd];refine ae (fun g2 => ?_) (fun g2 => ?_)
 ·conv=>whnf
  exact bad (by rw [fZ, g1, Bool.false_or]; simp at g2; simp; omega)
 have g2 : hs.length = n.deps.length := by simp at g2; omega
 have hbad : fZ n hs = false := by rw [fZ, g1, Bool.false_or]; simp [g2]
 conv=>whnf
 refine sm c fun d hd => ?_;conv=>whnf
 refine aq.step ?_;conv=>whnf
 have hn0 : ∀ {i : Nat}, i < hs.length → i < n.deps.length := fun hi => by omega
 have done : ∀ ds, ds = dG n.deps hs → R (.tup [.agg [vi 1, vs n.name, uv n.rule, .sl none 3 (dU ds), uv d, uv w, vs []], vi 0]) [] := fun ds hds =>
  h ⟨1, n.name, n.rule, ds, d, w, []⟩ 0 (by rw [dL, hbad, hds, hd]; rfl) (by rw [sD, hbad]; rfl)
 refine ae (fun hc => ?_) (fun hc => ?_)
 ·have hc : 0 < hs.length := ap (i := 0) hsh hc;have hc' := hn0 hc
  (conv=>whnf); (repeat ((with_reducible refine ac ?_ ?_); exact decide_eq_true (by omega); (conv=>whnf)))
  refine idxNat (by simpa using hc) ?_
  (conv=>whnf); (repeat ((with_reducible refine ac ?_ ?_); exact decide_eq_true (by omega); (conv=>whnf)))
  refine ab (show (0 : Int).toNat < n.deps.length by simpa using hc') ?_;rw [show n.deps[(0 : Int).toNat]'(by simpa using hc') = n.deps[0] from by congr 1];conv=>whnf
  refine ⟨(show 1 * (32 + 1) ≤ 140737488355328 by decide), ?_⟩;conv=>whnf
  refine aq.ind2 (fun (i : Nat) (ds : List Dp) => [(34, vi i)])
   (fun i ds => [(ak 8, .cells 67 [.val (.int .i64 0), .val (.string ⟨#[]⟩), .val (.int .u64 0), .val (.slice none 0 0), .val (.int .u64 0), .val (.int .u64 0), .val (.string ⟨#[]⟩)]),
    (ak 10, .cells 67 [vi 1, vs n.name, uv n.rule, .sl (some (ak 49)) 3 (dU ds), uv d, uv w, vs []]), (ak 49, .row 167 3 ds.length)])
   (fun i _ => hs.length - i) (fun i ds => i ≤ hs.length ∧ ds = dG (n.deps.take i) (hs.take i)) 1 [⟨n.deps[0], hs[0], false⟩] rfl ⟨by omega, ?_⟩ ?_
  ·rw [mw g2 hc']; rfl
  rintro i ds ⟨h0, hds⟩ IH;have hdl := bD ds;have hdi : ds.length = i := by rw [hds, mL (by simp; omega)]; simp; omega
  conv=>whnf
  refine ae (fun hc => ?_) (fun hc => ?_)
  ·have hc := ap hsh hc;have hc' := hn0 hc
   (conv=>whnf); (repeat ((with_reducible refine ac ?_ ?_); exact decide_eq_true (by omega); (conv=>whnf)))
   refine idxNat (by simpa using hc) ?_
   (conv=>whnf); (repeat ((with_reducible refine ac ?_ ?_); exact decide_eq_true (by omega); (conv=>whnf)))
   refine ab (show (i : Int).toNat < n.deps.length by simpa using hc') ?_;rw [show n.deps[(i : Int).toNat]'(by simpa using hc') = n.deps[i] from by congr 1];conv=>whnf
   refine ⟨hdl.symm, (by rw [hdl]; show (ds.length + 1) * (32 + 1) ≤ _; omega), ?_⟩;conv=>whnf
   have e1 : dU ds ++ [[AV.val (Value.string (ofB n.deps[i])), AV.val (Value.int IntKind.u64 (hs[i].toNat : Int)), AV.val (Value.bool false)]] = dU (ds ++ [⟨n.deps[i], hs[i], false⟩]) := by simp [dU, Dp.enc, vs, uv]
   have e2 : (dU ds).length + [[AV.val (Value.string (ofB n.deps[i])), AV.val (Value.int IntKind.u64 (hs[i].toNat : Int)), AV.val (Value.bool false)]].length = (ds ++ [(⟨n.deps[i], hs[i], false⟩ : Dp)]).length := by simp [hdl]
   rw [e1, e2, al (by omega)];refine IH (i + 1) (ds ++ [⟨n.deps[i], hs[i], false⟩]) ⟨by omega, ?_⟩ (by omega);rw [mw g2 hc', hds]
  ·have hc := au hsh hc;rw [List.take_of_length_le (by omega), List.take_of_length_le hc] at hds;conv=>whnf
   refine bE ?_;exact done ds hds
 ·have hc : hs.length ≤ 0 := au (i := 0) hsh hc;have e1 : hs = [] := List.eq_nil_of_length_eq_zero (by omega);have e2 : n.deps = [] := List.eq_nil_of_length_eq_zero (by omega);conv=>whnf
  refine cR (gQ (leL.cons (iE (leL.cons (.refl _) (leL.cons (.refl _) (leL.cons (.refl _) (leL.cons (cC 3) (leL.refl _)))))) (leL.refl _))) rfl (done [] ?_);rw [e1, e2]; rfl
theorem AQ (l : List U) (hl : l.length < 1000000) {R} (h : ∀ r, r = l.map dig → R (.sl none 1 (dq r)) []) : ag Tryz.prog 129 [.sl none 1 (dq l)] [] R := by
 refine aa (an := Sq) tab_ok Tryz.func129 ?_;have hsl := jz l;conv=>whnf
 refine aq.ind2 (fun (i : Nat) (out : List U) => [(3, .sl (some (ak 3)) 1 (dq out)), (8, vi i)]) (fun i out => [(ak 3, .row 33 1 out.length)]) (fun i _ => l.length - i) (fun i out => i ≤ l.length ∧ out = (l.take i).map dig) 0 [] rfl ⟨by omega, by simp⟩ ?_;rintro i out ⟨h0, ho⟩ IH;have hnl := jz out;have hol : out.length = i := by rw [ho]; simp; omega
 conv=>whnf
 refine ae (fun hc => ?_) (fun hc => ?_)
 ·have hc := ap hsl hc
  (conv=>whnf); (repeat ((with_reducible refine ac ?_ ?_); exact decide_eq_true (by omega); (conv=>whnf)))
  refine idxNat (by simpa using hc) ?_;conv=>whnf
  refine sm l[i] fun d hd => ?_;conv=>whnf
  refine ⟨hnl.symm, (by rw [hnl]; show (out.length + 1) * (8 + 1) ≤ _; omega), ?_⟩;conv=>whnf
  have e1 : dq out ++ [[AV.val (Value.int IntKind.u64 (d.toNat : Int))]] = dq (out ++ [d]) := by simp [dq, uv]
  have e2 : (dq out).length + [[AV.val (Value.int IntKind.u64 (d.toNat : Int))]].length = (out ++ [d]).length := by simp [hnl]
  rw [e1, e2, al (by omega)];refine IH (i + 1) (out ++ [d]) ⟨by omega, ?_⟩ (by omega);rw [List.take_succ_eq_append_getElem hc, ho, List.map_append, hd];rfl
 ·have hc := au hsl hc;rw [List.take_of_length_le hc] at ho;conv=>whnf
  exact h _ ho
end Go.Abs
end
section
namespace Go.Abs
open Go Go.Proofs Go.RowKit
attribute [local go_sem] Oper.semAt_some
theorem AU (l : List Dp) (hl : l.length < 1000000) {R} (h : R (.sl none 3 (dU l)) []) : ag Tryz.prog 99 [.sl none 3 (dU l)] [] R := by
 refine ag.res ?_;refine aa (an := TU) tab_ok Tryz.func99 ?_;have hsl := bD l;conv=>whnf
 intro b hb;refine ae (fun g => ?_) (fun g => ?_)
 ·have e := hb g;rw [e] at h;conv=>whnf
  exact cR (cC 3) rfl h
 ·conv=>whnf
  refine ⟨rfl, (by show (0 + (dU l).length) * (32 + 1) ≤ _; omega), ?_⟩;conv=>whnf
  refine bE ?_;exact h
theorem fQ (r : Rc) (hl : r.deps.length < 1000000) {R} (h : R (.agg r.enc) []) : ag Tryz.prog 52 [.agg r.enc] [] R := by
 refine aa (an := Uz) tab_ok Tryz.func52 ?_;conv=>whnf
 refine AU r.deps hl ?_;conv=>whnf
 exact h
def n0 (l : List Rc) : List (List AV) := l.zipIdx.reverse.map fun p => [.val (.int .i64 p.2), .agg p.1.enc]
theorem E8 (l : List Rc) (hl : l.length < 1000000) : Gx Tryz.prog 148 [.cptr [.sl none 7 (bf l)] 0] (n0 l) := by
 refine ⟨fun args w => ir (by kernel_rfl), fun G w lb hk hr => ?_⟩;simp only [aB, Rep, fB] at hr;obtain ⟨_, _, rfl, ⟨b, o, rfl, ⟨⟨v, hv, ⟨A, c, rfl, hc, hE⟩, _⟩, _⟩, _⟩, rfl⟩ := hr;have hval : ∀ i : Nat, ∃ vs : List Value, ∀ s, l[i]? = some s → aB ⟨G.K, fun _ => none⟩ s.enc vs ∧ ∃ b o, A = some ⟨b, o, none⟩ ∧ ∀ j v, vs[j]? = some v → G.K b (o + i * 7 + j) = some v := by
  intro i
  cases hs : l[i]? with
  | none => exact ⟨[], fun s h => by cases h⟩
  | some s =>
   obtain ⟨b', o', hA, _, _, hC⟩ := hE.get (i := i) (e := s.enc) (by rw [bf, List.getElem?_map, hs]; rfl);obtain ⟨vs, h1, h2⟩ := hC.vals;refine ⟨vs, fun s' h => ?_⟩
   cases h;refine ⟨aB.nameless (G := G) (G' := ⟨G.K, fun _ => none⟩) (fun _ _ _ h => h) _ _ rfl h1, b', o', hA, fun j v hj => ?_⟩;have := h2 j v hj;simpa using this
 obtain ⟨f, hf⟩ := Classical.skolem.1 hval;refine ⟨l.zipIdx.reverse.map fun p => #[.int .i64 p.2, .agg (f p.2).toArray], by simp [n0], ?_, ?_⟩
 ·intro i x e hx he;unfold n0 at hx;rw [List.getElem?_map, Option.map_eq_some_iff] at hx he;obtain ⟨p, hp, rfl⟩ := hx;obtain ⟨p', hp', rfl⟩ := he;rw [hp] at hp'
  cases hp';have hm : p ∈ l.zipIdx := by rw [← List.mem_reverse]; exact List.mem_of_getElem? hp
  have hg : l[p.2]? = some p.1 := List.mk_mem_zipIdx_iff_getElem?.1 hm;have := (hf p.2 p.1 hg).1;simp only [aB, Rep];exact ⟨_, _, rfl, rfl, _, _, rfl, ⟨_, rfl, this⟩, rfl⟩
 ·intro lp n J Jx hY hJ h0;rw [show FW none = Fence.wide from rfl] at hY ⊢;refine callsIn_of_wp Tryz.func148 rfl trivial ?_ rfl;simp only [Tryz.ntmps148, List.size_toArray, List.length_cons, List.length_nil, Nat.reduceAdd, Nat.reduceSub, Array.replicate_succ, Array.replicate_zero, List.push_toArray, List.append_toArray, List.nil_append, List.cons_append, Nat.add_zero];have hb := hJ 0 w h0 _ _ _ hv;have hlen : (bf l).length = l.length := be l;rw [hlen] at hb hv hc;have hNb : (l.length : Int) < 1000000 := by omega
  clear hl
  gi_wp2
  gi_loopw [3] (fun i wr => ∃ k : Nat, k ≤ l.length ∧ i = .int .i64 ((l.length : Int) - 1 - k) ∧ J k wr) (fun i _ => (Go.RowKit.intOf i + 1).toNat)
  case atStart => exact ⟨0, Nat.zero_le _, by simp, h0⟩
  case round =>
   obtain ⟨k, hk', rfl, hJs⟩ := hrel;by_cases hlt : k < l.length
   ·obtain ⟨i, hi⟩ : ∃ i : Nat, i + k + 1 = l.length := ⟨l.length - 1 - k, by omega⟩;have hil : i < l.length := by omega
    have ei : (l.length : Int) - 1 - k = (i : Int) := by omega
    rw [ei];clear ei;obtain ⟨s, hs⟩ : ∃ s, l[i]? = some s := ⟨l[i], List.getElem?_eq_getElem hil⟩;have hb' := hJ k wr hJs _ _ _ hv;obtain ⟨hR1, b', o', hA, hK⟩ := hf i s hs;subst hA;have hes : (l.zipIdx.reverse.map fun p => (#[.int .i64 p.2, .agg (f p.2).toArray] : Array Value))[k]? = some #[.int .i64 i, .agg (f i).toArray] := by
     have hk : k < l.zipIdx.length := by simp; omega
     rw [List.getElem?_map, List.getElem?_reverse hk];have e : l.zipIdx.length - 1 - k = i := by simp; omega
     rw [e, List.getElem?_zipIdx, hs];simp
    generalize hfi : f i = vs at hR1 hK hes;have hvl : vs.length = 7 := by rw [hR1.length]; rfl
    obtain ⟨v0, v1, v2, v3, v4, v5, v6, rfl⟩ : ∃ v0 v1 v2 v3 v4 v5 v6, vs = [v0, v1, v2, v3, v4, v5, v6] := by
     match vs, hvl with
     | [v0, v1, v2, v3, v4, v5, v6], _ => exact ⟨_, _, _, _, _, _, _, rfl⟩
    have d0 := hJ k wr hJs _ _ _ (hK 0 v0 rfl);have d1 := hJ k wr hJs _ _ _ (hK 1 v1 rfl);have d2 := hJ k wr hJs _ _ _ (hK 2 v2 rfl);have d3 := hJ k wr hJs _ _ _ (hK 3 v3 rfl);have d4 := hJ k wr hJs _ _ _ (hK 4 v4 rfl);have d5 := hJ k wr hJs _ _ _ (hK 5 v5 rfl);have d6 := hJ k wr hJs _ _ _ (hK 6 v6 rfl);simp only [Nat.add_zero] at d0;obtain ⟨fn, tmps, assign, body, hy, hR⟩ := hY (n - 1) k #[.int .i64 i, .agg #[v0, v1, v2, v3, v4, v5, v6]] wr hes hJs;have hi0 : (0 : Int) ≤ i := by omega
    clear hY hJ h0 hE hb hf hval hR1 hK
    gi_wp2
    refine ⟨fun h => by simp [Fence.wide] at h, hR.mono ?_⟩;rintro e W3 (⟨rfl, hJ3⟩ | ⟨rfl, hJx3⟩)
    ·clear hR hy
     gi_wp2
     go_roundw
     case rel => exact ⟨k + 1, by omega, by congr 1 <;> (try push_cast) <;> omega, hJ3⟩
     case measure => first | (simp [Go.RowKit.intOf]; done) | (simp [Go.RowKit.intOf]; omega)
    ·clear hR hy
     gi_wp2
     refine bodyPost_ret (results_none rfl _ _ _) rfl ?_;exact ⟨⟨_, rfl⟩, .inr ⟨_, hJx3⟩⟩
   ·have ek : k = l.length := by omega
    have e1 : (l.length : Int) - 1 - k = -1 := by omega
    rw [e1];have hJe : J l.length wr := ek ▸ hJs;clear e1 ek hJs hlt hk' hY h0 hE hb hf hval
    gi_wp2
    go_end0
    refine ⟨⟨_, rfl⟩, .inl ?_⟩;simpa using hJe
end Go.Abs
end
section
namespace Go.Abs
open Go Go.Proofs Dig
attribute [local irreducible] aH aE aO firstIdx
def nM (t : B) (r : Rc) : Bool := decide (r.kind = 1) && decide (r.target = t)
def cI (l : List Rc) (t : B) : Option Rc := l.reverse.find? (nM t)
def cu (l : List Rc) (t : B) : Rc := (cI l t).getD cE
theorem IE (l : List (List AV)) {R} (h : R (.fn (.func 148) [] [.cptr [.sl none 7 l] 0]) []) :
  ag Tryz.prog 105 [.sl none 7 l] [] R := by
 refine aa (an := SK) tab_ok Tryz.func105 ?_;conv=>whnf
 exact h
theorem E6 {l : List Rc} {i : Nat} {x : List AV} (h : (n0 l)[i]? = some x) : ∃ s k, l.reverse[i]? = some s ∧ x = [.val (.int .i64 k), .agg s.enc] := by
 unfold n0 at h;rw [List.getElem?_map, Option.map_eq_some_iff] at h;obtain ⟨p, hp, rfl⟩ := h;have h1 : (l.zipIdx.reverse.map (·.1))[i]? = some p.1 := by rw [List.getElem?_map, hp]; rfl
 rw [List.map_reverse, List.zipIdx_map_fst] at h1;exact ⟨p.1, p.2, h1, rfl⟩
theorem xA (l : List Rc) : (n0 l).length = l.length := by simp [n0]
theorem Ci {α : Type} {l : List α} {f : α → Bool} {i : Nat} {s : α} (h0 : ∀ j x, j < i → l[j]? = some x → f x = false) (h1 : l[i]? = some s) (h2 : f s = true) : l.find? f = some s := by
 induction l generalizing i with
 | nil => simp at h1
 | cons a l ih =>
  cases i with
  | zero => simp at h1; subst h1; simp [h2]
  | succ i =>
   have : f a = false := h0 0 a (by omega) rfl;simp only [List.find?_cons, this];exact ih (i := i) (fun j x hj hx => h0 (j + 1) x (by omega) (by simpa using hx)) (by simpa using h1)
theorem Ch {α : Type} {l : List α} {f : α → Bool} (h0 : ∀ j x, j < l.length → l[j]? = some x → f x = false) : l.find? f = none := by
 rw [List.find?_eq_none];intro x hx;obtain ⟨j, hj, rfl⟩ := List.getElem_of_mem hx;simp [h0 j _ hj (List.getElem?_eq_getElem hj)]
theorem qU (l : List Rc) (hl : l.length < 1000000) (hd : ∀ r ∈ l, r.deps.length < 1000000) (t : B) {R} (h : R (.tup [.agg (cu l t).enc, .val (.bool (cI l t).isSome)]) []) :
  ag Tryz.prog 60 [.sl none 7 (bf l), vs t] [] R := by
 refine ag.res ?_;refine aa (an := Ur) tab_ok Tryz.func60 ?_;conv=>whnf
 refine IE _ ?_;conv=>whnf
 refine .inl ?_;conv=>whnf
 refine ⟨n0 l, E8 l hl, ?_, ?_⟩
 ·intro x hx;simp only [n0, List.mem_map] at hx;obtain ⟨p, _, rfl⟩ := hx;rfl
 refine ⟨fun i s => s = _ ∧ ∀ j x, j < i → l.reverse[j]? = some x → nM t x = false, ⟨rfl, fun j x hj => absurd hj (Nat.not_lt_zero _)⟩, ?_, ?_⟩
 ·rintro i x s hx ⟨rfl, hno⟩;obtain ⟨s, k, hs, rfl⟩ := E6 hx;have hsl : s.deps.length < 1000000 := hd s (by rw [← List.mem_reverse]; exact List.mem_of_getElem? hs);have next : nM t s = false → ∀ j x, j < i + 1 → l.reverse[j]? = some x → nM t x = false := by
   intro hb j x hj hxj;rcases Nat.lt_or_ge j i with hji | hji
   ·exact hno j x hji hxj
   ·have : j = i := by omega
    subst this;rw [hs] at hxj
    cases hxj;exact hb
  conv=>whnf
  refine ae (fun hb => ?_) (fun hb => ?_)
  ·have hb : s.kind = 1 := by simpa using hb
   conv=>whnf
   refine ae (fun hc => ?_) (fun hc => ?_)
   ·have hc : s.target = t := bZ (of_decide_eq_true hc);have hf : cI l t = some s := Ci hno hs (by simp [nM, hb, hc]);have hr : cu l t = s := by rw [cu, hf]; rfl
    rw [hr, hf] at h;conv=>whnf
    refine fQ s hsl ?_;conv=>whnf
    refine bE ?_;exact h
   ·have hc : ¬ s.target = t := fun e => of_decide_eq_false hc (by rw [e]);conv=>whnf
    exact ⟨rfl, next (by simp [nM, hc])⟩
  ·have hb : ¬ s.kind = 1 := by simpa using hb
   conv=>whnf
   exact ⟨rfl, next (by simp [nM, hb])⟩
 ·rintro s ⟨rfl, hno⟩;have hf : cI l t = none := Ch (fun j x hj hx => hno j x (by rw [xA]; simpa using hj) hx);have hr : cu l t = cE := by rw [cu, hf]; rfl
  rw [hr, hf] at h;conv=>whnf
  exact cR (gQ (leL.cons (iE o8) (leL.refl _))) rfl h
theorem EE {l : List Rc} (hd : ∀ r ∈ l, r.deps.length < 1000000) (t : B) : (cu l t).deps.length < 1000000 := by
 unfold cu cI
 cases h : l.reverse.find? (nM t) with
 | none => decide
 | some r => exact hd r (by rw [← List.mem_reverse]; exact List.mem_of_find?_eq_some h)
def ey : List Dp → List U → Bool
 | d :: ds, h :: hs => (!d.order && decide (d.hash ≠ h)) || ey ds hs
 | _, _ => false
def fX (n : Nd) (r : Rc) (hs : List U) : Bool := decide (hs.length ≠ n.deps.length) || decide (r.deps.map (·.name) ≠ n.deps)
def uF (n : Nd) (r : Rc) (hs : List U) : Int := if r.rule ≠ n.rule then 2 else if fX n r hs = true then 3 else if ey r.deps hs = true then 4 else 0
def kQ (n : Nd) (l : List Rc) (hs : List U) : Int := if n.source = true then 0 else if (cI l n.name).isSome = false then 1 else uF n (cu l n.name) hs
theorem rK {ds : List Dp} {hs : List U} (h : hs.length = ds.length) {i : Nat} (hi : i < ds.length) :
  ey (ds.take (i + 1)) (hs.take (i + 1)) = (ey (ds.take i) (hs.take i) || (!ds[i].order && decide (ds[i].hash ≠ hs[i]))) := by
 induction ds generalizing hs i with
 | nil => simp at hi
 | cons d ds ih =>
  cases hs with
  | nil => simp at h
  | cons x hs =>
   cases i with
   | zero => simp [ey]
   | succ i => simp [ey, ih (hs := hs) (i := i) (by simpa using h) (by simpa using hi), Bool.or_assoc]
theorem rL {ds : List Dp} {hs : List U} (h : hs.length = ds.length) {i : Nat} (hi : i < ds.length) (hb : (!ds[i].order && decide (ds[i].hash ≠ hs[i])) = true) : ey ds hs = true := by
 induction ds generalizing hs i with
 | nil => simp at hi
 | cons d ds ih =>
  cases hs with
  | nil => simp at h
  | cons x hs =>
   cases i with
   | zero =>
    have hb : (!d.order && decide (d.hash ≠ x)) = true := hb;rw [ey, hb]; rfl
   | succ i =>
    have := ih (hs := hs) (i := i) (by simpa using h) (by simpa using hi) hb;rw [ey, this, Bool.or_true]
theorem Dm (x y : U) : (!((x.toNat : Int) == (y.toNat : Int))) = decide (x ≠ y) := by
 by_cases h : x = y
 ·subst h; simp
 ·have : ¬ (x.toNat : Int) = y.toNat := fun e => h (BitVec.eq_of_toNat_eq (by omega));simp [h, this]
abbrev Gr (n : Nd) (r : Rc) (b : Bool) (hs : List U) : List AV := n.enc ++ r.enc ++ [.val (.bool b), .sl none 1 (dq hs)]
theorem Qa (n : Nd) (r : Rc) (b : Bool) (hs : List U) {R} (h : R (.val (.bool (!b))) []) : ag Tryz.prog 223 [.agg (Gr n r b hs)] [] R := by
 refine aa (an := Rq) tab_ok Tryz.func223 ?_;conv=>whnf
 exact h
theorem P9 (n : Nd) (r : Rc) (b : Bool) (hs : List U) {R} (h : R (.val (.bool (decide (r.rule ≠ n.rule)))) []) : ag Tryz.prog 224 [.agg (Gr n r b hs)] [] R := by
 refine aa (an := Rp) tab_ok Tryz.func224 ?_;rw [← Dm] at h;conv=>whnf
 exact h
theorem Md (d : Dp) (s : B) {R} (h : R (.val (.bool (decide (d.name = s)))) []) : ag Tryz.prog 256 [.agg d.enc, vs s] [] R := by
 refine aa (an := Q3) tab_ok Tryz.func256 ?_;have e : decide (ofB d.name = ofB s) = decide (d.name = s) := decide_eq_decide.2 bG;rw [← e] at h;conv=>whnf
 exact h
theorem MA (ds : List Dp) (ns : List B) (hl : ds.length < 1000000) {R} (h : ∀ p, p = decide (ds.map (·.name) = ns) → R (.val (.bool p)) []) :
  ag Tryz.prog 257 [.sl none 3 (dU ds), .sl none 1 (bl ns), .fn (.func 256) [] []] [] R := by
 refine aa (an := Q2) tab_ok Tryz.func257 ?_;have hsd := bD ds;have hss := aC ns;conv=>whnf
 rw [hsd, hss];refine ae (fun hc => ?_) (fun hc => ?_)
 ·conv=>whnf
  refine h false (decide_eq_false fun e => ?_).symm;have : ds.length = ns.length := by rw [← e]; simp
  simp [this] at hc
 have hlen : ds.length = ns.length := by simp at hc; omega
 conv=>whnf
 refine aq.ind1 (fun (i : Nat) => [(17, vi i)]) (fun _ => []) (fun i => ds.length - i) (fun i => i ≤ ds.length ∧ (ds.take i).map (·.name) = ns.take i) 0 rfl ⟨by omega, by simp⟩ ?_;rintro i ⟨h0, h1⟩ IH;conv=>whnf
 refine ae (fun hc => ?_) (fun hc => ?_)
 ·have hc := ap hsd hc;have hcn : i < ns.length := by omega
  (conv=>whnf); (repeat ((with_reducible refine ac ?_ ?_); exact decide_eq_true (by omega); (conv=>whnf)))
  refine idxNat (by simpa using hc) ?_
  (conv=>whnf); (repeat ((with_reducible refine ac ?_ ?_); exact decide_eq_true (by omega); (conv=>whnf)))
  refine idxNat (by simpa using hcn) ?_;conv=>whnf
  refine Md ds[i] ns[i] ?_;conv=>whnf
  refine ae (fun he => ?_) (fun he => ?_)
  ·have he : ¬ ds[i].name = ns[i] := by simpa using he
   conv=>whnf
   refine h false (decide_eq_false fun e => he ?_).symm;have : (ds.map (·.name))[i]'(by simpa using hc) = ns[i] := by congr 1
   simpa using this
  ·have he : ds[i].name = ns[i] := by simpa using he
   conv=>whnf
   rw [al (by omega)];refine IH (i + 1) ⟨by omega, ?_⟩ (by omega);rw [List.take_succ_eq_append_getElem hc, List.take_succ_eq_append_getElem hcn, List.map_append, h1];simp [he]
 ·have hc := au hsd hc;rw [List.take_of_length_le hc, List.take_of_length_le (by omega)] at h1;conv=>whnf
  exact h true (decide_eq_true h1).symm
theorem Qc (n : Nd) (r : Rc) (b : Bool) (hs : List U) (hl : r.deps.length < 1000000) {R} (h : ∀ p, p = fX n r hs → R (.val (.bool p)) []) : ag Tryz.prog 225 [.agg (Gr n r b hs)] [] R := by
 refine aa (an := Ro) tab_ok Tryz.func225 ?_;have hsd := aC n.deps;have hsh := jz hs;conv=>whnf
 rw [hsh, hsd];refine ae (fun hc => ?_) (fun hc => ?_)
 ·conv=>whnf
  refine h true ?_;have : hs.length ≠ n.deps.length := by simp at hc; omega
  simp [fX, this]
 ·conv=>whnf
  refine MA r.deps n.deps hl fun p hp => ?_;conv=>whnf
  refine h _ ?_;have : hs.length = n.deps.length := by simp at hc; omega
  rw [hp];simp [fX, this]
theorem Qb (n : Nd) (r : Rc) (b : Bool) (hs : List U) (hl : r.deps.length < 1000000) (he : hs.length = r.deps.length) {R} (h : ∀ p, p = ey r.deps hs → R (.val (.bool p)) []) : ag Tryz.prog 226 [.agg (Gr n r b hs)] [] R := by
 refine aa (an := Rn) tab_ok Tryz.func226 ?_;have hsd := bD r.deps;have hsh := jz hs;conv=>whnf
 refine aq.ind1 (fun (i : Nat) => [(9, vi i)]) (fun _ => []) (fun i => r.deps.length - i) (fun i => i ≤ r.deps.length ∧ ey (r.deps.take i) (hs.take i) = false) 0 rfl ⟨by omega, by simp [ey]⟩ ?_;rintro i ⟨h0, h1⟩ IH;conv=>whnf
 refine ae (fun hc => ?_) (fun hc => ?_)
 ·have hc := ap hsd hc;have hch : i < hs.length := by omega
  have htk := rK he hc
  (conv=>whnf); (repeat ((with_reducible refine ac ?_ ?_); exact decide_eq_true (by omega); (conv=>whnf)))
  refine idxNat (by simpa using hc) ?_;conv=>whnf
  refine ae (fun ho => ?_) (fun ho => ?_)
  ·(conv=>whnf); (repeat ((with_reducible refine ac ?_ ?_); exact decide_eq_true (by omega); (conv=>whnf)))
   refine idxNat (by simpa using hch) ?_;conv=>whnf
   refine ae (fun hh => ?_) (fun hh => ?_)
   ·have hh : decide (r.deps[i].hash ≠ hs[i]) = true := (Dm _ _).symm.trans hh;conv=>whnf
    exact h true (rL he hc (by rw [ho, hh]; rfl)).symm
   ·have hh : decide (r.deps[i].hash ≠ hs[i]) = false := (Dm _ _).symm.trans hh;conv=>whnf
    rw [al (by omega)];exact IH (i + 1) ⟨by omega, by rw [htk, h1, hh]; simp⟩ (by omega)
  ·conv=>whnf
   rw [al (by omega)];exact IH (i + 1) ⟨by omega, by rw [htk, h1, ho]; simp⟩ (by omega)
 ·have hc := au hsd hc;rw [List.take_of_length_le hc, List.take_of_length_le (by omega)] at h1;conv=>whnf
  exact h false h1.symm
theorem uf {R} (h : R (.agg [.fn (.func 223) [] [], vi 1, .fn (.func 224) [] [], vi 2, .fn (.func 225) [] [], vi 3, .fn (.func 226) [] [], vi 4]) []) :
  ag Tryz.prog 173 [] [] R := by
 refine aa (an := RU) tab_ok Tryz.func173 ?_;conv=>whnf
 exact h
theorem Iu (n : Nd) (l : List Rc) (hl : l.length < 1000000) (hd : ∀ r ∈ l, r.deps.length < 1000000) (hs : List U) {R} (h : ∀ e, e = kQ n l hs → R (vi e) []) :
  ag Tryz.prog 130 [.agg n.enc, .sl none 7 (bf l), .sl none 1 (dq hs)] [] R := by
 refine aa (an := So) tab_ok Tryz.func130 ?_;have hrd := EE hd n.name;conv=>whnf
 refine ae (fun g => ?_) (fun g => ?_)
 ·conv=>whnf
  exact h 0 (by rw [kQ, if_pos g])
 have g : ¬ n.source = true := by simp [g]
 conv=>whnf
 refine qU l hl hd n.name ?_;generalize hr : cu l n.name = r at hrd ⊢;generalize hb : (cI l n.name).isSome = b;have hw : kQ n l hs = if b = false then 1 else uF n r hs := by rw [kQ, if_neg g, hr, hb]
 conv=>whnf
 refine uf ?_;conv=>whnf
 refine aq.step ?_;conv=>whnf
 refine Qa n r b hs ?_;conv=>whnf
 refine ae (fun q1 => ?_) (fun q1 => ?_)
 ·conv=>whnf
  exact h 1 (by rw [hw, if_pos (by simpa using q1)])
 have q1 : b = true := by simpa using q1
 rw [if_neg (by simp [q1])] at hw;conv=>whnf
 refine aq.step ?_;conv=>whnf
 refine P9 n r b hs ?_;conv=>whnf
 refine ae (fun q2 => ?_) (fun q2 => ?_)
 ·have q2 : r.rule ≠ n.rule := of_decide_eq_true q2;conv=>whnf
  exact h 2 (by rw [hw, uF, if_pos q2])
 have q2 : r.rule = n.rule := Classical.not_not.1 (of_decide_eq_false q2);conv=>whnf
 refine aq.step ?_;conv=>whnf
 refine Qc n r b hs hrd fun p hp => ?_;conv=>whnf
 refine ae (fun q3 => ?_) (fun q3 => ?_)
 ·conv=>whnf
  exact h 3 (by rw [hw, uF, if_neg (by simp [q2]), if_pos (by rw [← hp, q3])])
 have q3 : fX n r hs = false := by rw [← hp, q3]
 have hle : hs.length = r.deps.length := by
  unfold fX at q3;simp at q3;rw [q3.1, ← q3.2]; simp
 conv=>whnf
 refine aq.step ?_;conv=>whnf
 refine Qb n r b hs hrd hle fun p hp => ?_;conv=>whnf
 refine ae (fun q4 => ?_) (fun q4 => ?_)
 ·conv=>whnf
  exact h 4 (by rw [hw, uF, if_neg (by simp [q2]), if_neg (by simp [q3]), if_pos (by rw [← hp, q4])])
 have q4 : ey r.deps hs = false := by rw [← hp, q4]
 conv=>whnf
 refine aq.step ?_;conv=>whnf
 exact h 0 (by rw [hw, uF, if_neg (by simp [q2]), if_neg (by simp [q3]), if_neg (by simp [q4])])
end Go.Abs
end
section
namespace Go.Abs
open Go Go.Proofs
structure jt where
 name : ByteArray
 ran : Bool
 con : Int
def iN (s : jt) : List AV := [.val (.string s.name), .val (.bool s.ran), .val (.int .u64 s.con)]
def p8 (l : List jt) : List (List AV) := l.zipIdx.reverse.map fun p => [.val (.int .i64 p.2), .agg (iN p.1)]
theorem xH (l : List (List AV)) {R} (h : R (.fn (.func 220) [] [.cptr [.sl none 3 l] 0]) []) :
  ag Tryz.prog 171 [.sl none 3 l] [] R := by
 refine aa (an := RW) tab_ok Tryz.func171 ?_;conv=>whnf
 exact h
theorem Ie {l : List jt} {i : Nat} {x : List AV} (h : (p8 l)[i]? = some x) : ∃ s k, l.reverse[i]? = some s ∧ x = [.val (.int .i64 k), .agg (iN s)] := by
 unfold p8 at h;rw [List.getElem?_map, Option.map_eq_some_iff] at h;obtain ⟨p, hp, rfl⟩ := h;have h1 : (l.zipIdx.reverse.map (·.1))[i]? = some p.1 := by rw [List.getElem?_map, hp]; rfl
 rw [List.map_reverse, List.zipIdx_map_fst] at h1;exact ⟨p.1, p.2, h1, rfl⟩
theorem AF (l : List jt) : (p8 l).length = l.length := by simp [p8]
theorem L4 {l : List jt} {name : ByteArray} {i : Nat} {s : jt} (h0 : ∀ j x, j < i → l[j]? = some x → x.name ≠ name) (h1 : l[i]? = some s) (h2 : s.name = name) : l.find? (fun s => decide (s.name = name)) = some s := by
 induction l generalizing i with
 | nil => simp at h1
 | cons a l ih =>
  cases i with
  | zero => simp at h1; subst h1; simp [h2]
  | succ i =>
   have : a.name ≠ name := h0 0 a (by omega) rfl;simp only [List.find?_cons];have hb : decide (a.name = name) = false := by simp [this]
   rw [hb];exact ih (i := i) (fun j x hj hx => h0 (j + 1) x (by omega) (by simpa using hx)) (by simpa using h1)
theorem L3 {l : List jt} {name : ByteArray} (h0 : ∀ j x, j < l.length → l[j]? = some x → x.name ≠ name) : l.find? (fun s => decide (s.name = name)) = none := by
 rw [List.find?_eq_none];intro x hx;obtain ⟨j, hj, rfl⟩ := List.getElem_of_mem hx;simpa using h0 j _ hj (List.getElem?_eq_getElem hj)
theorem KW (l : List jt) (hit : Gx Tryz.prog 220 [.cptr [.sl none 3 (l.map iN)] 0] (p8 l)) (name : ByteArray) {R}
  (h : ∀ d : Int, d = (match l.reverse.find? (fun s => decide (s.name = name)) with | some s => s.con | none => 0) → R (.val (.int .u64 d)) []) :
  ag Tryz.prog 128 [.sl none 3 (l.map iN), .val (.string name)] [] R := by
 refine aa (an := Sr) tab_ok Tryz.func128 ?_;conv=>whnf
 refine xH _ ?_;conv=>whnf
 refine .inl ?_;conv=>whnf
 refine ⟨p8 l, hit, ?_, ?_⟩
 ·intro x hx;simp only [p8, List.mem_map] at hx;obtain ⟨p, _, rfl⟩ := hx;rfl
 refine ⟨fun i s => s = _ ∧ ∀ j x, j < i → l.reverse[j]? = some x → x.name ≠ name, ⟨rfl, fun j x hj => absurd hj (Nat.not_lt_zero _)⟩, ?_, ?_⟩
 ·rintro i x s hx ⟨rfl, hno⟩;obtain ⟨s, k, hs, rfl⟩ := Ie hx;conv=>whnf
  refine ae (fun hb => ?_) (fun hb => ?_)
  ·conv=>whnf
   exact h _ (by rw [L4 hno hs (of_decide_eq_true hb)])
  ·conv=>whnf
   refine ⟨rfl, fun j x hj hxj => ?_⟩;rcases Nat.lt_or_ge j i with hji | hji
   ·exact hno j x hji hxj
   ·have : j = i := by omega
    subst this;rw [hs] at hxj
    cases hxj;exact of_decide_eq_false hb
 ·rintro s ⟨rfl, hno⟩;conv=>whnf
  refine h _ ?_;rw [L3 (fun j x hj hx => hno j x (by rw [AF]; simpa using hj) hx)]
end Go.Abs
end
section
namespace Go.Abs
open Go Go.Proofs Go.RowKit
attribute [local go_sem] Oper.semAt_some
def pw (s : jt) : Value := .agg #[.string s.name, .bool s.ran, .int .u64 s.con]
theorem Ov {l : List jt} {i k : Nat} {s : jt} (hs : l[i]? = some s) (hi : i + k + 1 = l.length) : (l.zipIdx.reverse.map fun p => (#[.int .i64 p.2, pw p.1] : Array Value))[k]? = some #[.int .i64 i, pw s] := by
 have hk : k < l.zipIdx.length := by simp; omega
 rw [List.getElem?_map, List.getElem?_reverse hk];have e : l.zipIdx.length - 1 - k = i := by simp; omega
 rw [e, List.getElem?_zipIdx, hs];simp
theorem If (l : List jt) (hl : l.length < 1000000) : Gx Tryz.prog 220 [.cptr [.sl none 3 (l.map iN)] 0] (p8 l) := by
 refine ⟨fun args w => ir (by kernel_rfl), fun G w lb hk hr => ?_⟩;simp only [aB, Rep, fB] at hr;obtain ⟨_, _, rfl, ⟨b, o, rfl, ⟨⟨v, hv, ⟨A, c, rfl, hc, hE⟩, _⟩, _⟩, _⟩, rfl⟩ := hr;refine ⟨l.zipIdx.reverse.map fun p => #[.int .i64 p.2, pw p.1], by simp [p8], ?_, ?_⟩
 ·intro i x e hx he;unfold p8 at hx;rw [List.getElem?_map, Option.map_eq_some_iff] at hx he;obtain ⟨p, hp, rfl⟩ := hx;obtain ⟨p', hp', rfl⟩ := he;rw [hp] at hp'
  cases hp';simp only [aB, Rep, iN, pw];exact ⟨_, _, rfl, rfl, _, _, rfl, ⟨_, rfl, _, _, rfl, rfl, _, _, rfl, rfl, _, _, rfl, rfl, rfl⟩, rfl⟩
 ·intro lp n J Jx hY hJ h0;rw [show FW none = Fence.wide from rfl] at hY ⊢;refine callsIn_of_wp Tryz.func220 rfl trivial ?_ rfl;simp only [Tryz.ntmps220, List.size_toArray, List.length_cons, List.length_nil, Nat.reduceAdd, Nat.reduceSub, Array.replicate_succ, Array.replicate_zero, List.push_toArray, List.append_toArray, List.nil_append, List.cons_append, Nat.add_zero];have hb := hJ 0 w h0 _ _ _ hv;have hlen : (List.map iN l).length = l.length := by simp
  rw [hlen] at hb hv hc;have hNb : (l.length : Int) < 1000000 := by omega
  clear hl
  gi_wp2
  gi_loopw [3] (fun i wr => ∃ k : Nat, k ≤ l.length ∧ i = .int .i64 ((l.length : Int) - 1 - k) ∧ J k wr) (fun i _ => (Go.RowKit.intOf i + 1).toNat)
  case atStart => exact ⟨0, Nat.zero_le _, by simp, h0⟩
  case round =>
   obtain ⟨k, hk', rfl, hJs⟩ := hrel;by_cases hlt : k < l.length
   ·obtain ⟨i, hi⟩ : ∃ i : Nat, i + k + 1 = l.length := ⟨l.length - 1 - k, by omega⟩;have hil : i < l.length := by omega
    have ei : (l.length : Int) - 1 - k = (i : Int) := by omega
    rw [ei];clear ei;obtain ⟨s, hs⟩ : ∃ s, l[i]? = some s := ⟨l[i], List.getElem?_eq_getElem hil⟩;have hb' := hJ k wr hJs _ _ _ hv;obtain ⟨b', o', hA, _, _, hC⟩ := hE.get (i := i) (e := iN s) (by rw [List.getElem?_map, hs]; rfl);subst hA;simp only [iN, fB, Rep, Nat.zero_add, Nat.add_zero] at hC;obtain ⟨⟨_, c0, rfl⟩, ⟨_, c1, rfl⟩, ⟨_, c2, rfl⟩, _⟩ := hC;have d0 := hJ k wr hJs _ _ _ c0;have d1 := hJ k wr hJs _ _ _ c1;have d2 := hJ k wr hJs _ _ _ c2;obtain ⟨fn, tmps, assign, body, hy, hR⟩ := hY (n - 1) k #[.int .i64 i, pw s] wr (Ov hs hi) hJs;dsimp only [pw] at hy;have hi0 : (0 : Int) ≤ i := by omega
    clear hY hJ h0 hE hb
    gi_wp2
    refine ⟨fun h => by simp [Fence.wide] at h, hR.mono ?_⟩;rintro e W3 (⟨rfl, hJ3⟩ | ⟨rfl, hJx3⟩)
    ·clear hR hy
     gi_wp2
     go_roundw
     case rel => exact ⟨k + 1, by omega, by congr 1 <;> (try push_cast) <;> omega, hJ3⟩
     case measure => first | (simp [Go.RowKit.intOf]; done) | (simp [Go.RowKit.intOf]; omega)
    ·clear hR hy
     gi_wp2
     refine bodyPost_ret (results_none rfl _ _ _) rfl ?_;exact ⟨⟨_, rfl⟩, .inr ⟨_, hJx3⟩⟩
   ·have ek : k = l.length := by omega
    have e1 : (l.length : Int) - 1 - k = -1 := by omega
    rw [e1];have hJe : J l.length wr := ek ▸ hJs;clear e1 ek hJs hlt hk' hY h0 hE hb
    gi_wp2
    go_end0
    refine ⟨⟨_, rfl⟩, .inl ?_⟩;simpa using hJe
theorem Mz (l : List jt) (hl : l.length < 1000000) (name : ByteArray) {R}
  (h : ∀ d : Int, d = (match l.reverse.find? (fun s => decide (s.name = name)) with | some s => s.con | none => 0) → R (.val (.int .u64 d)) []) :
  ag Tryz.prog 128 [.sl none 3 (l.map iN), .val (.string name)] [] R := KW l (If l hl) name h
end Go.Abs
end
section
namespace Go.Abs
open Go Go.Proofs
def ml (l : List jt) (name : ByteArray) : Int := match l.reverse.find? (fun s => decide (s.name = name)) with | some s => s.con | none => 0
end Go.Abs
end
section
namespace Go.Abs
open Go Go.Proofs Dig
theorem SS (n : Nd) (l : List U) (hl : l.length ≤ 1000000) {R} (h : ∀ d, d = iH n.rule l → R (uv d) []) : ag Tryz.prog 132 [.agg n.enc, .sl none 1 (dq l)] [] R := by
 refine aa (an := Sm) tab_ok Tryz.func132 ?_;conv=>whnf
 refine Fu n.rule l hl rfl fun d hd => ?_;conv=>whnf
 exact h d hd
end Go.Abs
end
section
namespace Go.Abs
open Go Go.Proofs Dig
attribute [local irreducible] aH aE aO firstIdx
structure Sp where
 name : B
 ran : Bool
 con : U
def Sp.v (s : Sp) : jt := ⟨ofB s.name, s.ran, (s.con.toNat : Int)⟩
def sps (l : List Sp) : List (List AV) := (l.map Sp.v).map iN
theorem bB (l : List Sp) : (sps l).length = l.length := by simp [sps]
def dM (l : List Sp) (name : B) : U := match l.reverse.find? (fun s => decide (s.name = name)) with | some s => s.con | none => 0
theorem B6 (l : List Sp) (name : B) : ml (l.map Sp.v) (ofB name) = ((dM l name).toNat : Int) := by
 unfold ml dM;have e : (fun s : jt => decide (s.name = ofB name)) ∘ Sp.v = fun s : Sp => decide (s.name = name) := by
  funext s;simp only [Function.comp, Sp.v, bG]
 rw [← List.map_reverse, List.find?_map, e]
 cases l.reverse.find? (fun s => decide (s.name = name)) <;> rfl
theorem yP (l : List Sp) (hl : l.length < 1000000) (name : B) {R} (h : ∀ d, d = dM l name → R (uv d) []) : ag Tryz.prog 128 [.sl none 3 (sps l), vs name] [] R :=
 Mz (l.map Sp.v) (by simpa using hl) (ofB name) fun d hd => by
  have hd : d = ml (l.map Sp.v) (ofB name) := hd;rw [hd, B6]; exact h _ rfl
theorem w6 (l : List Nd) : ∀ (k : Nat) (out : List Nat), (∀ b ∈ out, b < l.length) → ∀ b ∈ dD l k out, b < l.length := by
 intro k
 induction k with
 | zero => intro out h; simpa [dD] using h
 | succ k ih =>
  intro out h;unfold dD;split
  ·exact h
  ·rename_i b hb;refine ih _ fun c hc => ?_;rw [List.mem_append, List.mem_singleton] at hc;rcases hc with hc | rfl
   ·exact h c hc
   ·exact (iy hb).1
theorem Bu (l : List Nd) : ∀ (k : Nat) (out : List Nat), (dD l k out).length ≤ out.length + k := by
 intro k
 induction k with
 | zero => intro out; simp [dD]
 | succ k ih =>
  intro out;unfold dD;split
  ·omega
  ·have := ih (out ++ [‹Nat›]);simp at this;omega
theorem iw {l : List Nd} {b : Nat} (h : b ∈ cn l) : b < l.length := by
 unfold cn at h;split at h
 ·exact w6 l l.length [] (by simp) b h
 ·simp at h
theorem qu (l : List Nd) : (cn l).length ≤ l.length := by
 unfold cn;split
 ·simpa [dc] using Bu l l.length []
 ·simp
theorem jn (l : List U) : (dq l).length = l.length := by simp [dq]
def Fz (es : List (ByteArray × AV)) (F : B → U) : Prop := ∀ s, cB es (ofB s) = some (uv (F s)) ∨ (cB es (ofB s) = none ∧ F s = 0)
theorem Fz.put {es : List (ByteArray × AV)} {F : B → U} (h : Fz es F) (k : B) (x : U) : Fz (dZ es (ofB k) (uv x)) (fun s => if k = s then x else F s) := by
 intro s;rw [tM];by_cases hk : k = s
 ·subst hk; simp
 ·have : ofB k ≠ ofB s := fun e => hk (bZ e);simp only [this, if_false, hk];exact h s
end Go.Abs
end
section
namespace Go.Abs
open Go Go.Proofs
theorem pv {D l : List B} (hnd : D.Nodup) (h : ∀ x ∈ D, x ∈ l) : D.length ≤ l.length := by
 induction D generalizing l with
 | nil => simp
 | cons a D ih =>
  have ha := h a (by simp);have hn := List.nodup_cons.1 hnd;have h2 := ih (l := l.erase a) hn.2 fun x hx => by
   have hxa : x ≠ a := fun e => hn.1 (e ▸ hx);exact (List.mem_erase_of_ne hxa).2 (h x (by simp [hx]))
  have h3 := List.length_erase_of_mem ha;have h4 := List.length_pos_of_mem ha;simp; omega
def qd (l : List Nd) (out : List Nat) : Prop := ∀ k b, out[k]? = some b → b < l.length ∧ ready l ((out.take k).map (nm l)) b = true
theorem qd.snoc {l : List Nd} {out : List Nat} {b : Nat} (h : qd l out) (hb : b < l.length) (hr : ready l (out.map (nm l)) b = true) : qd l (out ++ [b]) := by
 intro k c hc;rcases Nat.lt_or_ge k out.length with hk | hk
 ·rw [List.getElem?_append_left hk] at hc;rw [List.take_append_of_le_length (by omega)];exact h k c hc
 ·have hk' := (List.getElem?_eq_some_iff.1 hc).1;have e : k = out.length := by simp at hk'; omega
  subst e;simp at hc;subst hc;rw [List.take_left']
  ·exact ⟨hb, hr⟩
  ·rfl
theorem D1 {l : List Nd} : ∀ (k : Nat) (out : List Nat), qd l out → qd l (dD l k out) ∧ ((dD l k out).length = out.length + k ∨ ((dD l k out).length < out.length + k ∧ il l ((dD l k out).map (nm l)) l.length = none)) := by
 intro k
 induction k with
 | zero => intro out h; exact ⟨h, .inl rfl⟩
 | succ k ih =>
  intro out h;unfold dD
  cases hb : il l (out.map (nm l)) l.length with
  | none => exact ⟨h, .inr ⟨by simp, hb⟩⟩
  | some b =>
   obtain ⟨h1, h2⟩ := iy hb;obtain ⟨i1, i2⟩ := ih (out ++ [b]) (h.snoc h1 h2);refine ⟨i1, ?_⟩;simp only [List.length_append, List.length_cons, List.length_nil] at i2;rcases i2 with i2 | ⟨i2, i3⟩
   ·exact .inl (by simp only [i2]; omega)
   ·exact .inr ⟨by show (dD l k (out ++ [b])).length < _; omega, i3⟩
theorem mz (l : List Nd) : qd l (dc l) ∧ ((dc l).length = l.length ∨ ((dc l).length < l.length ∧ il l ((dc l).map (nm l)) l.length = none)) := by
 have := D1 (l := l) l.length [] (fun k b h => by simp at h);simpa [dc] using this
theorem qd.nodup {l : List Nd} {out : List Nat} (h : qd l out) : (out.map (nm l)).Nodup := by
 refine List.pairwise_iff_getElem.2 fun i j hi hj hij e => ?_;simp only [List.length_map] at hi hj;have h2 := (h j out[j] (List.getElem?_eq_getElem hj)).2;simp only [ready, Bool.and_eq_true, decide_eq_true_eq] at h2;refine h2.1 ?_;simp only [List.getElem_map] at e;rw [← e];refine List.mem_map.2 ⟨out[i], ?_, rfl⟩;rw [List.mem_take_iff_getElem];exact ⟨i, by omega, rfl⟩
theorem qd.deps {l : List Nd} {out : List Nat} (h : qd l out) {k : Nat} (hk : k < out.length) {d : B} (hd : d ∈ dps l out[k]) : ∃ j, ∃ (hj : j < out.length), j < k ∧ nm l out[j] = d := by
 have h2 := (h k out[k] (List.getElem?_eq_getElem hk)).2;simp only [ready, Bool.and_eq_true, decide_eq_true_eq] at h2;obtain ⟨b, hb, rfl⟩ := List.mem_map.1 (h2.2 d hd);rw [List.mem_take_iff_getElem] at hb;obtain ⟨j, hj, rfl⟩ := hb;exact ⟨j, by omega, by omega, rfl⟩
theorem wh {l : List Nd} (h : qI l ≠ false) : ∀ n ∈ l, ∀ d ∈ n.deps, d ∈ names l := fun n hn d hd => by
 have h : qI l = true := by simpa using h
 exact of_decide_eq_true (List.all_eq_true.1 (List.all_eq_true.1 h n hn) d hd)
theorem eK {l : List Nd} (h : aY l = 0) : (l.map (·.name)).Nodup ∧ (dc l).length = l.length ∧ (∀ n ∈ l, ∀ d ∈ n.deps, d ∈ names l) ∧ l.length ≤ 64 := by
 unfold aY at h;split at h
 ·cases h
 ·split at h
  ·rename_i h1 h2; exact absurd h h2
  ·rename_i h1 h2;have h2 : jO l [] = 0 := Classical.byContradiction fun e => h2 e;split at h
   ·cases h
   ·rename_i h3;split at h
    ·cases h
    ·rename_i h4;refine ⟨(nY l [] h2).1, ?_, wh h3, by omega⟩;rcases (mz l).2 with e | ⟨e, _⟩
     ·exact e
     ·exact absurd e h4
end Go.Abs
end
section
namespace Go.Abs
open Go Go.Proofs Dig
structure Dn where
 step : Sp
 why : Int
 trace : Rc
def kF (steps : List Sp) (n : Nd) : List U := n.deps.map (dM steps)
def bP (n : Nd) (state : List Rc) (steps given : List Sp) (w : U) : Dn :=
 if n.source = true then ⟨⟨n.name, false, dM given n.name⟩, 0, cE⟩
 else if kQ n state ((kF steps n).map dig) = 0 then ⟨⟨n.name, false, gS (cu state n.name).out⟩, 0, cE⟩
 else ⟨⟨n.name, true, iH n.rule (kF steps n)⟩, kQ n state ((kF steps n).map dig), dL n ((kF steps n).map dig) (iH n.rule (kF steps n)) w⟩
theorem ke (n : Nd) (state : List Rc) (steps given : List Sp) (w : U) : (bP n state steps given w).step.name = n.name := by
 unfold bP;split
 ·rfl
 ·split <;> rfl
theorem BP (n : Nd) (state : List Rc) (steps given : List Sp) (w : U) (h : (bP n state steps given w).step.ran = true) :
  (bP n state steps given w).trace = dL n ((kF steps n).map dig) (iH n.rule (kF steps n)) w ∧ n.source = false ∧ (bP n state steps given w).step.con = iH n.rule (kF steps n) := by
 unfold bP at h ⊢;split
 ·rename_i h1; rw [if_pos h1] at h; cases h
 ·rename_i h1;rw [if_neg h1] at h;split
  ·rename_i h2; rw [if_pos h2] at h; cases h
  ·exact ⟨rfl, by simpa using h1, rfl⟩
def ar (a : List Dn) : List Sp := a.map (·.step)
def aJ (a : List Dn) : List Rc := (a.filter (·.step.ran)).map (·.trace)
def Cm (l : List Nd) (state : List Rc) (given : List Sp) (w : U) (out : List Dn) (i : Nat) : List Dn :=
 match l[i]? with
 | some n => out ++ [bP n state (ar out) given w]
 | none => out
def aI (l : List Nd) (state : List Rc) (given : List Sp) (w : U) (o : List Nat) : List Dn := o.foldl (Cm l state given w) []
def b9 (l : List Nd) (state : List Rc) (given : List Sp) (w : U) : List Dn := aI l state given w (cn l)
theorem gc {l : List Nd} (state : List Rc) (given : List Sp) (w : U) {o : List Nat} {i : Nat} (hi : i < o.length) (hl : o[i] < l.length) :
  aI l state given w (o.take (i + 1)) = aI l state given w (o.take i) ++ [bP l[o[i]] state (ar (aI l state given w (o.take i))) given w] := by
 unfold aI;rw [List.take_succ_eq_append_getElem hi, List.foldl_append];simp only [List.foldl_cons, List.foldl_nil, Cm, List.getElem?_eq_getElem hl]
theorem jL {l : List Nd} (state : List Rc) (given : List Sp) (w : U) {o : List Nat} (hb : ∀ b ∈ o, b < l.length) : ∀ i, i ≤ o.length → (aI l state given w (o.take i)).length = i := by
 intro i
 induction i with
 | zero => intro _; simp [aI]
 | succ i ih =>
  intro h;rw [gc state given w (show i < o.length by omega) (hb _ (List.getElem_mem _)), List.length_append, ih (by omega)];rfl
theorem J5 {l : List Nd} (state : List Rc) (given : List Sp) (w : U) {o : List Nat} (hb : ∀ b ∈ o, b < l.length) {i : Nat} (hi : i ≤ o.length) : ∀ k, i + k ≤ o.length → (aI l state given w (o.take (i + k))).take i = aI l state given w (o.take i) := by
 intro k
 induction k with
 | zero =>
  intro _;have h := jL state given w hb _ hi;rw [Nat.add_zero, List.take_of_length_le (by omega)]
 | succ k ih =>
  intro h;rw [show i + (k + 1) = (i + k) + 1 from rfl, gc state given w (show i + k < o.length by omega) (hb _ (List.getElem_mem _)), List.take_append_of_le_length (by rw [jL state given w hb _ (by omega)]; omega)];exact ih (by omega)
theorem jK {l : List Nd} (state : List Rc) (given : List Sp) (w : U) {o : List Nat} (hb : ∀ b ∈ o, b < l.length) {i : Nat} (hi : i ≤ o.length) : (aI l state given w o).take i = aI l state given w (o.take i) := by
 have := J5 state given w hb hi (o.length - i) (by omega);rwa [show i + (o.length - i) = o.length by omega, List.take_length] at this
theorem eI {l : List Nd} (state : List Rc) (given : List Sp) (w : U) {o : List Nat} (hb : ∀ b ∈ o, b < l.length) : (aI l state given w o).length = o.length := by
 have := jL state given w hb o.length (Nat.le_refl _);rwa [List.take_length] at this
theorem kw {l : List Nd} (state : List Rc) (given : List Sp) (w : U) {o : List Nat} (hb : ∀ b ∈ o, b < l.length) {i : Nat} (hi : i < o.length) :
  (aI l state given w o)[i]? = some (bP (l[o[i]]'(hb _ (List.getElem_mem _))) state (ar ((aI l state given w o).take i)) given w) := by
 have h1 := jK state given w hb (show i + 1 ≤ o.length by omega);rw [gc state given w hi (hb _ (List.getElem_mem _))] at h1;have hlen := jL state given w hb i (by omega);rw [jK state given w hb (Nat.le_of_lt hi)];have h2 := congrArg (fun x => x[i]?) h1;simp only [List.getElem?_take, Nat.lt_succ_self, if_true] at h2;rw [h2, List.getElem?_append_right (by omega), hlen, Nat.sub_self];rfl
theorem aX (a : List Dn) (d : Dn) : ar (a ++ [d]) = ar a ++ [d.step] := by simp [ar]
theorem fK (a : List Dn) : (aJ a).length ≤ a.length := by
 unfold aJ;simp only [List.length_map];exact List.length_filter_le _ _
theorem CB {l : List Nd} (state : List Rc) (given : List Sp) (w : U) {o : List Nat} (hb : ∀ b ∈ o, b < l.length) : (ar (aI l state given w o)).map (·.name) = o.map (nm l) := by
 refine List.ext_getElem? fun i => ?_;rcases Nat.lt_or_ge i o.length with hi | hi
 ·simp only [ar, List.map_map, List.getElem?_map, kw state given w hb hi, Option.map_some, Function.comp, ke, List.getElem?_eq_getElem hi];rw [eZ (hb _ (List.getElem_mem _))]
 ·rw [List.getElem?_eq_none (by simpa [ar, eI state given w hb] using hi), List.getElem?_eq_none (by simpa using hi)]
theorem oT {l : List Nd} (h : aY l = 0) : ((cn l).map (nm l)).Nodup := by
 rw [cn, if_pos h];exact (mz l).1.nodup
theorem jy {l : List Nd} (h : aY l = 0) : (cn l).length = l.length := by
 rw [cn, if_pos h]; exact (eK h).2.1
end Go.Abs
end
section
namespace Go.Abs
open Go Go.Proofs Go.Sort
def Ah (G : Gh) (w : World) : dX := ⟨G, w, fun b => ∃ n, G.at n b, True⟩
theorem JB {G : Gh} {os : List aF} {w : World} (hW : WR G (bC 0 os) w) : Inv (Ah G w) ⟨[], bC 0 os⟩ G { tmps := #[], defers := [] } w :=
 ⟨by simp [aB], nu.nil _ _ _, hW, Gh.le.refl _, ⟨rfl, rfl, rfl, Nat.le_refl _, fun _ _ _ => rfl, fun _ _ _ _ => rfl⟩, fun n b hb => .inl ⟨n, hb⟩⟩
theorem BH {P : Program} {f : FuncId} {args : List AV} {os : List aF} {R : AV → List aF → Prop}
  (h : ∀ (G : Gh) (w : World) (vals : List Value), WR G (bC 0 os) w → aB G args vals → Calls P f vals.toArray w fun e w' => ∃ (v : Value) (r : AV) (os' : List aF) (G' : Gh), e = .returned v ∧ R r os' ∧ Rep G' r v ∧
   Inv (Ah G w) ⟨[], bC 0 os'⟩ G' { tmps := #[], defers := [] } w' ∧ (∀ (i : Nat) (o : aF), os'[i]? = some o → ∀ m ∈ cf o, m < os'.length) ∧ ∀ m ∈ r.names, m < os'.length) : ag P f args os R :=
 ⟨fun G w vals hW hA => (h G w vals hW hA).mono fun e w' ⟨v, r, os', G', h1, h2, h3, h4, h5, h6⟩ => ⟨v, r, os', G', h1, h2, h3, h4.wr, h4.le, h4.ext, h4.newb, h5, h6⟩⟩
def fp (l : List B) : List B := l.mergeSort fun x y => decide (x ≤ y)
theorem xM (G : Gh) (l : List B) (vs : List Value) : aB G (bl l).flatten vs ↔ vs = l.map encStr := by
 induction l generalizing vs with
 | nil => simp [bl, aB]
 | cons s l ih =>
  simp only [bl, List.map_cons, List.flatten_cons, List.cons_append, List.nil_append, aB, Rep];constructor
  ·rintro ⟨v, us, rfl, h, h2⟩;have := (ih us).1 h2;simp only [vs] at h;rw [this, h];rfl
  ·rintro rfl;exact ⟨_, _, rfl, rfl, (ih _).2 rfl⟩
theorem x7 {K : Nat → Nat → Option Value} {ob : Nm → Option GO} {g : Nat} : ∀ (ss : List B) (i : Nat), (∀ j s, ss[j]? = some s → K g (i + j) = some (encStr s)) → d9 ⟨K, ob⟩ 1 (some ⟨g, 0, none⟩) i (bl ss)
 | [], _, _ => trivial
 | s :: ss, i, h => by
  refine ⟨⟨g, 0, rfl, rfl, rfl, ⟨encStr s, by have := h 0 s rfl; simpa using this, rfl⟩, trivial⟩, x7 ss (i + 1) fun j s' hs => ?_⟩;have := h (j + 1) s' (by simpa using hs);rw [show i + 1 + j = i + (j + 1) by omega];exact this
end Go.Abs
end
section
namespace Go.Proofs
open Go.Shelf
def Tryz.lays190_ren : Go.Shelf.Ren := ⟨fun | 190 => 112 | 125 => 153 | 258 => 152 | 128 => 199 | 129 => 200 | 302 => 190 | 303 => 191 | 304 => 192 | 305 => 193 | 306 => 194 | 307 => 195 | 308 => 196 | 309 => 197 | 310 => 198 | 333 => 237 | 329 => 238 | 330 => 239 | 334 => 240 | 335 => 241 | 336 => 242 | 344 => 264 | n => n, fun | 31 => 71 | 9 => 9 | 3 => 3 | 46 => 83 | 0 => 0 | 51 => 285 | 53 => 33 | 4 => 4 | 183 => 279 | 182 => 278 | 131 => 178 | 5 => 5 | 218 => 320 | 222 => 324 | 228 => 349 | 229 => 271 | n => n, fun | n => n⟩
theorem Tryz.lays190 : Go.Proofs.Lays.n190 Tryz.prog Tryz.lays190_ren := {
  mixed := by kernel_rfl
  f125 := Tryz.func153.trans (congrArg some (by kernel_rfl))
  f128 := Tryz.func199.trans (congrArg some (by kernel_rfl))
  f129 := Tryz.func200.trans (congrArg some (by kernel_rfl))
  f190 := Tryz.func112.trans (congrArg some (by kernel_rfl))
  f258 := Tryz.func152.trans (congrArg some (by kernel_rfl))
  f302 := Tryz.func190.trans (congrArg some (by kernel_rfl))
  f303 := Tryz.func191.trans (congrArg some (by kernel_rfl))
  f304 := Tryz.func192.trans (congrArg some (by kernel_rfl))
  f305 := Tryz.func193.trans (congrArg some (by kernel_rfl))
  f306 := Tryz.func194.trans (congrArg some (by kernel_rfl))
  f307 := Tryz.func195.trans (congrArg some (by kernel_rfl))
  f308 := Tryz.func196.trans (congrArg some (by kernel_rfl))
  f309 := Tryz.func197.trans (congrArg some (by kernel_rfl))
  f310 := Tryz.func198.trans (congrArg some (by kernel_rfl))
  f329 := Tryz.func238.trans (congrArg some (by kernel_rfl))
  f330 := Tryz.func239.trans (congrArg some (by kernel_rfl))
  f333 := Tryz.func237.trans (congrArg some (by kernel_rfl))
  f334 := Tryz.func240.trans (congrArg some (by kernel_rfl))
  f335 := Tryz.func241.trans (congrArg some (by kernel_rfl))
  f336 := Tryz.func242.trans (congrArg some (by kernel_rfl))
  f344 := Tryz.func264.trans (congrArg some (by kernel_rfl))
  t0 := Tryz.underlying0
  a0 := Tryz.isAgg0
  z0 := Tryz.sizeOf0
  v0 := Tryz.zeroValue0
  t3 := Tryz.underlying3
  a3 := Tryz.isAgg3
  z3 := Tryz.sizeOf3
  v3 := Tryz.zeroValue3
  t4 := Tryz.underlying4
  a4 := Tryz.isAgg4
  z4 := Tryz.sizeOf4
  v4 := Tryz.zeroValue4
  t5 := Tryz.underlying5
  a5 := Tryz.isAgg5
  z5 := Tryz.sizeOf5
  v5 := Tryz.zeroValue5
  t9 := Tryz.underlying9
  a9 := Tryz.isAgg9
  z9 := Tryz.sizeOf9
  v9 := Tryz.zeroValue9
  t31 := Tryz.underlying71
  a31 := Tryz.isAgg71
  z31 := Tryz.sizeOf71
  v31 := Tryz.zeroValue71
  t46 := Tryz.underlying83
  a46 := Tryz.isAgg83
  z46 := Tryz.sizeOf83
  v46 := Tryz.zeroValue83
  t51 := Tryz.underlying285
  a51 := Tryz.isAgg285
  z51 := Tryz.sizeOf285
  v51 := Tryz.zeroValue285
  t53 := Tryz.underlying33
  a53 := Tryz.isAgg33
  z53 := Tryz.sizeOf33
  v53 := Tryz.zeroValue33
  t131 := Tryz.underlying178
  a131 := Tryz.isAgg178
  z131 := Tryz.sizeOf178
  v131 := Tryz.zeroValue178
  t182 := Tryz.underlying278
  a182 := Tryz.isAgg278
  z182 := Tryz.sizeOf278
  v182 := Tryz.zeroValue278
  t183 := Tryz.underlying279
  a183 := Tryz.isAgg279
  z183 := Tryz.sizeOf279
  v183 := Tryz.zeroValue279
  t218 := Tryz.underlying320
  a218 := Tryz.isAgg320
  z218 := Tryz.sizeOf320
  v218 := Tryz.zeroValue320
  t222 := Tryz.underlying324
  a222 := Tryz.isAgg324
  z222 := Tryz.sizeOf324
  v222 := Tryz.zeroValue324
  t228 := Tryz.underlying349
  a228 := Tryz.isAgg349
  z228 := Tryz.sizeOf349
  v228 := Tryz.zeroValue349
  t229 := Tryz.underlying271
  a229 := Tryz.isAgg271
  z229 := Tryz.sizeOf271
  v229 := Tryz.zeroValue271 }
open Go.Sort Go.RowKit in
theorem Tryz.slices_Sort_string (blk off cap : Nat) (ss : List (List UInt8)) (w : World) (hH : Holds encStr w blk off ss.toArray) (hblk : blk < w.heap.size) (hsz : ss.length < 4611686018427387904) :
    Calls Tryz.prog 112 #[.slice (some ⟨blk, off, none⟩) ss.length cap] w fun e w' =>
      e = .returned (.tuple #[]) ∧ ∃ n os, w' = grow (putRow encStr (Sort.ahead w n) blk off (ss.mergeSort fun x y => decide (x ≤ y)).toArray) os := Any.slices_Sort_string Tryz.lays190 blk off cap ss w hH hblk hsz
open Go.RowKit Go.Sort in
theorem Tryz.slices_Sort_string_none (p : Option Addr) (cap : Nat) (w : World) :
    Calls Tryz.prog 112 #[.slice p 0 cap] w fun e w' => e = .returned (.tuple #[]) ∧ w' = w := Any.slices_Sort_string_none Tryz.lays190 p cap w
end Go.Proofs
end
section
namespace Go.Abs
open Go Go.Proofs Go.Sort
theorem Fp (l : List B) (ver : Nat) (hl : l.length < 1000000) {R} (h : R (.tup []) [.vec 9 1 (bl (fp l)) ver]) :
  ag Tryz.prog 112 [.slv 0 1 ver 0 l.length] [.vec 9 1 (bl l) ver] R := by
 refine BH fun G w vals hW hA => ?_;have hI := JB hW;obtain ⟨u, xs, e1, e2, e3, e4, e5⟩ := hW.obj 0 (.vec 9 1 (bl l) ver) rfl;have hsl := aC l;have hx : xs = l.map encStr := (xM G l xs).1 e3;subst hx;simp only [aB, Rep] at hA;obtain ⟨v, _, rfl, ⟨_, u', top, q1, q2, q3⟩, rfl⟩ := hA;rw [e1] at q1;injection q1 with q1
 injection q1 with q1 q1'
 subst q1 q1';rw [hsl] at e2;have hv : v = u := by
  obtain ⟨A, L, c, A', hu, hL, hLc, hve, hA0, _⟩ := q3 rfl;have hA0 := hA0 rfl;have hLl : L = l.length := by
   rcases e2.2 with ⟨hn, h0⟩ | ⟨g, cap, cur, hn, _⟩
   ·rw [hn] at hu; injection hu with _ q2 _; omega
   ·rw [hn] at hu; injection hu with _ q2 _; omega
  rw [hve, hu, hLl, hA0]; rfl
 subst hv;have hsort : (fp l).length = l.length := by simp [fp]
 have hsls := aC (fp l);have hok : ∀ e ∈ bl (fp l), e.length = 1 ∧ bS e = true := fun e he => by
  obtain ⟨s, _, rfl⟩ := List.mem_map.1 he;exact ⟨rfl, rfl⟩
 rcases e2.2 with ⟨rfl, hz⟩ | ⟨g, cap, cur, rfl, hbase, hgb, r1, r2, r3, r4⟩
 ·have hnil : l = [] := List.eq_nil_of_length_eq_zero hz;subst hnil;refine (Tryz.slices_Sort_string_none none 0 w).mono ?_;rintro e w' ⟨rfl, rfl⟩;refine ⟨_, .tup [], _, G, rfl, h, by simp only [Rep]; exact ⟨[], rfl, by simp [aB]⟩, ?_, ?_, by simp [AV.names, cK]⟩
  ·have : fp ([] : List B) = [] := by simp [fp]
   rw [this];exact hI
  ·intro i o ho m hm
   cases i with
   | zero => simp at ho; subst ho; simp [cf] at hm
   | succ i => simp at ho
 ·have hH := holds_of_block (w := w) (ss := l) hgb (by simpa using r4);have hglt : g < w.heap.size := (Array.getElem?_eq_some_iff.1 hgb).1;refine (Tryz.slices_Sort_string g 0 cap l w hH hglt (by omega)).mono ?_;rintro e w' ⟨rfl, n, os, rfl⟩;have hown := ownsRow_sorted (n := n) (os := os) (ss := l) (ts := fp l) hsort hbase hgb r1 r2 (by simpa using r3);have hgr := grownBy_sorted (w := w) (g := g) (n := n) (os := os) (fp l).toArray;have hat : ∀ b, G.at 0 b ↔ b = g := fun b => by
   constructor
   ·rintro (h1 | ⟨u1, t1, h1, h2⟩)
    ·rw [e1] at h1; cases h1
    ·rw [e1] at h1; cases h1; simp [Value.ownBlock] at h2; exact h2.symm
   ·rintro rfl; exact .inr ⟨_, _, e1, rfl⟩
  have heq : (⟨G.K, aN G.ob 0 (.rowv (.slice (some ⟨g, 0, none⟩) l.length cap) ver)⟩ : Gh) = G := by
   cases G with
   | mk K ob =>
    congr 1;funext m;by_cases hm : m = 0
    ·subst hm; simp [aN]; exact e1.symm
    ·simp [aN, hm]
  have hI' := hI.setObj (w' := grow (putRow encStr (Sort.ahead w n) g 0 (fp l).toArray) os) (n := 0) (o := .vec 9 1 (bl l) ver) (o' := .vec 9 1 (bl (fp l)) ver) (objs' := bC 0 [.vec 9 1 (bl (fp l)) ver]) (g := .rowv (.slice (some ⟨g, 0, none⟩) l.length cap) ver) (K' := G.K)
   rfl hgr.os hgr.tape hgr.output hgr.size (fun b hb hnat => hgr.block b hb (fun e => hnat ((hat b).2 (by injection e)))) (fun _ _ _ _ => rfl)
   (by rw [heq]; exact Gh.le.refl G)
   (fun b o v hb ev => by
    rcases hb with hb | hb
    ·have := hI.wr.kltb ev; omega
    ·rw [(hat b).1 hb, e5 g rfl o] at ev; cases ev)
   (fun m => by
    by_cases hm : m = 0
    ·subst hm; rfl
    ·simp only [hm, if_false];have : Nat.beq 0 m = false := by
      cases m with
      | zero => exact absurd rfl hm
      | succ m => rfl
     simp [bC, az, this])
   (by
    rw [heq];refine ⟨_, (fp l).map encStr, e1, by rw [hsls, hsort]; exact hown, (xM _ _ _).2 rfl, hok, fun g' hg' o => ?_⟩;simp [Value.ownBlock] at hg';subst hg';exact e5 _ rfl o)
   (fun b hb => by rw [heq] at hb; exact .inr hb)
  rw [heq] at hI';refine ⟨_, .tup [], _, G, rfl, h, by simp only [Rep]; exact ⟨[], rfl, by simp [aB]⟩, hI', ?_, by simp [AV.names, cK]⟩;intro i o ho m hm
  cases i with
  | zero => simp at ho; subst ho; simp [cf] at hm
  | succ i => simp at ho
end Go.Abs
end
section
namespace Go.Abs
open Go Go.Proofs Dig
attribute [local irreducible] aH aE aO firstIdx
theorem tL {l : List Nat} {n : Nat} (h : l.Nodup) (hb : ∀ x ∈ l, x < n) : l.length ≤ n := by
 have hp : l.Perm ((List.range n).filter fun x => decide (x ∈ l)) := by
  refine (List.perm_ext_iff_of_nodup h (List.nodup_range.filter _)).2 fun a => ?_;simp;exact fun ha => hb a ha
 rw [hp.length_eq];exact Nat.le_trans (List.length_filter_le _ _) (by simp)
abbrev iK := List (B × Rc)
def mA (mp : iK) : List (ByteArray × AV) := mp.map fun p => (ofB p.1, .agg p.2.enc)
def ib (mp : iK) : List B := mp.map (·.1)
def rF (mp : iK) (k : B) : Option Rc := (mp.find? fun p => decide (p.1 = k)).map (·.2)
def tN (mp : iK) (k : B) : Rc := (rF mp k).getD cE
theorem GU (mp : iK) (k : B) : cB (mA mp) (ofB k) = (rF mp k).map fun r => .agg r.enc := by
 induction mp with
 | nil => rfl
 | cons p mp ih =>
  unfold mA at ih ⊢;simp only [List.map_cons, cB, rF, List.find?_cons];by_cases h : p.1 = k
  ·simp [h]
  ·have : ofB p.1 ≠ ofB k := fun e => h (bZ e);simp only [this, if_false, h, decide_false, ih];rfl
theorem yr {mp : iK} {k : B} (h : k ∈ ib mp) : ∃ r, rF mp k = some r := by
 obtain ⟨p, hp, rfl⟩ := List.mem_map.1 h
 cases hf : mp.find? fun q => decide (q.1 = p.1) with
 | none => exact absurd (List.find?_eq_none.1 hf p hp) (by simp)
 | some q => exact ⟨q.2, by simp [rF, hf]⟩
theorem y9 (mp : iK) (hm : mp.length < 1000000) {R} (h : ∀ ks, ks.Perm (ib mp) → ks = fp ks → R (.sl none 7 (bf (ks.map (tN mp)))) [.map (mA mp)]) :
  ag Tryz.prog 135 [.mapv 0] [.map (mA mp)] R := by
 refine aa (an := Sj) tab_ok Tryz.func135 ?_;have hml : (mA mp).length = mp.length := by simp [mA]
 conv=>whnf
 intro ms clock;refine aq.ind2 (fun (seen : List Nat) (keys : List B) => [(3, .slv (ak 3) 1 keys.length 0 keys.length)]) (fun seen keys => [(0, .mapc (mA mp) ms clock), (ak 3, .vec 9 1 (bl keys) keys.length), (ak 9, .iter 0 ms clock seen)])
  (fun seen _ => mp.length - seen.length) (fun seen keys => seen.Nodup ∧ (∀ i ∈ seen, i < mp.length) ∧ keys = seen.reverse.map fun i => ((mp[i]?).map (·.1)).getD []) [] [] rfl ⟨by simp, by simp, rfl⟩ ?_
 rintro seen keys ⟨hnd, hbd, hkeys⟩ IH;have hkl : keys.length = seen.length := by rw [hkeys]; simp
 have hsb := tL hnd hbd;have hsk := aC keys;conv=>whnf
 refine ⟨⟨rfl, rfl⟩, fun hall => ?_, fun i e he hns => ?_⟩
 ·have hperm : keys.Perm (ib mp) := by
   have h1 : seen.Perm (List.range mp.length) := (List.perm_ext_iff_of_nodup hnd List.nodup_range).2 fun a => by
    rw [List.mem_range];exact ⟨hbd a, fun ha => hall a (by rw [hml]; exact ha)⟩
   have h2 : (List.range mp.length).map (fun i => ((mp[i]?).map (·.1)).getD []) = ib mp := by
    apply List.ext_getElem
    ·simp [ib]
    ·intro i h1 h2;have hi : i < mp.length := by simpa using h1
     simp [ib, List.getElem?_eq_getElem hi]
   rw [hkeys, ← h2];exact ((List.reverse_perm seen).trans h1).map _
  clear IH;conv=>whnf
  refine Fp keys keys.length (by omega) ?_;generalize hks : fp keys = ks;have hkp : ks.Perm keys := by rw [← hks]; exact List.mergeSort_perm _ _
  have hkl2 : ks.length = keys.length := hkp.length_eq;have hks2 : ks = fp ks := by
   rw [← hks];exact (List.mergeSort_of_pairwise (List.pairwise_mergeSort (fun a b c h1 h2 => by simp at h1 h2 ⊢; exact List.le_trans h1 h2) (fun a b => by simp; exact List.le_total a b) keys)).symm
  have hskk := aC ks;have hbt : (tab.ti 67).bytes = 88 := rfl;conv=>whnf
  refine aq.ind2 (fun (i : Nat) (out : List Rc) => [(5, .sl (some (ak 5)) 7 (bf out)), (22, vi i)]) (fun i out => [(0, .map (mA mp)), (ak 3, .vec 9 1 (bl ks) keys.length), (ak 5, .row 67 7 out.length)])
   (fun i _ => ks.length - i) (fun i out => i ≤ ks.length ∧ out = (ks.take i).map (tN mp)) 0 [] rfl ⟨by omega, by simp⟩ ?_
  rintro i out ⟨h0, ho⟩ IH;have hol := be out;have hoi : out.length = i := by rw [ho]; simp; omega
  conv=>whnf
  refine ae (fun hc => ?_) (fun hc => ?_)
  ·have hc : i < ks.length := by simp at hc; omega
   (conv=>whnf); (repeat ((with_reducible refine ac ?_ ?_); exact decide_eq_true (by omega); (conv=>whnf)))
   refine ⟨rfl, ab (show 0 + (i : Int).toNat < ks.length by simpa using hc) ?_⟩;rw [show ks[0 + (i : Int).toNat]'(by simpa using hc) = ks[i] from by congr 1; simp];obtain ⟨r, hr⟩ := yr (mp := mp) (k := ks[i]) ((hkp.trans hperm).mem_iff.1 (List.getElem_mem hc));have hz : tN mp ks[i] = r := by rw [tN, hr]; rfl
   have hf : cB (mA mp) (ofB ks[i]) = some (.agg r.enc) := by rw [GU, hr]; rfl
   conv=>whnf
   rw [hf];conv=>whnf
   refine ⟨hol.symm, (by rw [hol]; show (out.length + 1) * (88 + 1) ≤ _; omega), ?_⟩;conv=>whnf
   have e1 : bf (out ++ [r]) = bf out ++ [r.enc] := by simp [bf]
   have e2 : (out ++ [r]).length = (bf out).length + [r.enc].length := by simp [hol]
   have := IH (i + 1) (out ++ [r]) ⟨by omega, by rw [List.take_succ_eq_append_getElem hc, List.map_append, ho]; simp [hz]⟩ (by omega);rw [e1, e2] at this;rw [al (by omega)];exact this
  ·have hc : ks.length ≤ i := by simp at hc; omega
   rw [List.take_of_length_le hc] at ho;conv=>whnf
   rw [ho];exact h ks (hkp.trans hperm) hks2
 ·obtain ⟨p, hp, rfl⟩ : ∃ p, mp[i]? = some p ∧ (ofB p.1, AV.agg p.2.enc) = e := by
   unfold mA at he;rw [List.getElem?_map, Option.map_eq_some_iff] at he;exact he
  have hil : i < mp.length := (List.getElem?_eq_some_iff.1 hp).1;conv=>whnf
  refine ⟨⟨rfl, rfl⟩, gH.2 ⟨_, he, ?_⟩⟩;conv=>whnf
  refine ⟨⟨rfl, rfl, Nat.le_of_eq hsk.symm⟩, (by show (keys.length + 1) * (16 + 1) ≤ _; omega), ?_⟩;conv=>whnf
  rw [List.take_of_length_le (Nat.le_of_eq hsk)];have e1 : bl keys ++ [[AV.val (Value.string (ofB p.1))]] = bl (keys ++ [p.1]) := by simp [bl, vs]
  have e2 : keys.length + [[AV.val (Value.string (ofB p.1))]].length = (keys ++ [p.1]).length := by simp
  rw [e1, e2, show keys.length + 1 = (keys ++ [p.1]).length by simp];refine IH (i :: seen) (keys ++ [p.1]) ⟨List.nodup_cons.2 ⟨hns, hnd⟩, ?_, ?_⟩ (by
   have := tL (n := mp.length) (List.nodup_cons.2 ⟨hns, hnd⟩) (by
    intro x hx;rw [List.mem_cons] at hx;rcases hx with rfl | hx
    ·exact hil
    ·exact hbd x hx)
   simp at this ⊢;omega)
  ·intro x hx;rw [List.mem_cons] at hx;rcases hx with rfl | hx
   ·exact hil
   ·exact hbd x hx
  ·rw [List.reverse_cons, List.map_append, ← hkeys];simp [hp]
end Go.Abs
end
section
namespace Go.Abs
open Go Go.Proofs
theorem En (a b : B) : ltB a b = decide (a < b) := bytesLess_eq a b
theorem AG {a b : B} (h : ¬ a < b) (hn : b ≠ a) : b < a := by
 refine Classical.byContradiction fun h2 => hn ?_;exact List.le_antisymm (show b ≤ a from h) (show a ≤ b from h2)
def bN (r : Rc) : Bool → List Rc → List Rc
 | laid, [] => if laid = true then [] else [r]
 | laid, s :: S => (if (!laid && ltB r.target s.target) = true then [r] else []) ++ ((if s.target = r.target then [] else [s]) ++ bN r (laid || (!laid && ltB r.target s.target)) S)
def cL (S : List Rc) (r : Rc) : List Rc := if r.kind ≠ 1 ∧ r.kind ≠ 2 then S else bN r (decide (r.kind = 2)) S
def ax (l : List Rc) : List Rc := l.foldl cL []
abbrev Srt (S : List Rc) : Prop := S.Pairwise fun a b => a.target < b.target
theorem Jw {p : Prop} [Decidable p] {x r : Rc} : x ∈ (if p then [r] else []) ↔ p ∧ x = r := by by_cases h : p <;> simp [h]
theorem Jv {p : Prop} [Decidable p] {x r : Rc} : x ∈ (if p then [] else [r]) ↔ ¬ p ∧ x = r := by by_cases h : p <;> simp [h]
theorem gi (r : Rc) : ∀ (S : List Rc) (laid : Bool) (x : Rc), x ∈ bN r laid S ↔ (laid = false ∧ x = r) ∨ (x ∈ S ∧ x.target ≠ r.target) := by
 intro S
 induction S with
 | nil => intro laid x; cases laid <;> simp [bN]
 | cons s S ih =>
  intro laid x;simp only [bN, List.mem_append, ih, List.mem_cons, Jw, Jv];generalize hL : (!laid && ltB r.target s.target) = L;have h1 : L = true → laid = false := by
   intro e;rw [e] at hL
   cases laid
   ·rfl
   ·simp at hL
  constructor
  ·rintro (⟨h, rfl⟩ | ⟨h, rfl⟩ | ⟨h, rfl⟩ | ⟨h, h'⟩)
   ·exact .inl ⟨h1 h, rfl⟩
   ·exact .inr ⟨.inl rfl, h⟩
   ·exact .inl ⟨by cases laid <;> simp_all, rfl⟩
   ·exact .inr ⟨.inr h, h'⟩
  ·rintro (⟨h, rfl⟩ | ⟨rfl | h, h'⟩)
   ·cases hq : L
    ·exact .inr (.inr (.inl ⟨by simp [h], rfl⟩))
    ·exact .inl ⟨rfl, rfl⟩
   ·exact .inr (.inl ⟨h', rfl⟩)
   ·exact .inr (.inr (.inr ⟨h, h'⟩))
theorem Cu (r : Rc) : ∀ (S : List Rc) (laid : Bool), Srt S → (laid = true → ∀ s ∈ S, r.target < s.target ∨ s.target = r.target ∨ s.target < r.target) → Srt (bN r laid S) := by
 intro S
 induction S with
 | nil => intro laid _ _; cases laid <;> simp [bN, Srt]
 | cons s S ih =>
  intro laid hS hl;have hS' := List.pairwise_cons.1 hS;have hrec : ∀ b, Srt (bN r b S) := fun b => ih b hS'.2 fun _ x _ => by
   by_cases h1 : r.target < x.target
   ·exact .inl h1
   ·by_cases h2 : x.target = r.target
    ·exact .inr (.inl h2)
    ·exact .inr (.inr (AG h1 h2))
  simp only [bN]
  cases hL : (!laid && ltB r.target s.target)
  ·simp only [Bool.or_false, Bool.false_eq_true, if_false, List.nil_append];by_cases hs : s.target = r.target
   ·simp only [hs, if_true, List.nil_append];exact hrec laid
   ·simp only [hs, if_false, List.cons_append, List.nil_append];refine List.pairwise_cons.2 ⟨fun x hx => ?_, hrec laid⟩;rcases (gi r S laid x).1 hx with ⟨h, rfl⟩ | ⟨h, _⟩
    ·rw [h] at hL;simp only [Bool.not_false, Bool.true_and, En, decide_eq_false_iff_not] at hL;exact AG hL hs
    ·exact hS'.1 x h
  ·have hlt : r.target < s.target := by
    simp only [Bool.and_eq_true, En, decide_eq_true_eq] at hL;exact hL.2
   have hs : ¬ s.target = r.target := fun e => List.lt_irrefl _ (e ▸ hlt);simp only [Bool.or_true, if_true, hs, if_false, List.cons_append, List.nil_append];have hnr : ∀ x ∈ bN r true S, x ∈ S := fun x hx => by
    rcases (gi r S true x).1 hx with ⟨h, _⟩ | ⟨h, _⟩
    ·cases h
    ·exact h
   refine List.pairwise_cons.2 ⟨fun x hx => ?_, List.pairwise_cons.2 ⟨fun x hx => hS'.1 x (hnr x hx), hrec true⟩⟩;rw [List.mem_cons] at hx;rcases hx with rfl | hx
   ·exact hlt
   ·exact List.lt_trans hlt (hS'.1 x (hnr x hx))
theorem EN {S : List Rc} (r : Rc) (h : Srt S) : Srt (cL S r) := by
 unfold cL;split
 ·exact h
 ·refine Cu r S _ h fun _ x _ => ?_;by_cases h1 : r.target < x.target
  ·exact .inl h1
  ·by_cases h2 : x.target = r.target
   ·exact .inr (.inl h2)
   ·exact .inr (.inr (AG h1 h2))
def sK : iK → B → Rc → iK
 | [], k, r => [(k, r)]
 | p :: mp, k, r => if p.1 = k then (k, r) :: mp else p :: sK mp k r
def sY : iK → B → iK
 | [], _ => []
 | p :: mp, k => if p.1 = k then mp else p :: sY mp k
def qp (mp : iK) (r : Rc) : iK := if r.kind = 1 then sK mp r.target r else if r.kind = 2 then sY mp r.target else mp
def ofM (l : List Rc) : iK := l.foldl qp []
theorem Je (mp : iK) (k : B) (r : Rc) : mA (sK mp k r) = dZ (mA mp) (ofB k) (.agg r.enc) := by
 induction mp with
 | nil => rfl
 | cons p mp ih =>
  simp only [sK, mA, List.map_cons, dZ];by_cases h : p.1 = k
  ·simp [h]
  ·have : ofB p.1 ≠ ofB k := fun e => h (bZ e);simp only [h, if_false, this, List.map_cons];unfold mA at ih;rw [ih]
theorem Jf (mp : iK) (k : B) : mA (sY mp k) = jC (mA mp) (ofB k) := by
 induction mp with
 | nil => rfl
 | cons p mp ih =>
  simp only [sY, mA, List.map_cons, jC];by_cases h : p.1 = k
  ·simp [h]
  ·have : ofB p.1 ≠ ofB k := fun e => h (bZ e);simp only [h, if_false, this, List.map_cons];unfold mA at ih;rw [ih]
def MOk (mp : iK) : Prop := (ib mp).Nodup ∧ ∀ p ∈ mp, p.2.target = p.1
theorem vn {mp : iK} (hn : (ib mp).Nodup) (k : B) (r : Rc) (q : B × Rc) : q ∈ sK mp k r ↔ q = (k, r) ∨ (q ∈ mp ∧ q.1 ≠ k) := by
 induction mp with
 | nil => simp [sK]
 | cons p mp ih =>
  have hn' := List.nodup_cons.1 (show (p.1 :: ib mp).Nodup from hn);simp only [sK];by_cases h : p.1 = k
  ·simp only [h, if_true, List.mem_cons];constructor
   ·rintro (h1 | h1)
    ·exact .inl h1
    ·refine .inr ⟨.inr h1, fun e => hn'.1 ?_⟩;rw [h, ← e];exact List.mem_map_of_mem h1
   ·rintro (h1 | ⟨rfl | h1, h2⟩)
    ·exact .inl h1
    ·exact absurd h h2
    ·exact .inr h1
  ·simp only [h, if_false, List.mem_cons, ih hn'.2];constructor
   ·rintro (rfl | h1 | ⟨h1, h2⟩)
    ·exact .inr ⟨.inl rfl, h⟩
    ·exact .inl h1
    ·exact .inr ⟨.inr h1, h2⟩
   ·rintro (h1 | ⟨rfl | h1, h2⟩)
    ·exact .inr (.inl h1)
    ·exact .inl rfl
    ·exact .inr (.inr ⟨h1, h2⟩)
theorem wi {mp : iK} (hn : (ib mp).Nodup) (k : B) (q : B × Rc) : q ∈ sY mp k ↔ q ∈ mp ∧ q.1 ≠ k := by
 induction mp with
 | nil => simp [sY]
 | cons p mp ih =>
  have hn' := List.nodup_cons.1 (show (p.1 :: ib mp).Nodup from hn);simp only [sY];by_cases h : p.1 = k
  ·simp only [h, if_true, List.mem_cons];constructor
   ·intro h1;refine ⟨.inr h1, fun e => hn'.1 ?_⟩;rw [h, ← e];exact List.mem_map_of_mem h1
   ·rintro ⟨rfl | h1, h2⟩
    ·exact absurd h h2
    ·exact h1
  ·simp only [h, if_false, List.mem_cons, ih hn'.2];constructor
   ·rintro (rfl | ⟨h1, h2⟩)
    ·exact ⟨.inl rfl, h⟩
    ·exact ⟨.inr h1, h2⟩
   ·rintro ⟨rfl | h1, h2⟩
    ·exact .inl rfl
    ·exact .inr ⟨h1, h2⟩
theorem D7 {mp : iK} (hn : (ib mp).Nodup) (k : B) (r : Rc) : (ib (sK mp k r)).Nodup := by
 induction mp with
 | nil => simp [sK, ib]
 | cons p mp ih =>
  have hn' := List.nodup_cons.1 (show (p.1 :: ib mp).Nodup from hn);simp only [sK];by_cases h : p.1 = k
  ·simp only [h, if_true];exact List.nodup_cons.2 ⟨by rw [← h]; exact hn'.1, hn'.2⟩
  ·simp only [h, if_false];refine List.nodup_cons.2 ⟨fun hm => ?_, ih hn'.2⟩;obtain ⟨q, hq, e⟩ := List.mem_map.1 hm;rcases (vn hn'.2 k r q).1 hq with rfl | ⟨h1, _⟩
   ·exact h e.symm
   ·have e : q.1 = p.1 := e;exact hn'.1 (by rw [← e]; exact List.mem_map_of_mem h1)
theorem EX {mp : iK} (hn : (ib mp).Nodup) (k : B) : (ib (sY mp k)).Nodup := by
 induction mp with
 | nil => simp [sY, ib]
 | cons p mp ih =>
  have hn' := List.nodup_cons.1 (show (p.1 :: ib mp).Nodup from hn);simp only [sY];by_cases h : p.1 = k
  ·simp only [h, if_true];exact hn'.2
  ·simp only [h, if_false];refine List.nodup_cons.2 ⟨fun hm => ?_, ih hn'.2⟩;obtain ⟨q, hq, e⟩ := List.mem_map.1 hm;have h1 := (wi hn'.2 k q).1 hq;have e : q.1 = p.1 := e;exact hn'.1 (by rw [← e]; exact List.mem_map_of_mem h1.1)
theorem LG {mp : iK} (h : MOk mp) (r : Rc) : MOk (qp mp r) := by
 unfold qp;split
 ·refine ⟨D7 h.1 _ _, fun p hp => ?_⟩;rcases (vn h.1 _ _ p).1 hp with rfl | ⟨h1, _⟩
  ·rfl
  ·exact h.2 p h1
 ·split
  ·exact ⟨EX h.1 _, fun p hp => h.2 p ((wi h.1 _ p).1 hp).1⟩
  ·exact h
structure Fv (mp : iK) (S : List Rc) : Prop where
 ok : MOk mp
 srt : Srt S
 mem : ∀ x, x ∈ S ↔ (x.target, x) ∈ mp
theorem Fv.put {mp : iK} {S : List Rc} (h : Fv mp S) (r : Rc) : Fv (qp mp r) (cL S r) := by
 refine ⟨LG h.ok r, EN r h.srt, fun x => ?_⟩;unfold cL qp;by_cases h1 : r.kind = 1
 ·have hk2 : decide (r.kind = 2) = false := by rw [h1]; rfl
  rw [if_neg (by simp [h1]), if_pos h1, gi, hk2, vn h.ok.1, h.mem];constructor
  ·rintro (⟨_, rfl⟩ | h)
   ·exact .inl rfl
   ·exact .inr h
  ·rintro (h | h)
   ·exact .inl ⟨rfl, by injection h⟩
   ·exact .inr h
 ·by_cases h2 : r.kind = 2
  ·rw [if_neg (by simp [h2]), if_neg h1, if_pos h2, gi, wi h.ok.1, h.mem];simp [h2]
  ·rw [if_pos ⟨h1, h2⟩, if_neg h1, if_neg h2];exact h.mem x
theorem Gm (l : List Rc) : Fv (ofM l) (ax l) := by
 have : ∀ (l : List Rc) (mp : iK) (S : List Rc), Fv mp S → Fv (l.foldl qp mp) (l.foldl cL S) := by
  intro l
  induction l with
  | nil => intro mp S h; exact h
  | cons r l ih => intro mp S h; exact ih _ _ (h.put r)
 exact this l [] [] ⟨⟨by simp [ib], by simp⟩, List.Pairwise.nil, by simp⟩
theorem FG : ∀ {l m : List Rc}, Srt l → Srt m → (∀ x, x ∈ l ↔ x ∈ m) → l = m := by
 intro l
 induction l with
 | nil =>
  intro m _ _ h
  cases m with
  | nil => rfl
  | cons b m => exact absurd ((h b).2 (by simp)) (by simp)
 | cons a l ih =>
  intro m hl hm h
  cases m with
  | nil => exact absurd ((h a).1 (by simp)) (by simp)
  | cons b m =>
   have hl' := List.pairwise_cons.1 hl;have hm' := List.pairwise_cons.1 hm;have hab : a = b := by
    rcases List.mem_cons.1 ((h a).1 (by simp)) with e | h1
    ·exact e
    ·rcases List.mem_cons.1 ((h b).2 (by simp)) with e | h2
     ·exact e.symm
     ·exact absurd (hl'.1 b h2) (List.lt_asymm (hm'.1 a h1))
   subst hab;congr 1;refine ih hl'.2 hm'.2 fun x => ?_;constructor
   ·intro hx;rcases List.mem_cons.1 ((h x).1 (by simp [hx])) with rfl | h1
    ·exact absurd (hl'.1 _ hx) (List.lt_irrefl _)
    ·exact h1
   ·intro hx;rcases List.mem_cons.1 ((h x).2 (by simp [hx])) with rfl | h1
    ·exact absurd (hm'.1 _ hx) (List.lt_irrefl _)
    ·exact h1
theorem zU {mp : iK} (hn : (ib mp).Nodup) {k : B} {r : Rc} (h : (k, r) ∈ mp) : rF mp k = some r := by
 induction mp with
 | nil => simp at h
 | cons p mp ih =>
  have hn' := List.nodup_cons.1 (show (p.1 :: ib mp).Nodup from hn);unfold rF at ih ⊢;simp only [List.find?_cons];rcases List.mem_cons.1 h with rfl | h
  ·simp
  ·have : p.1 ≠ k := fun e => hn'.1 (by rw [e]; exact List.mem_map_of_mem (f := (·.1)) h);simp only [this, decide_false];exact ih hn'.2 h
theorem zQ {mp : iK} {k : B} {r : Rc} (h : rF mp k = some r) : (k, r) ∈ mp := by
 unfold rF at h;rw [Option.map_eq_some_iff] at h;obtain ⟨p, h1, rfl⟩ := h;have h2 := List.find?_some h1;have : p.1 = k := by simpa using h2
 rw [← this];exact List.mem_of_find?_eq_some h1
theorem Dj {mp : iK} {S : List Rc} (h : Fv mp S) {ks : List B} (hp : ks.Perm (ib mp)) (hs : ks = fp ks) : ks.map (tN mp) = S := by
 have hz : ∀ k ∈ ks, ∃ r, (k, r) ∈ mp ∧ tN mp k = r := fun k hk => by
  obtain ⟨r, hr⟩ := yr (mp := mp) (k := k) (hp.mem_iff.1 hk);exact ⟨r, zQ hr, by rw [tN, hr]; rfl⟩
 have hle : ks.Pairwise (fun a b => a ≤ b) := by
  have := List.pairwise_mergeSort (le := fun x y : B => decide (x ≤ y)) (fun a b c h1 h2 => by simp at h1 h2 ⊢; exact List.le_trans h1 h2) (fun a b => by simp; exact List.le_total a b) ks;rw [show ks.mergeSort (fun x y => decide (x ≤ y)) = ks from hs.symm] at this;exact this.imp fun h => of_decide_eq_true h
 have hnd : ks.Nodup := hp.nodup_iff.2 h.ok.1;refine FG ?_ h.srt fun x => ?_
 ·rw [Srt, List.pairwise_map];refine List.Pairwise.imp_of_mem ?_ (hle.and hnd);rintro a b ha hb ⟨h1, h2⟩;obtain ⟨ra, a1, a2⟩ := hz a ha;obtain ⟨rb, b1, b2⟩ := hz b hb;rw [a2, b2, h.ok.2 _ a1, h.ok.2 _ b1];refine Classical.byContradiction fun hn => h2 ?_;exact List.le_antisymm h1 (show b ≤ a from hn)
 ·rw [h.mem, List.mem_map];constructor
  ·rintro ⟨k, hk, rfl⟩;obtain ⟨r, h1, h2⟩ := hz k hk;rw [h2, h.ok.2 _ h1];exact h1
  ·intro hx;have hk : x.target ∈ ks := hp.mem_iff.2 (List.mem_map_of_mem (f := (·.1)) hx);refine ⟨x.target, hk, ?_⟩;rw [tN, zU h.ok.1 hx]; rfl
end Go.Abs
end
section
namespace Go.Abs
open Go Go.Proofs Dig
attribute [local irreducible] aH aE aO firstIdx
theorem G5 (mp : iK) (r : Rc) (hr : r.deps.length < 1000000) {R} (h : R (.tup []) [.map (mA (qp mp r))]) : ag Tryz.prog 134 [.mapv 0, .agg r.enc] [.map (mA mp)] R := by
 refine aa (an := Sk) tab_ok Tryz.func134 ?_;conv=>whnf
 refine ae (fun h1 => ?_) (fun h1 => ?_)
 ·have h1 : r.kind = 1 := by simpa using h1
  rw [qp, if_pos h1, Je] at h;conv=>whnf
  refine fQ r hr ?_;conv=>whnf
  exact h
 have h1 : ¬ r.kind = 1 := by simpa using h1
 conv=>whnf
 refine ae (fun h2 => ?_) (fun h2 => ?_)
 ·have h2 : r.kind = 2 := by simpa using h2
  rw [qp, if_neg h1, if_pos h2, Jf] at h;conv=>whnf
  exact h
 ·have h2 : ¬ r.kind = 2 := by simpa using h2
  rw [qp, if_neg h1, if_neg h2] at h;conv=>whnf
  exact h
theorem LL (l : List Rc) : (ofM l).length ≤ l.length := by
 have hp : ∀ (mp : iK) (k : B) (r : Rc), (sK mp k r).length ≤ mp.length + 1 := by
  intro mp k r
  induction mp with
  | nil => simp [sK]
  | cons p mp ih => simp only [sK]; split <;> simp; omega
 have hd : ∀ (mp : iK) (k : B), (sY mp k).length ≤ mp.length := by
  intro mp k
  induction mp with
  | nil => simp [sY]
  | cons p mp ih => simp only [sY]; split <;> simp; omega
 have : ∀ (l : List Rc) (mp : iK), (l.foldl qp mp).length ≤ mp.length + l.length := by
  intro l
  induction l with
  | nil => intro mp; simp
  | cons r l ih =>
   intro mp;have h1 := ih (qp mp r);have h2 : (qp mp r).length ≤ mp.length + 1 := by
    unfold qp;split
    ·exact hp _ _ _
    ·split
     ·have := hd mp r.target; omega
     ·omega
   simp only [List.foldl_cons, List.length_cons];omega
 simpa [ofM] using this l []
theorem Fr (l : List Rc) (hl : l.length < 1000000) (hd : ∀ r ∈ l, r.deps.length < 1000000) {R} (h : R (.sl none 7 (bf (ax l))) []) : ag Tryz.prog 93 [.sl none 7 (bf l)] [] R := by
 refine aa (an := TZ) tab_ok Tryz.func93 ?_;have hsl := be l;conv=>whnf
 refine aq.ind2 (fun (i : Nat) (mp : iK) => [(9, vi i)]) (fun i mp => [(ak 6, .map (mA mp))]) (fun i _ => l.length - i) (fun i mp => i ≤ l.length ∧ mp = ofM (l.take i)) 0 [] rfl ⟨by omega, rfl⟩ ?_;rintro i mp ⟨h0, hm⟩ IH;conv=>whnf
 refine ae (fun hc => ?_) (fun hc => ?_)
 ·have hc := ap hsl hc
  (conv=>whnf); (repeat ((with_reducible refine ac ?_ ?_); exact decide_eq_true (by omega); (conv=>whnf)))
  refine idxNat (by simpa using hc) ?_;conv=>whnf
  refine G5 mp l[i] (hd _ (List.getElem_mem hc)) ?_;conv=>whnf
  rw [al (by omega)];refine IH (i + 1) (qp mp l[i]) ⟨by omega, ?_⟩ (by omega);rw [List.take_succ_eq_append_getElem hc, ofM, List.foldl_append, hm]; rfl
 ·have hc := au hsl hc;rw [List.take_of_length_le hc] at hm;have hml := LL l;rw [← hm] at hml;conv=>whnf
  refine y9 mp (by omega) fun ks h1 h2 => ?_;rw [Dj (by rw [hm]; exact Gm l) h1 h2];conv=>whnf
  exact h
theorem Cw (r : Rc) : ∀ (S : List Rc) (laid : Bool), (bN r laid S).length ≤ S.length + (if laid = true then 0 else 1) := by
 intro S
 induction S with
 | nil => intro laid; cases laid <;> simp [bN]
 | cons s S ih =>
  intro laid;simp only [bN, List.length_append, List.length_cons];have := ih (laid || (!laid && ltB r.target s.target));have h2 : (if s.target = r.target then [] else [s]).length ≤ 1 := by split <;> simp
  cases laid <;> cases hl : ltB r.target s.target <;> simp [hl] at this ⊢ <;> omega
theorem EP (S : List Rc) (r : Rc) : (cL S r).length ≤ S.length + 1 := by
 unfold cL;split
 ·omega
 ·have := Cw r S (decide (r.kind = 2));split at this <;> omega
theorem EM {S : List Rc} {r x : Rc} (h : x ∈ cL S r) : (x = r ∧ r.kind = 1) ∨ x ∈ S := by
 unfold cL at h;split at h
 ·exact .inr h
 ·rename_i hk;rcases (gi r S _ x).1 h with ⟨h1, h2⟩ | ⟨h1, _⟩
  ·refine .inl ⟨h2, ?_⟩;have h1 : ¬ r.kind = 2 := of_decide_eq_false h1;exact Classical.byContradiction fun e => hk ⟨e, h1⟩
  ·exact .inr h1
theorem mt {S : List Rc} {r : Rc} (hk : r.kind = 1) (x : Rc) : x ∈ cL S r ↔ x = r ∨ (x ∈ S ∧ x.target ≠ r.target) := by
 have hk2 : decide (r.kind = 2) = false := by rw [hk]; rfl
 rw [cL, if_neg (by simp [hk]), gi, hk2];simp
theorem wc (l : List Rc) (r : Rc) : ax (l ++ [r]) = cL (ax l) r := by simp [ax]
theorem Cy : ∀ (l S : List Rc), (l.foldl cL S).length ≤ S.length + l.length := by
 intro l
 induction l with
 | nil => intro S; simp
 | cons r l ih =>
  intro S;have := ih (cL S r);have := EP S r;simp only [List.foldl_cons, List.length_cons];omega
theorem fh (l : List Rc) : (ax l).length ≤ l.length := by simpa [ax] using Cy l []
theorem Cx : ∀ (l S : List Rc) (x : Rc), x ∈ l.foldl cL S → (x ∈ l ∧ x.kind = 1) ∨ x ∈ S := by
 intro l
 induction l with
 | nil => intro S x h; exact .inr h
 | cons r l ih =>
  intro S x h;rcases ih _ x h with ⟨h, hk⟩ | h
  ·exact .inl ⟨by simp [h], hk⟩
  ·rcases EM h with ⟨rfl, hk⟩ | h
   ·exact .inl ⟨by simp, hk⟩
   ·exact .inr h
theorem jp {l : List Rc} {x : Rc} (h : x ∈ ax l) : x ∈ l ∧ x.kind = 1 := by
 rcases Cx l [] x h with h | h
 ·exact h
 ·simp at h
theorem lr (l : List Rc) : Srt (ax l) := (Gm l).srt
def Rc.bare (r : Rc) : List AV := [vi r.kind, vs r.target, vs r.tag, uv r.rule, uv r.out, uv r.wen]
theorem BL (r : Rc) {R} (h : R (.agg r.bare) []) : ag Tryz.prog 178 [.agg r.enc] [] R := by
 refine aa (an := RP) tab_ok Tryz.func178 ?_;conv=>whnf
 exact h
theorem Qo (a b : Dp) (h : (!(true && decide (ofB a.name = ofB b.name) && ((a.hash.toNat : Int) == (b.hash.toNat : Int)) && (a.order == b.order))) = true) : a ≠ b := by
 rintro rfl;simp at h
theorem Qp (a b : Dp) (h : (!(true && decide (ofB a.name = ofB b.name) && ((a.hash.toNat : Int) == (b.hash.toNat : Int)) && (a.order == b.order))) = false) : a = b := by
 simp [bG] at h;obtain ⟨⟨h1, h2⟩, h3⟩ := h;have h2 : a.hash = b.hash := BitVec.eq_of_toNat_eq (by omega)
 cases a; cases b
 simp_all
theorem AS (a b : List Dp) (ha : a.length < 1000000) {R} (h : ∀ p, p = decide (a = b) → R (.val (.bool p)) []) : ag Tryz.prog 179 [.sl none 3 (dU a), .sl none 3 (dU b)] [] R := by
 refine aa (an := RO) tab_ok Tryz.func179 ?_;have hsa := bD a;have hsb := bD b;conv=>whnf
 rw [hsa, hsb];refine ae (fun hc => ?_) (fun hc => ?_)
 ·conv=>whnf
  refine h false (decide_eq_false ?_).symm;rintro rfl;simp at hc
 have hlen : a.length = b.length := by simp at hc; omega
 conv=>whnf
 refine aq.ind1 (fun (i : Nat) => [(13, vi i)]) (fun _ => []) (fun i => a.length - i) (fun i => i ≤ a.length ∧ a.take i = b.take i) 0 rfl ⟨by omega, by simp⟩ ?_;rintro i ⟨h0, h1⟩ IH;conv=>whnf
 refine ae (fun hc => ?_) (fun hc => ?_)
 ·have hc := ap hsa hc;have hcb : i < b.length := by omega
  (conv=>whnf); (repeat ((with_reducible refine ac ?_ ?_); exact decide_eq_true (by omega); (conv=>whnf)))
  refine idxNat (by simpa using hc) ?_
  (conv=>whnf); (repeat ((with_reducible refine ac ?_ ?_); exact decide_eq_true (by omega); (conv=>whnf)))
  refine idxNat (by simpa using hcb) ?_;conv=>whnf
  refine ae (fun he => ?_) (fun he => ?_)
  ·have he := Qo _ _ he;conv=>whnf
   refine h false (decide_eq_false ?_).symm;rintro rfl;exact he rfl
  ·have he := Qp _ _ he;conv=>whnf
   rw [al (by omega)];refine IH (i + 1) ⟨by omega, ?_⟩ (by omega);rw [List.take_succ_eq_append_getElem hc, List.take_succ_eq_append_getElem hcb, h1, he]
 ·have hc := au hsa hc;rw [List.take_of_length_le hc, List.take_of_length_le (by omega)] at h1;conv=>whnf
  exact h true (decide_eq_true h1).symm
theorem C7 (a b : Rc) (ha : a.deps.length < 1000000) {R} (h : ∀ p, p = decide (a = b) → R (.val (.bool p)) []) : ag Tryz.prog 138 [.agg a.enc, .agg b.enc] [] R := by
 refine aa (an := Sg) tab_ok Tryz.func138 ?_;conv=>whnf
 refine BL a ?_;conv=>whnf
 refine BL b ?_;conv=>whnf
 refine ae (fun g => ?_) (fun g => ?_)
 ·have g2 : a.kind = b.kind ∧ a.target = b.target ∧ a.tag = b.tag ∧ a.rule = b.rule ∧ a.out = b.out ∧ a.wen = b.wen := by
   simp [bG] at g;obtain ⟨⟨⟨⟨⟨g1, g2⟩, g3⟩, g4⟩, g5⟩, g6⟩ := g;exact ⟨g1, g2, g3, BitVec.eq_of_toNat_eq (by omega), BitVec.eq_of_toNat_eq (by omega), BitVec.eq_of_toNat_eq (by omega)⟩
  conv=>whnf
  refine AS a.deps b.deps ha fun p hp => ?_;conv=>whnf
  refine h _ ?_;rw [hp];refine decide_eq_decide.2 ⟨fun e => ?_, fun e => by rw [e]⟩;obtain ⟨g1, g2, g3, g4, g5, g6⟩ := g2
  cases a; cases b
  simp_all
 ·conv=>whnf
  refine h false (decide_eq_false ?_).symm;rintro rfl;simp at g
theorem Gb (k : Int) (t : B) (u o w : U) (g : B) : leL [.val (.int .i64 k), .val (.string (ofB t)), .val (.int .u64 (u.toNat : Int)), .val (.slice none 0 0), .val (.int .u64 (o.toNat : Int)), .val (.int .u64 (w.toNat : Int)), .val (.string (ofB g))] (Rc.enc ⟨k, t, u, [], o, w, g⟩) :=
 leL.cons (.refl _) (leL.cons (.refl _) (leL.cons (.refl _) (leL.cons (cC 3) (leL.refl _))))
theorem Im {ts : List TypeId} {l : List AV} (h : fV tab 12 (9 :: ts) l) : ∃ (x : B) (l' : List AV), l = vs x :: l' ∧ x.length ≤ maxLen ∧ fV tab 12 ts l' := by
 obtain ⟨a, l', rfl, h1, h2⟩ := h;obtain ⟨s, e, hs⟩ : ∃ s : ByteArray, [a] = [.val (.string s)] ∧ s.size ≤ maxLen := h1;simp only [List.cons.injEq, and_true] at e;refine ⟨bs s, l', by rw [e, vs, kO], ?_, h2⟩;have := aG (bs s);rw [kO] at this;omega
theorem jJ (a b : List Rc) : ax (a ++ b) = b.foldl cL (ax a) := by simp [ax]
def Ea (t : B) (s : Rc) : Bool := decide (s.target ≠ t) || (decide (s.kind ≠ 1) && decide (s.kind ≠ 2))
theorem Cp {S : List Rc} {s x : Rc} {t : B} (hp : Ea t s = true) (hx : x.target = t) : x ∈ cL S s ↔ x ∈ S := by
 unfold cL;split
 ·exact Iff.rfl
 ·rename_i hk;have hs : s.target ≠ t := by
   simp only [Ea, Bool.or_eq_true, Bool.and_eq_true, decide_eq_true_eq] at hp;rcases hp with h | h
   ·exact h
   ·exact absurd h hk
  rw [gi];constructor
  ·rintro (⟨_, rfl⟩ | ⟨h, _⟩)
   ·exact absurd hx hs
   ·exact h
  ·intro h;exact .inr ⟨h, fun e => hs (by rw [← e, hx])⟩
theorem nT {t : B} : ∀ (l S : List Rc), (∀ s ∈ l, Ea t s = true) → ∀ x, x.target = t → (x ∈ l.foldl cL S ↔ x ∈ S) := by
 intro l
 induction l with
 | nil => intro S _ x _; exact Iff.rfl
 | cons s l ih =>
  intro S h x hx;rw [List.foldl_cons, ih _ (fun y hy => h y (by simp [hy])) x hx, Cp (h s (by simp)) hx]
theorem I6 {S : List Rc} (hs : Srt S) {a b : Rc} (ha : a ∈ S) (hb : b ∈ S) (e : a.target = b.target) : a = b := by
 obtain ⟨i, hi, rfl⟩ := List.getElem_of_mem ha;obtain ⟨j, hj, rfl⟩ := List.getElem_of_mem hb;have hp := List.pairwise_iff_getElem.1 hs;rcases Nat.lt_trichotomy i j with h | h | h
 ·exact absurd (hp i j hi hj h) (by rw [e]; exact List.lt_irrefl _)
 ·subst h; rfl
 ·exact absurd (hp j i hj hi h) (by rw [e]; exact List.lt_irrefl _)
theorem nQ {S : List Rc} (hs : Srt S) {r : Rc} (hr : r ∈ S) (hk : r.kind = 1) : cI S r.target = some r := by
 unfold cI
 cases h : S.reverse.find? (nM r.target) with
 | none => exact absurd (List.find?_eq_none.1 h r (List.mem_reverse.2 hr)) (by simp [nM, hk])
 | some x =>
  have h1 := List.find?_some h;have h2 := List.mem_reverse.1 (List.mem_of_find?_eq_some h);simp only [nM, Bool.and_eq_true, decide_eq_true_eq] at h1;rw [I6 hs h2 hr h1.2]
theorem qE {S : List Rc} {t : B} (h : ∀ x ∈ S, x.target ≠ t) : cI S t = none := by
 unfold cI;rw [List.find?_eq_none];intro x hx;simp [nM, h x (List.mem_reverse.1 hx)]
theorem As {ns : List B} {hs : List U} (h : hs.length = ns.length) : (dG ns hs).map (·.name) = ns := by
 induction ns generalizing hs with
 | nil => rfl
 | cons n ns ih =>
  cases hs with
  | nil => simp at h
  | cons x hs => simp [dG, ih (by simpa using h)]
theorem CD {ns : List B} {hs os : List U} (h : hs.length = ns.length) (ho : os.length = ns.length) : ey (dG ns hs) os = decide (hs ≠ os) := by
 induction ns generalizing hs os with
 | nil =>
  have e1 : hs = [] := List.eq_nil_of_length_eq_zero (by simpa using h);have e2 : os = [] := List.eq_nil_of_length_eq_zero (by simpa using ho);subst e1 e2;rfl
 | cons n ns ih =>
  cases hs with
  | nil => simp at h
  | cons x hs =>
   cases os with
   | nil => simp at ho
   | cons y os =>
    rw [dG, ey, ih (by simpa using h) (by simpa using ho)];by_cases e : x = y <;> by_cases e2 : hs = os <;> simp [e, e2]
end Go.Abs
end
section
namespace Go.Abs
open Go Go.Proofs
attribute [local irreducible] aH aE aO firstIdx
theorem HZ : ∀ (l : List Nd) (seen : List B), (l.map (·.name)).Nodup → (∀ n ∈ l, n.name ∉ seen) → (∀ n ∈ l, jd n = 0) → jO l seen = 0 := by
 intro l
 induction l with
 | nil => intro _ _ _ _; rfl
 | cons n r ih =>
  intro seen h1 h2 h3;rw [List.map_cons, List.nodup_cons] at h1;unfold jO;rw [if_neg (h2 n (by simp)), if_neg (by simp [h3 n (by simp)])];refine ih _ h1.2 (fun m hm hs => ?_) fun m hm => h3 m (by simp [hm]);rw [List.mem_append, List.mem_singleton] at hs;rcases hs with hs | hs
  ·exact h2 m (by simp [hm]) hs
  ·exact h1.1 (by rw [← hs]; exact List.mem_map_of_mem hm)
theorem Ia : ∀ (l : List Nd) (seen : List B), jO l seen = 0 → ∀ n ∈ l, jd n = 0 := by
 intro l
 induction l with
 | nil => intro seen _ n hn; simp at hn
 | cons a r ih =>
  intro seen h n hn;unfold jO at h;split at h
  ·cases h
  ·split at h
   ·rename_i h0; exact absurd h h0
   ·rename_i h0;rw [List.mem_cons] at hn;rcases hn with rfl | hn
    ·exact Classical.byContradiction fun e => h0 e
    ·exact ih _ h n hn
theorem s9 (l : List Nd) : aY l = 0 ↔ l.length ≤ 64 ∧ (l.map (·.name)).Nodup ∧ (∀ n ∈ l, jd n = 0) ∧ (∀ n ∈ l, ∀ d ∈ n.deps, d ∈ names l) ∧ l.length ≤ (dc l).length := by
 constructor
 ·intro h;obtain ⟨c1, c2, c3, c4⟩ := eK h;refine ⟨c4, c1, ?_, c3, by omega⟩;unfold aY at h;split at h
  ·cases h
  ·split at h
   ·rename_i h1 h2; exact absurd h h2
   ·rename_i h1 h2;exact Ia l [] (Classical.byContradiction fun e => h2 e)
 ·rintro ⟨h1, h2, h3, h4, h5⟩;unfold aY;rw [if_neg (by omega), if_neg (by simp [HZ l [] h2 (by simp) h3]), if_neg (by rw [mv h4]; simp), if_neg (by omega)]
end Go.Abs
end
section
namespace Go.Abs
open Go Go.Proofs Dig
attribute [local irreducible] aH aE aO firstIdx
def dN (v : Int) : List Dp → List B → Bool
 | [], _ => true
 | d :: ds, seen => dh d.name && (decide (d.name ∉ seen) && (!(d.order && decide (v < 3)) && dN v ds (seen ++ [d.name])))
def pj (v : Int) (r : Rc) : Bool := dN v r.deps [r.target] && decide (r.deps.length ≤ 16)
theorem pi (v : Int) (r : Rc) (hd : r.deps.length < 100000) {R} (h : ∀ p, p = pj v r → R (.val (.bool p)) []) : ag Tryz.prog 137 [vi v, .agg r.enc] [] R := by
 refine aa (an := Sh) tab_ok Tryz.func137 ?_;have hsl := bD r.deps;have no : dN v r.deps [r.target] = false → R (.val (.bool false)) [] := fun e => h false (by rw [pj, e]; rfl);conv=>whnf
 refine lw r.target [] (by simp) fun m hm => ?_;have hm : m = [r.target] := by rw [hm]; simp [mR, cP]
 subst hm;conv=>whnf
 refine aq.ind2 (fun (i : Nat) (seen : List B) => [(17, vi i)]) (fun i seen => [(ay 13 0, bM (ay 13 1) (ay 13 2) seen), (ay 13 1, bL seen), (ay 13 2, bK seen)])
  (fun i _ => r.deps.length - i) (fun i seen => i ≤ r.deps.length ∧ seen.length ≤ i + 1 ∧ dN v (r.deps.drop i) seen = dN v r.deps [r.target]) 0 [r.target] rfl ⟨by omega, by simp, by simp⟩ ?_
 rintro i seen ⟨h0, hsn, hD⟩ IH;conv=>whnf
 refine ae (fun hc => ?_) (fun hc => ?_)
 ·have hc := ap hsl hc;rw [List.drop_eq_getElem_cons hc, dN] at hD
  (conv=>whnf); (repeat ((with_reducible refine ac ?_ ?_); exact decide_eq_true (by omega); (conv=>whnf)))
  refine idxNat (by simpa using hc) ?_;generalize r.deps[i] = d at hD ⊢;conv=>whnf
  by_cases hm : d.name ∈ seen
  ·have hbad : dN v r.deps [r.target] = false := by rw [← hD]; simp [hm]
   refine jT seen d.name hm fun j => ?_;conv=>whnf
   refine n9 d.name ?_;conv=>whnf
   refine ae (fun hq => ?_) (fun hq => ?_)
   ·conv=>whnf
    exact no hbad
   ·conv=>whnf
    exact no hbad
  ·refine gT seen d.name (by omega) hm fun j => ?_;conv=>whnf
   refine n9 d.name ?_;conv=>whnf
   refine ae (fun hq => ?_) (fun hq => ?_)
   ·have hq : dh d.name = false := by simpa using hq
    conv=>whnf
    exact no (by rw [← hD, hq]; rfl)
   ·have hq : dh d.name = true := by simpa using hq
    rw [hq, decide_eq_true hm, Bool.true_and, Bool.true_and] at hD;conv=>whnf
    refine ae (fun ho => ?_) (fun ho => ?_)
    ·rw [ho, Bool.true_and] at hD;conv=>whnf
     refine ae (fun hv => ?_) (fun hv => ?_)
     ·rw [hv] at hD;conv=>whnf
      exact no (by rw [← hD]; rfl)
     ·rw [hv] at hD;conv=>whnf
      rw [al (by omega)];exact IH (i + 1) (seen ++ [d.name]) ⟨by omega, by simp; omega, by rw [← hD]; simp⟩ (by omega)
    ·rw [ho] at hD;conv=>whnf
     rw [al (by omega)];exact IH (i + 1) (seen ++ [d.name]) ⟨by omega, by simp; omega, by rw [← hD]; simp⟩ (by omega)
 ·have hc := au hsl hc;rw [List.drop_eq_nil_of_le hc, dN] at hD;conv=>whnf
  rw [hsl];refine h _ ?_;rw [pj, ← hD, Bool.true_and];exact decide_eq_decide.2 (by omega)
def dT (v : Int) (r : Rc) : Bool := (decide (v < 2) && decide (r.wen ≠ 0)) || (decide (v < 3) && decide (r.tag ≠ []))
def pZ (r : Rc) : Rc := ⟨2, r.target, 0, [], 0, 0, []⟩
def aS (v : Int) (r : Rc) : Bool :=
 if (decide (v < 1) || decide (3 < v) || !dh r.target) = true then false
 else if r.kind = 1 then !dT v r && (decide (r.tag.length ≤ 64) && pj v r)
 else if r.kind = 2 then decide (r = pZ r) else false
theorem Hl : ofB [] = { data := #[] } := rfl
theorem eC (v : Int) (r : Rc) (hd : r.deps.length < 100000) {R} (h : ∀ p, p = aS v r → R (.val (.bool p)) []) : ag Tryz.prog 94 [vi v, .agg r.enc] [] R := by
 refine aa (an := TY) tab_ok Tryz.func94 ?_;have hst := aG r.tag;conv=>whnf
 refine ae (fun g1 => ?_) (fun g1 => ?_)
 ·conv=>whnf
  exact h false (by rw [aS, if_pos (by rw [g1]; rfl)])
 conv=>whnf
 refine ae (fun g2 => ?_) (fun g2 => ?_)
 ·have g2 : 3 < v := by simpa using g2
  conv=>whnf
  exact h false (by rw [aS, if_pos (by rw [g1, decide_eq_true g2]; rfl)])
 have g2 : ¬ 3 < v := by simpa using g2
 conv=>whnf
 refine n9 r.target ?_;conv=>whnf
 refine ae (fun g3 => ?_) (fun g3 => ?_)
 ·conv=>whnf
  exact h false (by rw [aS, if_pos (by rw [g3]; simp)])
 have hm : aS v r = if r.kind = 1 then !dT v r && (decide (r.tag.length ≤ 64) && pj v r) else if r.kind = 2 then decide (r = pZ r) else false := by
  rw [aS, if_neg (by rw [g1, decide_eq_false g2, g3]; simp)]
 conv=>whnf
 refine ae (fun k1 => ?_) (fun k1 => ?_)
 ·have k1 : r.kind = 1 := by simpa using k1
  rw [if_pos k1] at hm;have wz : ((r.wen.toNat : Int) != 0) = decide (r.wen ≠ 0) := by
   by_cases e : r.wen = 0
   ·simp [e]
   ·have : r.wen.toNat ≠ 0 := fun x => e (BitVec.eq_of_toNat_eq (by simpa using x));rw [decide_eq_true e]; simp; omega
  conv=>whnf
  refine ae (fun e1 => ?_) (fun e1 => ?_)
  ·conv=>whnf
   refine ae (fun e2 => ?_) (fun e2 => ?_)
   ·rw [wz] at e2;conv=>whnf
    exact h false (by rw [hm, dT, e1, e2]; rfl)
   ·rw [wz] at e2;have e3 : decide (v < 3) = true := by simp at e1 ⊢; omega
    conv=>whnf
    refine aK e3 ?_;conv=>whnf
    refine ae (fun e4 => ?_) (fun e4 => ?_)
    ·have e4 : r.tag = [] := by simpa [← Hl, bG] using e4
     have e4 : decide (r.tag ≠ []) = false := by rw [e4]; rfl
     have he : dT v r = false := by rw [dT, e2, e4]; simp
     conv=>whnf
     refine ae (fun q => ?_) (fun q => ?_)
     ·have q : r.tag.length ≤ 64 := by have q := of_decide_eq_true q; omega
      conv=>whnf
      refine pi v r hd fun p hp => ?_;conv=>whnf
      exact h p (by rw [hm, he, decide_eq_true q, hp]; rfl)
     ·have q : ¬ r.tag.length ≤ 64 := by have q := of_decide_eq_false q; omega
      conv=>whnf
      exact h false (by rw [hm, decide_eq_false q]; simp)
    ·have e4 : r.tag ≠ [] := by simpa [← Hl, bG] using e4
     have e4 : decide (r.tag ≠ []) = true := decide_eq_true e4;conv=>whnf
     exact h false (by rw [hm, dT, e3, e4]; simp)
  ·conv=>whnf
   refine ae (fun e3 => ?_) (fun e3 => ?_)
   ·conv=>whnf
    refine ae (fun e4 => ?_) (fun e4 => ?_)
    ·have e4 : r.tag = [] := by simpa [← Hl, bG] using e4
     have e4 : decide (r.tag ≠ []) = false := by rw [e4]; rfl
     have he : dT v r = false := by rw [dT, e1, e4]; simp
     conv=>whnf
     refine ae (fun q => ?_) (fun q => ?_)
     ·have q : r.tag.length ≤ 64 := by have q := of_decide_eq_true q; omega
      conv=>whnf
      refine pi v r hd fun p hp => ?_;conv=>whnf
      exact h p (by rw [hm, he, decide_eq_true q, hp]; rfl)
     ·have q : ¬ r.tag.length ≤ 64 := by have q := of_decide_eq_false q; omega
      conv=>whnf
      exact h false (by rw [hm, decide_eq_false q]; simp)
    ·have e4 : r.tag ≠ [] := by simpa [← Hl, bG] using e4
     have e4 : decide (r.tag ≠ []) = true := decide_eq_true e4;conv=>whnf
     exact h false (by rw [hm, dT, e3, e4]; simp)
   ·have he : dT v r = false := by rw [dT, e1, e3]; simp
    conv=>whnf
    refine ae (fun q => ?_) (fun q => ?_)
    ·have q : r.tag.length ≤ 64 := by have q := of_decide_eq_true q; omega
     conv=>whnf
     refine pi v r hd fun p hp => ?_;conv=>whnf
     exact h p (by rw [hm, he, decide_eq_true q, hp]; rfl)
    ·have q : ¬ r.tag.length ≤ 64 := by have q := of_decide_eq_false q; omega
     conv=>whnf
     exact h false (by rw [hm, decide_eq_false q]; simp)
 ·have k1 : ¬ r.kind = 1 := by simpa using k1
  rw [if_neg k1] at hm;conv=>whnf
  refine ae (fun k2 => ?_) (fun k2 => ?_)
  ·have k2 : r.kind = 2 := by simpa using k2
   rw [if_pos k2] at hm;conv=>whnf
   refine ag.args ?_ (C7 r (pZ r) (by omega) fun p hp => ?_)
   ·exact leL.cons (.refl _) (leL.cons (iE (Gb 2 r.target 0 0 0 [])) leL.nil)
   conv=>whnf
   exact h p (by rw [hp, hm])
  ·have k2 : ¬ r.kind = 2 := by simpa using k2
   rw [if_neg k2] at hm;conv=>whnf
   exact h false hm.symm
end Go.Abs
end
