/- Several texts of this claim, one behind the other: D5, E1, D1, D2, C2, E2, E3, E4, E5, E6, E7, F7, G1, G2, G3, G4, F1, F2, F3, F4, F5, J1, ZA, L0, SH, H1, H2, H3. -/
import Derived.Test.YtnjeogcgfoabhaaGreatE0B9
import Derived.Test.YtnjeogcgfoabhaaGreatE0AT
import Derived.Test.YtnjeogcgfoabhaaGreatE0AN
import Derived.Test.YtnjeogcgfoabhaaGreatE0C1
import Derived.Shelf.Abstract
import Derived.WalkKit
import Derived.OwnWalkIn
import Derived.TacticsInMore
import Derived.LoopNIn
import Derived.LoopIn
import Derived.Sort.OwnSorted
import Derived.Below
import Derived.Shelf.Sort.Plain
import Derived.Shelf.Slices.In.SortNone
import Derived.Test.YtnjeogcgfoabhaaGreatProg
import Derived.Sort.Walk0
set_option maxRecDepth 100000
set_option maxHeartbeats 4000000
set_option linter.unusedVariables false
set_option linter.unusedSimpArgs false
namespace Go.Abs
theorem idxNat {α β : Type} {l : List α} {f : α → β} {i : Nat} {k : β → Prop} (h : i < l.length) (h1 : k (f l[i])) : qL (l.map f) (i : Int).toNat k := ab h h1
end Go.Abs
section
namespace Go.Abs
open Go Go.Proofs
abbrev B := List UInt8
def ofB (l : B) : ByteArray := ⟨l.toArray⟩
def bs (s : ByteArray) : B := s.data.toList
theorem jK (l : B) : bs (ofB l) = l := by simp [bs, ofB]
theorem kE (s : ByteArray) : ofB (bs s) = s := by simp [bs, ofB]
theorem AM {s t : ByteArray} (h : bs s = bs t) : s = t := by rw [← kE s, h, kE]
theorem bZ {l m : B} (h : ofB l = ofB m) : l = m := by rw [← jK l, h, jK]
theorem bG {l m : B} : ofB l = ofB m ↔ l = m := ⟨bZ, fun h => by rw [h]⟩
theorem IC (s t : ByteArray) : bs (s ++ t) = bs s ++ bs t := by simp [bs]
theorem bi (l m : B) : ofB l ++ ofB m = ofB (l ++ m) := AM (by rw [IC, jK, jK, jK])
theorem zy (s : ByteArray) : s.size = (bs s).length := by simp [bs]
theorem aG (l : B) : (ofB l).size = l.length := by rw [zy, jK]
theorem wP (s : ByteArray) (a b : Nat) : bs (s.extract a b) = ((bs s).take b).drop a := by
 simp [bs, ByteArray.data_extract, List.drop_take]
theorem jl (l : B) (a b : Nat) : (ofB l).extract a b = ofB ((l.take b).drop a) := AM (by rw [wP, jK, jK])
theorem je (l : B) {i : Nat} (h : i < l.length) : aD (ofB l) i = ((l[i]).toNat : Int) := by
 have hs : i < (ofB l).size := by rw [aG]; exact h
 unfold aD;rw [dif_pos hs];rfl
theorem fQ (l : B) : strOfNums (l.map fun b => (b.toNat : Int)) = ofB l := AM (by
 rw [jK];show (strOfNums _).data.toList = _;rw [strOfNums_data, abK];conv => rhs; rw [← List.map_id l]
 refine List.map_congr_left fun b _ => ?_;simp)
theorem NV {a b : UInt8} : ((a.toNat : Int) = (b.toNat : Int)) ↔ a = b := ⟨fun h => UInt8.toNat_inj.1 (by omega), fun h => by rw [h]⟩
end Go.Abs
end
section
namespace Go.Abs
open Go Go.Proofs
attribute [local irreducible] aH aD aO firstIdx
def vs (s : B) : AV := .val (.string (ofB s))
def vi (i : Int) : AV := .val (.int .i64 i)
def bj (l : List B) : List (List AV) := l.map fun s => [vs s]
theorem aF (l : List B) : (bj l).length = l.length := by simp [bj]
theorem dv (l m : List B) : bj (l ++ m) = bj l ++ bj m := by simp [bj]
def gl : List B → Nat → List (ByteArray × AV)
 | [], _ => []
 | s :: l, i => (ofB s, vi i) :: gl l (i + 1)
theorem u5 (l : List B) (s : B) : ∀ i, gl (l ++ [s]) i = gl l i ++ [(ofB s, vi (i + l.length))] := by
 induction l with
 | nil => intro i; simp [gl]
 | cons a l ih => intro i; simp [gl, ih, Int.add_assoc]; congr 2; omega
theorem Ad {l : List B} {s : B} (h : s ∉ l) : ∀ i, cD (gl l i) (ofB s) = none := by
 induction l with
 | nil => intro i; rfl
 | cons a l ih =>
  intro i;simp only [aaY, not_or] at h;simp only [gl, cD];rw [aap (fun e => h.1 (bZ e).symm)];exact ih h.2 _
theorem Ab {l : List B} {s : B} (h : s ∈ l) : ∀ i, ∃ j : Int, cD (gl l i) (ofB s) = some (vi j) := by
 induction l with
 | nil => cases h
 | cons a l ih =>
  intro i;simp only [gl, cD];by_cases e : a = s
  ·subst e; rw [aaz rfl]; exact ⟨_, rfl⟩
  ·rw [aap (fun e' => e (bZ e'))];exact ih (by simpa [Ne.symm e, eq_comm] using h) _
theorem EB {l : List B} {s : B} {v : AV} (h : s ∉ l) : ∀ i, dU (gl l i) (ofB s) v = gl l i ++ [(ofB s, v)] := by
 induction l with
 | nil => intro i; rfl
 | cons a l ih =>
  intro i;simp only [aaY, not_or] at h;simp only [gl, dU];rw [aap (fun e => h.1 (bZ e).symm), ih h.2];rfl
def dg : aE := .cells 221 [.val (.slice none 0 0), .val (.map none)]
def bL (n m : Nat) (l : List B) : aE := .cells 221 [.sl (some n) 1 (bj l), .mapv m]
def bK (l : List B) : aE := .row 9 1 l.length
def bJ (l : List B) : aE := .map (gl l 0)
def cL (l : List B) (s : B) : List B := if s ∈ l then l else l ++ [s]
theorem cg : (tab.ti 9).bytes = 16 := rfl
theorem Gl (s : B) {R} (h : R (.tup [vi 0, .val (.bool true)]) [bL 1 2 [s], bK [s], bJ [s]]) : ag Tryz.prog 156 [.ptr 0 0, vs s] [dg] R := by
 refine aa (an := K8) tab_ok Tryz.func156 ?_;conv=>whnf
 refine ⟨(by rw [cg]; decide : 1 * ((tab.ti 9).bytes + 1) ≤ 140737488355328), ?_⟩;conv=>whnf
 exact h
theorem put_old (l : List B) (s : B) (hs : s ∈ l) {R} (h : ∀ j, R (.tup [vi j, .val (.bool false)]) [bL 1 2 l, bK l, bJ l]) : ag Tryz.prog 156 [.ptr 0 0, vs s] [bL 1 2 l, bK l, bJ l] R := by
 refine aa (an := K8) tab_ok Tryz.func156 ?_;obtain ⟨j, hj⟩ := Ab hs 0;conv=>whnf
 rw [hj];conv=>whnf
 exact h j
theorem BU (l : List B) (s : B) (hl : l.length < 1000000) (hs : s ∉ l) {R} (h : R (.tup [vi l.length, .val (.bool true)]) [bL 1 2 (l ++ [s]), bK (l ++ [s]), bJ (l ++ [s])]) : ag Tryz.prog 156 [.ptr 0 0, vs s] [bL 1 2 l, bK l, bJ l] R := by
 refine aa (an := K8) tab_ok Tryz.func156 ?_;conv=>whnf
 rw [Ad hs];conv=>whnf
 refine ⟨(aF l).symm, ?_, ?_⟩
 ·rw [aF, cg]; simp; omega
 conv=>whnf
 have e1 : (bj l ++ [[AV.val (Value.string (ofB s))]]) = bj (l ++ [s]) := (dv l [s]).symm;have e2 : IntKind.i64.wrap (((bj (l ++ [s])).length : Int) - 1) = (l.length : Int) := by
  rw [aF, aI (by rw [aac]; simp <;> omega) (by rw [aac]; simp <;> omega)]; simp
 have e3 : (bj l).length + [[AV.val (Value.string (ofB s))]].length = (l ++ [s]).length := by simp [aF]
 rw [EB hs, e3, e1, e2, aF];unfold bJ at h;rw [u5, show (((0 : Nat) : Int) + (l.length : Int)) = l.length by omega] at h;exact h
theorem dJ {l : List B} {s : B} (h : s ∈ l) : cL l s = l := by simp [cL, h]
theorem du {l : List B} {s : B} (h : s ∉ l) : cL l s = l ++ [s] := by simp [cL, h]
theorem re (s : B) {R} (h : R (.tup [uv 0, .val (.bool true)]) [bL 1 2 [s], bK [s], bJ [s]]) : ag Tryz.prog 159 [.ptr 0 0, vs s] [dg] R := by
 refine aa (an := K6) tab_ok Tryz.func159 ?_;conv=>whnf
 refine Gl s ?_;conv=>whnf
 exact h
theorem jN (l : List B) (s : B) (hs : s ∈ l) {R} (h : ∀ j : Int, R (.tup [.val (.int .u64 j), .val (.bool false)]) [bL 1 2 l, bK l, bJ l]) : ag Tryz.prog 159 [.ptr 0 0, vs s] [bL 1 2 l, bK l, bJ l] R := by
 refine aa (an := K6) tab_ok Tryz.func159 ?_;conv=>whnf
 refine put_old l s hs fun j => ?_;conv=>whnf
 exact h _
theorem gW (l : List B) (s : B) (hl : l.length < 1000000) (hs : s ∉ l) {R} (h : ∀ j : Int, R (.tup [.val (.int .u64 j), .val (.bool true)]) [bL 1 2 (l ++ [s]), bK (l ++ [s]), bJ (l ++ [s])]) : ag Tryz.prog 159 [.ptr 0 0, vs s] [bL 1 2 l, bK l, bJ l] R := by
 refine aa (an := K6) tab_ok Tryz.func159 ?_;conv=>whnf
 refine BU l s hl hs ?_;conv=>whnf
 exact h _
theorem uS (l : List B) {R} (h : R (vi l.length) [bL 1 2 l, bK l, bJ l]) : ag Tryz.prog 203 [.ptr 0 0] [bL 1 2 l, bK l, bJ l] R := by
 refine aa (an := RV) tab_ok Tryz.func203 ?_;conv=>whnf
 rw [aF];exact h
def qt (l : List B) : List aE := match l with | [] => [dg] | _ => [bL 1 2 l, bK l, bJ l]
theorem ol {R} (h : R (.ptr 0 0) [dg]) : ag Tryz.prog 116 [.val (.slice none 0 0)] [] R := by
 refine aa (an := NK) tab_ok Tryz.func116 ?_;conv=>whnf
 refine aq.step ?_;conv=>whnf
 exact h
def mS (l : List B) : List B := l.foldl cL []
theorem li (a : B) (l : List B) (hl : l.length < 100000) {R} (h : ∀ m, m = mS (a :: l) → R (.ptr 0 0) [bL 1 2 m, bK m, bJ m]) : ag Tryz.prog 116 [.sl none 1 (bj (a :: l))] [] R := by
 refine aa (an := NK) tab_ok Tryz.func116 ?_;conv=>whnf
 have hsl : (bj (a :: l)).length = l.length + 1 := by rw [aF]; rfl
 refine aq.step ?_;conv=>whnf
 refine aK (by rw [hsl]; simp <;> omega) ?_;conv=>whnf
 refine Gl a ?_;conv=>whnf
 refine aq.ind2 (fun (i : Nat) (m : List B) => [(10, vi i)]) (fun i m => [(al 7, bL (ar 18 0) (ar 18 1) m), (ar 18 0, bK m), (ar 18 1, bJ m)]) (fun i _ => l.length + 1 - i)
  (fun i m => 1 ≤ i ∧ i ≤ l.length + 1 ∧ m.length ≤ i ∧ (l.drop (i - 1)).foldl cL m = mS (a :: l)) 1 [a] rfl ⟨by omega, by omega, by simp, by simp [mS, cL]⟩ ?_
 rintro i m ⟨h0, h1, h2, h3⟩ IH;conv=>whnf
 refine ae (fun hc => ?_) (fun hc => ?_)
 ·have hc : i < l.length + 1 := by rw [hsl] at hc; simp at hc; omega
  have hi : i < (a :: l).length := by simpa using hc
  conv=>whnf
  refine ab (show (i : Int).toNat < (a :: l).length by simpa using hc) ?_;obtain ⟨s, hs⟩ : ∃ s, s = (a :: l)[(i : Int).toNat]'(by simpa using hc) := ⟨_, rfl⟩;rw [← hs];have hd : l.drop (i - 1) = s :: l.drop i := by
   rw [aao (show i - 1 < l.length by omega), show i - 1 + 1 = i by omega, hs];congr 1;obtain ⟨j, rfl⟩ : ∃ j, i = j + 1 := ⟨i - 1, by omega⟩;simp
  rw [hd, aaQ] at h3;conv=>whnf
  by_cases hm : s ∈ m
  ·refine put_old m s hm fun j => ?_;rw [dJ hm] at h3;conv=>whnf
   rw [aI (by omega) (by omega)];exact IH (i + 1) m ⟨by omega, by omega, by omega, by simpa using h3⟩ (by omega)
  ·refine BU m s (by omega) hm ?_;rw [du hm] at h3;conv=>whnf
   rw [aI (by omega) (by omega)];exact IH (i + 1) (m ++ [s]) ⟨by omega, by omega, by simp; omega, by simpa using h3⟩ (by omega)
 ·have hc : i = l.length + 1 := by rw [hsl] at hc; simp at hc; omega
  subst hc;rw [Nat.add_sub_cancel, List.drop_length] at h3;conv=>whnf
  exact h m h3
end Go.Abs
end
section
namespace Go.Abs
open Go Go.Proofs
namespace Dig
def Hv : U := 0x9e3779b97f4a7c15#64
def first : U := 0xbf58476d1ce4e5b9#64
def other : U := 0x94d049bb133111eb#64
def down (k : Nat) (x : U) : U := x ^^^ (x >>> k)
def dig (n : U) : U := down 31 (down 27 (down 30 (n + Hv) * first) * other)
def up (k : Nat) (h : U) : U := h ^^^ ((h ^^^ (h >>> k)) >>> k)
def back (n : U) : U := let b0 := n; let s := fun b : U => b * (2 - n * b); s (s (s (s (s (s b0)))))
def gV (h : U) : U := up 30 (up 27 (up 31 h * back other) * back first) - Hv
def iM (n : U) (l : List U) : U := l.foldl (fun h x => dig (h ^^^ x)) (dig n)
theorem zm (k : Nat) (hk : 22 ≤ k) (x : U) : up k (down k x) = x := by
 unfold up down;have h1 : ∀ a b : U, (a ^^^ b) >>> k = (a >>> k) ^^^ (b >>> k) := fun a b => BitVec.ushiftRight_xor_distrib a b k;have h0 : x >>> k >>> k >>> k = 0#64 := by
  rw [← BitVec.shiftRight_add, ← BitVec.shiftRight_add];exact BitVec.ushiftRight_eq_zero (by omega)
 simp only [h1, h0];apply abh;intro i hi;simp only [abG]
 cases x.getLsbD i <;> cases (x >>> k).getLsbD i <;> cases (x >>> k >>> k).getLsbD i <;> simp
theorem Fq (x : U) : x * first * back first = x := by
 rw [BitVec.mul_assoc];have : first * back first = 1#64 := by decide +kernel
 rw [this, BitVec.mul_one]
theorem Fo (x : U) : x * other * back other = x := by
 rw [BitVec.mul_assoc];have : other * back other = 1#64 := by decide +kernel
 rw [this, BitVec.mul_one]
theorem lf (n : U) : gV (dig n) = n := by
 unfold gV dig;rw [zm 31 (by omega), Fo, zm 27 (by omega), Fq, zm 30 (by omega), BitVec.add_sub_cancel]
end Dig
open Dig
theorem qR (b : Int) {R} (h : R (.fn (.func 254) [] [.cptr [.val (.int .u64 b)] 0]) []) : ag Tryz.prog 221 [.val (.int .u64 b)] [] R := by
 refine aa (an := RK) tab_ok Tryz.func221 ?_;conv=>whnf
 exact h
theorem oM (b : Int) {R} (h : R (.fn (.func 255) [] [.cptr [.val (.int .u64 b)] 0]) []) : ag Tryz.prog 222 [.val (.int .u64 b)] [] R := by
 refine aa (an := RJ) tab_ok Tryz.func222 ?_;conv=>whnf
 exact h
theorem uV (b : Int) {R} (h : R (.fn (.func 227) [] [.cptr [.val (.int .u64 b)] 0]) []) : ag Tryz.prog 175 [.val (.int .u64 b)] [] R := by
 refine aa (an := Sa) tab_ok Tryz.func175 ?_;conv=>whnf
 exact h
def Ll (e : List AV) (g : U → U) : Prop := ∃ f cs, e = [.fn (.func f) [] [.cptr cs 0]] ∧ tab.fn f = true ∧ ∀ x R, R (uv (g x)) [] → ag Tryz.prog f [uv x, .cptr cs 0] [] R
theorem DB (x : U) (k : Nat) (hk : k ≤ 64) : ((x.toNat : Int)).fdiv (2 ^ min ((k : Int)).toNat IntKind.u64.bits) = ((x >>> k).toNat : Int) := by
 have : min ((k : Int)).toNat IntKind.u64.bits = k := by
  show min ((k : Int)).toNat 64 = k;simp; omega
 rw [this, Qb]
theorem td (k : Nat) (hk : k ≤ 64) : Ll [.fn (.func 254) [] [.cptr [.val (.int .u64 k)] 0]] (down k) := by
 refine ⟨_, _, rfl, rfl, fun x R h => ?_⟩;refine aa (an := Ro) tab_ok Tryz.func254 ?_;conv=>whnf
 rw [DB x k hk, lW];exact h
theorem qr (n : U) : Ll [.fn (.func 255) [] [.cptr [uv n] 0]] (· * n) := by
 refine ⟨_, _, rfl, rfl, fun x R h => ?_⟩;refine aa (an := Rn) tab_ok Tryz.func255 ?_;conv=>whnf
 rw [uW];exact h
theorem zn (k : Nat) (hk : k = 27 ∨ k = 30 ∨ k = 31) : Ll [.fn (.func 227) [] [.cptr [.val (.int .u64 k)] 0]] (up k) := by
 refine ⟨_, _, rfl, rfl, fun x R h => ?_⟩;refine aa (an := RE) tab_ok Tryz.func227 ?_;have key : ∀ (o : Int), o = (((x ^^^ ((x ^^^ (x >>> k)) >>> k)) : U).toNat : Int) → R (.val (.int .u64 o)) [] := by
  rintro o rfl; exact h
 have e1 : aH .xor .u64 (x.toNat : Int) ((x.toNat : Int).fdiv (2 ^ min ((k : Int)).toNat IntKind.u64.bits)) = ((x ^^^ (x >>> k)).toNat : Int) := by
  rw [DB x k (by omega), lW]
 have e2 : aH .xor .u64 (x.toNat : Int) ((aH .xor .u64 (x.toNat : Int) ((x.toNat : Int).fdiv (2 ^ min ((k : Int)).toNat IntKind.u64.bits))).fdiv (2 ^ min ((k : Int)).toNat IntKind.u64.bits)) = ((x ^^^ ((x ^^^ (x >>> k)) >>> k)).toNat : Int) := by
  rw [e1, DB _ k (by omega), lW]
 rcases hk with rfl | rfl | rfl
 all_goals
  conv=>whnf
  refine aq.step ?_;conv=>whnf
  refine aq.step ?_;conv=>whnf
  refine aq.step ?_;conv=>whnf
  exact key _ e2
end Go.Abs
end
section
namespace Go.Abs
open Go Go.Proofs Dig
attribute [local irreducible] aH aD aO
theorem tT (n : U) {R} (h : ∀ e, Ll [e] (· * back n) → R e []) : ag Tryz.prog 176 [uv n] [] R := by
 refine aa (an := R9) tab_ok Tryz.func176 ?_;have st : ∀ b : U, IntKind.u64.wrap ((b.toNat : Int) * IntKind.u64.wrap (2 - IntKind.u64.wrap ((n.toNat : Int) * (b.toNat : Int)))) = ((b * (2 - n * b) : U).toNat : Int) := by
  intro b;rw [uW, show (2 : Int) = ((2 : U).toNat : Int) from rfl, Jc, uW]
 conv=>whnf
 refine aq.step ?_;conv=>whnf
 rw [st];refine aq.step ?_;conv=>whnf
 rw [st];refine aq.step ?_;conv=>whnf
 rw [st];refine aq.step ?_;conv=>whnf
 rw [st];refine aq.step ?_;conv=>whnf
 rw [st];refine aq.step ?_;conv=>whnf
 rw [st];refine aq.step ?_;conv=>whnf
 exact oM _ (h _ (qr _))
theorem ne {α : Type} {l : List α} {i : Int} (h0 : 0 ≤ i) (h1 : i < (l.length : Int)) : i.toNat < l.length := by omega
theorem ye (x : U) (l : List (List AV)) (gs : List (U → U)) (hl : l.length = gs.length) (hlen : l.length < 1000) (hd : ∀ i (h : i < l.length), Ll l[i] (gs[i]'(by omega))) (own : Option Nm) {R} (h : R (uv (gs.foldl (fun h g => g h) x)) []) : ag Tryz.prog 174 [uv x, .sl none 1 l] [] R := by
 refine aa (an := Sb) tab_ok Tryz.func174 ?_;conv=>whnf
 refine aq.ind (α := Int × Int) (fun p => [(0, .val (.int .u64 p.2)), (9, .val (.int .i64 p.1))]) (fun _ => []) (fun p => l.length - p.1.toNat)
  (fun p => 0 ≤ p.1 ∧ p.1 ≤ l.length ∧ ∃ y : U, p.2 = (y.toNat : Int) ∧ (gs.drop p.1.toNat).foldl (fun h g => g h) y = gs.foldl (fun h g => g h) x) (0, (x.toNat : Int)) rfl ⟨by simp, by simp, x, rfl, by simp⟩ ?_
 rintro ⟨i, yy⟩ ⟨h0, h1, y, rfl, hy⟩ IH;simp only at h0 h1 hy IH;conv=>whnf
 refine ae (fun hc => ?_) (fun hc => ?_)
 ·have hc : i < (l.length : Int) := by simpa using hc
  conv=>whnf
  refine ac (by simpa using h0) ?_;refine wd (ne h0 hc) ?_;obtain ⟨f, cs, e1, e2, e3⟩ := hd i.toNat (ne h0 hc);rw [e1];conv=>whnf
  refine ac e2 ?_;refine e3 y _ ?_;conv=>whnf
  rw [aI (by omega) (by omega)];refine IH (i + 1, _) ⟨?_, ?_, _, rfl, ?_⟩ ?_
  ·simp only; omega
  ·simp only; omega
  ·simp only;rw [← hy, show (i + 1).toNat = i.toNat + 1 by omega, aao (show i.toNat < gs.length by omega), aaQ]
  ·simp only; omega
 ·have hc : i = (l.length : Int) := by simp at hc; omega
  conv=>whnf
  have : gs.drop i.toNat = [] := aay (by omega);rw [this] at hy;simp only [abH] at hy;rw [hy];exact h
theorem sF (n : U) {R} (h : ∀ d, d = dig n → R (uv d) []) : ag Tryz.prog 172 [uv n] [] R := by
 refine aa (an := { Sd with chg := [], own := [], vec := [] }) tab_ok Tryz.func172 ?_;conv=>whnf
 refine qR _ ?_;conv=>whnf
 refine oM _ ?_;conv=>whnf
 refine qR _ ?_;conv=>whnf
 refine oM _ ?_;conv=>whnf
 refine qR _ ?_;conv=>whnf
 rw [show (11400714819323198485 : Int) = (Hv.toNat : Int) from rfl, tG];refine ye _ _ [down 30, (· * first), down 27, (· * other), down 31] rfl (by simp) (fun i hi => ?_) none ?_
 ·match i, hi with
  | 0, _ => exact td 30 (by omega)
  | 1, _ => exact qr first
  | 2, _ => exact td 27 (by omega)
  | 3, _ => exact qr other
  | 4, _ => exact td 31 (by omega)
 ·conv=>whnf
  exact h _ rfl
theorem FR (n : U) {R} (h : ∀ d, d = gV n → R (uv d) []) : ag Tryz.prog 131 [uv n] [] R := by
 refine aa (an := { SH with chg := [], own := [], vec := [] }) tab_ok Tryz.func131 ?_;conv=>whnf
 refine uV _ ?_;conv=>whnf
 refine tT other fun e1 h1 => ?_;obtain ⟨f1, c1, he1, h1', h1''⟩ := h1;injection he1 with he1
 subst he1;conv=>whnf
 refine uV _ ?_;conv=>whnf
 refine tT first fun e2 h2 => ?_
 obtain ⟨f2, c2, he2, h2', h2''⟩ := h2;injection he2 with he2
 subst he2;conv=>whnf
 refine uV _ ?_;conv=>whnf
 refine ye _ _ [up 31, (· * back other), up 27, (· * back first), up 30] rfl (by simp) (fun i hi => ?_) none ?_
 ·match i, hi with
  | 0, _ => exact zn 31 (by omega)
  | 1, _ => exact ⟨f1, c1, rfl, h1', h1''⟩
  | 2, _ => exact zn 27 (by omega)
  | 3, _ => exact ⟨f2, c2, rfl, h2', h2''⟩
  | 4, _ => exact zn 30 (by omega)
 ·conv=>whnf
  rw [show (11400714819323198485 : Int) = (Hv.toNat : Int) from rfl, Jc];exact h _ rfl
def dR (l : List U) : List (List AV) := l.map fun x => [uv x]
theorem FK (n : U) (l : List U) (hl : l.length ≤ 1000000) {X : List (List AV)} (hX : X = dR l) {R} (h : ∀ d, d = iM n l → R (uv d) []) : ag Tryz.prog 177 [uv n, .sl none 1 X] [] R := by
 subst hX;refine aa (an := R8) tab_ok Tryz.func177 ?_;have hnl : (dR l).length = l.length := by simp [dR]
 conv=>whnf
 refine sF n fun d0 hd0 => ?_;conv=>whnf
 refine aq.ind (α := Int × U) (fun p => [(5, uv p.2), (12, .val (.int .i64 p.1))]) (fun _ => []) (fun p => l.length - p.1.toNat)
  (fun p => 0 ≤ p.1 ∧ p.1 ≤ l.length ∧ (l.drop p.1.toNat).foldl (fun h x => dig (h ^^^ x)) p.2 = iM n l) (0, d0) rfl ⟨by simp, by simp, by simp [iM, hd0]⟩ ?_
 rintro ⟨i, y⟩ ⟨h0, h1, hy⟩ IH;simp only at h0 h1 hy IH;conv=>whnf
 refine ae (fun hc => ?_) (fun hc => ?_)
 ·have hc : i < (l.length : Int) := by simpa [hnl] using hc
  conv=>whnf
  refine ac (by simpa using h0) ?_;refine ab (ne h0 hc) ?_;conv=>whnf
  rw [lW];refine sF _ fun d hd => ?_;conv=>whnf
  rw [aI (by omega) (by omega)];refine IH (i + 1, _) ⟨?_, ?_, ?_⟩ ?_
  ·simp only; omega
  ·simp only; omega
  ·show List.foldl _ _ (List.drop (i + 1).toNat l) = _;rw [← hy, show (i + 1).toNat = i.toNat + 1 by omega, aao (ne h0 hc), aaQ, ← hd]
  ·simp only; omega
 ·have hc : i = (l.length : Int) := by simp [hnl] at hc; omega
  conv=>whnf
  rw [aay (by omega)] at hy;simp only [abH] at hy;exact h _ hy
theorem rq (x : U) (k : Nat) (hk : k < 63) {c : Int} (hc : c = 2 ^ k) : IntKind.u64.wrap ((x.toNat : Int).tdiv c) = ((x >>> k).toNat : Int) := by
 subst hc;rw [gX];have h1 : (x.toNat : Int).tdiv (2 ^ k) = ((x >>> k).toNat : Int) := by
  rw [BitVec.toNat_ushiftRight, Nat.shiftRight_eq_div_pow];rw [Int.tdiv_eq_ediv_of_nonneg (by omega)];simp
 rw [h1];have := (x >>> k).isLt;omega
theorem jj (n : U) {R} (h : ∀ d, d = dig n → R (uv d) []) : ag Tryz.prog 23 [uv n] [] R := by
 refine aa (an := Ve) tab_ok Tryz.func23 ?_;conv=>whnf
 rw [show (11400714819323198485 : Int) = (Hv.toNat : Int) from rfl, show (13787848793156543929 : Int) = (first.toNat : Int) from rfl, show (10723151780598845931 : Int) = (other.toNat : Int) from rfl];have e30 := fun x => rq x 30 (by omega) (c := 1073741824) rfl;have e27 := fun x => rq x 27 (by omega) (c := 134217728) rfl;have e31 := fun x => rq x 31 (by omega) (c := 2147483648) rfl;rw [tG, e30, lW, uW, e27, lW, uW, e31, lW];exact h _ rfl
theorem mA (n : U) (l : List U) (hl : l.length ≤ 1000000) {X : List (List AV)} (hX : X = dR l) {R} (h : ∀ d, d = iM n l → R (uv d) []) : ag Tryz.prog 51 [uv n, .sl none 1 X] [] R := by
 subst hX;refine aa (an := UU) tab_ok Tryz.func51 ?_;have hnl : (dR l).length = l.length := by simp [dR]
 conv=>whnf
 refine jj n fun d0 hd0 => ?_;conv=>whnf
 refine aq.ind (α := Int × U) (fun p => [(5, uv p.2), (6, .val (.int .i64 p.1))]) (fun _ => []) (fun p => l.length - p.1.toNat)
  (fun p => 0 ≤ p.1 ∧ p.1 ≤ l.length ∧ (l.drop p.1.toNat).foldl (fun h x => dig (h ^^^ x)) p.2 = iM n l) (0, d0) rfl ⟨by simp, by simp, by simp [iM, hd0]⟩ ?_
 rintro ⟨i, y⟩ ⟨h0, h1, hy⟩ IH;simp only at h0 h1 hy IH;conv=>whnf
 refine ae (fun hc => ?_) (fun hc => ?_)
 ·have hc : i < (l.length : Int) := by simpa [hnl] using hc
  conv=>whnf
  refine ac (by simpa using h0) ?_;refine ab (ne h0 hc) ?_;conv=>whnf
  rw [lW];refine jj _ fun d hd => ?_;conv=>whnf
  rw [aI (by omega) (by omega)];refine IH (i + 1, _) ⟨?_, ?_, ?_⟩ ?_
  ·simp only; omega
  ·simp only; omega
  ·show List.foldl _ _ (List.drop (i + 1).toNat l) = _;rw [← hy, show (i + 1).toNat = i.toNat + 1 by omega, aao (ne h0 hc), aaQ, ← hd]
  ·simp only; omega
 ·have hc : i = (l.length : Int) := by simp [hnl] at hc; omega
  conv=>whnf
  rw [aay (by omega)] at hy;simp only [abH] at hy;exact h _ hy
end Go.Abs
end
section
namespace Go.Abs
open Go Go.Proofs Dig
theorem sx {l : List AV} (h : fO tab 12 [] l) : l = [] := h
theorem oJ {x : Int} (h : (Lit.int .u64 x).wf = true) : x = ((BitVec.ofInt 64 x : U).toNat : Int) := by
 simp only [Lit.wf, aaq, aa0] at h;have e1 : IntKind.u64.min = 0 := rfl;have e2 : IntKind.u64.max = 18446744073709551615 := rfl;rw [e1, e2] at h;exact Qc (by omega) (by omega)
end Go.Abs
end
section
namespace Go.Abs
open Go Go.Proofs
attribute [local irreducible] aH aD aO firstIdx
structure Nd where
 name : B
 source : Bool
 rule : U
 deps : List B
def Nd.enc (n : Nd) : List AV := [vs n.name, .val (.bool n.source), uv n.rule, .sl none 1 (bj n.deps)]
def nds (l : List Nd) : List (List AV) := l.map Nd.enc
theorem ib (l : List Nd) : (nds l).length = l.length := by simp [nds]
def dh (l : List Nat) : List (List AV) := l.map fun (i : Nat) => [vi (i : Int)]
theorem b8 (l : List Nat) : (dh l).length = l.length := by simp [dh]
def db (s : B) : Bool := decide (1 ≤ s.length) && decide (s.length ≤ 64)
theorem om (s : B) {R} (h : R (.val (.bool (db s))) []) : ag Tryz.prog 136 [vs s] [] R := by
 refine aa (an := SC) tab_ok Tryz.func136 ?_;have hsz : (ofB s).size = s.length := aG s;conv=>whnf
 rw [hsz];refine ae (fun hc => ?_) (fun hc => ?_)
 ·conv=>whnf
  have : db s = decide ((s.length : Int) ≤ 64) := by
   unfold db;rw [hsz] at *;have hc : 1 ≤ s.length := by simp at hc; omega
   simp [hc];omega
  rw [hsz, ← this];exact h
 ·conv=>whnf
  have : db s = false := by
   have hc : s.length = 0 := by simp at hc; omega
   simp [db, hc]
  rw [this] at h;exact h
theorem iS (s : B) {R} (h : R (.val (.bool (db s))) []) : ag Tryz.prog 106 [vs s] [] R := by
 refine aa (an := S1) tab_ok Tryz.func106 ?_;have hsz : (ofB s).size = s.length := aG s;conv=>whnf
 refine ae (fun hc => ?_) (fun hc => ?_)
 ·have hc : s ≠ [] := by
   rintro rfl;simp at hc;exact hc rfl
  have hl : 1 ≤ s.length := by cases s with | nil => exact absurd rfl hc | cons a s => simp
  conv=>whnf
  have : db s = decide ((s.length : Int) < 65) := by
   unfold db;simp [hl];omega
  rw [hsz, ← this];exact h
 ·have hc : s = [] := by
   simp at hc;have : ofB s = ofB [] := hc;exact bZ this
  subst hc;conv=>whnf
  exact h
def i7 : List B → B → Option Nat
 | [], _ => none
 | a :: l, s => if a = s then some 0 else (i7 l s).map (· + 1)
def gp (l : List B) (s : B) : Int := match i7 l s with | some i => i | none => -1
theorem iy {l : List B} {s : B} : i7 l s = none ↔ s ∉ l := by
 induction l with
 | nil => simp [i7]
 | cons a l ih =>
  simp only [i7];by_cases h : a = s
  ·simp [h]
  ·rw [aap h];simp only [Option.map_eq_none_iff, ih, aaY, not_or];exact ⟨fun h' => ⟨fun e => h e.symm, h'⟩, fun h' => h'.2⟩
theorem rK {l : List B} {s : B} {i : Nat} (h : i7 l s = some i) : l[i]? = some s ∧ ∀ j, j < i → l[j]? ≠ some s := by
 induction l generalizing i with
 | nil => simp [i7] at h
 | cons a l ih =>
  simp only [i7] at h;by_cases e : a = s
  ·rw [aaz e] at h
   cases h;subst e;exact ⟨rfl, fun j hj => by omega⟩
  ·rw [aap e] at h;obtain ⟨k, hk, rfl⟩ := Option.map_eq_some_iff.1 h;obtain ⟨h1, h2⟩ := ih hk;refine ⟨by simpa using h1, fun j hj => ?_⟩
   cases j with
   | zero => simpa using e
   | succ j => simpa using h2 j (by omega)
theorem cG {l : List B} {s : B} : gp l s < 0 ↔ s ∉ l := by
 rw [← iy];unfold gp
 cases i7 l s with
 | none => simp
 | some i => simp
theorem ly {l : List B} {s : B} {i : Nat} (h : l[i]? = some s) (h' : ∀ j, j < i → l[j]? ≠ some s) : i7 l s = some i := by
 cases e : i7 l s with
 | none => exact absurd (aaO h) (iy.1 e)
 | some k =>
  obtain ⟨h1, h2⟩ := rK e;rcases Nat.lt_trichotomy i k with hl | rfl | hl
  ·exact absurd h (h2 _ hl)
  ·rfl
  ·exact absurd h1 (h' _ hl)
theorem am {i : Nat} (h : i < 1000000000) : IntKind.i64.wrap ((i : Int) + 1) = ((i + 1 : Nat) : Int) := aI (by omega) (by omega)
theorem gL {i n : Nat} (h : decide ((i : Int) < (n : Int)) = true) : i < n := by simpa using h
theorem gP {i n : Nat} (h : decide ((i : Int) < (n : Int)) = false) : n ≤ i := by simp at h; omega
theorem ap {i n m : Nat} (e : m = n) (h : decide ((i : Int) < (m : Int)) = true) : i < n := by subst e; simpa using h
theorem au {i n m : Nat} (e : m = n) (h : decide ((i : Int) < (m : Int)) = false) : n ≤ i := by subst e; simp at h; omega
theorem fM (l : List B) (s : B) (hl : l.length < 1000000) {X : List (List AV)} (hX : X = bj l) {R} (h : ∀ p, p = gp l s → R (vi p) []) : ag Tryz.prog 107 [.sl none 1 X, vs s] [] R := by
 subst hX;refine aa (an := S0) tab_ok Tryz.func107 ?_;have hsl := aF l;conv=>whnf
 refine aq.ind1 (fun (i : Nat) => [(5, vi i)]) (fun _ => []) (fun i => l.length - i) (fun i => i ≤ l.length ∧ ∀ j, j < i → l[j]? ≠ some s) 0 rfl ⟨by omega, fun j hj => by omega⟩ ?_;rintro i ⟨h0, h1⟩ IH;conv=>whnf
 rw [hsl];refine ae (fun hc => ?_) (fun hc => ?_)
 ·have hc := gL hc
  (conv=>whnf); (repeat ((with_reducible refine ac ?_ ?_); exact aaa (by omega); (conv=>whnf)))
  refine idxNat (by simpa using hc) ?_;conv=>whnf
  refine ae (fun he => ?_) (fun he => ?_)
  ·have he : l[i] = s := by simpa [bG] using he
   conv=>whnf
   refine h _ ?_;rw [gp, ly (i := i) (by rw [aad hc, he]) h1]
  ·have he : l[i] ≠ s := by simpa [bG] using he
   conv=>whnf
   rw [am (by omega)];refine IH (i + 1) ⟨by omega, fun j hj => ?_⟩ (by omega);rcases aaN j i with hlt | hge
   ·exact h1 j hlt
   ·obtain rfl : j = i := by omega
    rw [aad hc];simpa using he
 ·have hc := gP hc;conv=>whnf
  refine h (-1) ?_;have : s ∉ l := by
   intro hm;obtain ⟨j, hj, e⟩ := abc hm;exact h1 j (by omega) (by rw [aad hj, e])
  rw [gp, iy.2 this]
theorem jz (l : List Nd) (s : B) (hl : l.length < 1000000) {X : List (List AV)} (hX : X = nds l) {R} (h : ∀ p, p = gp (l.map (·.name)) s → R (vi p) []) : ag Tryz.prog 24 [.sl none 4 X, vs s] [] R := by
 subst hX;refine aa (an := Vd) tab_ok Tryz.func24 ?_;have hsl := ib l;conv=>whnf
 refine aq.ind1 (fun (i : Nat) => [(5, vi i)]) (fun _ => []) (fun i => l.length - i) (fun i => i ≤ l.length ∧ ∀ j, j < i → (l.map (·.name))[j]? ≠ some s) 0 rfl ⟨by omega, fun j hj => by omega⟩ ?_;rintro i ⟨h0, h1⟩ IH;conv=>whnf
 rw [hsl];refine ae (fun hc => ?_) (fun hc => ?_)
 ·have hc := gL hc
  (conv=>whnf); (repeat ((with_reducible refine ac ?_ ?_); exact aaa (by omega); (conv=>whnf)))
  refine idxNat (by simpa using hc) ?_;conv=>whnf
  refine ae (fun he => ?_) (fun he => ?_)
  ·have he : l[i].name = s := by simpa [bG] using he
   conv=>whnf
   refine h _ ?_;rw [gp, ly (i := i) (by rw [aaE, aad hc]; simp [he]) h1]
  ·have he : l[i].name ≠ s := by simpa [bG] using he
   conv=>whnf
   rw [am (by omega)];refine IH (i + 1) ⟨by omega, fun j hj => ?_⟩ (by omega);rcases aaN j i with hlt | hge
   ·exact h1 j hlt
   ·obtain rfl : j = i := by omega
    rw [aaE, aad hc];simpa using he
 ·have hc := gP hc;conv=>whnf
  refine h (-1) ?_;have : s ∉ l.map (·.name) := by
   intro hm;obtain ⟨j, hj, e⟩ := abc hm;exact h1 j (by simp at hj; omega) (by rw [aad hj, e])
  rw [gp, iy.2 this]
theorem Ch (l : List Nat) (x : Int) (hl : l.length < 1000000) {X : List (List AV)} (hX : X = dh l) {R} (h : ∀ b, b = decide (∃ i ∈ l, (i : Int) = x) → R (.val (.bool b)) []) : ag Tryz.prog 97 [.sl none 1 X, vi x] [] R := by
 subst hX;refine aa (an := Ug) tab_ok Tryz.func97 ?_;have hsl := b8 l;conv=>whnf
 refine aq.ind1 (fun (i : Nat) => [(5, vi i)]) (fun _ => []) (fun i => l.length - i) (fun i => i ≤ l.length ∧ ∀ j (hj : j < l.length), j < i → ((l[j] : Nat) : Int) ≠ x) 0 rfl ⟨by omega, fun j hj hlt => by omega⟩ ?_;rintro i ⟨h0, h1⟩ IH;conv=>whnf
 rw [hsl];refine ae (fun hc => ?_) (fun hc => ?_)
 ·have hc := gL hc
  (conv=>whnf); (repeat ((with_reducible refine ac ?_ ?_); exact aaa (by omega); (conv=>whnf)))
  refine idxNat (by simpa using hc) ?_;conv=>whnf
  refine ae (fun he => ?_) (fun he => ?_)
  ·have he : ((l[i] : Nat) : Int) = x := by simpa using he
   conv=>whnf
   exact h true (aaa ⟨l[i], aaf hc, he⟩).symm
  ·have he : ((l[i] : Nat) : Int) ≠ x := by simpa using he
   conv=>whnf
   rw [am (by omega)];refine IH (i + 1) ⟨by omega, fun j hj hlt => ?_⟩ (by omega);rcases aaN j i with hlt | hge
   ·exact h1 j hj hlt
   ·obtain rfl : j = i := by omega
    exact he
 ·have hc := gP hc;conv=>whnf
  refine h false (aai ?_).symm;rintro ⟨a, ha, e⟩;obtain ⟨j, hj, rfl⟩ := abc ha;exact h1 j hj (by omega) e
def ltB (a b : B) : Bool := Op.bytesLess a b
theorem Hb (a b : B) : aO (ofB a) (ofB b) = ltB a b := by
 unfold aO ltB;rw [ByteArray.toList_eq, ByteArray.toList_eq];show Op.bytesLess (bs (ofB a)) (bs (ofB b)) = _;rw [jK, jK]
theorem Cb {a b : B} : ∀ {i : Nat}, (∀ j, j < i → a[j]? = b[j]?) → i ≤ a.length → i ≤ b.length → ltB (a.drop i) (b.drop i) = ltB a b := by
 intro i
 induction i generalizing a b with
 | zero => intro _ _ _; simp
 | succ i ih =>
  intro h ha hb
  cases a with
  | nil => simp at ha
  | cons x a =>
   cases b with
   | nil => simp at hb
   | cons y b =>
    have h0 : x = y := by simpa using h 0 (by omega)
    subst h0;simp only [List.drop_succ_cons];rw [ih (fun j hj => by simpa using h (j + 1) (by omega)) (by simpa using ha) (by simpa using hb)];simp [ltB, Op.bytesLess]
theorem Qd {a b : UInt8} : decide (((a.toNat : Nat) : Int) < ((b.toNat : Nat) : Int)) = decide (a < b) := by
 apply decide_eq_decide.2;rw [UInt8.lt_iff_toNat_lt];omega
theorem oo (a b : B) (ha : a.length < 1000000) (hb : b.length < 1000000) {R} (h : ∀ p, p = ltB a b → R (.val (.bool p)) []) : ag Tryz.prog 98 [vs a, vs b] [] R := by
 refine aa (an := Uf) tab_ok Tryz.func98 ?_;have hsa := aG a;have hsb := aG b;conv=>whnf
 refine aq.ind1 (fun (i : Nat) => [(5, vi i)]) (fun _ => []) (fun i => a.length - i) (fun i => i ≤ a.length ∧ i ≤ b.length ∧ ∀ j, j < i → a[j]? = b[j]?) 0 rfl ⟨by omega, by omega, fun j hj => by omega⟩ ?_;rintro i ⟨h0, h0', h1⟩ IH;have hend : (a.length ≤ i ∨ b.length ≤ i) → ltB a b = decide ((a.length : Int) < (b.length : Int)) := by
  intro hc;rw [← Cb h1 h0 h0'];rcases hc with hc | hc
  ·rw [aay hc]
   cases hd : b.drop i with
   | nil =>
    have := List.drop_eq_nil_iff.1 hd;simp [ltB, Op.bytesLess]; omega
   | cons y l =>
    have : i < b.length := by
     rcases aaN i b.length with h | h
     ·exact h
     ·rw [aay h] at hd; cases hd
    simp [ltB, Op.bytesLess]; omega
  ·rw [aay hc];have : ltB (a.drop i) [] = false := by cases a.drop i <;> rfl
   rw [this];simp; omega
 conv=>whnf
 rw [hsa];refine ae (fun hc => ?_) (fun hc => ?_)
 ·have hc := gL hc;conv=>whnf
  rw [hsb];refine ae (fun hc' => ?_) (fun hc' => ?_)
  ·have hc' := gL hc';have ea : aD (ofB a) (i : Int).toNat = ((a[i]).toNat : Int) := by rw [aaC, je a hc]
   have eb : aD (ofB b) (i : Int).toNat = ((b[i]).toNat : Int) := by rw [aaC, je b hc']
   (conv=>whnf); (repeat ((with_reducible refine ac ?_ ?_); exact aaa (by omega); (conv=>whnf)))
   rw [ea, eb];refine ae (fun he => ?_) (fun he => ?_)
   ·have he : a[i] ≠ b[i] := by
     intro e;rw [e] at he;simp at he
    (conv=>whnf); (repeat ((with_reducible refine ac ?_ ?_); exact aaa (by omega); (conv=>whnf)))
    rw [ea, eb, Qd];refine h _ ?_;rw [← Cb h1 h0 h0', aao hc, aao hc'];simp [ltB, Op.bytesLess, he]
   ·have he : a[i] = b[i] := by
     simp at he;exact NV.1 he
    conv=>whnf
    rw [am (by omega)];refine IH (i + 1) ⟨by omega, by omega, fun j hj => ?_⟩ (by omega);rcases aaN j i with hlt | hge
    ·exact h1 j hlt
    ·obtain rfl : j = i := by omega
     rw [aad hc, aad hc', he]
  ·have hc' := gP hc';conv=>whnf
   rw [hsa, hsb];exact h _ (hend (.inr hc')).symm
 ·have hc := gP hc;conv=>whnf
  rw [hsa, hsb];exact h _ (hend (.inl hc)).symm
theorem DM : ∀ (l m : List B), (l.foldl cL m).length ≤ m.length + l.length ∧ ((l.foldl cL m).length = m.length + l.length ↔ l.Nodup ∧ ∀ x ∈ l, x ∉ m) := by
 intro l
 induction l with
 | nil => intro m; simp
 | cons a l ih =>
  intro m;rw [aaQ];obtain ⟨h1, h2⟩ := ih (cL m a);by_cases ha : a ∈ m
  ·rw [dJ ha] at h1 h2 ⊢;refine ⟨by simp; omega, ⟨fun h => by simp at h; omega, fun h => absurd ha (h.2 a (by simp))⟩⟩
  ·rw [du ha] at h1 h2 ⊢;simp only [aac, aag, aaj] at h1 h2 ⊢;refine ⟨by omega, ?_⟩;rw [show (List.foldl cL (m ++ [a]) l).length = m.length + (l.length + 1) ↔ (List.foldl cL (m ++ [a]) l).length = m.length + (0 + 1) + l.length by omega, h2];simp only [List.nodup_cons, aaJ, aaY, List.not_mem_nil, or_false, not_or];constructor
   ·rintro ⟨g1, g2⟩;exact ⟨⟨fun h => (g2 a h).2 rfl, g1⟩, fun x hx => by
     rcases hx with rfl | hx
     ·exact ha
     ·exact (g2 x hx).1⟩
   ·rintro ⟨⟨g1, g2⟩, g3⟩;exact ⟨g2, fun x hx => ⟨g3 x (.inr hx), fun e => g1 (e ▸ hx)⟩⟩
theorem Jj (l : List B) : ((mS l).length : Int) = l.length ↔ l.Nodup := by
 have := (DM l []).2;unfold mS;rw [show (((List.foldl cL [] l).length : Nat) : Int) = ((l.length : Nat) : Int) ↔ (List.foldl cL [] l).length = ([] : List B).length + l.length by simp; omega, this];simp
def f8 (n : Nd) : Bool := !db n.name || (n.source && (decide (0 < n.deps.length) || !decide (n.rule = 0)))
def jc (n : Nd) : Int := if f8 n = true then 1 else if ¬ (n.name :: n.deps).Nodup then 1 else if 16 < n.deps.length then 5 else 0
theorem yB (n : Nd) (hn : n.deps.length < 10000) {R} (h : ∀ e, e = jc n → R (vi e) []) : ag Tryz.prog 167 [.agg n.enc] [] R := by
 refine aa (an := Si) tab_ok Tryz.func167 ?_;have hsl := aF n.deps;have bad : f8 n = true → R (vi 1) [] := fun hb => h 1 (by simp [jc, hb]);have len : (bj n.deps).length = n.deps.length := aF _;conv=>whnf
 refine om n.name ?_;conv=>whnf
 refine ae (fun h1 => ?_) (fun h1 => ?_)
 ·conv=>whnf
  exact bad (by simp at h1; simp [f8, h1])
 have h1 : db n.name = true := by simpa using h1
 have rest : f8 n = false → (∀ m, m = mS (n.name :: n.deps) → ((m.length : Int) = n.deps.length + 1 ↔ (n.name :: n.deps).Nodup)) := fun hb m hm => by
  subst hm;have := Jj (n.name :: n.deps);rw [aag] at this
  push_cast at this
  exact this
 conv=>whnf
 refine ae (fun h2 => ?_) (fun h2 => ?_)
 ·conv=>whnf
  refine ae (fun h3 => ?_) (fun h3 => ?_)
  ·conv=>whnf
   refine bad ?_;have h3 : 0 < n.deps.length := by rw [len] at h3; simp at h3; omega
   simp [f8, h2, h3]
  ·conv=>whnf
   have h3 : n.deps.length = 0 := by rw [len] at h3; simpa using h3
   refine ae (fun h4 => ?_) (fun h4 => ?_)
   ·conv=>whnf
    refine bad ?_;have h4 : ¬ n.rule = 0 := by
     rintro e;rw [e] at h4;simp at h4
    unfold f8;rw [h1, h2, aai h4];simp
   ·conv=>whnf
    have h4 : n.rule = 0 := by
     have : ((n.rule.toNat : Nat) : Int) = ((0 : U).toNat : Int) := by simpa using h4
     exact Jd.1 this
    have hb : f8 n = false := by
     unfold f8;rw [h1, h2, h3, h4];simp
    refine ⟨rfl, (show (1 + (bj n.deps).length) * ((tab.ti 9).bytes + 1) ≤ 140737488355328 by rw [len, cg]; omega), ?_⟩;conv=>whnf
    refine li n.name n.deps (by omega) fun m hm => ?_;have hm' := rest hb m hm;conv=>whnf
    refine uS m ?_;conv=>whnf
    have fin : ∀ p : Bool, p = decide (¬ (n.name :: n.deps).Nodup) → jc n = (if p = true then 1 else if 16 < n.deps.length then 5 else 0) := by
     rintro p rfl;unfold jc;rw [aap (by rw [hb]; simp)];by_cases hd : (n.name :: n.deps).Nodup
     ·have hdd : decide (¬ (n.name :: n.deps).Nodup) = false := aai (not_not_intro hd);rw [aap (not_not_intro hd)];simp only [hdd, abQ, aaW]
     ·rw [aaz hd, aaz (aaa hd)]
    rw [len, aI (by omega) (by omega)];refine ae (fun g1 => ?_) (fun g1 => ?_)
    ·conv=>whnf
     refine h 1 ?_;rw [fin true]
     ·simp
     ·symm
      apply aaa;rw [← hm'];intro e;rw [e] at g1;simp at g1
    ·have g1 : (n.name :: n.deps).Nodup := by
      rw [← hm'];simpa using g1
     have fin := fin false (by simp only [g1, not_true, decide_false]);conv=>whnf
     rw [len];refine ae (fun g2 => ?_) (fun g2 => ?_)
     ·conv=>whnf
      refine h 5 ?_;rw [fin];have : 16 < n.deps.length := by simp at g2; omega
      simp [this]
     ·conv=>whnf
      refine h 0 ?_;rw [fin];have : ¬ 16 < n.deps.length := by simp at g2; omega
      simp [this]
 ·conv=>whnf
  have hb : f8 n = false := by
   unfold f8;rw [h1, h2];simp
  refine ⟨rfl, (show (1 + (bj n.deps).length) * ((tab.ti 9).bytes + 1) ≤ 140737488355328 by rw [len, cg]; omega), ?_⟩;conv=>whnf
  refine li n.name n.deps (by omega) fun m hm => ?_;have hm' := rest hb m hm;conv=>whnf
  refine uS m ?_;conv=>whnf
  have fin : ∀ p : Bool, p = decide (¬ (n.name :: n.deps).Nodup) → jc n = (if p = true then 1 else if 16 < n.deps.length then 5 else 0) := by
   rintro p rfl;unfold jc;rw [aap (by rw [hb]; simp)];by_cases hd : (n.name :: n.deps).Nodup
   ·have hdd : decide (¬ (n.name :: n.deps).Nodup) = false := aai (not_not_intro hd);rw [aap (not_not_intro hd)];simp only [hdd, abQ, aaW]
   ·rw [aaz hd, aaz (aaa hd)]
  rw [len, aI (by omega) (by omega)];refine ae (fun g1 => ?_) (fun g1 => ?_)
  ·conv=>whnf
   refine h 1 ?_;rw [fin true]
   ·simp
   ·symm
    apply aaa;rw [← hm'];intro e;rw [e] at g1;simp at g1
  ·have g1 : (n.name :: n.deps).Nodup := by
    rw [← hm'];simpa using g1
   have fin := fin false (by simp only [g1, not_true, decide_false]);conv=>whnf
   rw [len];refine ae (fun g2 => ?_) (fun g2 => ?_)
   ·conv=>whnf
    refine h 5 ?_;rw [fin];have : 16 < n.deps.length := by simp at g2; omega
    simp [this]
   ·conv=>whnf
    refine h 0 ?_;rw [fin];have : ¬ 16 < n.deps.length := by simp at g2; omega
    simp [this]
theorem jY {a : B} {l : List B} {i : Nat} (hi : i < l.length) : (a :: l.take (i + 1)).Nodup ↔ (a :: l.take i).Nodup ∧ l[i] ≠ a ∧ l[i] ∉ l.take i := by
 rw [aab hi];simp only [List.nodup_cons, aaJ, aaA, not_or, List.nodup_append, List.nodup_nil, and_true, List.not_mem_nil, not_false_eq_true];constructor
 ·rintro ⟨⟨h1, h2⟩, h3, h4, h5⟩;exact ⟨⟨h1, h3⟩, fun e => h2 e.symm, fun hm => h5 _ hm _ rfl rfl⟩
 ·rintro ⟨⟨h1, h3⟩, h2, h5⟩;exact ⟨⟨h1, fun e => h2 e.symm⟩, h3, trivial, fun x hx y hy e => h5 (by rw [← hy, ← e]; exact hx)⟩
theorem zM (n : Nd) (hn : n.deps.length < 10000) {R} (h : ∀ e, e = jc n → R (vi e) []) : ag Tryz.prog 61 [.agg n.enc] [] R := by
 refine aa (an := UK) tab_ok Tryz.func61 ?_;have bad : f8 n = true → R (vi 1) [] := fun hb => h 1 (by simp [jc, hb]);have len : (bj n.deps).length = n.deps.length := aF _;conv=>whnf
 refine iS n.name ?_;conv=>whnf
 refine ae (fun h1 => ?_) (fun h1 => ?_)
 ·conv=>whnf
  exact bad (by simp at h1; simp [f8, h1])
 have h1 : db n.name = true := by simpa using h1
 conv=>whnf
 refine ae (fun h2 => ?_) (fun h2 => ?_)
 ·conv=>whnf
  refine ae (fun h3 => ?_) (fun h3 => ?_)
  ·conv=>whnf
   refine bad ?_;have h3 : 0 < n.deps.length := by rw [len] at h3; simp at h3; omega
   simp [f8, h2, h3]
  ·conv=>whnf
   have h3 : n.deps.length = 0 := by rw [len] at h3; simpa using h3
   refine ae (fun h4 => ?_) (fun h4 => ?_)
   ·conv=>whnf
    refine bad ?_;have h4 : ¬ n.rule = 0 := by
     rintro e;rw [e] at h4;simp at h4
    unfold f8;rw [h1, h2, aai h4];simp
   ·conv=>whnf
    have h4 : n.rule = 0 := by
     have : ((n.rule.toNat : Nat) : Int) = ((0 : U).toNat : Int) := by simpa using h4
     exact Jd.1 this
    have hb : f8 n = false := by
     unfold f8;rw [h1, h2, h3, h4];simp
    refine aq.ind1 (fun (i : Nat) => [(3, vi i)]) (fun _ => []) (fun i => n.deps.length - i) (fun i => i ≤ n.deps.length ∧ (n.name :: n.deps.take i).Nodup) 0 rfl ⟨by omega, by simp⟩ ?_;rintro i ⟨h0, hd⟩ IH;conv=>whnf
    refine ae (fun hc => ?_) (fun hc => ?_)
    ·have hc := ap len hc;have dup : ¬ (n.name :: n.deps.take (i + 1)).Nodup → R (vi 1) [] := by
      intro hn;refine h 1 ?_;have : ¬ (n.name :: n.deps).Nodup := by
       intro hd';apply hn;have : (n.name :: n.deps.take (i + 1)).Sublist (n.name :: n.deps) := List.Sublist.cons_cons _ (List.take_sublist _ _);exact hd'.sublist this
      unfold jc;rw [aap (by rw [hb]; simp), aaz this]
     (conv=>whnf); (repeat ((with_reducible refine ac ?_ ?_); exact aaa (by omega); (conv=>whnf)))
     refine idxNat (by simpa using hc) ?_;conv=>whnf
     refine ae (fun he => ?_) (fun he => ?_)
     ·have he : n.deps[i] = n.name := by simpa [bG] using he
      conv=>whnf
      exact dup (by rw [jY hc]; intro hh; exact hh.2.1 he)
     ·have he : n.deps[i] ≠ n.name := by simpa [bG] using he
      (conv=>whnf); (repeat ((with_reducible refine ac ?_ ?_); exact aaa (by omega); (conv=>whnf)))
      refine idxNat (by simpa using hc) ?_;conv=>whnf
      refine fM (n.deps.take i) n.deps[i] (by simp; omega) (by simp [bj, abR]) fun p hp => ?_;conv=>whnf
      refine ae (fun hg => ?_) (fun hg => ?_)
      ·have hg : n.deps[i] ∈ n.deps.take i := by
        have : 0 ≤ p := by simpa using hg
        rw [hp] at this;exact Classical.byContradiction fun e => by have := cG.2 e; omega
       conv=>whnf
       exact dup (by rw [jY hc]; intro hh; exact hh.2.2 hg)
      ·have hg : n.deps[i] ∉ n.deps.take i := by
        have : p < 0 := by simpa using hg
        rw [hp] at this;exact cG.1 this
       conv=>whnf
       rw [am (by omega)];exact IH (i + 1) ⟨by omega, (jY hc).2 ⟨hd, he, hg⟩⟩ (by omega)
    ·have hc := au len hc;rw [aae hc] at hd;have fin : jc n = (if 16 < n.deps.length then 5 else 0) := by
      unfold jc;rw [aap (by rw [hb]; simp), aap (not_not_intro hd)]
     conv=>whnf
     rw [len];refine ae (fun g2 => ?_) (fun g2 => ?_)
     ·conv=>whnf
      refine h 5 ?_;rw [fin];have : 16 < n.deps.length := by simp at g2; omega
      simp [this]
     ·conv=>whnf
      refine h 0 ?_;rw [fin];have : ¬ 16 < n.deps.length := by simp at g2; omega
      simp [this]
 ·conv=>whnf
  have hb : f8 n = false := by
   unfold f8;rw [h1, h2];simp
  refine aq.ind1 (fun (i : Nat) => [(3, vi i)]) (fun _ => []) (fun i => n.deps.length - i) (fun i => i ≤ n.deps.length ∧ (n.name :: n.deps.take i).Nodup) 0 rfl ⟨by omega, by simp⟩ ?_;rintro i ⟨h0, hd⟩ IH;conv=>whnf
  refine ae (fun hc => ?_) (fun hc => ?_)
  ·have hc := ap len hc;have dup : ¬ (n.name :: n.deps.take (i + 1)).Nodup → R (vi 1) [] := by
    intro hn;refine h 1 ?_;have : ¬ (n.name :: n.deps).Nodup := by
     intro hd';apply hn;have : (n.name :: n.deps.take (i + 1)).Sublist (n.name :: n.deps) := List.Sublist.cons_cons _ (List.take_sublist _ _);exact hd'.sublist this
    unfold jc;rw [aap (by rw [hb]; simp), aaz this]
   (conv=>whnf); (repeat ((with_reducible refine ac ?_ ?_); exact aaa (by omega); (conv=>whnf)))
   refine idxNat (by simpa using hc) ?_;conv=>whnf
   refine ae (fun he => ?_) (fun he => ?_)
   ·have he : n.deps[i] = n.name := by simpa [bG] using he
    conv=>whnf
    exact dup (by rw [jY hc]; intro hh; exact hh.2.1 he)
   ·have he : n.deps[i] ≠ n.name := by simpa [bG] using he
    (conv=>whnf); (repeat ((with_reducible refine ac ?_ ?_); exact aaa (by omega); (conv=>whnf)))
    refine idxNat (by simpa using hc) ?_;conv=>whnf
    refine fM (n.deps.take i) n.deps[i] (by simp; omega) (by simp [bj, abR]) fun p hp => ?_;conv=>whnf
    refine ae (fun hg => ?_) (fun hg => ?_)
    ·have hg : n.deps[i] ∈ n.deps.take i := by
      have : 0 ≤ p := by simpa using hg
      rw [hp] at this;exact Classical.byContradiction fun e => by have := cG.2 e; omega
     conv=>whnf
     exact dup (by rw [jY hc]; intro hh; exact hh.2.2 hg)
    ·have hg : n.deps[i] ∉ n.deps.take i := by
      have : p < 0 := by simpa using hg
      rw [hp] at this;exact cG.1 this
     conv=>whnf
     rw [am (by omega)];exact IH (i + 1) ⟨by omega, (jY hc).2 ⟨hd, he, hg⟩⟩ (by omega)
  ·have hc := au len hc;rw [aae hc] at hd;have fin : jc n = (if 16 < n.deps.length then 5 else 0) := by
    unfold jc;rw [aap (by rw [hb]; simp), aap (not_not_intro hd)]
   conv=>whnf
   rw [len];refine ae (fun g2 => ?_) (fun g2 => ?_)
   ·conv=>whnf
    refine h 5 ?_;rw [fin];have : 16 < n.deps.length := by simp at g2; omega
    simp [this]
   ·conv=>whnf
    refine h 0 ?_;rw [fin];have : ¬ 16 < n.deps.length := by simp at g2; omega
    simp [this]
def ke (Pv : AV → Prop) (es : List (ByteArray × AV)) (S : B → Prop) : Prop := ∀ s, (S s → ∃ v, cD es (ofB s) = some v ∧ Pv v) ∧ (¬ S s → cD es (ofB s) = none)
theorem tY (es : List (ByteArray × AV)) (k k' : ByteArray) (v : AV) : cD (dU es k v) k' = if k = k' then some v else cD es k' := by
 induction es with
 | nil => simp [dU, cD]
 | cons e es ih =>
  obtain ⟨s, u⟩ := e;simp only [dU];by_cases h : s = k
  ·subst h;rw [aaz rfl];simp only [cD];split <;> simp_all
  ·rw [aap h];simp only [cD, ih];by_cases h1 : s = k'
   ·subst h1;rw [aaz rfl, aap (Ne.symm h), aaz rfl]
   ·rw [aap h1, aap h1]
theorem ke.nil (Pv : AV → Prop) : ke Pv [] fun _ => False := fun s => ⟨fun h => h.elim, fun _ => rfl⟩
theorem ke.put {Pv : AV → Prop} {es : List (ByteArray × AV)} {S S' : B → Prop} (h : ke Pv es S) (k : B) {v : AV} (hv : Pv v) (hS : ∀ s, S' s ↔ S s ∨ s = k) : ke Pv (dU es (ofB k) v) S' := by
 intro s;rw [tY];by_cases e : k = s
 ·subst e;rw [aaz rfl];exact ⟨fun _ => ⟨v, rfl, hv⟩, fun hn => absurd ((hS k).2 (.inr rfl)) hn⟩
 ·rw [aap (fun e' => e (bZ e'))];refine ⟨fun hs => (h s).1 (((hS s).1 hs).resolve_right (fun e' => e e'.symm)), fun hs => (h s).2 fun hs' => hs ((hS s).2 (.inl hs'))⟩
theorem rJ (l : List Nd) (hl : l.length < 1000000) {R} (h : ∀ es, ke (fun v => ∃ j, v = vi j) es (fun s => s ∈ l.map (·.name)) → R (.mapv 0) [.map es]) : ag Tryz.prog 168 [.sl none 4 (nds l)] [] R := by
 refine aa (an := Sh) tab_ok Tryz.func168 ?_;have hsl := ib l;conv=>whnf
 refine aq.ind2 (fun (i : Nat) (es : List (ByteArray × AV)) => [(9, vi i)]) (fun _ es => [(al 6, .map es)]) (fun i _ => l.length - i) (fun i es => i ≤ l.length ∧ ke (fun v => ∃ j, v = vi j) es (fun s => s ∈ (l.take i).map (·.name))) 0 [] rfl ⟨by omega, by simpa using ke.nil _⟩ ?_;rintro i es ⟨h0, h1⟩ IH;conv=>whnf
 refine ae (fun hc => ?_) (fun hc => ?_)
 ·have hc := ap hsl hc
  (conv=>whnf); (repeat ((with_reducible refine ac ?_ ?_); exact aaa (by omega); (conv=>whnf)))
  refine idxNat (by simpa using hc) ?_;conv=>whnf
  rw [am (by omega)];refine IH (i + 1) (dU es (ofB l[i].name) (vi i)) ⟨by omega, ?_⟩ (by omega);refine h1.put l[i].name ⟨_, rfl⟩ fun s => ?_;rw [aab hc];simp only [aaG, aaF, abi, aaJ, aaA]
 ·have hc := au hsl hc;conv=>whnf
  refine h es ?_;rwa [aae hc] at h1
def nm (l : List Nd) (i : Nat) : B := ((l[i]?).map (·.name)).getD []
theorem eV {l : List Nd} {i : Nat} (h : i < l.length) : nm l i = l[i].name := by simp [nm, aad h]
def dps (l : List Nd) (i : Nat) : List B := ((l[i]?).map (·.deps)).getD []
theorem qQ {l : List Nd} {i : Nat} (h : i < l.length) : dps l i = l[i].deps := by simp [dps, aad h]
def ready (l : List Nd) (D : List B) (i : Nat) : Bool := decide (nm l i ∉ D) && decide (∀ d ∈ dps l i, d ∈ D)
def nq (l : List Nd) (D : List B) (ir : Option Nat) (i : Nat) : Option Nat :=
 if ready l D i = true ∧ (∀ b, ir = some b → ltB (nm l i) (nm l b) = true) then some i else ir
def ir (l : List Nd) (D : List B) (k : Nat) : Option Nat := (List.range k).foldl (nq l D) none
theorem ge (l : List Nd) (D : List B) (k : Nat) : ir l D (k + 1) = nq l D (ir l D k) k := by simp [ir, List.range_succ]
theorem iD {l : List Nd} {D : List B} : ∀ {k b : Nat}, ir l D k = some b → b < k ∧ ready l D b = true := by
 intro k
 induction k with
 | zero => intro b h; simp [ir] at h
 | succ k ih =>
  intro b h;rw [ge] at h;unfold nq at h;split at h
  ·rename_i hc;simp only [Option.some.injEq] at h;subst h;exact ⟨by omega, hc.1⟩
  ·have := ih h;exact ⟨by omega, this.2⟩
def ui (o : Option Nat) : Int := match o with | none => -1 | some b => b
def dA (l : List Nd) : Nat → List Nat → List Nat
 | 0, out => out
 | k + 1, out => match ir l (out.map (nm l)) l.length with
  | none => out
  | some b => dA l k (out ++ [b])
def c8 (l : List Nd) : List Nat := dA l l.length []
abbrev isT (v : AV) : Prop := v = .val (.bool true)
theorem Ee (s : B) (D : List B) (es : List (ByteArray × AV)) (hk : ke isT es (· ∈ D)) {R} (h : R (.val (.bool (decide (s ∉ D)))) [.cells 241 [.mapv 1], .map es]) : ag Tryz.prog 170 [vs s, .ptr 0 0] [.cells 241 [.mapv 1], .map es] R := by
 refine aa (an := Sf) tab_ok Tryz.func170 ?_;by_cases hs : s ∈ D
 ·obtain ⟨v, h1, rfl⟩ := (hk s).1 hs;conv=>whnf
  rw [h1];rw [aai (not_not_intro hs)] at h;conv=>whnf
  exact h
 ·have h1 := (hk s).2 hs;conv=>whnf
  rw [h1];rw [aaa hs] at h;conv=>whnf
  exact h
theorem zH (l : List B) (hl : l.length < 1000000) (D : List B) (es : List (ByteArray × AV)) (hk : ke isT es (· ∈ D)) {R} (h : ∀ p : Int, (0 ≤ p ↔ ∃ d ∈ l, d ∉ D) → R (vi p) [.cells 241 [.mapv 1], .map es]) : ag Tryz.prog 219 [.sl none 1 (bj l), .fn (.func 170) [] [.ptr 0 0]] [.cells 241 [.mapv 1], .map es] R := by
 refine aa (an := RL) tab_ok Tryz.func219 ?_;have hsl := aF l;conv=>whnf
 refine aq.ind1 (fun (i : Nat) => [(8, vi i)]) (fun _ => [(0, .cells 241 [.mapv 1]), (1, .map es)]) (fun i => l.length - i) (fun i => i ≤ l.length ∧ ∀ d ∈ l.take i, d ∈ D) 0 rfl ⟨by omega, by simp⟩ ?_;rintro i ⟨h0, h1⟩ IH;conv=>whnf
 refine ae (fun hc => ?_) (fun hc => ?_)
 ·have hc := ap hsl hc
  (conv=>whnf); (repeat ((with_reducible refine ac ?_ ?_); exact aaa (by omega); (conv=>whnf)))
  refine idxNat (by simpa using hc) ?_;conv=>whnf
  refine Ee l[i] D es hk ?_;conv=>whnf
  refine ae (fun he => ?_) (fun he => ?_)
  ·have he : l[i] ∉ D := aal he;conv=>whnf
   exact h _ ⟨fun _ => ⟨_, aaf hc, he⟩, fun _ => by omega⟩
  ·have he : l[i] ∈ D := by simpa using he
   conv=>whnf
   rw [am (by omega)];refine IH (i + 1) ⟨by omega, fun d hd => ?_⟩ (by omega);rw [aab hc, aaJ, aaA] at hd;rcases hd with hd | rfl
   ·exact h1 d hd
   ·exact he
 ·have hc := au hsl hc;rw [aae hc] at h1;conv=>whnf
  exact h (-1) ⟨fun hh => by omega, fun ⟨d, hd, hn⟩ => absurd (h1 d hd) hn⟩
theorem zI (l : List B) (hl : l.length < 1000000) (D : List B) (es : List (ByteArray × AV)) (hk : ke isT es (· ∈ D)) {R} (h : ∀ b, b = decide (∃ d ∈ l, d ∉ D) → R (.val (.bool b)) [.cells 241 [.mapv 1], .map es]) : ag Tryz.prog 169 [.sl none 1 (bj l), .fn (.func 170) [] [.ptr 0 0]] [.cells 241 [.mapv 1], .map es] R := by
 refine aa (an := Sg) tab_ok Tryz.func169 ?_;conv=>whnf
 refine zH l hl D es hk fun p hp => ?_;conv=>whnf
 refine h _ ?_;exact decide_eq_decide.2 hp
def fI (l : List Nd) : Prop := l.length < 100000 ∧ ∀ n ∈ l, n.deps.length < 10000 ∧ n.name.length < 10000 ∧ ∀ d ∈ n.deps, d.length < 10000
theorem sR (l : List Nd) (hl : fI l) {R} (h : ∀ r, r = c8 l → R (.sl none 1 (dh r)) []) : ag Tryz.prog 127 [.sl none 4 (nds l)] [] R := by
 refine aa (an := SL) tab_ok Tryz.func127 ?_;obtain ⟨hlen, hsm⟩ := hl;have hsl := ib l;conv=>whnf
 refine aq.ind2 (fun (out : List Nat) (es : List (ByteArray × AV)) => [(4, .sl (some (al 4)) 1 (dh out)), (12, vi out.length)]) (fun out es => [(al 3, .cells 241 [.mapv (al 9)]), (al 4, .row 3 1 out.length), (al 9, .map es)])
  (fun out _ => l.length - out.length) (fun out es => out.length ≤ l.length ∧ dA l (l.length - out.length) out = c8 l ∧ ke isT es (· ∈ out.map (nm l)) ∧ ∀ b ∈ out, b < l.length) [] [] rfl ⟨by simp, rfl, by simpa using ke.nil _, by simp⟩ ?_
 rintro out es ⟨h0, h1, hk, hb⟩ IH;have hol := b8 out;conv=>whnf
 refine ae (fun hc => ?_) (fun hc => ?_)
 ·have hc := ap hsl hc;conv=>whnf
  refine aq.ind1 (fun (k : Nat) => [(5, vi (ui (ir l (out.map (nm l)) k))), (16, vi k)]) (fun _ => [(al 3, .cells 241 [.mapv (al 9)]), (al 4, .row 3 1 out.length), (al 9, .map es)]) (fun k => l.length - k) (fun k => k ≤ l.length) 0 rfl (by omega) ?_;rintro k hk0 IH2;conv=>whnf
  refine ae (fun hc2 => ?_) (fun hc2 => ?_)
  ·have hc2 := ap hsl hc2
   (conv=>whnf); (repeat ((with_reducible refine ac ?_ ?_); exact aaa (by omega); (conv=>whnf)))
   refine idxNat (by simpa using hc2) ?_;conv=>whnf
   have same : ready l (out.map (nm l)) k = false → ui (ir l (out.map (nm l)) k) = ui (ir l (out.map (nm l)) (k + 1)) := by
    intro hr;rw [ge];unfold nq;rw [aap (by rw [hr]; simp)]
   by_cases hs : l[k].name ∈ out.map (nm l)
   ·obtain ⟨v, e1, rfl⟩ := (hk _).1 hs;have hr : ready l (out.map (nm l)) k = false := by
     unfold ready;rw [eV hc2, aai (not_not_intro hs), Bool.false_and]
    rw [e1, same hr];conv=>whnf
    rw [am (by omega)];exact IH2 (k + 1) (by omega) (by omega)
   ·rw [(hk _).2 hs];conv=>whnf
    refine zI l[k].deps (by have := (hsm _ (aaf hc2)).1; omega) (out.map (nm l)) es hk fun b hbq => ?_;conv=>whnf
    refine ae (fun hb1 => ?_) (fun hb1 => ?_)
    ·have hb1 : b = false := by simpa using hb1
     have hr : ready l (out.map (nm l)) k = true := by
      unfold ready;rw [eV hc2, qQ hc2, aaa hs, aaI];apply aaa;intro d hd;rw [hb1] at hbq;have := aat hbq.symm;exact Classical.byContradiction fun hn => this ⟨d, hd, hn⟩
     cases hbk : ir l (out.map (nm l)) k with
     | none =>
      have e2 : ir l (out.map (nm l)) (k + 1) = some k := by
       rw [ge, hbk];unfold nq;rw [aaz ⟨hr, fun b hb => by cases hb⟩]
      conv=>whnf
      rw [am (by omega)];have := IH2 (k + 1) (by omega) (by omega);rw [e2] at this;exact this
     | some b0 =>
      obtain ⟨g1, g2⟩ := iD hbk;have g1 : b0 < l.length := by omega
      rw [show ui (some b0) = (b0 : Int) from rfl]
      (conv=>whnf); (repeat ((with_reducible refine ac ?_ ?_); exact aaa (by omega); (conv=>whnf)))
      refine idxNat (by simpa using g1) ?_;conv=>whnf
      rw [Hb];refine ae (fun hlt => ?_) (fun hlt => ?_)
      ·have e2 : ir l (out.map (nm l)) (k + 1) = some k := by
        rw [ge, hbk];unfold nq;rw [aaz ⟨hr, fun b hb => by cases hb; rw [eV hc2, eV g1]; exact hlt⟩]
       conv=>whnf
       rw [am (by omega)];have := IH2 (k + 1) (by omega) (by omega);rw [e2] at this;exact this
      ·have e2 : ir l (out.map (nm l)) (k + 1) = some b0 := by
        rw [ge, hbk];unfold nq;rw [aap (fun hh => by have := hh.2 b0 rfl; rw [eV hc2, eV g1, hlt] at this; cases this)]
       conv=>whnf
       rw [am (by omega)];have := IH2 (k + 1) (by omega) (by omega);rw [e2] at this;exact this
    ·have hb1 : b = true := by simpa using hb1
     have hr : ready l (out.map (nm l)) k = false := by
      unfold ready;rw [qQ hc2, Bool.and_eq_false_iff]
      right
      apply aai;intro hall;rw [hb1] at hbq;obtain ⟨d, hd, hn⟩ := aal hbq.symm;exact hn (hall d hd)
     rw [same hr];conv=>whnf
     rw [am (by omega)];exact IH2 (k + 1) (by omega) (by omega)
  ·have hc2 := au hsl hc2;obtain rfl : k = l.length := by omega
   obtain ⟨j, hj⟩ : ∃ j, l.length - out.length = j + 1 := ⟨l.length - out.length - 1, by omega⟩;rw [hj, dA] at h1
   cases hbk : ir l (out.map (nm l)) l.length with
   | none =>
    rw [hbk] at h1;conv=>whnf
    exact h _ h1
   | some b =>
    rw [hbk] at h1;obtain ⟨g1, g2⟩ := iD hbk;rw [show ui (some b) = (b : Int) from rfl]
    (conv=>whnf); (repeat ((with_reducible refine ac ?_ ?_); exact aaa (by omega); (conv=>whnf)))
    refine idxNat (by simpa using g1) ?_;conv=>whnf
    refine ⟨hol.symm, ?_, ?_⟩
    ·rw [hol];show (out.length + 1) * (8 + 1) ≤ _;omega
    conv=>whnf
    have e1 : dh out ++ [[AV.val (Value.int IntKind.i64 (b : Int))]] = dh (out ++ [b]) := by simp [dh, vi]
    have e2 : (dh out).length + [[AV.val (Value.int IntKind.i64 (b : Int))]].length = (out ++ [b]).length := by simp [hol]
    rw [e1, e2, am (by omega), show out.length + 1 = (out ++ [b]).length by simp];refine IH (out ++ [b]) (dU es (ofB l[b].name) (.val (.bool true))) ⟨by simp; omega, ?_, ?_, ?_⟩ (by simp; omega)
    ·rw [← h1];congr 1;simp; omega
    ·refine hk.put l[b].name rfl fun s => ?_;simp only [aaG, aaF, abi, aaJ, aaA, eV g1]
    ·intro x hx;rw [aaJ, aaA] at hx;rcases hx with hx | rfl
     ·exact hb x hx
     ·exact g1
 ·have hc := au hsl hc;conv=>whnf
  refine h out ?_;rw [show l.length - out.length = 0 by omega] at h1;exact h1
theorem Ot {l : List Nd} (hd : (l.map (·.name)).Nodup) {i j : Nat} (hi : i < l.length) (hj : j < l.length) (h : nm l i = nm l j) : i = j := by
 rw [eV hi, eV hj] at h;have h1 : (l.map (·.name))[i]'(by simpa using hi) = (l.map (·.name))[j]'(by simpa using hj) := by simpa using h
 exact (List.getElem_inj hd).1 h1
theorem z6 {l : List Nd} (hd : (l.map (·.name)).Nodup) {out : List Nat} (hb : ∀ b ∈ out, b < l.length) {i : Nat} (hi : i < l.length) : i ∈ out ↔ l[i].name ∈ out.map (nm l) := by
 rw [List.mem_map];constructor
 ·exact fun h => ⟨i, h, eV hi⟩
 ·rintro ⟨j, hj, e⟩;rw [← eV hi] at e;rw [← Ot hd (hb j hj) hi e];exact hj
theorem Hx {l : List Nd} (hd : (l.map (·.name)).Nodup) {out : List Nat} (hb : ∀ b ∈ out, b < l.length) (d : B) : (∃ i ∈ out, (i : Int) = gp (l.map (·.name)) d) ↔ d ∈ out.map (nm l) := by
 unfold gp
 cases e : i7 (l.map (·.name)) d with
 | none =>
  simp only;refine ⟨fun ⟨i, _, hi⟩ => by omega, fun h => ?_⟩;obtain ⟨j, hj, e'⟩ := List.mem_map.1 h;rw [eV (hb j hj)] at e';exact absurd (List.mem_map.2 ⟨_, aaf (hb j hj), e'⟩) (iy.1 e)
 | some p =>
  simp only;obtain ⟨h1, h2⟩ := rK e;have hp : p < l.length := by
   have := (List.getElem?_eq_some_iff.1 h1).1;simpa using this
  have hn : l[p].name = d := by
   rw [aaE, aad hp] at h1;simpa using h1
  rw [← hn, ← z6 hd hb hp];exact ⟨fun ⟨i, hi, e⟩ => by have : i = p := (by omega); rwa [← this], fun h => ⟨p, h, rfl⟩⟩
theorem nH (l : List Nd) (hl : fI l) (hd : (l.map (·.name)).Nodup) {R} (h : ∀ r, r = c8 l → R (.sl none 1 (dh r)) []) : ag Tryz.prog 49 [.sl none 4 (nds l)] [] R := by
 refine aa (an := UW) tab_ok Tryz.func49 ?_;obtain ⟨hlen, hsm⟩ := hl;have hsl := ib l;conv=>whnf
 refine aq.ind1 (fun (out : List Nat) => [(3, .sl (some (al 8)) 1 (dh out))]) (fun out => [(al 8, .row 3 1 out.length)])
  (fun out => l.length - out.length) (fun out => out.length ≤ l.length ∧ dA l (l.length - out.length) out = c8 l ∧ out.Nodup ∧ ∀ b ∈ out, b < l.length) [] rfl ⟨by simp, rfl, by simp, by simp⟩ ?_
 rintro out ⟨h0, h1, hnd, hb⟩ IH;have hol := b8 out;conv=>whnf
 refine aq.ind1 (fun (k : Nat) => [(4, vi (ui (ir l (out.map (nm l)) k))), (5, vi k)]) (fun _ => [(al 8, .row 3 1 out.length)]) (fun k => l.length - k) (fun k => k ≤ l.length) 0 rfl (by omega) ?_;rintro k hk0 IH2;conv=>whnf
 refine ae (fun hc2 => ?_) (fun hc2 => ?_)
 ·have hc2 := ap hsl hc2;have hsl2 := aF l[k].deps;obtain ⟨hs1, hs2, hs3⟩ := hsm _ (aaf hc2);conv=>whnf
  refine Ch out k (by omega) rfl fun b hbq => ?_;have hbq : b = decide (l[k].name ∈ out.map (nm l)) := by
   rw [hbq];apply decide_eq_decide.2;rw [← z6 hd hb hc2];exact ⟨fun ⟨i, hi, e⟩ => by have : i = k := (by omega); rwa [← this], fun h => ⟨k, h, rfl⟩⟩
  conv=>whnf
  refine aq.ind2 (fun (j : Nat) (r : Bool) => [(6, .val (.bool r)), (7, vi j)]) (fun _ _ => [(al 8, .row 3 1 out.length)]) (fun j _ => l[k].deps.length - j)
   (fun j r => j ≤ l[k].deps.length ∧ (r = true ↔ (l[k].name ∉ out.map (nm l) ∧ ∀ d ∈ l[k].deps.take j, d ∈ out.map (nm l)))) 0 (!b) rfl ⟨by omega, by rw [hbq]; simp⟩ ?_
  rintro j r ⟨hj0, hr⟩ IH3
  (conv=>whnf); (repeat ((with_reducible refine ac ?_ ?_); exact aaa (by omega); (conv=>whnf)))
  refine idxNat (by simpa using hc2) ?_;conv=>whnf
  refine ae (fun hc3 => ?_) (fun hc3 => ?_)
  ·have hc3 := ap hsl2 hc3;have hr' : ∀ r' : Bool, (r' = true ↔ (r = true ∧ l[k].deps[j] ∈ out.map (nm l))) → (r' = true ↔ (l[k].name ∉ out.map (nm l) ∧ ∀ d ∈ l[k].deps.take (j + 1), d ∈ out.map (nm l))) := by
    intro r' e;rw [e, hr, aab hc3];constructor
    ·rintro ⟨⟨g1, g2⟩, g3⟩;refine ⟨g1, fun d hd => ?_⟩;rw [aaJ, aaA] at hd;rcases hd with hd | rfl
     ·exact g2 d hd
     ·exact g3
    ·rintro ⟨g1, g2⟩;exact ⟨⟨g1, fun d hd => g2 d (aa3 _ hd)⟩, g2 _ (List.mem_append_right _ (by simp))⟩
   conv=>whnf
   refine ae (fun hc4 => ?_) (fun hc4 => ?_)
   ·(conv=>whnf); (repeat ((with_reducible refine ac ?_ ?_); exact aaa (by omega); (conv=>whnf)))
    refine idxNat (by simpa using hc2) ?_
    (conv=>whnf); (repeat ((with_reducible refine ac ?_ ?_); exact aaa (by omega); (conv=>whnf)))
    refine idxNat (by simpa using hc3) ?_;conv=>whnf
    refine jz l l[k].deps[j] (by omega) rfl fun p hp => ?_;conv=>whnf
    refine Ch out p (by omega) rfl fun b' hb' => ?_;conv=>whnf
    rw [am (by omega)];refine IH3 (j + 1) b' ⟨by omega, hr' b' ?_⟩ (by omega);rw [hb', decide_eq_true_iff, hp, Hx hd hb];exact ⟨fun h => ⟨hc4, h⟩, fun h => h.2⟩
   ·conv=>whnf
    rw [am (by omega)];refine IH3 (j + 1) false ⟨by omega, hr' false ?_⟩ (by omega);have hc4 : r = false := hc4;rw [hc4];simp
  ·have hc3 := au hsl2 hc3;rw [aae hc3] at hr;have hrr : ready l (out.map (nm l)) k = r := by
    unfold ready;rw [eV hc2, qQ hc2, Bool.eq_iff_iff, aaq, decide_eq_true_iff, decide_eq_true_iff, hr]
   conv=>whnf
   refine ae (fun hc4 => ?_) (fun hc4 => ?_)
   ·have hr2 : ready l (out.map (nm l)) k = true := hrr.trans hc4
    cases hbk : ir l (out.map (nm l)) k with
    | none =>
     have e2 : ir l (out.map (nm l)) (k + 1) = some k := by
      rw [ge, hbk];unfold nq;rw [aaz ⟨hr2, fun b hb => by cases hb⟩]
     conv=>whnf
     rw [am (by omega)];have := IH2 (k + 1) (by omega) (by omega);rw [e2] at this;exact this
    | some b0 =>
     obtain ⟨g1, g2⟩ := iD hbk;have g1 : b0 < l.length := by omega
     rw [show ui (some b0) = (b0 : Int) from rfl]
     (conv=>whnf); (repeat ((with_reducible refine ac ?_ ?_); exact aaa (by omega); (conv=>whnf)))
     refine idxNat (by simpa using hc2) ?_
     (conv=>whnf); (repeat ((with_reducible refine ac ?_ ?_); exact aaa (by omega); (conv=>whnf)))
     refine idxNat (by simpa using g1) ?_;conv=>whnf
     refine oo l[k].name l[b0].name (by omega) (by have := (hsm _ (aaf g1)).2.1; omega) fun p hp => ?_;conv=>whnf
     refine ae (fun hlt => ?_) (fun hlt => ?_)
     ·have hlt : p = true := hlt;have e2 : ir l (out.map (nm l)) (k + 1) = some k := by
       rw [ge, hbk];unfold nq;rw [aaz ⟨hr2, fun b hb => by cases hb; rw [eV hc2, eV g1, ← hp]; exact hlt⟩]
      conv=>whnf
      rw [am (by omega)];have := IH2 (k + 1) (by omega) (by omega);rw [e2] at this;exact this
     ·have hlt : p = false := hlt;have e2 : ir l (out.map (nm l)) (k + 1) = some b0 := by
       rw [ge, hbk];unfold nq;rw [aap (fun hh => by have := hh.2 b0 rfl; rw [eV hc2, eV g1, ← hp, hlt] at this; cases this)]
      conv=>whnf
      rw [am (by omega)];have := IH2 (k + 1) (by omega) (by omega);rw [e2] at this;exact this
   ·have hr2 : ready l (out.map (nm l)) k = false := hrr.trans hc4;have e2 : ir l (out.map (nm l)) (k + 1) = ir l (out.map (nm l)) k := by
     rw [ge];unfold nq;rw [aap (by rw [hr2]; simp)]
    conv=>whnf
    rw [am (by omega)];have := IH2 (k + 1) (by omega) (by omega);rw [e2] at this;exact this
 ·have hc2 := au hsl hc2;obtain rfl : k = l.length := by omega
  cases hbk : ir l (out.map (nm l)) l.length with
  | none =>
   have hr : dA l (l.length - out.length) out = out := by
    cases l.length - out.length with
    | zero => rfl
    | succ j => rw [dA, hbk]
   conv=>whnf
   exact h _ (hr.symm.trans h1)
  | some b =>
   obtain ⟨g1, g2⟩ := iD hbk;have hbn : b ∉ out := by
    unfold ready at g2;rw [aaq, decide_eq_true_iff, eV g1] at g2;intro hm;exact g2.1 ((z6 hd hb g1).1 hm)
   have hlt : out.length < l.length := by
    have hnd' : (b :: out).Nodup := List.nodup_cons.2 ⟨hbn, hnd⟩;have hsub : (b :: out) ⊆ List.range l.length := by
     intro x hx;rw [aaY] at hx;rcases hx with rfl | hx
     ·exact List.mem_range.2 g1
     ·exact List.mem_range.2 (hb x hx)
    have := hnd'.length_le_of_subset hsub;rw [List.length_range, aag] at this;omega
   obtain ⟨j, hj⟩ : ∃ j, l.length - out.length = j + 1 := ⟨l.length - out.length - 1, by omega⟩;rw [hj, dA, hbk] at h1;rw [show ui (some b) = (b : Int) from rfl];conv=>whnf
   refine ⟨hol.symm, ?_, ?_⟩
   ·rw [hol];show (out.length + 1) * (8 + 1) ≤ _;omega
   conv=>whnf
   have e1 : dh out ++ [[AV.val (Value.int IntKind.i64 (b : Int))]] = dh (out ++ [b]) := by simp [dh, vi]
   have e2 : (dh out).length + [[AV.val (Value.int IntKind.i64 (b : Int))]].length = (out ++ [b]).length := by simp [hol]
   rw [e1, e2];refine IH (out ++ [b]) ⟨by simp; omega, ?_, ?_, ?_⟩ (by simp; omega)
   ·rw [← h1];congr 1;simp; omega
   ·rw [List.nodup_append];exact ⟨hnd, by simp, fun x hx y hy e => hbn (by rw [aaA] at hy; rw [← hy, ← e]; exact hx)⟩
   ·intro x hx;rw [aaJ, aaA] at hx;rcases hx with hx | rfl
    ·exact hb x hx
    ·exact g1
def jI : List Nd → List B → Int
 | [], _ => 0
 | n :: r, seen => if n.name ∈ seen then 1 else if jc n ≠ 0 then jc n else jI r (seen ++ [n.name])
def qT (l : List Nd) : Bool := l.all fun n => n.deps.all fun d => decide (d ∈ l.map (·.name))
def aV (l : List Nd) : Int := if 64 < l.length then 5 else if jI l [] ≠ 0 then jI l [] else if qT l = false then 6 else if (c8 l).length < l.length then 9 else 0
theorem n8 : ∀ (l : List Nd) (seen : List B), jI l seen = 0 → (l.map (·.name)).Nodup ∧ ∀ n ∈ l, n.name ∉ seen := by
 intro l
 induction l with
 | nil => intro seen _; simp
 | cons n r ih =>
  intro seen h;unfold jI at h;split at h
  ·cases h
  ·rename_i hn;split at h
   ·rename_i h0; exact absurd h h0
   ·obtain ⟨h1, h2⟩ := ih _ h;refine ⟨?_, fun m hm => ?_⟩
    ·rw [aaF, List.nodup_cons];refine ⟨fun hm => ?_, h1⟩;obtain ⟨m, hm, e⟩ := List.mem_map.1 hm;exact h2 m hm (by rw [e]; simp)
    ·rw [aaY] at hm;rcases hm with rfl | hm
     ·exact hn
     ·exact fun hs => h2 m hm (by simp [hs])
theorem tp {l : List Nd} {i : Nat} (hi : i < l.length) (seen : List B) : jI (l.drop i) seen = if l[i].name ∈ seen then 1 else if jc l[i] ≠ 0 then jc l[i] else jI (l.drop (i + 1)) (seen ++ [l[i].name]) := by
 rw [aao hi, jI]
def names (l : List Nd) : List B := l.map (·.name)
theorem nO {l : List Nd} {i : Nat} (hi : i < l.length) : names (l.take (i + 1)) = names (l.take i) ++ [l[i].name] := by
 unfold names;rw [aab hi, aaG];rfl
theorem n5 {l : List Nd} {i j : Nat} (hi : i < l.length) (hj : j < l[i].deps.length) (h : l[i].deps[j] ∉ names l) : qT l = false := by
 unfold qT;apply Bool.eq_false_iff.2;intro hall;have := List.all_eq_true.1 (List.all_eq_true.1 hall _ (aaf hi)) _ (aaf hj);exact h (aal this)
theorem mu {l : List Nd} (h : ∀ n ∈ l, ∀ d ∈ n.deps, d ∈ names l) : qT l = true := by
 unfold qT;rw [List.all_eq_true];intro n hn;rw [List.all_eq_true];intro d hd;exact aaa (h n hn d hd)
theorem Dr (l : List Nd) (hl : fI l) {R} (h : ∀ e, e = aV l → R (vi e) []) : ag Tryz.prog 126 [.sl none 4 (nds l)] [] R := by
 refine aa (an := SM) tab_ok Tryz.func126 ?_;have hl' := hl;obtain ⟨hlen, hsm⟩ := hl;have hsl := ib l;conv=>whnf
 refine ae (fun hc => ?_) (fun hc => ?_)
 ·conv=>whnf
  refine h 5 ?_;have : 64 < l.length := by rw [hsl] at hc; simp at hc; omega
  simp [aV, this]
 have h64 : ¬ 64 < l.length := by rw [hsl] at hc; simp at hc; omega
 have bad1 : ∀ e, e ≠ 0 → jI l [] = e → R (vi e) [] := fun e hb he => h _ (by unfold aV; rw [aap h64, aaz (by rw [he]; exact hb), he]);conv=>whnf
 refine ol ?_;conv=>whnf
 refine aq.step ?_;conv=>whnf
 refine ae (fun hc => ?_) (fun hc => ?_)
 ·have hc : 0 < l.length := ap (i := 0) hsl hc;obtain ⟨hs1, hs2, hs3⟩ := hsm _ (aaf hc);have hd0 := tp hc [];rw [List.drop_zero, aap (by simp)] at hd0
  (conv=>whnf); (repeat ((with_reducible refine ac ?_ ?_); exact aaa (by omega); (conv=>whnf)))
  refine idxNat (by simpa using hc) ?_;conv=>whnf
  refine re l[0].name ?_;conv=>whnf
  refine yB l[0] (by omega) fun e he => ?_;conv=>whnf
  refine ae (fun g => ?_) (fun g => ?_)
  ·have g : e ≠ 0 := by simpa using g
   conv=>whnf
   exact bad1 e g (by rw [hd0, ← he, aaz g])
  ·have g : e = 0 := by simpa using g
   rw [← he, aap (by rw [g]; simp)] at hd0;have e0 : names (l.take 1) = [l[0].name] := nO (i := 0) hc;conv=>whnf
   refine aq.ind1 (fun (i : Nat) => [(22, vi i)]) (fun i => [(ar 19 0, bL (ar 30 0) (ar 30 1) (names (l.take i))), (ar 30 0, bK (names (l.take i))), (ar 30 1, bJ (names (l.take i)))]) (fun i => l.length - i) (fun i => i ≤ l.length ∧ jI (l.drop i) (names (l.take i)) = jI l []) 1 ?_ ⟨by omega, ?_⟩ ?_
   ·rw [e0]; rfl
   ·rw [e0]; exact hd0.symm
   rintro i ⟨h0, hch⟩ IH;have hnl : (names (l.take i)).length ≤ l.length := by simp [names]; omega
   conv=>whnf
   refine ae (fun hc => ?_) (fun hc => ?_)
   ·have hc := ap hsl hc;obtain ⟨hs1, hs2, hs3⟩ := hsm _ (aaf hc);rw [tp hc] at hch
    (conv=>whnf); (repeat ((with_reducible refine ac ?_ ?_); exact aaa (by omega); (conv=>whnf)))
    refine idxNat (by simpa using hc) ?_;conv=>whnf
    by_cases hm : l[i].name ∈ names (l.take i)
    ·rw [aaz hm] at hch;refine jN _ _ hm fun j => ?_;conv=>whnf
     exact bad1 1 (by omega) hch.symm
    ·rw [aap hm] at hch;refine gW _ _ (by omega) hm fun j => ?_;conv=>whnf
     refine yB l[i] (by omega) fun e he => ?_;rw [← he] at hch;conv=>whnf
     refine ae (fun g => ?_) (fun g => ?_)
     ·have g : e ≠ 0 := by simpa using g
      rw [aaz g] at hch;conv=>whnf
      exact bad1 e g hch.symm
     ·have g : e = 0 := by simpa using g
      rw [aap (by rw [g]; simp), ← nO hc] at hch;conv=>whnf
      rw [am (by omega), ← nO hc];exact IH (i + 1) ⟨by omega, hch⟩ (by omega)
   ·have hc := au hsl hc;rw [aay hc, jI] at hch;have hchk := hch.symm;conv=>whnf
    refine rJ l (by omega) fun es hes => ?_;conv=>whnf
    refine aq.ind1 (fun (i : Nat) => [(45, vi i)]) (fun _ => [(ar 42 0, .map es)]) (fun i => l.length - i) (fun i => i ≤ l.length ∧ ∀ n ∈ l.take i, ∀ d ∈ n.deps, d ∈ names l) 0 rfl ⟨by omega, by simp⟩ ?_;rintro i ⟨h0, hdo⟩ IH;conv=>whnf
    refine ae (fun hc => ?_) (fun hc => ?_)
    ·have hc := ap hsl hc;have hsl3 := aF l[i].deps;obtain ⟨hs1, hs2, hs3⟩ := hsm _ (aaf hc)
     (conv=>whnf); (repeat ((with_reducible refine ac ?_ ?_); exact aaa (by omega); (conv=>whnf)))
     refine idxNat (by simpa using hc) ?_;conv=>whnf
     refine aq.ind1 (fun (j : Nat) => [(52, vi j)]) (fun _ => [(ar 42 0, .map es)]) (fun j => l[i].deps.length - j) (fun j => j ≤ l[i].deps.length ∧ ∀ d ∈ l[i].deps.take j, d ∈ names l) 0 rfl ⟨by omega, by simp⟩ ?_;rintro j ⟨hj0, hjo⟩ IH2;conv=>whnf
     refine ae (fun hc2 => ?_) (fun hc2 => ?_)
     ·have hc2 := ap hsl3 hc2
      (conv=>whnf); (repeat ((with_reducible refine ac ?_ ?_); exact aaa (by omega); (conv=>whnf)))
      refine idxNat (by simpa using hc2) ?_;conv=>whnf
      by_cases hm : l[i].deps[j] ∈ names l
      ·obtain ⟨v, e1, x, rfl⟩ := (hes _).1 hm;rw [e1];conv=>whnf
       rw [am (by omega)];refine IH2 (j + 1) ⟨by omega, fun d hd => ?_⟩ (by omega);rw [aab hc2, aaJ, aaA] at hd;rcases hd with hd | rfl
       ·exact hjo d hd
       ·exact hm
      ·rw [(hes _).2 hm];conv=>whnf
       refine h 6 ?_;unfold aV;rw [aap h64, aap (by rw [hchk]; simp), aaz (n5 hc hc2 hm)]
     ·have hc2 := au hsl3 hc2;rw [aae hc2] at hjo;conv=>whnf
      rw [am (by omega)];refine IH (i + 1) ⟨by omega, fun n hn => ?_⟩ (by omega);rw [aab hc, aaJ, aaA] at hn;rcases hn with hn | rfl
      ·exact hdo n hn
      ·exact hjo
    ·have hc := au hsl hc;rw [aae hc] at hdo;conv=>whnf
     refine sR l hl' fun r hr => ?_;have hrl := b8 r;have fin : aV l = if r.length < l.length then 9 else 0 := by
      unfold aV;rw [aap h64, aap (by rw [hchk]; simp), aap (by rw [mu hdo]; simp), hr]
     conv=>whnf
     rw [hrl, hsl];refine ae (fun g2 => ?_) (fun g2 => ?_)
     ·conv=>whnf
      exact h 9 (by rw [fin, aaz (gL g2)])
     ·conv=>whnf
      exact h 0 (by rw [fin, aap (by have := gP g2; omega)])
 ·have hc : l.length ≤ 0 := au (i := 0) hsl hc;have hnil : l = [] := aau (by omega);have hchk : jI l [] = 0 := by rw [hnil]; rfl
  conv=>whnf
  refine rJ l (by omega) fun es hes => ?_;conv=>whnf
  refine aq.ind1 (fun (i : Nat) => [(45, vi i)]) (fun _ => [(ar 42 0, .map es)]) (fun i => l.length - i) (fun i => i ≤ l.length ∧ ∀ n ∈ l.take i, ∀ d ∈ n.deps, d ∈ names l) 0 rfl ⟨by omega, by simp⟩ ?_;rintro i ⟨h0, hdo⟩ IH;conv=>whnf
  refine ae (fun hc => ?_) (fun hc => ?_)
  ·have hc := ap hsl hc;have hsl3 := aF l[i].deps;obtain ⟨hs1, hs2, hs3⟩ := hsm _ (aaf hc)
   (conv=>whnf); (repeat ((with_reducible refine ac ?_ ?_); exact aaa (by omega); (conv=>whnf)))
   refine idxNat (by simpa using hc) ?_;conv=>whnf
   refine aq.ind1 (fun (j : Nat) => [(52, vi j)]) (fun _ => [(ar 42 0, .map es)]) (fun j => l[i].deps.length - j) (fun j => j ≤ l[i].deps.length ∧ ∀ d ∈ l[i].deps.take j, d ∈ names l) 0 rfl ⟨by omega, by simp⟩ ?_;rintro j ⟨hj0, hjo⟩ IH2;conv=>whnf
   refine ae (fun hc2 => ?_) (fun hc2 => ?_)
   ·have hc2 := ap hsl3 hc2
    (conv=>whnf); (repeat ((with_reducible refine ac ?_ ?_); exact aaa (by omega); (conv=>whnf)))
    refine idxNat (by simpa using hc2) ?_;conv=>whnf
    by_cases hm : l[i].deps[j] ∈ names l
    ·obtain ⟨v, e1, x, rfl⟩ := (hes _).1 hm;rw [e1];conv=>whnf
     rw [am (by omega)];refine IH2 (j + 1) ⟨by omega, fun d hd => ?_⟩ (by omega);rw [aab hc2, aaJ, aaA] at hd;rcases hd with hd | rfl
     ·exact hjo d hd
     ·exact hm
    ·rw [(hes _).2 hm];conv=>whnf
     refine h 6 ?_;unfold aV;rw [aap h64, aap (by rw [hchk]; simp), aaz (n5 hc hc2 hm)]
   ·have hc2 := au hsl3 hc2;rw [aae hc2] at hjo;conv=>whnf
    rw [am (by omega)];refine IH (i + 1) ⟨by omega, fun n hn => ?_⟩ (by omega);rw [aab hc, aaJ, aaA] at hn;rcases hn with hn | rfl
    ·exact hdo n hn
    ·exact hjo
  ·have hc := au hsl hc;rw [aae hc] at hdo;conv=>whnf
   refine sR l hl' fun r hr => ?_;have hrl := b8 r;have fin : aV l = if r.length < l.length then 9 else 0 := by
    unfold aV;rw [aap h64, aap (by rw [hchk]; simp), aap (by rw [mu hdo]; simp), hr]
   conv=>whnf
   rw [hrl, hsl];refine ae (fun g2 => ?_) (fun g2 => ?_)
   ·conv=>whnf
    exact h 9 (by rw [fin, aaz (gL g2)])
   ·conv=>whnf
    exact h 0 (by rw [fin, aap (by have := gP g2; omega)])
theorem ls (l : List Nd) (hl : fI l) {R} (h : ∀ e, e = aV l → R (vi e) []) : ag Tryz.prog 25 [.sl none 4 (nds l)] [] R := by
 refine aa (an := Vc) tab_ok Tryz.func25 ?_;have hl' := hl;obtain ⟨hlen, hsm⟩ := hl;have hsl := ib l;conv=>whnf
 refine ae (fun hc => ?_) (fun hc => ?_)
 ·conv=>whnf
  refine h 5 ?_;have : 64 < l.length := by rw [hsl] at hc; simp at hc; omega
  simp [aV, this]
 have h64 : ¬ 64 < l.length := by rw [hsl] at hc; simp at hc; omega
 have bad1 : ∀ e, e ≠ 0 → jI l [] = e → R (vi e) [] := fun e hb he => h _ (by unfold aV; rw [aap h64, aaz (by rw [he]; exact hb), he]);conv=>whnf
 refine aq.ind1 (fun (i : Nat) => [(3, vi i)]) (fun i => []) (fun i => l.length - i) (fun i => i ≤ l.length ∧ jI (l.drop i) (names (l.take i)) = jI l []) 0 rfl ⟨by omega, by simp [names]⟩ ?_;rintro i ⟨h0, hch⟩ IH;conv=>whnf
 refine ae (fun hc => ?_) (fun hc => ?_)
 ·have hc := ap hsl hc;obtain ⟨hs1, hs2, hs3⟩ := hsm _ (aaf hc);rw [tp hc] at hch
  (conv=>whnf); (repeat ((with_reducible refine ac ?_ ?_); exact aaa (by omega); (conv=>whnf)))
  refine idxNat (by simpa using hc) ?_;conv=>whnf
  refine jz (l.take i) l[i].name (by simp; omega) (by simp [nds, abR]) fun p hp => ?_;have hp : p = gp (names (l.take i)) l[i].name := hp;conv=>whnf
  refine ae (fun hg => ?_) (fun hg => ?_)
  ·have hm : l[i].name ∈ names (l.take i) := by
    have : 0 ≤ p := by simpa using hg
    rw [hp] at this;exact Classical.byContradiction fun e => by have := cG.2 e; omega
   rw [aaz hm] at hch;conv=>whnf
   exact bad1 1 (by omega) hch.symm
  ·have hm : l[i].name ∉ names (l.take i) := by
    have : p < 0 := by simpa using hg
    rw [hp] at this;exact cG.1 this
   rw [aap hm] at hch
   (conv=>whnf); (repeat ((with_reducible refine ac ?_ ?_); exact aaa (by omega); (conv=>whnf)))
   refine idxNat (by simpa using hc) ?_;conv=>whnf
   refine zM l[i] (by omega) fun e he => ?_;rw [← he] at hch;conv=>whnf
   refine ae (fun g => ?_) (fun g => ?_)
   ·have g : e ≠ 0 := by simpa using g
    rw [aaz g] at hch;conv=>whnf
    exact bad1 e g hch.symm
   ·have g : e = 0 := by simpa using g
    rw [aap (by rw [g]; simp), ← nO hc] at hch;conv=>whnf
    rw [am (by omega)];exact IH (i + 1) ⟨by omega, hch⟩ (by omega)
 ·have hc := au hsl hc;rw [aay hc, jI] at hch;have hchk := hch.symm;clear IH;conv=>whnf
  refine aq.ind1 (fun (i : Nat) => [(5, vi i)]) (fun _ => []) (fun i => l.length - i) (fun i => i ≤ l.length ∧ ∀ n ∈ l.take i, ∀ d ∈ n.deps, d ∈ names l) 0 rfl ⟨by omega, by simp⟩ ?_;rintro i ⟨h0, hdo⟩ IH;conv=>whnf
  refine ae (fun hc => ?_) (fun hc => ?_)
  ·have hc := ap hsl hc;have hsl3 := aF l[i].deps;obtain ⟨hs1, hs2, hs3⟩ := hsm _ (aaf hc);conv=>whnf
   refine aq.ind1 (fun (j : Nat) => [(6, vi j)]) (fun _ => []) (fun j => l[i].deps.length - j) (fun j => j ≤ l[i].deps.length ∧ ∀ d ∈ l[i].deps.take j, d ∈ names l) 0 rfl ⟨by omega, by simp⟩ ?_;rintro j ⟨hj0, hjo⟩ IH2
   (conv=>whnf); (repeat ((with_reducible refine ac ?_ ?_); exact aaa (by omega); (conv=>whnf)))
   refine idxNat (by simpa using hc) ?_;conv=>whnf
   refine ae (fun hc2 => ?_) (fun hc2 => ?_)
   ·have hc2 := ap hsl3 hc2
    (conv=>whnf); (repeat ((with_reducible refine ac ?_ ?_); exact aaa (by omega); (conv=>whnf)))
    refine idxNat (by simpa using hc) ?_
    (conv=>whnf); (repeat ((with_reducible refine ac ?_ ?_); exact aaa (by omega); (conv=>whnf)))
    refine idxNat (by simpa using hc2) ?_;conv=>whnf
    refine jz l l[i].deps[j] (by omega) rfl fun p hp => ?_;have hp : p = gp (names l) l[i].deps[j] := hp;conv=>whnf
    refine ae (fun hg => ?_) (fun hg => ?_)
    ·have hm : l[i].deps[j] ∉ names l := by
      have : p < 0 := by simpa using hg
      rw [hp] at this;exact cG.1 this
     conv=>whnf
     refine h 6 ?_;unfold aV;rw [aap h64, aap (by rw [hchk]; simp), aaz (n5 hc hc2 hm)]
    ·have hm : l[i].deps[j] ∈ names l := by
      have : 0 ≤ p := by simpa using hg
      rw [hp] at this;exact Classical.byContradiction fun e => by have := cG.2 e; omega
     conv=>whnf
     rw [am (by omega)];refine IH2 (j + 1) ⟨by omega, fun d hd => ?_⟩ (by omega);rw [aab hc2, aaJ, aaA] at hd;rcases hd with hd | rfl
     ·exact hjo d hd
     ·exact hm
   ·have hc2 := au hsl3 hc2;rw [aae hc2] at hjo;conv=>whnf
    rw [am (by omega)];refine IH (i + 1) ⟨by omega, fun n hn => ?_⟩ (by omega);rw [aab hc, aaJ, aaA] at hn;rcases hn with hn | rfl
    ·exact hdo n hn
    ·exact hjo
  ·have hc := au hsl hc;rw [aae hc] at hdo;conv=>whnf
   refine nH l hl' (n8 l [] hchk).1 fun r hr => ?_;have hrl := b8 r;have fin : aV l = if r.length < l.length then 9 else 0 := by
    unfold aV;rw [aap h64, aap (by rw [hchk]; simp), aap (by rw [mu hdo]; simp), hr]
   conv=>whnf
   rw [hrl, hsl];refine ae (fun g2 => ?_) (fun g2 => ?_)
   ·conv=>whnf
    exact h 9 (by rw [fin, aaz (gL g2)])
   ·conv=>whnf
    exact h 0 (by rw [fin, aap (by have := gP g2; omega)])
def cn (l : List Nd) : List Nat := if aV l = 0 then c8 l else []
theorem Do (l : List Nd) (hl : fI l) {R} (h : ∀ o e, o = cn l → e = aV l → R (.tup [.sl none 1 (dh o), vi e]) []) : ag Tryz.prog 91 [.sl none 4 (nds l)] [] R := by
 refine ag.res ?_;refine aa (an := Ul) tab_ok Tryz.func91 ?_;conv=>whnf
 refine Dr l hl fun e he => ?_;conv=>whnf
 refine ae (fun g => ?_) (fun g => ?_)
 ·have g : e ≠ 0 := by simpa using g
  conv=>whnf
  refine cw (f9 (leL.cons (cy 1) (leL.cons (.refl _) leL.nil))) rfl (h [] e ?_ he);unfold cn;rw [← he, aap g]
 ·have g : e = 0 := by simpa using g
  conv=>whnf
  refine sR l hl fun r hr => ?_;conv=>whnf
  refine bB ?_;have := h r 0 (by unfold cn; rw [← he, aaz g, hr]) (by rw [← he, g]);exact this
theorem uk (l : List Nd) (hl : l.length ≤ maxLen) (hn : ∀ n ∈ l, n.deps.length ≤ maxLen) {R} (h : ∀ b : Bool, (b = false → l.length ≤ 80 ∧ ∀ n ∈ l, n.deps.length ≤ 30 ∧ n.name.length ≤ 100 ∧ ∀ d ∈ n.deps, d.length ≤ 100) → R (.val (.bool b)) []) : ag Tryz.prog 39 [.sl none 4 (nds l)] [] R := by
 refine aa (an := U2) tab_ok Tryz.func39 ?_;have hsl := ib l;have yes : R (.val (.bool true)) [] := h true (fun e => by cases e);conv=>whnf
 refine aq.ind1 (fun (i : Nat) => [(9, vi i)]) (fun _ => []) (fun i => l.length - i) (fun i => i ≤ l.length ∧ ∀ n ∈ l.take i, n.deps.length ≤ 30 ∧ n.name.length ≤ 100 ∧ ∀ d ∈ n.deps, d.length ≤ 100) 0 rfl ⟨by omega, by simp⟩ ?_;rintro i ⟨h0, hdo⟩ IH;conv=>whnf
 refine ae (fun hc => ?_) (fun hc => ?_)
 ·have hc := ap hsl hc;have hsl3 := aF l[i].deps;have hm := hn _ (aaf hc);have hmx : maxLen ≤ 9223372036854775807 := by decide
  (conv=>whnf); (repeat ((with_reducible refine ac ?_ ?_); exact aaa (by omega); (conv=>whnf)))
  refine idxNat (by simpa using hc) ?_;conv=>whnf
  rw [hsl3];refine ae (fun g1 => ?_) (fun g1 => ?_)
  ·conv=>whnf
   exact yes
  have g1 : l[i].deps.length ≤ 30 := by simp at g1; omega
  have hsn := aG l[i].name;conv=>whnf
  rw [hsn];refine ae (fun g2 => ?_) (fun g2 => ?_)
  ·conv=>whnf
   exact yes
  have g2 : l[i].name.length ≤ 100 := by simp at g2; omega
  conv=>whnf
  refine aq.ind1 (fun (j : Nat) => [(26, vi j)]) (fun _ => []) (fun j => l[i].deps.length - j) (fun j => j ≤ l[i].deps.length ∧ ∀ d ∈ l[i].deps.take j, d.length ≤ 100) 0 rfl ⟨by omega, by simp⟩ ?_;rintro j ⟨hj0, hjo⟩ IH2;conv=>whnf
  refine ae (fun hc2 => ?_) (fun hc2 => ?_)
  ·have hc2 := ap hsl3 hc2
   (conv=>whnf); (repeat ((with_reducible refine ac ?_ ?_); exact aaa (by omega); (conv=>whnf)))
   refine idxNat (by simpa using hc2) ?_;have hsd := aG l[i].deps[j];conv=>whnf
   rw [hsd];refine ae (fun g3 => ?_) (fun g3 => ?_)
   ·conv=>whnf
    exact yes
   have g3 : l[i].deps[j].length ≤ 100 := by simp at g3; omega
   conv=>whnf
   rw [am (by omega)];refine IH2 (j + 1) ⟨by omega, fun d hd => ?_⟩ (by omega);rw [aab hc2, aaJ, aaA] at hd;rcases hd with hd | rfl
   ·exact hjo d hd
   ·exact g3
  ·have hc2 := au hsl3 hc2;rw [aae hc2] at hjo;conv=>whnf
   rw [aI (by omega) (by omega), show ((i : Int) + 1) = ((i + 1 : Nat) : Int) by omega];refine IH (i + 1) ⟨by omega, fun n hn => ?_⟩ (by omega);rw [aab hc, aaJ, aaA] at hn;rcases hn with hn | rfl
   ·exact hdo n hn
   ·exact ⟨g1, g2, hjo⟩
 ·have hc := au hsl hc;rw [aae hc] at hdo;conv=>whnf
  rw [hsl];refine h _ fun e => ⟨?_, hdo⟩;simp at e;omega
theorem DF {n : Nat} {l : List (List AV)} (h : ∀ x ∈ l, cv tab (n + 1) 9 x) : ∃ m : List B, l = bj m := by
 induction l with
 | nil => exact ⟨[], rfl⟩
 | cons x l ih =>
  obtain ⟨m, rfl⟩ := ih fun y hy => h y (by simp [hy]);obtain ⟨s, rfl, hs⟩ : ∃ s : ByteArray, x = [.val (.string s)] ∧ s.size ≤ maxLen := h x (by simp);exact ⟨bs s :: m, by simp only [bj, aaF, vs, kE]⟩
theorem uY {n : Nat} {x : List AV} (h : cv tab (n + 3) 73 x) : ∃ nd : Nd, x = nd.enc ∧ nd.deps.length ≤ maxLen := by
 obtain ⟨a1, r1, rfl, ⟨s, rfl, hs⟩, a2, r2, rfl, ⟨b, rfl⟩, a3, r3, rfl, ⟨u, rfl, hu⟩, a4, r4, rfl, ⟨l, rfl, hl, hx⟩, rfl⟩ : ∃ a r, x = a ++ r ∧ (∃ s : ByteArray, a = [.val (.string s)] ∧ s.size ≤ maxLen) ∧
   ∃ a r', r = a ++ r' ∧ (∃ b, a = [.val (.bool b)]) ∧ ∃ a r'', r' = a ++ r'' ∧ (∃ y, a = [.val (.int .u64 y)] ∧ (Lit.int .u64 y).wf = true) ∧
   ∃ a r''', r'' = a ++ r''' ∧ (∃ l : List (List AV), a = [.sl none 1 l] ∧ l.length ≤ maxLen ∧ ∀ x ∈ l, cv tab (n + 1) 9 x) ∧ r''' = [] := h
 obtain ⟨m, rfl⟩ := DF hx;refine ⟨⟨bs s, b, BitVec.ofInt 64 u, m⟩, ?_, by simpa [bj] using hl⟩;simp only [Nd.enc, vs, kE, uv, aav, aam];rw [← oJ hu]
theorem oK {n : Nat} {l : List (List AV)} (h : ∀ x ∈ l, cv tab (n + 3) 73 x) : ∃ m : List Nd, l = nds m ∧ ∀ nd ∈ m, nd.deps.length ≤ maxLen := by
 induction l with
 | nil => exact ⟨[], rfl, by simp⟩
 | cons x l ih =>
  obtain ⟨m, rfl, hm⟩ := ih fun y hy => h y (by simp [hy]);obtain ⟨nd, rfl, hn⟩ := uY (h x (by simp));exact ⟨nd :: m, rfl, by
   intro y hy;rw [aaY] at hy;rcases hy with rfl | hy
   ·exact hn
   ·exact hm y hy⟩
end Go.Abs
end
section
namespace Go.Abs
open Go Go.Proofs Dig
attribute [local irreducible] aH aD aO firstIdx
structure Dp where
 name : B
 hash : U
 order : Bool
 deriving DecidableEq
def Dp.enc (d : Dp) : List AV := [vs d.name, uv d.hash, .val (.bool d.order)]
def dO (l : List Dp) : List (List AV) := l.map Dp.enc
theorem bD (l : List Dp) : (dO l).length = l.length := by simp [dO]
structure Rc where
 kind : Int
 target : B
 rule : U
 deps : List Dp
 out : U
 wen : U
 tag : B
 deriving DecidableEq
def Rc.enc (r : Rc) : List AV := [vi r.kind, vs r.target, uv r.rule, .sl none 3 (dO r.deps), uv r.out, uv r.wen, vs r.tag]
def be (l : List Rc) : List (List AV) := l.map Rc.enc
theorem bd (l : List Rc) : (be l).length = l.length := by simp [be]
theorem Dm (a b : Rc) (ha : a.deps.length < 1000000) {R} (h : ∀ p, p = decide (a = b) → R (.val (.bool p)) []) : ag Tryz.prog 53 [.agg a.enc, .agg b.enc] [] R := by
 refine aa (an := US) tab_ok Tryz.func53 ?_;have hsa := bD a.deps;have hsb := bD b.deps;have no : a ≠ b → R (.val (.bool false)) [] := fun e => h false (aai e).symm;conv=>whnf
 refine ae (fun g1 => ?_) (fun g1 => ?_)
 ·conv=>whnf
  exact no (by rintro rfl; simp at g1)
 conv=>whnf
 refine ae (fun g2 => ?_) (fun g2 => ?_)
 ·conv=>whnf
  exact no (by rintro rfl; simp at g2)
 conv=>whnf
 refine ae (fun g3 => ?_) (fun g3 => ?_)
 ·conv=>whnf
  exact no (by rintro rfl; simp at g3)
 conv=>whnf
 refine ae (fun g4 => ?_) (fun g4 => ?_)
 ·conv=>whnf
  exact no (by rintro rfl; simp at g4)
 conv=>whnf
 refine ae (fun g5 => ?_) (fun g5 => ?_)
 ·conv=>whnf
  exact no (by rintro rfl; simp at g5)
 conv=>whnf
 refine ae (fun g6 => ?_) (fun g6 => ?_)
 ·conv=>whnf
  exact no (by rintro rfl; simp at g6)
 conv=>whnf
 refine ae (fun g7 => ?_) (fun g7 => ?_)
 ·conv=>whnf
  exact no (by rintro rfl; simp at g7)
 have g7 : a.deps.length = b.deps.length := by rw [hsa, hsb] at g7; simp at g7; omega
 conv=>whnf
 refine aq.ind1 (fun (i : Nat) => [(5, vi i)]) (fun _ => []) (fun i => a.deps.length - i) (fun i => i ≤ a.deps.length ∧ a.deps.take i = b.deps.take i) 0 rfl ⟨by omega, by simp⟩ ?_;rintro i ⟨h0, h1⟩ IH;conv=>whnf
 refine ae (fun hc => ?_) (fun hc => ?_)
 ·have hc := ap hsa hc;have hcb : i < b.deps.length := by omega
  have nox : a.deps[i] ≠ b.deps[i] → R (.val (.bool false)) [] := fun e => no fun hab => by subst hab; exact e rfl
  (conv=>whnf); (repeat ((with_reducible refine ac ?_ ?_); exact aaa (by omega); (conv=>whnf)))
  refine idxNat (by simpa using hc) ?_
  (conv=>whnf); (repeat ((with_reducible refine ac ?_ ?_); exact aaa (by omega); (conv=>whnf)))
  refine idxNat (by simpa using hcb) ?_;conv=>whnf
  refine ae (fun e1 => ?_) (fun e1 => ?_)
  ·conv=>whnf
   exact nox (fun e => by rw [e] at e1; simp at e1)
  (conv=>whnf); (repeat ((with_reducible refine ac ?_ ?_); exact aaa (by omega); (conv=>whnf)))
  refine idxNat (by simpa using hc) ?_
  (conv=>whnf); (repeat ((with_reducible refine ac ?_ ?_); exact aaa (by omega); (conv=>whnf)))
  refine idxNat (by simpa using hcb) ?_;conv=>whnf
  refine ae (fun e2 => ?_) (fun e2 => ?_)
  ·conv=>whnf
   exact nox (fun e => by rw [e] at e2; simp at e2)
  (conv=>whnf); (repeat ((with_reducible refine ac ?_ ?_); exact aaa (by omega); (conv=>whnf)))
  refine idxNat (by simpa using hc) ?_
  (conv=>whnf); (repeat ((with_reducible refine ac ?_ ?_); exact aaa (by omega); (conv=>whnf)))
  refine idxNat (by simpa using hcb) ?_;conv=>whnf
  refine ae (fun e3 => ?_) (fun e3 => ?_)
  ·conv=>whnf
   exact nox (fun e => by rw [e] at e3; simp at e3)
  have ee : a.deps[i] = b.deps[i] := by
   have q1 : a.deps[i].name = b.deps[i].name := by simpa [bG] using e1
   have q2 : a.deps[i].hash = b.deps[i].hash := by
    have : (a.deps[i].hash.toNat : Int) = b.deps[i].hash.toNat := by simpa using e2
    exact aaZ (by omega)
   have q3 : a.deps[i].order = b.deps[i].order := by simpa using e3
   cases hx : a.deps[i]; cases hy : b.deps[i];rw [hx, hy] at q1 q2 q3;simp at q1 q2 q3;simp [q1, q2, q3]
  conv=>whnf
  rw [am (by omega)];refine IH (i + 1) ⟨by omega, ?_⟩ (by omega);rw [aab hc, aab hcb, h1, ee]
 ·have hc := au hsa hc;rw [aae hc, aae (by omega)] at h1;conv=>whnf
  refine h true (aaa ?_).symm;have uq : ∀ {x y : U}, (!((x.toNat : Int) == y.toNat)) = false → x = y := fun {x y} h => by
   have : (x.toNat : Int) = y.toNat := by simpa using h
   exact aaZ (by omega)
  have q1 : a.kind = b.kind := by simpa using g1
  have q2 : a.target = b.target := by simpa [bG] using g2
  have q3 : a.rule = b.rule := by
   have : (a.rule.toNat : Int) = b.rule.toNat := by simpa using g3
   exact aaZ (by omega)
  have q4 : a.out = b.out := by
   have : (a.out.toNat : Int) = b.out.toNat := by simpa using g4
   exact aaZ (by omega)
  have q5 : a.wen = b.wen := by
   have : (a.wen.toNat : Int) = b.wen.toNat := by simpa using g5
   exact aaZ (by omega)
  have q6 : a.tag = b.tag := by simpa [bG] using g6
  cases a; cases b
  simp_all
theorem A5 (r : Rc) (hr : r.deps.length ≤ maxLen) {R} (h : ∀ b : Bool, (b = false → r.deps.length ≤ 60 ∧ r.target.length ≤ 300 ∧ r.tag.length ≤ 300 ∧ ∀ d ∈ r.deps, d.name.length ≤ 300) → R (.val (.bool b)) []) : ag Tryz.prog 54 [.agg r.enc] [] R := by
 refine aa (an := UR) tab_ok Tryz.func54 ?_;have hsl := bD r.deps;have hmx : maxLen ≤ 9223372036854775807 := by decide
 have yes : R (.val (.bool true)) [] := h true (fun e => by cases e);conv=>whnf
 refine aq.ind1 (fun (i : Nat) => [(8, vi i)]) (fun _ => []) (fun i => r.deps.length - i) (fun i => i ≤ r.deps.length ∧ ∀ d ∈ r.deps.take i, d.name.length ≤ 300) 0 rfl ⟨by omega, by simp⟩ ?_;rintro i ⟨h0, hdo⟩ IH;conv=>whnf
 refine ae (fun hc => ?_) (fun hc => ?_)
 ·have hc := ap hsl hc
  (conv=>whnf); (repeat ((with_reducible refine ac ?_ ?_); exact aaa (by omega); (conv=>whnf)))
  refine idxNat (by simpa using hc) ?_;have hsn := aG r.deps[i].name;conv=>whnf
  rw [hsn];refine ae (fun g => ?_) (fun g => ?_)
  ·conv=>whnf
   exact yes
  have g : r.deps[i].name.length ≤ 300 := by simp at g; omega
  conv=>whnf
  rw [aI (by omega) (by omega), show ((i : Int) + 1) = ((i + 1 : Nat) : Int) by omega];refine IH (i + 1) ⟨by omega, fun d hd => ?_⟩ (by omega);rw [aab hc, aaJ, aaA] at hd;rcases hd with hd | rfl
  ·exact hdo d hd
  ·exact g
 ·have hc := au hsl hc;rw [aae hc] at hdo;have hst := aG r.target;have hsg := aG r.tag;conv=>whnf
  rw [hsl];refine ae (fun g1 => ?_) (fun g1 => ?_)
  ·conv=>whnf
   exact yes
  have g1 : r.deps.length ≤ 60 := by simp at g1; omega
  conv=>whnf
  rw [hst];refine ae (fun g2 => ?_) (fun g2 => ?_)
  ·conv=>whnf
   exact yes
  have g2 : r.target.length ≤ 300 := by simp at g2; omega
  conv=>whnf
  rw [hsg];refine h _ fun e => ⟨g1, g2, ?_, hdo⟩;simp at e;omega
theorem qn (l : List Rc) (hl : l.length ≤ maxLen) (hn : ∀ r ∈ l, r.deps.length ≤ maxLen) {R} (h : ∀ b : Bool, (b = false → l.length ≤ 30 ∧ ∀ r ∈ l, r.deps.length ≤ 60 ∧ r.target.length ≤ 300 ∧ r.tag.length ≤ 300 ∧ ∀ d ∈ r.deps, d.name.length ≤ 300) → R (.val (.bool b)) []) : ag Tryz.prog 17 [.sl none 7 (be l)] [] R := by
 refine aa (an := Vh) tab_ok Tryz.func17 ?_;have hsl := bd l;have hmx : maxLen ≤ 9223372036854775807 := by decide
 have yes : R (.val (.bool true)) [] := h true (fun e => by cases e);conv=>whnf
 refine aq.ind1 (fun (i : Nat) => [(7, vi i)]) (fun _ => []) (fun i => l.length - i) (fun i => i ≤ l.length ∧ ∀ r ∈ l.take i, r.deps.length ≤ 60 ∧ r.target.length ≤ 300 ∧ r.tag.length ≤ 300 ∧ ∀ d ∈ r.deps, d.name.length ≤ 300) 0 rfl ⟨by omega, by simp⟩ ?_;rintro i ⟨h0, hdo⟩ IH;conv=>whnf
 refine ae (fun hc => ?_) (fun hc => ?_)
 ·have hc := ap hsl hc
  (conv=>whnf); (repeat ((with_reducible refine ac ?_ ?_); exact aaa (by omega); (conv=>whnf)))
  refine idxNat (by simpa using hc) ?_;conv=>whnf
  refine A5 l[i] (hn _ (aaf hc)) fun b hb => ?_;conv=>whnf
  refine ae (fun g => ?_) (fun g => ?_)
  ·conv=>whnf
   exact yes
  conv=>whnf
  rw [aI (by omega) (by omega), show ((i : Int) + 1) = ((i + 1 : Nat) : Int) by omega];refine IH (i + 1) ⟨by omega, fun d hd => ?_⟩ (by omega);rw [aab hc, aaJ, aaA] at hd;rcases hd with hd | rfl
  ·exact hdo d hd
  ·exact hb g
 ·have hc := au hsl hc;rw [aae hc] at hdo;conv=>whnf
  rw [hsl];refine h _ fun e => ⟨?_, hdo⟩;simp at e;omega
theorem G5 {n : Nat} {x : List AV} (h : cv tab (n + 3) 167 x) : ∃ d : Dp, x = d.enc := by
 obtain ⟨a1, r1, rfl, ⟨s, rfl, hs⟩, a2, r2, rfl, ⟨u, rfl, hu⟩, a3, r3, rfl, ⟨b, rfl⟩, rfl⟩ : ∃ a r, x = a ++ r ∧ (∃ s : ByteArray, a = [.val (.string s)] ∧ s.size ≤ maxLen) ∧
   ∃ a r', r = a ++ r' ∧ (∃ y, a = [.val (.int .u64 y)] ∧ (Lit.int .u64 y).wf = true) ∧ ∃ a r'', r' = a ++ r'' ∧ (∃ b, a = [.val (.bool b)]) ∧ r'' = [] := h
 refine ⟨⟨bs s, BitVec.ofInt 64 u, b⟩, ?_⟩;simp only [Dp.enc, vs, kE, uv, aav, aam];rw [← oJ hu]
theorem DJ {n : Nat} {l : List (List AV)} (h : ∀ x ∈ l, cv tab (n + 3) 167 x) : ∃ m : List Dp, l = dO m := by
 induction l with
 | nil => exact ⟨[], rfl⟩
 | cons x l ih =>
  obtain ⟨m, rfl⟩ := ih fun y hy => h y (by simp [hy]);obtain ⟨d, rfl⟩ := G5 (h x (by simp));exact ⟨d :: m, rfl⟩
theorem sM {n : Nat} {x : List AV} (h : cv tab (n + 6) 67 x) : ∃ r : Rc, x = r.enc ∧ r.deps.length ≤ maxLen ∧ (Lit.int .i64 r.kind).wf = true := by
 obtain ⟨a0, r0, rfl, ⟨k, rfl, hk⟩, a1, r1, rfl, ⟨s, rfl, hs⟩, a2, r2, rfl, ⟨u, rfl, hu⟩, a3, r3, rfl, ⟨l, rfl, hl, hx⟩, a4, r4, rfl, ⟨o, rfl, ho⟩, a5, r5, rfl, ⟨w, rfl, hw⟩, a6, r6, rfl, ⟨t, rfl, ht⟩, rfl⟩ : ∃ a r, x = a ++ r ∧ (∃ y, a = [.val (.int .i64 y)] ∧ (Lit.int .i64 y).wf = true) ∧ ∃ a r', r = a ++ r' ∧ (∃ s : ByteArray, a = [.val (.string s)] ∧ s.size ≤ maxLen) ∧
   ∃ a r'', r' = a ++ r'' ∧ (∃ y, a = [.val (.int .u64 y)] ∧ (Lit.int .u64 y).wf = true) ∧
   ∃ a r3, r'' = a ++ r3 ∧ (∃ l : List (List AV), a = [.sl none 3 l] ∧ l.length ≤ maxLen ∧ ∀ x ∈ l, cv tab (n + 4) 167 x) ∧
   ∃ a r4, r3 = a ++ r4 ∧ (∃ y, a = [.val (.int .u64 y)] ∧ (Lit.int .u64 y).wf = true) ∧
   ∃ a r5, r4 = a ++ r5 ∧ (∃ y, a = [.val (.int .u64 y)] ∧ (Lit.int .u64 y).wf = true) ∧
   ∃ a r6, r5 = a ++ r6 ∧ (∃ s : ByteArray, a = [.val (.string s)] ∧ s.size ≤ maxLen) ∧ r6 = [] := h
 obtain ⟨m, rfl⟩ := DJ (n := n + 1) hx;refine ⟨⟨k, bs s, BitVec.ofInt 64 u, m, BitVec.ofInt 64 o, BitVec.ofInt 64 w, bs t⟩, ?_, by simpa [dO] using hl, hk⟩;simp only [Rc.enc, vs, vi, kE, uv, aav, aam];rw [← oJ hu, ← oJ ho, ← oJ hw]
theorem DG {n : Nat} {l : List (List AV)} (h : ∀ x ∈ l, cv tab (n + 6) 67 x) : ∃ m : List Rc, l = be m ∧ ∀ r ∈ m, r.deps.length ≤ maxLen := by
 induction l with
 | nil => exact ⟨[], rfl, by simp⟩
 | cons x l ih =>
  obtain ⟨m, rfl, hm⟩ := ih fun y hy => h y (by simp [hy]);obtain ⟨r, rfl, hr, _⟩ := sM (h x (by simp));exact ⟨r :: m, rfl, by
   intro y hy;rw [aaY] at hy;rcases hy with rfl | hy
   ·exact hr
   ·exact hm y hy⟩
theorem zd {ts : List TypeId} {l : List AV} (h : fO tab 12 (46 :: ts) l) : ∃ (x : List Rc) (l' : List AV), l = .sl none 7 (be x) :: l' ∧ x.length ≤ maxLen ∧ (∀ r ∈ x, r.deps.length ≤ maxLen) ∧ fO tab 12 ts l' := by
 obtain ⟨a, l', rfl, h1, h2⟩ := h;obtain ⟨x, e, hl, hx⟩ : ∃ x : List (List AV), [a] = [.sl none 7 x] ∧ x.length ≤ maxLen ∧ ∀ y ∈ x, cv tab 11 67 y := h1;obtain ⟨m, rfl, hm⟩ := DG (n := 5) hx;simp only [List.cons.injEq, and_true] at e;subst e;exact ⟨m, l', rfl, by simpa [be] using hl, hm, h2⟩
theorem jx (l : List U) : (dR l).length = l.length := by simp [dR]
def dD : List B → List U → List Dp
 | n :: ns, h :: hs => ⟨n, h, false⟩ :: dD ns hs
 | _, _ => []
theorem mL {ns : List B} {hs : List U} (h : hs.length = ns.length) : (dD ns hs).length = ns.length := by
 induction ns generalizing hs with
 | nil => rfl
 | cons n ns ih =>
  cases hs with
  | nil => simp at h
  | cons x hs => simp [dD, ih (by simpa using h)]
theorem mv {ns : List B} {hs : List U} (h : hs.length = ns.length) {i : Nat} (hi : i < ns.length) : dD (ns.take (i + 1)) (hs.take (i + 1)) = dD (ns.take i) (hs.take i) ++ [⟨ns[i], hs[i], false⟩] := by
 induction ns generalizing hs i with
 | nil => simp at hi
 | cons n ns ih =>
  cases hs with
  | nil => simp at h
  | cons x hs =>
   cases i with
   | zero => simp [dD]
   | succ i => simp [dD, ih (hs := hs) (i := i) (by simpa using h) (by simpa using hi)]
def eG : Rc := ⟨0, [], 0, [], 0, 0, []⟩
def fX (n : Nd) (hs : List U) : Bool := n.source || decide (hs.length ≠ n.deps.length)
def gk (n : Nd) (hs : List U) (c w : U) : Rc := if fX n hs = true then eG else ⟨1, n.name, n.rule, dD n.deps hs, dig c, w, []⟩
def sN (n : Nd) (hs : List U) : Int := if fX n hs = true then 1 else 0
theorem pg : leL [.val (.int .i64 0), .val (.string ⟨#[]⟩), .val (.int .u64 0), .val (.slice none 0 0), .val (.int .u64 0), .val (.int .u64 0), .val (.string ⟨#[]⟩)] eG.enc :=
 leL.cons (.refl _) (leL.cons (.refl _) (leL.cons (.refl _) (leL.cons (cy 3) (leL.refl _))))
theorem Di (n : Nd) (hn : n.deps.length < 1000000) (hs : List U) (c w : U) {R} (h : ∀ r e, r = gk n hs c w → e = sN n hs → R (.tup [.agg r.enc, vi e]) []) : ag Tryz.prog 133 [.agg n.enc, .sl none 1 (dR hs), uv c, uv w] [] R := by
 refine ag.res ?_;refine aa (an := SF) tab_ok Tryz.func133 ?_;have hsd := aF n.deps;have hsh := jx hs;have bad : fX n hs = true → ∃ r', AV.le (.tup [.agg [.val (.int .i64 0), .val (.string ⟨#[]⟩), .val (.int .u64 0), .val (.slice none 0 0), .val (.int .u64 0), .val (.int .u64 0), .val (.string ⟨#[]⟩)], vi 1]) r' ∧ (∀ m ∈ r'.names, m ∈ (AV.tup [.agg [.val (.int .i64 0), .val (.string ⟨#[]⟩), .val (.int .u64 0), .val (.slice none 0 0), .val (.int .u64 0), .val (.int .u64 0), .val (.string ⟨#[]⟩)], vi 1]).names) ∧ R r' [] := fun hb =>
  cw (f9 (leL.cons (iJ pg) (leL.refl _))) rfl (h eG 1 (by rw [gk, aaz hb]) (by rw [sN, aaz hb]))
 conv=>whnf
 refine ae (fun g1 => ?_) (fun g1 => ?_)
 ·conv=>whnf
  exact bad (by rw [fX, g1]; rfl)
 conv=>whnf
 rw [hsh, hsd];refine ae (fun g2 => ?_) (fun g2 => ?_)
 ·conv=>whnf
  exact bad (by rw [fX, g1, abv]; simp at g2; simp; omega)
 have g2 : hs.length = n.deps.length := by simp at g2; omega
 have hbad : fX n hs = false := by rw [fX, g1, abv]; simp [g2]
 conv=>whnf
 refine sF c fun d hd => ?_;conv=>whnf
 refine aq.step ?_;conv=>whnf
 have hn0 : ∀ {i : Nat}, i < hs.length → i < n.deps.length := fun hi => by omega
 have done : ∀ ds, ds = dD n.deps hs → R (.tup [.agg [vi 1, vs n.name, uv n.rule, .sl none 3 (dO ds), uv d, uv w, vs []], vi 0]) [] := fun ds hds =>
  h ⟨1, n.name, n.rule, ds, d, w, []⟩ 0 (by rw [gk, hbad, hds, hd]; rfl) (by rw [sN, hbad]; rfl)
 refine ae (fun hc => ?_) (fun hc => ?_)
 ·have hc : 0 < hs.length := ap (i := 0) hsh hc;have hc' := hn0 hc
  (conv=>whnf); (repeat ((with_reducible refine ac ?_ ?_); exact aaa (by omega); (conv=>whnf)))
  refine idxNat (by simpa using hc) ?_
  (conv=>whnf); (repeat ((with_reducible refine ac ?_ ?_); exact aaa (by omega); (conv=>whnf)))
  refine ab (show (0 : Int).toNat < n.deps.length by simpa using hc') ?_;rw [show n.deps[(0 : Int).toNat]'(by simpa using hc') = n.deps[0] from by congr 1];conv=>whnf
  refine ⟨(show 1 * (32 + 1) ≤ 140737488355328 by decide), ?_⟩;conv=>whnf
  refine aq.ind2 (fun (i : Nat) (ds : List Dp) => [(34, vi i)])
   (fun i ds => [(al 8, .cells 67 [.val (.int .i64 0), .val (.string ⟨#[]⟩), .val (.int .u64 0), .val (.slice none 0 0), .val (.int .u64 0), .val (.int .u64 0), .val (.string ⟨#[]⟩)]),
    (al 10, .cells 67 [vi 1, vs n.name, uv n.rule, .sl (some (al 49)) 3 (dO ds), uv d, uv w, vs []]), (al 49, .row 167 3 ds.length)])
   (fun i _ => hs.length - i) (fun i ds => i ≤ hs.length ∧ ds = dD (n.deps.take i) (hs.take i)) 1 [⟨n.deps[0], hs[0], false⟩] rfl ⟨by omega, ?_⟩ ?_
  ·rw [mv g2 hc']; rfl
  rintro i ds ⟨h0, hds⟩ IH;have hdl := bD ds;have hdi : ds.length = i := by rw [hds, mL (by simp; omega)]; simp; omega
  conv=>whnf
  refine ae (fun hc => ?_) (fun hc => ?_)
  ·have hc := ap hsh hc;have hc' := hn0 hc
   (conv=>whnf); (repeat ((with_reducible refine ac ?_ ?_); exact aaa (by omega); (conv=>whnf)))
   refine idxNat (by simpa using hc) ?_
   (conv=>whnf); (repeat ((with_reducible refine ac ?_ ?_); exact aaa (by omega); (conv=>whnf)))
   refine ab (show (i : Int).toNat < n.deps.length by simpa using hc') ?_;rw [show n.deps[(i : Int).toNat]'(by simpa using hc') = n.deps[i] from by congr 1];conv=>whnf
   refine ⟨hdl.symm, (by rw [hdl]; show (ds.length + 1) * (32 + 1) ≤ _; omega), ?_⟩;conv=>whnf
   have e1 : dO ds ++ [[AV.val (Value.string (ofB n.deps[i])), AV.val (Value.int IntKind.u64 (hs[i].toNat : Int)), AV.val (Value.bool false)]] = dO (ds ++ [⟨n.deps[i], hs[i], false⟩]) := by simp [dO, Dp.enc, vs, uv]
   have e2 : (dO ds).length + [[AV.val (Value.string (ofB n.deps[i])), AV.val (Value.int IntKind.u64 (hs[i].toNat : Int)), AV.val (Value.bool false)]].length = (ds ++ [(⟨n.deps[i], hs[i], false⟩ : Dp)]).length := by simp [hdl]
   rw [e1, e2, am (by omega)];refine IH (i + 1) (ds ++ [⟨n.deps[i], hs[i], false⟩]) ⟨by omega, ?_⟩ (by omega);rw [mv g2 hc', hds]
  ·have hc := au hsh hc;rw [aae (by omega), aae hc] at hds;conv=>whnf
   refine bB ?_;exact done ds hds
 ·have hc : hs.length ≤ 0 := au (i := 0) hsh hc;have e1 : hs = [] := aau (by omega);have e2 : n.deps = [] := aau (by omega);conv=>whnf
  refine cw (f9 (leL.cons (iJ (leL.cons (.refl _) (leL.cons (.refl _) (leL.cons (.refl _) (leL.cons (cy 3) (leL.refl _)))))) (leL.refl _))) rfl (done [] ?_);rw [e1, e2]; rfl
theorem pp (n : Nd) (hn : n.deps.length < 1000000) (hs : List U) (c w : U) {R} (h : ∀ r e, r = gk n hs c w → e = sN n hs → R (.tup [.agg r.enc, vi e]) []) : ag Tryz.prog 69 [.agg n.enc, .sl none 1 (dR hs), uv c, uv w] [] R := by
 refine ag.res ?_;refine aa (an := UD) tab_ok Tryz.func69 ?_;have hsd := aF n.deps;have hsh := jx hs;have bad : fX n hs = true → ∃ r', AV.le (.tup [.agg [.val (.int .i64 0), .val (.string ⟨#[]⟩), .val (.int .u64 0), .val (.slice none 0 0), .val (.int .u64 0), .val (.int .u64 0), .val (.string ⟨#[]⟩)], vi 1]) r' ∧ (∀ m ∈ r'.names, m ∈ (AV.tup [.agg [.val (.int .i64 0), .val (.string ⟨#[]⟩), .val (.int .u64 0), .val (.slice none 0 0), .val (.int .u64 0), .val (.int .u64 0), .val (.string ⟨#[]⟩)], vi 1]).names) ∧ R r' [] := fun hb =>
  cw (f9 (leL.cons (iJ pg) (leL.refl _))) rfl (h eG 1 (by rw [gk, aaz hb]) (by rw [sN, aaz hb]))
 conv=>whnf
 refine ae (fun g1 => ?_) (fun g1 => ?_)
 ·conv=>whnf
  exact bad (by rw [fX, g1]; rfl)
 conv=>whnf
 rw [hsh, hsd];refine ae (fun g2 => ?_) (fun g2 => ?_)
 ·conv=>whnf
  exact bad (by rw [fX, g1, abv]; simp at g2; simp; omega)
 have g2 : hs.length = n.deps.length := by simp at g2; omega
 have hbad : fX n hs = false := by rw [fX, g1, abv]; simp [g2]
 conv=>whnf
 refine jj c fun d hd => ?_;conv=>whnf
 refine aq.step ?_;conv=>whnf
 have hn0 : ∀ {i : Nat}, i < hs.length → i < n.deps.length := fun hi => by omega
 have done : ∀ ds, ds = dD n.deps hs → R (.tup [.agg [vi 1, vs n.name, uv n.rule, .sl none 3 (dO ds), uv d, uv w, vs []], vi 0]) [] := fun ds hds =>
  h ⟨1, n.name, n.rule, ds, d, w, []⟩ 0 (by rw [gk, hbad, hds, hd]; rfl) (by rw [sN, hbad]; rfl)
 refine ae (fun hc => ?_) (fun hc => ?_)
 ·have hc : 0 < hs.length := ap (i := 0) hsh hc;have hc' := hn0 hc
  (conv=>whnf); (repeat ((with_reducible refine ac ?_ ?_); exact aaa (by omega); (conv=>whnf)))
  refine ab (show (0 : Int).toNat < n.deps.length by simpa using hc') ?_;rw [show n.deps[(0 : Int).toNat]'(by simpa using hc') = n.deps[0] from by congr 1]
  (conv=>whnf); (repeat ((with_reducible refine ac ?_ ?_); exact aaa (by omega); (conv=>whnf)))
  refine idxNat (by simpa using hc) ?_;conv=>whnf
  refine ⟨(show 1 * (32 + 1) ≤ 140737488355328 by decide), ?_⟩;conv=>whnf
  refine aq.ind2 (fun (i : Nat) (ds : List Dp) => [(11, vi i)])
   (fun i ds => [(al 8, .cells 67 [.val (.int .i64 0), .val (.string ⟨#[]⟩), .val (.int .u64 0), .val (.slice none 0 0), .val (.int .u64 0), .val (.int .u64 0), .val (.string ⟨#[]⟩)]),
    (al 10, .cells 67 [vi 1, vs n.name, uv n.rule, .sl (some (al 50)) 3 (dO ds), uv d, uv w, vs []]), (al 50, .row 167 3 ds.length)])
   (fun i _ => hs.length - i) (fun i ds => i ≤ hs.length ∧ ds = dD (n.deps.take i) (hs.take i)) 1 [⟨n.deps[0], hs[0], false⟩] rfl ⟨by omega, ?_⟩ ?_
  ·rw [mv g2 hc']; rfl
  rintro i ds ⟨h0, hds⟩ IH;have hdl := bD ds;have hdi : ds.length = i := by rw [hds, mL (by simp; omega)]; simp; omega
  conv=>whnf
  refine ae (fun hc => ?_) (fun hc => ?_)
  ·have hc := ap hsh hc;have hc' := hn0 hc
   (conv=>whnf); (repeat ((with_reducible refine ac ?_ ?_); exact aaa (by omega); (conv=>whnf)))
   refine ab (show (i : Int).toNat < n.deps.length by simpa using hc') ?_;rw [show n.deps[(i : Int).toNat]'(by simpa using hc') = n.deps[i] from by congr 1]
   (conv=>whnf); (repeat ((with_reducible refine ac ?_ ?_); exact aaa (by omega); (conv=>whnf)))
   refine idxNat (by simpa using hc) ?_;conv=>whnf
   refine ⟨hdl.symm, (by rw [hdl]; show (ds.length + 1) * (32 + 1) ≤ _; omega), ?_⟩;conv=>whnf
   have e1 : dO ds ++ [[AV.val (Value.string (ofB n.deps[i])), AV.val (Value.int IntKind.u64 (hs[i].toNat : Int)), AV.val (Value.bool false)]] = dO (ds ++ [⟨n.deps[i], hs[i], false⟩]) := by simp [dO, Dp.enc, vs, uv]
   have e2 : (dO ds).length + [[AV.val (Value.string (ofB n.deps[i])), AV.val (Value.int IntKind.u64 (hs[i].toNat : Int)), AV.val (Value.bool false)]].length = (ds ++ [(⟨n.deps[i], hs[i], false⟩ : Dp)]).length := by simp [hdl]
   rw [e1, e2, am (by omega)];refine IH (i + 1) (ds ++ [⟨n.deps[i], hs[i], false⟩]) ⟨by omega, ?_⟩ (by omega);rw [mv g2 hc', hds]
  ·have hc := au hsh hc;rw [aae (by omega), aae hc] at hds;conv=>whnf
   refine bB ?_;exact done ds hds
 ·have hc : hs.length ≤ 0 := au (i := 0) hsh hc;have e1 : hs = [] := aau (by omega);have e2 : n.deps = [] := aau (by omega);conv=>whnf
  refine cw (f9 (leL.cons (iJ (leL.cons (.refl _) (leL.cons (.refl _) (leL.cons (.refl _) (leL.cons (cy 3) (leL.refl _)))))) (leL.refl _))) rfl (done [] ?_);rw [e1, e2]; rfl
theorem A4 (l : List U) (hl : l.length < 1000000) {R} (h : ∀ r, r = l.map dig → R (.sl none 1 (dR r)) []) : ag Tryz.prog 129 [.sl none 1 (dR l)] [] R := by
 refine aa (an := SJ) tab_ok Tryz.func129 ?_;have hsl := jx l;conv=>whnf
 refine aq.ind2 (fun (i : Nat) (out : List U) => [(3, .sl (some (al 3)) 1 (dR out)), (8, vi i)]) (fun i out => [(al 3, .row 33 1 out.length)]) (fun i _ => l.length - i) (fun i out => i ≤ l.length ∧ out = (l.take i).map dig) 0 [] rfl ⟨by omega, by simp⟩ ?_;rintro i out ⟨h0, ho⟩ IH;have hnl := jx out;have hol : out.length = i := by rw [ho]; simp; omega
 conv=>whnf
 refine ae (fun hc => ?_) (fun hc => ?_)
 ·have hc := ap hsl hc
  (conv=>whnf); (repeat ((with_reducible refine ac ?_ ?_); exact aaa (by omega); (conv=>whnf)))
  refine idxNat (by simpa using hc) ?_;conv=>whnf
  refine sF l[i] fun d hd => ?_;conv=>whnf
  refine ⟨hnl.symm, (by rw [hnl]; show (out.length + 1) * (8 + 1) ≤ _; omega), ?_⟩;conv=>whnf
  have e1 : dR out ++ [[AV.val (Value.int IntKind.u64 (d.toNat : Int))]] = dR (out ++ [d]) := by simp [dR, uv]
  have e2 : (dR out).length + [[AV.val (Value.int IntKind.u64 (d.toNat : Int))]].length = (out ++ [d]).length := by simp [hnl]
  rw [e1, e2, am (by omega)];refine IH (i + 1) (out ++ [d]) ⟨by omega, ?_⟩ (by omega);rw [aab hc, ho, aaG, hd];rfl
 ·have hc := au hsl hc;rw [aae hc] at ho;conv=>whnf
  exact h _ ho
theorem oA (l : List U) (hl : l.length < 1000000) {R} (h : ∀ r, r = l.map dig → R (.sl none 1 (dR r)) []) : ag Tryz.prog 65 [.sl none 1 (dR l)] [] R := by
 refine aa (an := UH) tab_ok Tryz.func65 ?_;have hsl := jx l;conv=>whnf
 refine aq.ind2 (fun (i : Nat) (out : List U) => [(3, .sl (some (al 5)) 1 (dR out)), (4, vi i)]) (fun i out => [(al 5, .row 33 1 out.length)]) (fun i _ => l.length - i) (fun i out => i ≤ l.length ∧ out = (l.take i).map dig) 0 [] rfl ⟨by omega, by simp⟩ ?_;rintro i out ⟨h0, ho⟩ IH;have hnl := jx out;have hol : out.length = i := by rw [ho]; simp; omega
 conv=>whnf
 refine ae (fun hc => ?_) (fun hc => ?_)
 ·have hc := ap hsl hc
  (conv=>whnf); (repeat ((with_reducible refine ac ?_ ?_); exact aaa (by omega); (conv=>whnf)))
  refine idxNat (by simpa using hc) ?_;conv=>whnf
  refine jj l[i] fun d hd => ?_;conv=>whnf
  refine ⟨hnl.symm, (by rw [hnl]; show (out.length + 1) * (8 + 1) ≤ _; omega), ?_⟩;conv=>whnf
  have e1 : dR out ++ [[AV.val (Value.int IntKind.u64 (d.toNat : Int))]] = dR (out ++ [d]) := by simp [dR, uv]
  have e2 : (dR out).length + [[AV.val (Value.int IntKind.u64 (d.toNat : Int))]].length = (out ++ [d]).length := by simp [hnl]
  rw [e1, e2, am (by omega)];refine IH (i + 1) (out ++ [d]) ⟨by omega, ?_⟩ (by omega);rw [aab hc, ho, aaG, hd];rfl
 ·have hc := au hsl hc;rw [aae hc] at ho;conv=>whnf
  exact h _ ho
end Go.Abs
end
section
namespace Go.Abs
open Go Go.Proofs Go.RowKit
attribute [local go_sem] Oper.semAt_some
theorem A8 (l : List Dp) (hl : l.length < 1000000) {R} (h : R (.sl none 3 (dO l)) []) : ag Tryz.prog 99 [.sl none 3 (dO l)] [] R := by
 refine ag.res ?_;refine aa (an := Ue) tab_ok Tryz.func99 ?_;have hsl := bD l;conv=>whnf
 intro b hb;refine ae (fun g => ?_) (fun g => ?_)
 ·have e := hb g;rw [e] at h;conv=>whnf
  exact cw (cy 3) rfl h
 ·conv=>whnf
  refine ⟨rfl, (by show (0 + (dO l).length) * (32 + 1) ≤ _; omega), ?_⟩;conv=>whnf
  refine bB ?_;exact h
theorem fN (r : Rc) (hl : r.deps.length < 1000000) {R} (h : R (.agg r.enc) []) : ag Tryz.prog 52 [.agg r.enc] [] R := by
 refine aa (an := UT) tab_ok Tryz.func52 ?_;conv=>whnf
 refine A8 r.deps hl ?_;conv=>whnf
 exact h
def od (l : List Rc) : List (List AV) := l.zipIdx.reverse.map fun p => [.val (.int .i64 p.2), .agg p.1.enc]
theorem Fp (l : List Rc) (hl : l.length < 1000000) : GU Tryz.prog 148 [.cptr [.sl none 7 (be l)] 0] (od l) := by
 refine ⟨fun args w => ix (by kernel_rfl), fun G w lb hk hr => ?_⟩;simp only [aB, Rep, fv] at hr;obtain ⟨_, _, rfl, ⟨b, o, rfl, ⟨⟨v, hv, ⟨A, c, rfl, hc, hE⟩, _⟩, _⟩, _⟩, rfl⟩ := hr;have hval : ∀ i : Nat, ∃ vs : List Value, ∀ s, l[i]? = some s → aB ⟨G.K, fun _ => none⟩ s.enc vs ∧ ∃ b o, A = some ⟨b, o, none⟩ ∧ ∀ j v, vs[j]? = some v → G.K b (o + i * 7 + j) = some v := by
  intro i
  cases hs : l[i]? with
  | none => exact ⟨[], fun s h => by cases h⟩
  | some s =>
   obtain ⟨b', o', hA, _, _, hC⟩ := hE.get (i := i) (e := s.enc) (by rw [be, aaE, hs]; rfl);obtain ⟨vs, h1, h2⟩ := hC.vals;refine ⟨vs, fun s' h => ?_⟩
   cases h;refine ⟨aB.nameless (G := G) (G' := ⟨G.K, fun _ => none⟩) (fun _ _ _ h => h) _ _ rfl h1, b', o', hA, fun j v hj => ?_⟩;have := h2 j v hj;simpa using this
 obtain ⟨f, hf⟩ := Classical.skolem.1 hval;refine ⟨l.zipIdx.reverse.map fun p => #[.int .i64 p.2, .agg (f p.2).toArray], by simp [od], ?_, ?_⟩
 ·intro i x e hx he;unfold od at hx;rw [aaE, aa5] at hx he;obtain ⟨p, hp, rfl⟩ := hx;obtain ⟨p', hp', rfl⟩ := he;rw [hp] at hp'
  cases hp';have hm : p ∈ l.zipIdx := by rw [← List.mem_reverse]; exact aaO hp
  have hg : l[p.2]? = some p.1 := List.mk_mem_zipIdx_iff_getElem?.1 hm;have := (hf p.2 p.1 hg).1;simp only [aB, Rep];exact ⟨_, _, rfl, rfl, _, _, rfl, ⟨_, rfl, this⟩, rfl⟩
 ·intro lp n J Jx hY hJ h0;rw [show FW none = Fence.wide from rfl] at hY ⊢;refine callsIn_of_wp Tryz.func148 rfl trivial ?_ rfl;simp only [Tryz.ntmps148, aa4, aag, aaj, Nat.reduceAdd, Nat.reduceSub, abp, abo, abx, abu, aam, aav, aa8];have hb := hJ 0 w h0 _ _ _ hv;have hlen : (be l).length = l.length := bd l;rw [hlen] at hb hv hc;have hNb : (l.length : Int) < 1000000 := by omega
  clear hl
  gi_wp2
  gi_loopw [3] (fun i wr => ∃ k : Nat, k ≤ l.length ∧ i = .int .i64 ((l.length : Int) - 1 - k) ∧ J k wr) (fun i _ => (Go.RowKit.intOf i + 1).toNat)
  case atStart => exact ⟨0, aby _, by simp, h0⟩
  case round =>
   obtain ⟨k, hk', rfl, hJs⟩ := hrel;by_cases hlt : k < l.length
   ·obtain ⟨i, hi⟩ : ∃ i : Nat, i + k + 1 = l.length := ⟨l.length - 1 - k, by omega⟩;have hil : i < l.length := by omega
    have ei : (l.length : Int) - 1 - k = (i : Int) := by omega
    rw [ei];clear ei;obtain ⟨s, hs⟩ : ∃ s, l[i]? = some s := ⟨l[i], aad hil⟩;have hb' := hJ k wr hJs _ _ _ hv;obtain ⟨hR1, b', o', hA, hK⟩ := hf i s hs;subst hA;have hes : (l.zipIdx.reverse.map fun p => (#[.int .i64 p.2, .agg (f p.2).toArray] : Array Value))[k]? = some #[.int .i64 i, .agg (f i).toArray] := by
     have hk : k < l.zipIdx.length := by simp; omega
     rw [aaE, List.getElem?_reverse hk];have e : l.zipIdx.length - 1 - k = i := by simp; omega
     rw [e, List.getElem?_zipIdx, hs];simp
    generalize hfi : f i = vs at hR1 hK hes;have hvl : vs.length = 7 := by rw [hR1.length]; rfl
    obtain ⟨v0, v1, v2, v3, v4, v5, v6, rfl⟩ : ∃ v0 v1 v2 v3 v4 v5 v6, vs = [v0, v1, v2, v3, v4, v5, v6] := by
     match vs, hvl with
     | [v0, v1, v2, v3, v4, v5, v6], _ => exact ⟨_, _, _, _, _, _, _, rfl⟩
    have d0 := hJ k wr hJs _ _ _ (hK 0 v0 rfl);have d1 := hJ k wr hJs _ _ _ (hK 1 v1 rfl);have d2 := hJ k wr hJs _ _ _ (hK 2 v2 rfl);have d3 := hJ k wr hJs _ _ _ (hK 3 v3 rfl);have d4 := hJ k wr hJs _ _ _ (hK 4 v4 rfl);have d5 := hJ k wr hJs _ _ _ (hK 5 v5 rfl);have d6 := hJ k wr hJs _ _ _ (hK 6 v6 rfl);simp only [aa8] at d0;obtain ⟨fn, tmps, assign, body, hy, hR⟩ := hY (n - 1) k #[.int .i64 i, .agg #[v0, v1, v2, v3, v4, v5, v6]] wr hes hJs;have hi0 : (0 : Int) ≤ i := by omega
    clear hY hJ h0 hE hb hf hval hR1 hK
    gi_wp2
    refine ⟨fun h => by simp [Fence.wide] at h, hR.mono ?_⟩;rintro e W3 (⟨rfl, hJ3⟩ | ⟨rfl, hJx3⟩)
    ·clear hR hy
     gi_wp2
     go_roundw
     case rel => exact ⟨k + 1, by omega, by congr 1 <;> (try push_cast) <;> omega, hJ3⟩
     case measure => first | (simp [Go.RowKit.intOf]; done) | (simp [Go.RowKit.intOf]; omega)
    ·clear hR hy
     gi_wp2
     refine bodyPost_ret (results_none rfl _ _ _) rfl ?_;exact ⟨⟨_, rfl⟩, .inr ⟨_, hJx3⟩⟩
   ·have ek : k = l.length := by omega
    have e1 : (l.length : Int) - 1 - k = -1 := by omega
    rw [e1];have hJe : J l.length wr := ek ▸ hJs;clear e1 ek hJs hlt hk' hY h0 hE hb hf hval
    gi_wp2
    go_end0
    refine ⟨⟨_, rfl⟩, .inl ?_⟩;simpa using hJe
end Go.Abs
end
section
namespace Go.Abs
open Go Go.Proofs Dig
attribute [local irreducible] aH aD aO firstIdx
def nR (t : B) (r : Rc) : Bool := decide (r.kind = 1) && decide (r.target = t)
def cZ (l : List Rc) (t : B) : Option Rc := l.reverse.find? (nR t)
def cT (l : List Rc) (t : B) : Rc := (cZ l t).getD eG
theorem I2 (l : List (List AV)) {R} (h : R (.fn (.func 148) [] [.cptr [.sl none 7 l] 0]) []) : ag Tryz.prog 105 [.sl none 7 l] [] R := by
 refine aa (an := S2) tab_ok Tryz.func105 ?_;conv=>whnf
 exact h
theorem Fm {l : List Rc} {i : Nat} {x : List AV} (h : (od l)[i]? = some x) : ∃ s k, l.reverse[i]? = some s ∧ x = [.val (.int .i64 k), .agg s.enc] := by
 unfold od at h;rw [aaE, aa5] at h;obtain ⟨p, hp, rfl⟩ := h;have h1 : (l.zipIdx.reverse.map (·.1))[i]? = some p.1 := by rw [aaE, hp]; rfl
 rw [List.map_reverse, List.zipIdx_map_fst] at h1;exact ⟨p.1, p.2, h1, rfl⟩
theorem xM (l : List Rc) : (od l).length = l.length := by simp [od]
theorem Cy {α : Type} {l : List α} {f : α → Bool} {i : Nat} {s : α} (h0 : ∀ j x, j < i → l[j]? = some x → f x = false) (h1 : l[i]? = some s) (h2 : f s = true) : l.find? f = some s := by
 induction l generalizing i with
 | nil => simp at h1
 | cons a l ih =>
  cases i with
  | zero => simp at h1; subst h1; simp [h2]
  | succ i =>
   have : f a = false := h0 0 a (by omega) rfl;simp only [List.find?_cons, this];exact ih (i := i) (fun j x hj hx => h0 (j + 1) x (by omega) (by simpa using hx)) (by simpa using h1)
theorem Cx {α : Type} {l : List α} {f : α → Bool} (h0 : ∀ j x, j < l.length → l[j]? = some x → f x = false) : l.find? f = none := by
 rw [List.find?_eq_none];intro x hx;obtain ⟨j, hj, rfl⟩ := abc hx;simp [h0 j _ hj (aad hj)]
theorem ri (l : List Rc) (hl : l.length < 1000000) (hd : ∀ r ∈ l, r.deps.length < 1000000) (t : B) {R} (h : R (.tup [.agg (cT l t).enc, .val (.bool (cZ l t).isSome)]) []) : ag Tryz.prog 60 [.sl none 7 (be l), vs t] [] R := by
 refine ag.res ?_;refine aa (an := UL) tab_ok Tryz.func60 ?_;conv=>whnf
 refine I2 _ ?_;conv=>whnf
 refine .inl ?_;conv=>whnf
 refine ⟨od l, Fp l hl, ?_, ?_⟩
 ·intro x hx;simp only [od, List.mem_map] at hx;obtain ⟨p, _, rfl⟩ := hx;rfl
 refine ⟨fun i s => s = _ ∧ ∀ j x, j < i → l.reverse[j]? = some x → nR t x = false, ⟨rfl, fun j x hj => absurd hj (Nat.not_lt_zero _)⟩, ?_, ?_⟩
 ·rintro i x s hx ⟨rfl, hno⟩;obtain ⟨s, k, hs, rfl⟩ := Fm hx;have hsl : s.deps.length < 1000000 := hd s (by rw [← List.mem_reverse]; exact aaO hs);have next : nR t s = false → ∀ j x, j < i + 1 → l.reverse[j]? = some x → nR t x = false := by
   intro hb j x hj hxj;rcases aaN j i with hji | hji
   ·exact hno j x hji hxj
   ·have : j = i := by omega
    subst this;rw [hs] at hxj
    cases hxj;exact hb
  conv=>whnf
  refine ae (fun hb => ?_) (fun hb => ?_)
  ·have hb : s.kind = 1 := by simpa using hb
   conv=>whnf
   refine ae (fun hc => ?_) (fun hc => ?_)
   ·have hc : s.target = t := bZ (aal hc);have hf : cZ l t = some s := Cy hno hs (by simp [nR, hb, hc]);have hr : cT l t = s := by rw [cT, hf]; rfl
    rw [hr, hf] at h;conv=>whnf
    refine fN s hsl ?_;conv=>whnf
    refine bB ?_;exact h
   ·have hc : ¬ s.target = t := fun e => aat hc (by rw [e]);conv=>whnf
    exact ⟨rfl, next (by simp [nR, hc])⟩
  ·have hb : ¬ s.kind = 1 := by simpa using hb
   conv=>whnf
   exact ⟨rfl, next (by simp [nR, hb])⟩
 ·rintro s ⟨rfl, hno⟩;have hf : cZ l t = none := Cx (fun j x hj hx => hno j x (by rw [xM]; simpa using hj) hx);have hr : cT l t = eG := by rw [cT, hf]; rfl
  rw [hr, hf] at h;conv=>whnf
  exact cw (f9 (leL.cons (iJ pg) (leL.refl _))) rfl h
theorem mJ (l : List Rc) (hl : l.length < 1000000) (t : B) {R} (h : R (.tup [.agg (cT l t).enc, .val (.bool (cZ l t).isSome)]) []) : ag Tryz.prog 68 [.sl none 7 (be l), vs t] [] R := by
 refine ag.res ?_;refine aa (an := UE) tab_ok Tryz.func68 ?_;have hsl := bd l;conv=>whnf
 rw [hsl, aI (by omega) (by omega), show (l.length : Int) - 1 = (l.length : Int) - 1 - ((0 : Nat) : Int) by omega];refine aq.ind1 (fun (k : Nat) => [(6, vi ((l.length : Int) - 1 - k))]) (fun _ => [(al 4, .cells 67 [.val (.int .i64 0), .val (.string ⟨#[]⟩), .val (.int .u64 0), .val (.slice none 0 0), .val (.int .u64 0), .val (.int .u64 0), .val (.string ⟨#[]⟩)])]) (fun k => l.length - k)
  (fun k => k ≤ l.length ∧ ∀ j x, j < k → l.reverse[j]? = some x → nR t x = false) 0 rfl ⟨by omega, fun j x hj => absurd hj (Nat.not_lt_zero _)⟩ ?_
 rintro k ⟨h0, hno⟩ IH;by_cases hk : k < l.length
 ·obtain ⟨i, hi⟩ : ∃ i : Nat, i + k + 1 = l.length := ⟨l.length - 1 - k, by omega⟩;have hil : i < l.length := by omega
  have hs : l.reverse[k]? = some l[i] := by
   rw [List.getElem?_reverse hk, show l.length - 1 - k = i by omega, aad hil]
  have next : nR t l[i] = false → ∀ j x, j < k + 1 → l.reverse[j]? = some x → nR t x = false := by
   intro hb j x hj hxj;rcases aaN j k with hji | hji
   ·exact hno j x hji hxj
   ·have : j = k := by omega
    subst this;rw [hs] at hxj
    cases hxj;exact hb
  have again : IntKind.i64.wrap ((i : Int) - 1) = (l.length : Int) - 1 - ((k + 1 : Nat) : Int) := by
   rw [aI (by omega) (by omega)]; omega
  rw [show (l.length : Int) - 1 - k = (i : Int) by omega]
  (conv=>whnf); (repeat ((with_reducible refine ac ?_ ?_); exact aaa (by omega); (conv=>whnf)))
  refine idxNat (by simpa using hil) ?_;conv=>whnf
  refine ae (fun hb => ?_) (fun hb => ?_)
  ·have hb : l[i].kind = 1 := by simpa using hb
   (conv=>whnf); (repeat ((with_reducible refine ac ?_ ?_); exact aaa (by omega); (conv=>whnf)))
   refine idxNat (by simpa using hil) ?_;conv=>whnf
   refine ae (fun hc => ?_) (fun hc => ?_)
   ·have hc : l[i].target = t := bZ (aal hc);have hf : cZ l t = some l[i] := Cy hno hs (by simp [nR, hb, hc]);have hr : cT l t = l[i] := by rw [cT, hf]; rfl
    rw [hr, hf] at h
    (conv=>whnf); (repeat ((with_reducible refine ac ?_ ?_); exact aaa (by omega); (conv=>whnf)))
    refine idxNat (by simpa using hil) ?_;conv=>whnf
    refine bB ?_;exact h
   ·have hc : ¬ l[i].target = t := fun e => aat hc (by rw [e]);conv=>whnf
    rw [again];exact IH (k + 1) ⟨by omega, next (by simp [nR, hc])⟩ (by omega)
  ·have hb : ¬ l[i].kind = 1 := by simpa using hb
   conv=>whnf
   rw [again];exact IH (k + 1) ⟨by omega, next (by simp [nR, hb])⟩ (by omega)
 ·have ek : k = l.length := by omega
  have hf : cZ l t = none := Cx (fun j x hj hx => hno j x (by simpa [ek] using hj) hx);have hr : cT l t = eG := by rw [cT, hf]; rfl
  rw [hr, hf] at h;rw [show (l.length : Int) - 1 - k = -1 by omega];conv=>whnf
  exact cw (f9 (leL.cons (iJ pg) (leL.refl _))) rfl h
theorem ES {l : List Rc} (hd : ∀ r ∈ l, r.deps.length < 1000000) (t : B) : (cT l t).deps.length < 1000000 := by
 unfold cT cZ
 cases h : l.reverse.find? (nR t) with
 | none => decide
 | some r => exact hd r (by rw [← List.mem_reverse]; exact List.mem_of_find?_eq_some h)
def eh : List Dp → List U → Bool
 | d :: ds, h :: hs => (!d.order && decide (d.hash ≠ h)) || eh ds hs
 | _, _ => false
def fV (n : Nd) (r : Rc) (hs : List U) : Bool := decide (hs.length ≠ n.deps.length) || decide (r.deps.map (·.name) ≠ n.deps)
def uU (n : Nd) (r : Rc) (hs : List U) : Int := if r.rule ≠ n.rule then 2 else if fV n r hs = true then 3 else if eh r.deps hs = true then 4 else 0
def kG (n : Nd) (l : List Rc) (hs : List U) : Int := if n.source = true then 0 else if (cZ l n.name).isSome = false then 1 else uU n (cT l n.name) hs
theorem rU {ds : List Dp} {hs : List U} (h : hs.length = ds.length) {i : Nat} (hi : i < ds.length) : eh (ds.take (i + 1)) (hs.take (i + 1)) = (eh (ds.take i) (hs.take i) || (!ds[i].order && decide (ds[i].hash ≠ hs[i]))) := by
 induction ds generalizing hs i with
 | nil => simp at hi
 | cons d ds ih =>
  cases hs with
  | nil => simp at h
  | cons x hs =>
   cases i with
   | zero => simp [eh]
   | succ i => simp [eh, ih (hs := hs) (i := i) (by simpa using h) (by simpa using hi), Bool.or_assoc]
theorem rV {ds : List Dp} {hs : List U} (h : hs.length = ds.length) {i : Nat} (hi : i < ds.length) (hb : (!ds[i].order && decide (ds[i].hash ≠ hs[i])) = true) : eh ds hs = true := by
 induction ds generalizing hs i with
 | nil => simp at hi
 | cons d ds ih =>
  cases hs with
  | nil => simp at h
  | cons x hs =>
   cases i with
   | zero =>
    have hb : (!d.order && decide (d.hash ≠ x)) = true := hb;rw [eh, hb]; rfl
   | succ i =>
    have := ih (hs := hs) (i := i) (by simpa using h) (by simpa using hi) hb;rw [eh, this, Bool.or_true]
theorem DC (x y : U) : (!((x.toNat : Int) == (y.toNat : Int))) = decide (x ≠ y) := by
 by_cases h : x = y
 ·subst h; simp
 ·have : ¬ (x.toNat : Int) = y.toNat := fun e => h (aaZ (by omega));simp [h, this]
abbrev GM (n : Nd) (r : Rc) (b : Bool) (hs : List U) : List AV := n.enc ++ r.enc ++ [.val (.bool b), .sl none 1 (dR hs)]
theorem Qs (n : Nd) (r : Rc) (b : Bool) (hs : List U) {R} (h : R (.val (.bool (!b))) []) : ag Tryz.prog 223 [.agg (GM n r b hs)] [] R := by
 refine aa (an := RI) tab_ok Tryz.func223 ?_;conv=>whnf
 exact h
theorem Qr (n : Nd) (r : Rc) (b : Bool) (hs : List U) {R} (h : R (.val (.bool (decide (r.rule ≠ n.rule)))) []) : ag Tryz.prog 224 [.agg (GM n r b hs)] [] R := by
 refine aa (an := RH) tab_ok Tryz.func224 ?_;rw [← DC] at h;conv=>whnf
 exact h
theorem Mx (d : Dp) (s : B) {R} (h : R (.val (.bool (decide (d.name = s)))) []) : ag Tryz.prog 256 [.agg d.enc, vs s] [] R := by
 refine aa (an := Rm) tab_ok Tryz.func256 ?_;have e : decide (ofB d.name = ofB s) = decide (d.name = s) := decide_eq_decide.2 bG;rw [← e] at h;conv=>whnf
 exact h
theorem MU (ds : List Dp) (ns : List B) (hl : ds.length < 1000000) {R} (h : ∀ p, p = decide (ds.map (·.name) = ns) → R (.val (.bool p)) []) : ag Tryz.prog 257 [.sl none 3 (dO ds), .sl none 1 (bj ns), .fn (.func 256) [] []] [] R := by
 refine aa (an := Rl) tab_ok Tryz.func257 ?_;have hsd := bD ds;have hss := aF ns;conv=>whnf
 rw [hsd, hss];refine ae (fun hc => ?_) (fun hc => ?_)
 ·conv=>whnf
  refine h false (aai fun e => ?_).symm;have : ds.length = ns.length := by rw [← e]; simp
  simp [this] at hc
 have hlen : ds.length = ns.length := by simp at hc; omega
 conv=>whnf
 refine aq.ind1 (fun (i : Nat) => [(17, vi i)]) (fun _ => []) (fun i => ds.length - i) (fun i => i ≤ ds.length ∧ (ds.take i).map (·.name) = ns.take i) 0 rfl ⟨by omega, by simp⟩ ?_;rintro i ⟨h0, h1⟩ IH;conv=>whnf
 refine ae (fun hc => ?_) (fun hc => ?_)
 ·have hc := ap hsd hc;have hcn : i < ns.length := by omega
  (conv=>whnf); (repeat ((with_reducible refine ac ?_ ?_); exact aaa (by omega); (conv=>whnf)))
  refine idxNat (by simpa using hc) ?_
  (conv=>whnf); (repeat ((with_reducible refine ac ?_ ?_); exact aaa (by omega); (conv=>whnf)))
  refine idxNat (by simpa using hcn) ?_;conv=>whnf
  refine Mx ds[i] ns[i] ?_;conv=>whnf
  refine ae (fun he => ?_) (fun he => ?_)
  ·have he : ¬ ds[i].name = ns[i] := by simpa using he
   conv=>whnf
   refine h false (aai fun e => he ?_).symm;have : (ds.map (·.name))[i]'(by simpa using hc) = ns[i] := by congr 1
   simpa using this
  ·have he : ds[i].name = ns[i] := by simpa using he
   conv=>whnf
   rw [am (by omega)];refine IH (i + 1) ⟨by omega, ?_⟩ (by omega);rw [aab hc, aab hcn, aaG, h1];simp [he]
 ·have hc := au hsd hc;rw [aae hc, aae (by omega)] at h1;conv=>whnf
  exact h true (aaa h1).symm
theorem Qu (n : Nd) (r : Rc) (b : Bool) (hs : List U) (hl : r.deps.length < 1000000) {R} (h : ∀ p, p = fV n r hs → R (.val (.bool p)) []) : ag Tryz.prog 225 [.agg (GM n r b hs)] [] R := by
 refine aa (an := RG) tab_ok Tryz.func225 ?_;have hsd := aF n.deps;have hsh := jx hs;conv=>whnf
 rw [hsh, hsd];refine ae (fun hc => ?_) (fun hc => ?_)
 ·conv=>whnf
  refine h true ?_;have : hs.length ≠ n.deps.length := by simp at hc; omega
  simp [fV, this]
 ·conv=>whnf
  refine MU r.deps n.deps hl fun p hp => ?_;conv=>whnf
  refine h _ ?_;have : hs.length = n.deps.length := by simp at hc; omega
  rw [hp];simp [fV, this]
theorem Qt (n : Nd) (r : Rc) (b : Bool) (hs : List U) (hl : r.deps.length < 1000000) (he : hs.length = r.deps.length) {R} (h : ∀ p, p = eh r.deps hs → R (.val (.bool p)) []) : ag Tryz.prog 226 [.agg (GM n r b hs)] [] R := by
 refine aa (an := RF) tab_ok Tryz.func226 ?_;have hsd := bD r.deps;have hsh := jx hs;conv=>whnf
 refine aq.ind1 (fun (i : Nat) => [(9, vi i)]) (fun _ => []) (fun i => r.deps.length - i) (fun i => i ≤ r.deps.length ∧ eh (r.deps.take i) (hs.take i) = false) 0 rfl ⟨by omega, by simp [eh]⟩ ?_;rintro i ⟨h0, h1⟩ IH;conv=>whnf
 refine ae (fun hc => ?_) (fun hc => ?_)
 ·have hc := ap hsd hc;have hch : i < hs.length := by omega
  have htk := rU he hc
  (conv=>whnf); (repeat ((with_reducible refine ac ?_ ?_); exact aaa (by omega); (conv=>whnf)))
  refine idxNat (by simpa using hc) ?_;conv=>whnf
  refine ae (fun ho => ?_) (fun ho => ?_)
  ·(conv=>whnf); (repeat ((with_reducible refine ac ?_ ?_); exact aaa (by omega); (conv=>whnf)))
   refine idxNat (by simpa using hch) ?_;conv=>whnf
   refine ae (fun hh => ?_) (fun hh => ?_)
   ·have hh : decide (r.deps[i].hash ≠ hs[i]) = true := (DC _ _).symm.trans hh;conv=>whnf
    exact h true (rV he hc (by rw [ho, hh]; rfl)).symm
   ·have hh : decide (r.deps[i].hash ≠ hs[i]) = false := (DC _ _).symm.trans hh;conv=>whnf
    rw [am (by omega)];exact IH (i + 1) ⟨by omega, by rw [htk, h1, hh]; simp⟩ (by omega)
  ·conv=>whnf
   rw [am (by omega)];exact IH (i + 1) ⟨by omega, by rw [htk, h1, ho]; simp⟩ (by omega)
 ·have hc := au hsd hc;rw [aae hc, aae (by omega)] at h1;conv=>whnf
  exact h false h1.symm
theorem uw {R} (h : R (.agg [.fn (.func 223) [] [], vi 1, .fn (.func 224) [] [], vi 2, .fn (.func 225) [] [], vi 3, .fn (.func 226) [] [], vi 4]) []) : ag Tryz.prog 173 [] [] R := by
 refine aa (an := Sc) tab_ok Tryz.func173 ?_;conv=>whnf
 exact h
theorem IR (n : Nd) (l : List Rc) (hl : l.length < 1000000) (hd : ∀ r ∈ l, r.deps.length < 1000000) (hs : List U) {R} (h : ∀ e, e = kG n l hs → R (vi e) []) : ag Tryz.prog 130 [.agg n.enc, .sl none 7 (be l), .sl none 1 (dR hs)] [] R := by
 refine aa (an := SI) tab_ok Tryz.func130 ?_;have hrd := ES hd n.name;conv=>whnf
 refine ae (fun g => ?_) (fun g => ?_)
 ·conv=>whnf
  exact h 0 (by rw [kG, aaz g])
 have g : ¬ n.source = true := by simp [g]
 conv=>whnf
 refine ri l hl hd n.name ?_;generalize hr : cT l n.name = r at hrd ⊢;generalize hb : (cZ l n.name).isSome = b;have hw : kG n l hs = if b = false then 1 else uU n r hs := by rw [kG, aap g, hr, hb]
 conv=>whnf
 refine uw ?_;conv=>whnf
 refine aq.step ?_;conv=>whnf
 refine Qs n r b hs ?_;conv=>whnf
 refine ae (fun q1 => ?_) (fun q1 => ?_)
 ·conv=>whnf
  exact h 1 (by rw [hw, aaz (by simpa using q1)])
 have q1 : b = true := by simpa using q1
 rw [aap (by simp [q1])] at hw;conv=>whnf
 refine aq.step ?_;conv=>whnf
 refine Qr n r b hs ?_;conv=>whnf
 refine ae (fun q2 => ?_) (fun q2 => ?_)
 ·have q2 : r.rule ≠ n.rule := aal q2;conv=>whnf
  exact h 2 (by rw [hw, uU, aaz q2])
 have q2 : r.rule = n.rule := Classical.not_not.1 (aat q2);conv=>whnf
 refine aq.step ?_;conv=>whnf
 refine Qu n r b hs hrd fun p hp => ?_;conv=>whnf
 refine ae (fun q3 => ?_) (fun q3 => ?_)
 ·conv=>whnf
  exact h 3 (by rw [hw, uU, aap (by simp [q2]), aaz (by rw [← hp, q3])])
 have q3 : fV n r hs = false := by rw [← hp, q3]
 have hle : hs.length = r.deps.length := by
  unfold fV at q3;simp at q3;rw [q3.1, ← q3.2]; simp
 conv=>whnf
 refine aq.step ?_;conv=>whnf
 refine Qt n r b hs hrd hle fun p hp => ?_;conv=>whnf
 refine ae (fun q4 => ?_) (fun q4 => ?_)
 ·conv=>whnf
  exact h 4 (by rw [hw, uU, aap (by simp [q2]), aap (by simp [q3]), aaz (by rw [← hp, q4])])
 have q4 : eh r.deps hs = false := by rw [← hp, q4]
 conv=>whnf
 refine aq.step ?_;conv=>whnf
 exact h 0 (by rw [hw, uU, aap (by simp [q2]), aap (by simp [q3]), aap (by simp [q4])])
end Go.Abs
end
section
namespace Go.Abs
open Go Go.Proofs
structure jq where
 name : ByteArray
 ran : Bool
 con : Int
def iR (s : jq) : List AV := [.val (.string s.name), .val (.bool s.ran), .val (.int .u64 s.con)]
def qh (l : List jq) : List (List AV) := l.zipIdx.reverse.map fun p => [.val (.int .i64 p.2), .agg (iR p.1)]
theorem xS (l : List (List AV)) {R} (h : R (.fn (.func 220) [] [.cptr [.sl none 3 l] 0]) []) : ag Tryz.prog 171 [.sl none 3 l] [] R := by
 refine aa (an := Se) tab_ok Tryz.func171 ?_;conv=>whnf
 exact h
theorem ID {l : List jq} {i : Nat} {x : List AV} (h : (qh l)[i]? = some x) : ∃ s k, l.reverse[i]? = some s ∧ x = [.val (.int .i64 k), .agg (iR s)] := by
 unfold qh at h;rw [aaE, aa5] at h;obtain ⟨p, hp, rfl⟩ := h;have h1 : (l.zipIdx.reverse.map (·.1))[i]? = some p.1 := by rw [aaE, hp]; rfl
 rw [List.map_reverse, List.zipIdx_map_fst] at h1;exact ⟨p.1, p.2, h1, rfl⟩
theorem AR (l : List jq) : (qh l).length = l.length := by simp [qh]
theorem Mr {l : List jq} {name : ByteArray} {i : Nat} {s : jq} (h0 : ∀ j x, j < i → l[j]? = some x → x.name ≠ name) (h1 : l[i]? = some s) (h2 : s.name = name) : l.find? (fun s => decide (s.name = name)) = some s := by
 induction l generalizing i with
 | nil => simp at h1
 | cons a l ih =>
  cases i with
  | zero => simp at h1; subst h1; simp [h2]
  | succ i =>
   have : a.name ≠ name := h0 0 a (by omega) rfl;simp only [List.find?_cons];have hb : decide (a.name = name) = false := by simp [this]
   rw [hb];exact ih (i := i) (fun j x hj hx => h0 (j + 1) x (by omega) (by simpa using hx)) (by simpa using h1)
theorem Mq {l : List jq} {name : ByteArray} (h0 : ∀ j x, j < l.length → l[j]? = some x → x.name ≠ name) : l.find? (fun s => decide (s.name = name)) = none := by
 rw [List.find?_eq_none];intro x hx;obtain ⟨j, hj, rfl⟩ := abc hx;simpa using h0 j _ hj (aad hj)
theorem Lk (l : List jq) (hit : GU Tryz.prog 220 [.cptr [.sl none 3 (l.map iR)] 0] (qh l)) (name : ByteArray) {R}
  (h : ∀ d : Int, d = (match l.reverse.find? (fun s => decide (s.name = name)) with | some s => s.con | none => 0) → R (.val (.int .u64 d)) []) : ag Tryz.prog 128 [.sl none 3 (l.map iR), .val (.string name)] [] R := by
 refine aa (an := SK) tab_ok Tryz.func128 ?_;conv=>whnf
 refine xS _ ?_;conv=>whnf
 refine .inl ?_;conv=>whnf
 refine ⟨qh l, hit, ?_, ?_⟩
 ·intro x hx;simp only [qh, List.mem_map] at hx;obtain ⟨p, _, rfl⟩ := hx;rfl
 refine ⟨fun i s => s = _ ∧ ∀ j x, j < i → l.reverse[j]? = some x → x.name ≠ name, ⟨rfl, fun j x hj => absurd hj (Nat.not_lt_zero _)⟩, ?_, ?_⟩
 ·rintro i x s hx ⟨rfl, hno⟩;obtain ⟨s, k, hs, rfl⟩ := ID hx;conv=>whnf
  refine ae (fun hb => ?_) (fun hb => ?_)
  ·conv=>whnf
   exact h _ (by rw [Mr hno hs (aal hb)])
  ·conv=>whnf
   refine ⟨rfl, fun j x hj hxj => ?_⟩;rcases aaN j i with hji | hji
   ·exact hno j x hji hxj
   ·have : j = i := by omega
    subst this;rw [hs] at hxj
    cases hxj;exact aat hb
 ·rintro s ⟨rfl, hno⟩;conv=>whnf
  refine h _ ?_;rw [Mq (fun j x hj hx => hno j x (by rw [AR]; simpa using hj) hx)]
end Go.Abs
end
section
namespace Go.Abs
open Go Go.Proofs Go.RowKit
attribute [local go_sem] Oper.semAt_some
def pH (s : jq) : Value := .agg #[.string s.name, .bool s.ran, .int .u64 s.con]
theorem OP {l : List jq} {i k : Nat} {s : jq} (hs : l[i]? = some s) (hi : i + k + 1 = l.length) : (l.zipIdx.reverse.map fun p => (#[.int .i64 p.2, pH p.1] : Array Value))[k]? = some #[.int .i64 i, pH s] := by
 have hk : k < l.zipIdx.length := by simp; omega
 rw [aaE, List.getElem?_reverse hk];have e : l.zipIdx.length - 1 - k = i := by simp; omega
 rw [e, List.getElem?_zipIdx, hs];simp
theorem IE (l : List jq) (hl : l.length < 1000000) : GU Tryz.prog 220 [.cptr [.sl none 3 (l.map iR)] 0] (qh l) := by
 refine ⟨fun args w => ix (by kernel_rfl), fun G w lb hk hr => ?_⟩;simp only [aB, Rep, fv] at hr;obtain ⟨_, _, rfl, ⟨b, o, rfl, ⟨⟨v, hv, ⟨A, c, rfl, hc, hE⟩, _⟩, _⟩, _⟩, rfl⟩ := hr;refine ⟨l.zipIdx.reverse.map fun p => #[.int .i64 p.2, pH p.1], by simp [qh], ?_, ?_⟩
 ·intro i x e hx he;unfold qh at hx;rw [aaE, aa5] at hx he;obtain ⟨p, hp, rfl⟩ := hx;obtain ⟨p', hp', rfl⟩ := he;rw [hp] at hp'
  cases hp';simp only [aB, Rep, iR, pH];exact ⟨_, _, rfl, rfl, _, _, rfl, ⟨_, rfl, _, _, rfl, rfl, _, _, rfl, rfl, _, _, rfl, rfl, rfl⟩, rfl⟩
 ·intro lp n J Jx hY hJ h0;rw [show FW none = Fence.wide from rfl] at hY ⊢;refine callsIn_of_wp Tryz.func220 rfl trivial ?_ rfl;simp only [Tryz.ntmps220, aa4, aag, aaj, Nat.reduceAdd, Nat.reduceSub, abp, abo, abx, abu, aam, aav, aa8];have hb := hJ 0 w h0 _ _ _ hv;have hlen : (List.map iR l).length = l.length := by simp
  rw [hlen] at hb hv hc;have hNb : (l.length : Int) < 1000000 := by omega
  clear hl
  gi_wp2
  gi_loopw [3] (fun i wr => ∃ k : Nat, k ≤ l.length ∧ i = .int .i64 ((l.length : Int) - 1 - k) ∧ J k wr) (fun i _ => (Go.RowKit.intOf i + 1).toNat)
  case atStart => exact ⟨0, aby _, by simp, h0⟩
  case round =>
   obtain ⟨k, hk', rfl, hJs⟩ := hrel;by_cases hlt : k < l.length
   ·obtain ⟨i, hi⟩ : ∃ i : Nat, i + k + 1 = l.length := ⟨l.length - 1 - k, by omega⟩;have hil : i < l.length := by omega
    have ei : (l.length : Int) - 1 - k = (i : Int) := by omega
    rw [ei];clear ei;obtain ⟨s, hs⟩ : ∃ s, l[i]? = some s := ⟨l[i], aad hil⟩;have hb' := hJ k wr hJs _ _ _ hv;obtain ⟨b', o', hA, _, _, hC⟩ := hE.get (i := i) (e := iR s) (by rw [aaE, hs]; rfl);subst hA;simp only [iR, fv, Rep, aaS, aa8] at hC;obtain ⟨⟨_, c0, rfl⟩, ⟨_, c1, rfl⟩, ⟨_, c2, rfl⟩, _⟩ := hC;have d0 := hJ k wr hJs _ _ _ c0;have d1 := hJ k wr hJs _ _ _ c1;have d2 := hJ k wr hJs _ _ _ c2;obtain ⟨fn, tmps, assign, body, hy, hR⟩ := hY (n - 1) k #[.int .i64 i, pH s] wr (OP hs hi) hJs;dsimp only [pH] at hy;have hi0 : (0 : Int) ≤ i := by omega
    clear hY hJ h0 hE hb
    gi_wp2
    refine ⟨fun h => by simp [Fence.wide] at h, hR.mono ?_⟩;rintro e W3 (⟨rfl, hJ3⟩ | ⟨rfl, hJx3⟩)
    ·clear hR hy
     gi_wp2
     go_roundw
     case rel => exact ⟨k + 1, by omega, by congr 1 <;> (try push_cast) <;> omega, hJ3⟩
     case measure => first | (simp [Go.RowKit.intOf]; done) | (simp [Go.RowKit.intOf]; omega)
    ·clear hR hy
     gi_wp2
     refine bodyPost_ret (results_none rfl _ _ _) rfl ?_;exact ⟨⟨_, rfl⟩, .inr ⟨_, hJx3⟩⟩
   ·have ek : k = l.length := by omega
    have e1 : (l.length : Int) - 1 - k = -1 := by omega
    rw [e1];have hJe : J l.length wr := ek ▸ hJs;clear e1 ek hJs hlt hk' hY h0 hE hb
    gi_wp2
    go_end0
    refine ⟨⟨_, rfl⟩, .inl ?_⟩;simpa using hJe
theorem MT (l : List jq) (hl : l.length < 1000000) (name : ByteArray) {R}
  (h : ∀ d : Int, d = (match l.reverse.find? (fun s => decide (s.name = name)) with | some s => s.con | none => 0) → R (.val (.int .u64 d)) []) : ag Tryz.prog 128 [.sl none 3 (l.map iR), .val (.string name)] [] R := Lk l (IE l hl) name h
end Go.Abs
end
section
namespace Go.Abs
open Go Go.Proofs
def mi (l : List jq) (name : ByteArray) : Int := match l.reverse.find? (fun s => decide (s.name = name)) with | some s => s.con | none => 0
theorem rW (l : List jq) (s : jq) (name : ByteArray) : mi (l ++ [s]) name = if s.name = name then s.con else mi l name := by
 unfold mi;rw [List.reverse_append];simp only [List.reverse_cons, List.reverse_nil, aam, aav, List.find?_cons];by_cases h : s.name = name <;> simp [h]
theorem Eh (l : List jq) (hl : l.length < 1000000) (name : ByteArray) {R} (h : ∀ d : Int, d = mi l name → R (.val (.int .u64 d)) []) : ag Tryz.prog 50 [.sl none 3 (l.map iR), .val (.string name)] [] R := by
 refine aa (an := UV) tab_ok Tryz.func50 ?_;conv=>whnf
 refine aq.ind2 (fun (i : Nat) (n : Int) => [(5, .val (.int .u64 n)), (6, .val (.int .i64 i))]) (fun _ _ => []) (fun i _ => l.length - i) (fun i n => i ≤ l.length ∧ n = mi (l.take i) name) 0 0 rfl ⟨aby _, rfl⟩ ?_;rintro i n ⟨hi, hn⟩ IH;conv=>whnf
 have hlen : (l.map iR).length = l.length := by simp
 refine ae (fun hc => ?_) (fun hc => ?_)
 ·have hc : i < l.length := by simp at hc; omega
  have ht : l.take (i + 1) = l.take i ++ [l[i]] := by rw [List.take_add_one, aad hc]; rfl
  conv=>whnf
  refine idxNat (by simpa using hc) ?_;conv=>whnf
  refine ae (fun hb => ?_) (fun hb => ?_)
  ·conv=>whnf
   refine idxNat (by simpa using hc) ?_;conv=>whnf
   rw [am (by omega)];refine IH (i + 1) _ ⟨by omega, ?_⟩ (by omega);rw [ht, rW, aaz (aal hb)]
  ·conv=>whnf
   rw [am (by omega)];refine IH (i + 1) _ ⟨by omega, ?_⟩ (by omega);rw [ht, rW, aap (aat hb)];exact hn
 ·conv=>whnf
  have : i = l.length := by simp at hc; omega
  refine h _ ?_;rw [hn, this, aax]
end Go.Abs
end
section
namespace Go.Abs
open Go Go.Proofs Dig
theorem Ta (n : Nd) (l : List U) (hl : l.length ≤ 1000000) {R} (h : ∀ d, d = iM n.rule l → R (uv d) []) : ag Tryz.prog 132 [.agg n.enc, .sl none 1 (dR l)] [] R := by
 refine aa (an := SG) tab_ok Tryz.func132 ?_;conv=>whnf
 refine FK n.rule l hl rfl fun d hd => ?_;conv=>whnf
 exact h d hd
end Go.Abs
end
section
namespace Go.Abs
open Go Go.Proofs Dig
attribute [local irreducible] aH aD aO firstIdx
structure Sp where
 name : B
 ran : Bool
 con : U
def Sp.v (s : Sp) : jq := ⟨ofB s.name, s.ran, (s.con.toNat : Int)⟩
def sps (l : List Sp) : List (List AV) := (l.map Sp.v).map iR
theorem bA (l : List Sp) : (sps l).length = l.length := by simp [sps]
def dV (l : List Sp) (name : B) : U := match l.reverse.find? (fun s => decide (s.name = name)) with | some s => s.con | none => 0
theorem Ck (l : List Sp) (name : B) : mi (l.map Sp.v) (ofB name) = ((dV l name).toNat : Int) := by
 unfold mi dV;have e : (fun s : jq => decide (s.name = ofB name)) ∘ Sp.v = fun s : Sp => decide (s.name = name) := by
  funext s;simp only [Function.comp, Sp.v, bG]
 rw [← List.map_reverse, List.find?_map, e]
 cases l.reverse.find? (fun s => decide (s.name = name)) <;> rfl
theorem yZ (l : List Sp) (hl : l.length < 1000000) (name : B) {R} (h : ∀ d, d = dV l name → R (uv d) []) : ag Tryz.prog 128 [.sl none 3 (sps l), vs name] [] R :=
 MT (l.map Sp.v) (by simpa using hl) (ofB name) fun d hd => by
  have hd : d = mi (l.map Sp.v) (ofB name) := hd;rw [hd, Ck]; exact h _ rfl
theorem nk (l : List Sp) (hl : l.length < 1000000) (name : B) {R} (h : ∀ d, d = dV l name → R (uv d) []) : ag Tryz.prog 50 [.sl none 3 (sps l), vs name] [] R :=
 Eh (l.map Sp.v) (by simpa using hl) (ofB name) fun d hd => by rw [hd, Ck]; exact h _ rfl
theorem xk (l : List Nd) : ∀ (k : Nat) (out : List Nat), (∀ b ∈ out, b < l.length) → ∀ b ∈ dA l k out, b < l.length := by
 intro k
 induction k with
 | zero => intro out h; simpa [dA] using h
 | succ k ih =>
  intro out h;unfold dA;split
  ·exact h
  ·rename_i b hb;refine ih _ fun c hc => ?_;rw [aaJ, aaA] at hc;rcases hc with hc | rfl
   ·exact h c hc
   ·exact (iD hb).1
theorem BJ (l : List Nd) : ∀ (k : Nat) (out : List Nat), (dA l k out).length ≤ out.length + k := by
 intro k
 induction k with
 | zero => intro out; simp [dA]
 | succ k ih =>
  intro out;unfold dA;split
  ·omega
  ·have := ih (out ++ [‹Nat›]);simp at this;omega
theorem iB {l : List Nd} {b : Nat} (h : b ∈ cn l) : b < l.length := by
 unfold cn at h;split at h
 ·exact xk l l.length [] (by simp) b h
 ·simp at h
theorem qF (l : List Nd) : (cn l).length ≤ l.length := by
 unfold cn;split
 ·simpa [c8] using BJ l l.length []
 ·simp
theorem md (l : List U) : (dR l).length = l.length := by simp [dR]
def FQ (es : List (ByteArray × AV)) (F : B → U) : Prop := ∀ s, cD es (ofB s) = some (uv (F s)) ∨ (cD es (ofB s) = none ∧ F s = 0)
theorem FQ.put {es : List (ByteArray × AV)} {F : B → U} (h : FQ es F) (k : B) (x : U) : FQ (dU es (ofB k) (uv x)) (fun s => if k = s then x else F s) := by
 intro s;rw [tY];by_cases hk : k = s
 ·subst hk; simp
 ·have : ofB k ≠ ofB s := fun e => hk (bZ e);simp only [this, aaW, hk];exact h s
end Go.Abs
end
section
namespace Go.Abs
open Go Go.Proofs
def qm (l : List Nd) (out : List Nat) : Prop := ∀ k b, out[k]? = some b → b < l.length ∧ ready l ((out.take k).map (nm l)) b = true
theorem qm.snoc {l : List Nd} {out : List Nat} {b : Nat} (h : qm l out) (hb : b < l.length) (hr : ready l (out.map (nm l)) b = true) : qm l (out ++ [b]) := by
 intro k c hc;rcases aaN k out.length with hk | hk
 ·rw [aaM hk] at hc;rw [aaB (by omega)];exact h k c hc
 ·have hk' := (List.getElem?_eq_some_iff.1 hc).1;have e : k = out.length := by simp at hk'; omega
  subst e;simp at hc;subst hc;rw [List.take_left']
  ·exact ⟨hb, hr⟩
  ·rfl
theorem Ef {l : List Nd} : ∀ (k : Nat) (out : List Nat), qm l out → qm l (dA l k out) ∧ ((dA l k out).length = out.length + k ∨ ((dA l k out).length < out.length + k ∧ ir l ((dA l k out).map (nm l)) l.length = none)) := by
 intro k
 induction k with
 | zero => intro out h; exact ⟨h, .inl rfl⟩
 | succ k ih =>
  intro out h;unfold dA
  cases hb : ir l (out.map (nm l)) l.length with
  | none => exact ⟨h, .inr ⟨by simp, hb⟩⟩
  | some b =>
   obtain ⟨h1, h2⟩ := iD hb;obtain ⟨i1, i2⟩ := ih (out ++ [b]) (h.snoc h1 h2);refine ⟨i1, ?_⟩;simp only [aac, aag, aaj] at i2;rcases i2 with i2 | ⟨i2, i3⟩
   ·exact .inl (by simp only [i2]; omega)
   ·exact .inr ⟨by show (dA l k (out ++ [b])).length < _; omega, i3⟩
theorem my (l : List Nd) : qm l (c8 l) ∧ ((c8 l).length = l.length ∨ ((c8 l).length < l.length ∧ ir l ((c8 l).map (nm l)) l.length = none)) := by
 have := Ef (l := l) l.length [] (fun k b h => by simp at h);simpa [c8] using this
theorem qm.nodup {l : List Nd} {out : List Nat} (h : qm l out) : (out.map (nm l)).Nodup := by
 refine List.pairwise_iff_getElem.2 fun i j hi hj hij e => ?_;simp only [abg] at hi hj;have h2 := (h j out[j] (aad hj)).2;simp only [ready, aaq, aa0] at h2;refine h2.1 ?_;simp only [abD] at e;rw [← e];refine List.mem_map.2 ⟨out[i], ?_, rfl⟩;rw [List.mem_take_iff_getElem];exact ⟨i, by omega, rfl⟩
theorem qm.deps {l : List Nd} {out : List Nat} (h : qm l out) {k : Nat} (hk : k < out.length) {d : B} (hd : d ∈ dps l out[k]) : ∃ j, ∃ (hj : j < out.length), j < k ∧ nm l out[j] = d := by
 have h2 := (h k out[k] (aad hk)).2;simp only [ready, aaq, aa0] at h2;obtain ⟨b, hb, rfl⟩ := List.mem_map.1 (h2.2 d hd);rw [List.mem_take_iff_getElem] at hb;obtain ⟨j, hj, rfl⟩ := hb;exact ⟨j, by omega, by omega, rfl⟩
theorem wD {l : List Nd} (h : qT l ≠ false) : ∀ n ∈ l, ∀ d ∈ n.deps, d ∈ names l := fun n hn d hd => by
 have h : qT l = true := by simpa using h
 exact aal (List.all_eq_true.1 (List.all_eq_true.1 h n hn) d hd)
theorem fp {l : List Nd} (h : aV l = 0) : (l.map (·.name)).Nodup ∧ (c8 l).length = l.length ∧ (∀ n ∈ l, ∀ d ∈ n.deps, d ∈ names l) ∧ l.length ≤ 64 := by
 unfold aV at h;split at h
 ·cases h
 ·split at h
  ·rename_i h1 h2; exact absurd h h2
  ·rename_i h1 h2;have h2 : jI l [] = 0 := Classical.byContradiction fun e => h2 e;split at h
   ·cases h
   ·rename_i h3;split at h
    ·cases h
    ·rename_i h4;refine ⟨(n8 l [] h2).1, ?_, wD h3, by omega⟩;rcases (my l).2 with e | ⟨e, _⟩
     ·exact e
     ·exact absurd e h4
end Go.Abs
end
section
namespace Go.Abs
open Go Go.Proofs Dig
structure Dn where
 step : Sp
 why : Int
 trace : Rc
def kR (steps : List Sp) (n : Nd) : List U := n.deps.map (dV steps)
def cf (n : Nd) (state : List Rc) (steps given : List Sp) (w : U) : Dn :=
 if n.source = true then ⟨⟨n.name, false, dV given n.name⟩, 0, eG⟩
 else if kG n state ((kR steps n).map dig) = 0 then ⟨⟨n.name, false, gV (cT state n.name).out⟩, 0, eG⟩
 else ⟨⟨n.name, true, iM n.rule (kR steps n)⟩, kG n state ((kR steps n).map dig), gk n ((kR steps n).map dig) (iM n.rule (kR steps n)) w⟩
theorem jZ (n : Nd) (state : List Rc) (steps given : List Sp) (w : U) : (cf n state steps given w).step.name = n.name := by
 unfold cf;split
 ·rfl
 ·split <;> rfl
theorem vQ (n : Nd) (state : List Rc) (steps given : List Sp) (w u : U) : (cf n state steps given w).step = (cf n state steps given u).step ∧ (cf n state steps given w).why = (cf n state steps given u).why := by
 unfold cf;split
 ·exact ⟨rfl, rfl⟩
 ·split <;> exact ⟨rfl, rfl⟩
theorem B5 (n : Nd) (state : List Rc) (steps given : List Sp) (w : U) (h : (cf n state steps given w).step.ran = true) : (cf n state steps given w).trace = gk n ((kR steps n).map dig) (iM n.rule (kR steps n)) w ∧ n.source = false ∧ (cf n state steps given w).step.con = iM n.rule (kR steps n) := by
 unfold cf at h ⊢;split
 ·rename_i h1; rw [aaz h1] at h; cases h
 ·rename_i h1;rw [aap h1] at h;split
  ·rename_i h2; rw [aaz h2] at h; cases h
  ·exact ⟨rfl, by simpa using h1, rfl⟩
def aA (a : List Dn) : List Sp := a.map (·.step)
def aJ (a : List Dn) : List Rc := (a.filter (·.step.ran)).map (·.trace)
def CC (l : List Nd) (state : List Rc) (given : List Sp) (w : U) (out : List Dn) (i : Nat) : List Dn :=
 match l[i]? with
 | some n => out ++ [cf n state (aA out) given w]
 | none => out
def aM (l : List Nd) (state : List Rc) (given : List Sp) (w : U) (o : List Nat) : List Dn := o.foldl (CC l state given w) []
def bE (l : List Nd) (state : List Rc) (given : List Sp) (w : U) : List Dn := aM l state given w (cn l)
theorem im {l : List Nd} (state : List Rc) (given : List Sp) (w : U) {o : List Nat} {i : Nat} (hi : i < o.length) (hl : o[i] < l.length) : aM l state given w (o.take (i + 1)) = aM l state given w (o.take i) ++ [cf l[o[i]] state (aA (aM l state given w (o.take i))) given w] := by
 unfold aM;rw [aab hi, abn];simp only [aaQ, abH, CC, aad hl]
theorem kQ {l : List Nd} (state : List Rc) (given : List Sp) (w : U) {o : List Nat} (hb : ∀ b ∈ o, b < l.length) : ∀ i, i ≤ o.length → (aM l state given w (o.take i)).length = i := by
 intro i
 induction i with
 | zero => intro _; simp [aM]
 | succ i ih =>
  intro h;rw [im state given w (show i < o.length by omega) (hb _ (aaf _)), aac, ih (by omega)];rfl
theorem Kr {l : List Nd} (state : List Rc) (given : List Sp) (w : U) {o : List Nat} (hb : ∀ b ∈ o, b < l.length) {i : Nat} (hi : i ≤ o.length) : ∀ k, i + k ≤ o.length → (aM l state given w (o.take (i + k))).take i = aM l state given w (o.take i) := by
 intro k
 induction k with
 | zero =>
  intro _;have h := kQ state given w hb _ hi;rw [aa8, aae (by omega)]
 | succ k ih =>
  intro h;rw [show i + (k + 1) = (i + k) + 1 from rfl, im state given w (show i + k < o.length by omega) (hb _ (aaf _)), aaB (by rw [kQ state given w hb _ (by omega)]; omega)];exact ih (by omega)
theorem kP {l : List Nd} (state : List Rc) (given : List Sp) (w : U) {o : List Nat} (hb : ∀ b ∈ o, b < l.length) {i : Nat} (hi : i ≤ o.length) : (aM l state given w o).take i = aM l state given w (o.take i) := by
 have := Kr state given w hb hi (o.length - i) (by omega);rwa [show i + (o.length - i) = o.length by omega, aax] at this
theorem fS {l : List Nd} (state : List Rc) (given : List Sp) (w : U) {o : List Nat} (hb : ∀ b ∈ o, b < l.length) : (aM l state given w o).length = o.length := by
 have := kQ state given w hb o.length (aar _);rwa [aax] at this
theorem mr {l : List Nd} (state : List Rc) (given : List Sp) (w : U) {o : List Nat} (hb : ∀ b ∈ o, b < l.length) {i : Nat} (hi : i < o.length) : (aM l state given w o)[i]? = some (cf (l[o[i]]'(hb _ (aaf _))) state (aA ((aM l state given w o).take i)) given w) := by
 have h1 := kP state given w hb (show i + 1 ≤ o.length by omega);rw [im state given w hi (hb _ (aaf _))] at h1;have hlen := kQ state given w hb i (by omega);rw [kP state given w hb (abw hi)];have h2 := congrArg (fun x => x[i]?) h1;simp only [List.getElem?_take, Nat.lt_succ_self, abq] at h2;rw [h2, aaV (by omega), hlen, Nat.sub_self];rfl
theorem CP {l : List Nd} (state : List Rc) (given : List Sp) (w u : U) (o : List Nat) : (aM l state given w o).map (fun d => (d.step, d.why)) = (aM l state given u o).map (fun d => (d.step, d.why)) := by
 unfold aM;have : ∀ (o : List Nat) (a b : List Dn), a.map (fun d => (d.step, d.why)) = b.map (fun d => (d.step, d.why)) → (o.foldl (CC l state given w) a).map (fun d => (d.step, d.why)) = (o.foldl (CC l state given u) b).map (fun d => (d.step, d.why)) := by
  intro o
  induction o with
  | nil => intro a b h; exact h
  | cons i o ih =>
   intro a b h;refine ih _ _ ?_;have hs : aA a = aA b := by
    have := congrArg (List.map Prod.fst) h;simpa [aA, abK, Function.comp_def] using this
   unfold CC;split
   ·rename_i n _;rw [aaG, aaG, h, hs];simp [(vQ n state (aA b) given w u).1, (vQ n state (aA b) given w u).2]
   ·exact h
 exact this o [] [] rfl
theorem tf {l : List Nd} (state : List Rc) (given : List Sp) (w u : U) (o : List Nat) : aA (aM l state given w o) = aA (aM l state given u o) := by
 have := congrArg (List.map Prod.fst) (CP (l := l) state given w u o);simpa [aA, abK, Function.comp_def] using this
theorem Kq {l : List Nd} (state : List Rc) (given : List Sp) (w u : U) (o : List Nat) : (aM l state given w o).map (·.why) = (aM l state given u o).map (·.why) := by
 have := congrArg (List.map Prod.snd) (CP (l := l) state given w u o);simpa [abK, Function.comp_def] using this
theorem bW (a : List Dn) (d : Dn) : aA (a ++ [d]) = aA a ++ [d.step] := by simp [aA]
theorem gi (a : List Dn) (d : Dn) : aJ (a ++ [d]) = if d.step.ran = true then aJ a ++ [d.trace] else aJ a := by
 unfold aJ;rw [List.filter_append, aaG];by_cases h : d.step.ran = true <;> simp [h]
theorem fG (a : List Dn) : (aJ a).length ≤ a.length := by
 unfold aJ;simp only [abg];exact abF _ _
theorem CQ {l : List Nd} (state : List Rc) (given : List Sp) (w : U) {o : List Nat} (hb : ∀ b ∈ o, b < l.length) : (aA (aM l state given w o)).map (·.name) = o.map (nm l) := by
 refine List.ext_getElem? fun i => ?_;rcases aaN i o.length with hi | hi
 ·simp only [aA, abK, aaE, mr state given w hb hi, abJ, Function.comp, jZ, aad hi];rw [eV (hb _ (aaf _))]
 ·rw [aaP (by simpa [aA, fS state given w hb] using hi), aaP (by simpa using hi)]
theorem oY {l : List Nd} (h : aV l = 0) : ((cn l).map (nm l)).Nodup := by
 rw [cn, aaz h];exact (my l).1.nodup
theorem jw {l : List Nd} (h : aV l = 0) : (cn l).length = l.length := by
 rw [cn, aaz h]; exact (fp h).2.1
end Go.Abs
end
section
namespace Go.Abs
open Go Go.Proofs Go.Sort
def At (G : Gh) (w : World) : dQ := ⟨G, w, fun b => ∃ n, G.at n b, True⟩
theorem JX {G : Gh} {os : List aE} {w : World} (hW : WR G (bC 0 os) w) : Inv (At G w) ⟨[], bC 0 os⟩ G { tmps := #[], defers := [] } w :=
 ⟨by simp [aB], nw.nil _ _ _, hW, Gh.le.refl _, ⟨rfl, rfl, rfl, aar _, fun _ _ _ => rfl, fun _ _ _ _ => rfl⟩, fun n b hb => .inl ⟨n, hb⟩⟩
theorem BX {P : Program} {f : FuncId} {args : List AV} {os : List aE} {R : AV → List aE → Prop}
  (h : ∀ (G : Gh) (w : World) (vals : List Value), WR G (bC 0 os) w → aB G args vals → Calls P f vals.toArray w fun e w' => ∃ (v : Value) (r : AV) (os' : List aE) (G' : Gh), e = .returned v ∧ R r os' ∧ Rep G' r v ∧
   Inv (At G w) ⟨[], bC 0 os'⟩ G' { tmps := #[], defers := [] } w' ∧ (∀ (i : Nat) (o : aE), os'[i]? = some o → ∀ m ∈ ce o, m < os'.length) ∧ ∀ m ∈ r.names, m < os'.length) : ag P f args os R :=
 ⟨fun G w vals hW hA => (h G w vals hW hA).mono fun e w' ⟨v, r, os', G', h1, h2, h3, h4, h5, h6⟩ => ⟨v, r, os', G', h1, h2, h3, h4.wr, h4.le, h4.ext, h4.newb, h5, h6⟩⟩
def fe (l : List B) : List B := l.mergeSort fun x y => decide (x ≤ y)
theorem xY (G : Gh) (l : List B) (vs : List Value) : aB G (bj l).flatten vs ↔ vs = l.map encStr := by
 induction l generalizing vs with
 | nil => simp [bj, aB]
 | cons s l ih =>
  simp only [bj, aaF, aa2, aav, aam, aB, Rep];constructor
  ·rintro ⟨v, us, rfl, h, h2⟩;have := (ih us).1 h2;simp only [vs] at h;rw [this, h];rfl
  ·rintro rfl;exact ⟨_, _, rfl, rfl, (ih _).2 rfl⟩
theorem yk {K : Nat → Nat → Option Value} {ob : Nm → Option GO} {g : Nat} : ∀ (ss : List B) (i : Nat), (∀ j s, ss[j]? = some s → K g (i + j) = some (encStr s)) → d7 ⟨K, ob⟩ 1 (some ⟨g, 0, none⟩) i (bj ss)
 | [], _, _ => trivial
 | s :: ss, i, h => by
  refine ⟨⟨g, 0, rfl, rfl, rfl, ⟨encStr s, by have := h 0 s rfl; simpa using this, rfl⟩, trivial⟩, yk ss (i + 1) fun j s' hs => ?_⟩;have := h (j + 1) s' (by simpa using hs);rw [show i + 1 + j = i + (j + 1) by omega];exact this
end Go.Abs
end
section
namespace Go.Proofs
open Go.Shelf
def Tryz.lays190_ren : Go.Shelf.Ren := ⟨fun | 190 => 112 | 125 => 153 | 258 => 152 | 128 => 199 | 129 => 200 | 302 => 190 | 303 => 191 | 304 => 192 | 305 => 193 | 306 => 194 | 307 => 195 | 308 => 196 | 309 => 197 | 310 => 198 | 333 => 237 | 329 => 238 | 330 => 239 | 334 => 240 | 335 => 241 | 336 => 242 | 344 => 264 | n => n, fun | 31 => 71 | 9 => 9 | 3 => 3 | 46 => 83 | 0 => 0 | 51 => 285 | 53 => 33 | 4 => 4 | 183 => 279 | 182 => 278 | 131 => 178 | 5 => 5 | 218 => 320 | 222 => 324 | 228 => 349 | 229 => 271 | n => n, fun | n => n⟩
theorem Tryz.lays190 : Go.Proofs.Lays.n190 Tryz.prog Tryz.lays190_ren := {
  mixed := by kernel_rfl
  f125 := Tryz.func153.trans (congrArg some (by kernel_rfl))
  f128 := Tryz.func199.trans (congrArg some (by kernel_rfl))
  f129 := Tryz.func200.trans (congrArg some (by kernel_rfl))
  f190 := Tryz.func112.trans (congrArg some (by kernel_rfl))
  f258 := Tryz.func152.trans (congrArg some (by kernel_rfl))
  f302 := Tryz.func190.trans (congrArg some (by kernel_rfl))
  f303 := Tryz.func191.trans (congrArg some (by kernel_rfl))
  f304 := Tryz.func192.trans (congrArg some (by kernel_rfl))
  f305 := Tryz.func193.trans (congrArg some (by kernel_rfl))
  f306 := Tryz.func194.trans (congrArg some (by kernel_rfl))
  f307 := Tryz.func195.trans (congrArg some (by kernel_rfl))
  f308 := Tryz.func196.trans (congrArg some (by kernel_rfl))
  f309 := Tryz.func197.trans (congrArg some (by kernel_rfl))
  f310 := Tryz.func198.trans (congrArg some (by kernel_rfl))
  f329 := Tryz.func238.trans (congrArg some (by kernel_rfl))
  f330 := Tryz.func239.trans (congrArg some (by kernel_rfl))
  f333 := Tryz.func237.trans (congrArg some (by kernel_rfl))
  f334 := Tryz.func240.trans (congrArg some (by kernel_rfl))
  f335 := Tryz.func241.trans (congrArg some (by kernel_rfl))
  f336 := Tryz.func242.trans (congrArg some (by kernel_rfl))
  f344 := Tryz.func264.trans (congrArg some (by kernel_rfl))
  t0 := Tryz.underlying0
  a0 := Tryz.isAgg0
  z0 := Tryz.sizeOf0
  v0 := Tryz.zeroValue0
  t3 := Tryz.underlying3
  a3 := Tryz.isAgg3
  z3 := Tryz.sizeOf3
  v3 := Tryz.zeroValue3
  t4 := Tryz.underlying4
  a4 := Tryz.isAgg4
  z4 := Tryz.sizeOf4
  v4 := Tryz.zeroValue4
  t5 := Tryz.underlying5
  a5 := Tryz.isAgg5
  z5 := Tryz.sizeOf5
  v5 := Tryz.zeroValue5
  t9 := Tryz.underlying9
  a9 := Tryz.isAgg9
  z9 := Tryz.sizeOf9
  v9 := Tryz.zeroValue9
  t31 := Tryz.underlying71
  a31 := Tryz.isAgg71
  z31 := Tryz.sizeOf71
  v31 := Tryz.zeroValue71
  t46 := Tryz.underlying83
  a46 := Tryz.isAgg83
  z46 := Tryz.sizeOf83
  v46 := Tryz.zeroValue83
  t51 := Tryz.underlying285
  a51 := Tryz.isAgg285
  z51 := Tryz.sizeOf285
  v51 := Tryz.zeroValue285
  t53 := Tryz.underlying33
  a53 := Tryz.isAgg33
  z53 := Tryz.sizeOf33
  v53 := Tryz.zeroValue33
  t131 := Tryz.underlying178
  a131 := Tryz.isAgg178
  z131 := Tryz.sizeOf178
  v131 := Tryz.zeroValue178
  t182 := Tryz.underlying278
  a182 := Tryz.isAgg278
  z182 := Tryz.sizeOf278
  v182 := Tryz.zeroValue278
  t183 := Tryz.underlying279
  a183 := Tryz.isAgg279
  z183 := Tryz.sizeOf279
  v183 := Tryz.zeroValue279
  t218 := Tryz.underlying320
  a218 := Tryz.isAgg320
  z218 := Tryz.sizeOf320
  v218 := Tryz.zeroValue320
  t222 := Tryz.underlying324
  a222 := Tryz.isAgg324
  z222 := Tryz.sizeOf324
  v222 := Tryz.zeroValue324
  t228 := Tryz.underlying349
  a228 := Tryz.isAgg349
  z228 := Tryz.sizeOf349
  v228 := Tryz.zeroValue349
  t229 := Tryz.underlying271
  a229 := Tryz.isAgg271
  z229 := Tryz.sizeOf271
  v229 := Tryz.zeroValue271 }
open Go.Sort Go.RowKit in
theorem Tryz.slices_Sort_string (blk off cap : Nat) (ss : List (List UInt8)) (w : World) (hH : Holds encStr w blk off ss.toArray) (hblk : blk < w.heap.size) (hsz : ss.length < 4611686018427387904) : Calls Tryz.prog 112 #[.slice (some ⟨blk, off, none⟩) ss.length cap] w fun e w' =>
      e = .returned (.tuple #[]) ∧ ∃ n os, w' = grow (putRow encStr (Sort.ahead w n) blk off (ss.mergeSort fun x y => decide (x ≤ y)).toArray) os := Any.slices_Sort_string Tryz.lays190 blk off cap ss w hH hblk hsz
open Go.RowKit Go.Sort in
theorem Tryz.slices_Sort_string_none (p : Option Addr) (cap : Nat) (w : World) : Calls Tryz.prog 112 #[.slice p 0 cap] w fun e w' => e = .returned (.tuple #[]) ∧ w' = w := Any.slices_Sort_string_none Tryz.lays190 p cap w
end Go.Proofs
end
section
namespace Go.Abs
open Go Go.Proofs Go.Sort
theorem FG (l : List B) (ver : Nat) (hl : l.length < 1000000) {R} (h : R (.tup []) [.vec 9 1 (bj (fe l)) ver]) : ag Tryz.prog 112 [.slv 0 1 ver 0 l.length] [.vec 9 1 (bj l) ver] R := by
 refine BX fun G w vals hW hA => ?_;have hI := JX hW;obtain ⟨u, xs, e1, e2, e3, e4, e5⟩ := hW.obj 0 (.vec 9 1 (bj l) ver) rfl;have hsl := aF l;have hx : xs = l.map encStr := (xY G l xs).1 e3;subst hx;simp only [aB, Rep] at hA;obtain ⟨v, _, rfl, ⟨_, u', top, q1, q2, q3⟩, rfl⟩ := hA;rw [e1] at q1;injection q1 with q1
 injection q1 with q1 q1'
 subst q1 q1';rw [hsl] at e2;have hv : v = u := by
  obtain ⟨A, L, c, A', hu, hL, hLc, hve, hA0, _⟩ := q3 rfl;have hA0 := hA0 rfl;have hLl : L = l.length := by
   rcases e2.2 with ⟨hn, h0⟩ | ⟨g, cap, cur, hn, _⟩
   ·rw [hn] at hu; injection hu with _ q2 _; omega
   ·rw [hn] at hu; injection hu with _ q2 _; omega
  rw [hve, hu, hLl, hA0]; rfl
 subst hv;have hsort : (fe l).length = l.length := by simp [fe]
 have hsls := aF (fe l);have hok : ∀ e ∈ bj (fe l), e.length = 1 ∧ bP e = true := fun e he => by
  obtain ⟨s, _, rfl⟩ := List.mem_map.1 he;exact ⟨rfl, rfl⟩
 rcases e2.2 with ⟨rfl, hz⟩ | ⟨g, cap, cur, rfl, hbase, hgb, r1, r2, r3, r4⟩
 ·have hnil : l = [] := aau hz;subst hnil;refine (Tryz.slices_Sort_string_none none 0 w).mono ?_;rintro e w' ⟨rfl, rfl⟩;refine ⟨_, .tup [], _, G, rfl, h, by simp only [Rep]; exact ⟨[], rfl, by simp [aB]⟩, ?_, ?_, by simp [AV.names, cH]⟩
  ·have : fe ([] : List B) = [] := by simp [fe]
   rw [this];exact hI
  ·intro i o ho m hm
   cases i with
   | zero => simp at ho; subst ho; simp [ce] at hm
   | succ i => simp at ho
 ·have hH := holds_of_block (w := w) (ss := l) hgb (by simpa using r4);have hglt : g < w.heap.size := (Array.getElem?_eq_some_iff.1 hgb).1;refine (Tryz.slices_Sort_string g 0 cap l w hH hglt (by omega)).mono ?_;rintro e w' ⟨rfl, n, os, rfl⟩;have hown := ownsRow_sorted (n := n) (os := os) (ss := l) (ts := fe l) hsort hbase hgb r1 r2 (by simpa using r3);have hgr := grownBy_sorted (w := w) (g := g) (n := n) (os := os) (fe l).toArray;have hat : ∀ b, G.at 0 b ↔ b = g := fun b => by
   constructor
   ·rintro (h1 | ⟨u1, t1, h1, h2⟩)
    ·rw [e1] at h1; cases h1
    ·rw [e1] at h1; cases h1; simp [Value.ownBlock] at h2; exact h2.symm
   ·rintro rfl; exact .inr ⟨_, _, e1, rfl⟩
  have heq : (⟨G.K, aN G.ob 0 (.rowv (.slice (some ⟨g, 0, none⟩) l.length cap) ver)⟩ : Gh) = G := by
   cases G with
   | mk K ob =>
    congr 1;funext m;by_cases hm : m = 0
    ·subst hm; simp [aN]; exact e1.symm
    ·simp [aN, hm]
  have hI' := hI.setObj (w' := grow (putRow encStr (Sort.ahead w n) g 0 (fe l).toArray) os) (n := 0) (o := .vec 9 1 (bj l) ver) (o' := .vec 9 1 (bj (fe l)) ver) (objs' := bC 0 [.vec 9 1 (bj (fe l)) ver]) (g := .rowv (.slice (some ⟨g, 0, none⟩) l.length cap) ver) (K' := G.K)
   rfl hgr.os hgr.tape hgr.output hgr.size (fun b hb hnat => hgr.block b hb (fun e => hnat ((hat b).2 (by injection e)))) (fun _ _ _ _ => rfl)
   (by rw [heq]; exact Gh.le.refl G)
   (fun b o v hb ev => by
    rcases hb with hb | hb
    ·have := hI.wr.kltb ev; omega
    ·rw [(hat b).1 hb, e5 g rfl o] at ev; cases ev)
   (fun m => by
    by_cases hm : m = 0
    ·subst hm; rfl
    ·simp only [hm, aaW];have : Nat.beq 0 m = false := by
      cases m with
      | zero => exact absurd rfl hm
      | succ m => rfl
     simp [bC, ax, this])
   (by
    rw [heq];refine ⟨_, (fe l).map encStr, e1, by rw [hsls, hsort]; exact hown, (xY _ _ _).2 rfl, hok, fun g' hg' o => ?_⟩;simp [Value.ownBlock] at hg';subst hg';exact e5 _ rfl o)
   (fun b hb => by rw [heq] at hb; exact .inr hb)
  rw [heq] at hI';refine ⟨_, .tup [], _, G, rfl, h, by simp only [Rep]; exact ⟨[], rfl, by simp [aB]⟩, hI', ?_, by simp [AV.names, cH]⟩;intro i o ho m hm
  cases i with
  | zero => simp at ho; subst ho; simp [ce] at hm
  | succ i => simp at ho
end Go.Abs
end
section
namespace Go.Abs
open Go Go.Proofs Dig
attribute [local irreducible] aH aD aO firstIdx
theorem tX {l : List Nat} {n : Nat} (h : l.Nodup) (hb : ∀ x ∈ l, x < n) : l.length ≤ n := by
 have hp : l.Perm ((List.range n).filter fun x => decide (x ∈ l)) := by
  refine (List.perm_ext_iff_of_nodup h (List.nodup_range.filter _)).2 fun a => ?_;simp;exact fun ha => hb a ha
 rw [hp.length_eq];exact aba (abF _ _) (by simp)
abbrev iP := List (B × Rc)
def mz (mp : iP) : List (ByteArray × AV) := mp.map fun p => (ofB p.1, .agg p.2.enc)
def ii (mp : iP) : List B := mp.map (·.1)
def rP (mp : iP) (k : B) : Option Rc := (mp.find? fun p => decide (p.1 = k)).map (·.2)
def tZ (mp : iP) (k : B) : Rc := (rP mp k).getD eG
theorem Hn (mp : iP) (k : B) : cD (mz mp) (ofB k) = (rP mp k).map fun r => .agg r.enc := by
 induction mp with
 | nil => rfl
 | cons p mp ih =>
  unfold mz at ih ⊢;simp only [aaF, cD, rP, List.find?_cons];by_cases h : p.1 = k
  ·simp [h]
  ·have : ofB p.1 ≠ ofB k := fun e => h (bZ e);simp only [this, aaW, h, decide_false, ih];rfl
theorem yF {mp : iP} {k : B} (h : k ∈ ii mp) : ∃ r, rP mp k = some r := by
 obtain ⟨p, hp, rfl⟩ := List.mem_map.1 h
 cases hf : mp.find? fun q => decide (q.1 = p.1) with
 | none => exact absurd (List.find?_eq_none.1 hf p hp) (by simp)
 | some q => exact ⟨q.2, by simp [rP, hf]⟩
theorem zl (mp : iP) (hm : mp.length < 1000000) {R} (h : ∀ ks, ks.Perm (ii mp) → ks = fe ks → R (.sl none 7 (be (ks.map (tZ mp)))) [.map (mz mp)]) : ag Tryz.prog 135 [.mapv 0] [.map (mz mp)] R := by
 refine aa (an := SD) tab_ok Tryz.func135 ?_;have hml : (mz mp).length = mp.length := by simp [mz]
 conv=>whnf
 intro ms clock;refine aq.ind2 (fun (seen : List Nat) (keys : List B) => [(3, .slv (al 3) 1 keys.length 0 keys.length)]) (fun seen keys => [(0, .mapc (mz mp) ms clock), (al 3, .vec 9 1 (bj keys) keys.length), (al 9, .iter 0 ms clock seen)])
  (fun seen _ => mp.length - seen.length) (fun seen keys => seen.Nodup ∧ (∀ i ∈ seen, i < mp.length) ∧ keys = seen.reverse.map fun i => ((mp[i]?).map (·.1)).getD []) [] [] rfl ⟨by simp, by simp, rfl⟩ ?_
 rintro seen keys ⟨hnd, hbd, hkeys⟩ IH;have hkl : keys.length = seen.length := by rw [hkeys]; simp
 have hsb := tX hnd hbd;have hsk := aF keys;conv=>whnf
 refine ⟨⟨rfl, rfl⟩, fun hall => ?_, fun i e he hns => ?_⟩
 ·have hperm : keys.Perm (ii mp) := by
   have h1 : seen.Perm (List.range mp.length) := (List.perm_ext_iff_of_nodup hnd List.nodup_range).2 fun a => by
    rw [List.mem_range];exact ⟨hbd a, fun ha => hall a (by rw [hml]; exact ha)⟩
   have h2 : (List.range mp.length).map (fun i => ((mp[i]?).map (·.1)).getD []) = ii mp := by
    apply List.ext_getElem
    ·simp [ii]
    ·intro i h1 h2;have hi : i < mp.length := by simpa using h1
     simp [ii, aad hi]
   rw [hkeys, ← h2];exact ((List.reverse_perm seen).trans h1).map _
  clear IH;conv=>whnf
  refine FG keys keys.length (by omega) ?_;generalize hks : fe keys = ks;have hkp : ks.Perm keys := by rw [← hks]; exact List.mergeSort_perm _ _
  have hkl2 : ks.length = keys.length := hkp.length_eq;have hks2 : ks = fe ks := by
   rw [← hks];exact (List.mergeSort_of_pairwise (List.pairwise_mergeSort (fun a b c h1 h2 => by simp at h1 h2 ⊢; exact List.le_trans h1 h2) (fun a b => by simp; exact List.le_total a b) keys)).symm
  have hskk := aF ks;have hbt : (tab.ti 67).bytes = 88 := rfl;conv=>whnf
  refine aq.ind2 (fun (i : Nat) (out : List Rc) => [(5, .sl (some (al 5)) 7 (be out)), (22, vi i)]) (fun i out => [(0, .map (mz mp)), (al 3, .vec 9 1 (bj ks) keys.length), (al 5, .row 67 7 out.length)])
   (fun i _ => ks.length - i) (fun i out => i ≤ ks.length ∧ out = (ks.take i).map (tZ mp)) 0 [] rfl ⟨by omega, by simp⟩ ?_
  rintro i out ⟨h0, ho⟩ IH;have hol := bd out;have hoi : out.length = i := by rw [ho]; simp; omega
  conv=>whnf
  refine ae (fun hc => ?_) (fun hc => ?_)
  ·have hc : i < ks.length := by simp at hc; omega
   (conv=>whnf); (repeat ((with_reducible refine ac ?_ ?_); exact aaa (by omega); (conv=>whnf)))
   refine ⟨rfl, ab (show 0 + (i : Int).toNat < ks.length by simpa using hc) ?_⟩;rw [show ks[0 + (i : Int).toNat]'(by simpa using hc) = ks[i] from by congr 1; simp];obtain ⟨r, hr⟩ := yF (mp := mp) (k := ks[i]) ((hkp.trans hperm).mem_iff.1 (aaf hc));have hz : tZ mp ks[i] = r := by rw [tZ, hr]; rfl
   have hf : cD (mz mp) (ofB ks[i]) = some (.agg r.enc) := by rw [Hn, hr]; rfl
   conv=>whnf
   rw [hf];conv=>whnf
   refine ⟨hol.symm, (by rw [hol]; show (out.length + 1) * (88 + 1) ≤ _; omega), ?_⟩;conv=>whnf
   have e1 : be (out ++ [r]) = be out ++ [r.enc] := by simp [be]
   have e2 : (out ++ [r]).length = (be out).length + [r.enc].length := by simp [hol]
   have := IH (i + 1) (out ++ [r]) ⟨by omega, by rw [aab hc, aaG, ho]; simp [hz]⟩ (by omega);rw [e1, e2] at this;rw [am (by omega)];exact this
  ·have hc : ks.length ≤ i := by simp at hc; omega
   rw [aae hc] at ho;conv=>whnf
   rw [ho];exact h ks (hkp.trans hperm) hks2
 ·obtain ⟨p, hp, rfl⟩ : ∃ p, mp[i]? = some p ∧ (ofB p.1, AV.agg p.2.enc) = e := by
   unfold mz at he;rw [aaE, aa5] at he;exact he
  have hil : i < mp.length := (List.getElem?_eq_some_iff.1 hp).1;conv=>whnf
  refine ⟨⟨rfl, rfl⟩, gI.2 ⟨_, he, ?_⟩⟩;conv=>whnf
  refine ⟨⟨rfl, rfl, Nat.le_of_eq hsk.symm⟩, (by show (keys.length + 1) * (16 + 1) ≤ _; omega), ?_⟩;conv=>whnf
  rw [aae (Nat.le_of_eq hsk)];have e1 : bj keys ++ [[AV.val (Value.string (ofB p.1))]] = bj (keys ++ [p.1]) := by simp [bj, vs]
  have e2 : keys.length + [[AV.val (Value.string (ofB p.1))]].length = (keys ++ [p.1]).length := by simp
  rw [e1, e2, show keys.length + 1 = (keys ++ [p.1]).length by simp];refine IH (i :: seen) (keys ++ [p.1]) ⟨List.nodup_cons.2 ⟨hns, hnd⟩, ?_, ?_⟩ (by
   have := tX (n := mp.length) (List.nodup_cons.2 ⟨hns, hnd⟩) (by
    intro x hx;rw [aaY] at hx;rcases hx with rfl | hx
    ·exact hil
    ·exact hbd x hx)
   simp at this ⊢;omega)
  ·intro x hx;rw [aaY] at hx;rcases hx with rfl | hx
   ·exact hil
   ·exact hbd x hx
  ·rw [List.reverse_cons, aaG, ← hkeys];simp [hp]
end Go.Abs
end
section
namespace Go.Abs
open Go Go.Proofs
theorem EC (a b : B) : ltB a b = decide (a < b) := bytesLess_eq a b
theorem AS {a b : B} (h : ¬ a < b) (hn : b ≠ a) : b < a := by
 refine Classical.byContradiction fun h2 => hn ?_;exact List.le_antisymm (show b ≤ a from h) (show a ≤ b from h2)
def bM (r : Rc) : Bool → List Rc → List Rc
 | laid, [] => if laid = true then [] else [r]
 | laid, s :: S => (if (!laid && ltB r.target s.target) = true then [r] else []) ++ ((if s.target = r.target then [] else [s]) ++ bM r (laid || (!laid && ltB r.target s.target)) S)
def cI (S : List Rc) (r : Rc) : List Rc := if r.kind ≠ 1 ∧ r.kind ≠ 2 then S else bM r (decide (r.kind = 2)) S
def ay (l : List Rc) : List Rc := l.foldl cI []
abbrev Srt (S : List Rc) : Prop := S.Pairwise fun a b => a.target < b.target
theorem JT {p : Prop} [Decidable p] {x r : Rc} : x ∈ (if p then [r] else []) ↔ p ∧ x = r := by by_cases h : p <;> simp [h]
theorem JS {p : Prop} [Decidable p] {x r : Rc} : x ∈ (if p then [] else [r]) ↔ ¬ p ∧ x = r := by by_cases h : p <;> simp [h]
theorem gg (r : Rc) : ∀ (S : List Rc) (laid : Bool) (x : Rc), x ∈ bM r laid S ↔ (laid = false ∧ x = r) ∨ (x ∈ S ∧ x.target ≠ r.target) := by
 intro S
 induction S with
 | nil => intro laid x; cases laid <;> simp [bM]
 | cons s S ih =>
  intro laid x;simp only [bM, aaJ, ih, aaY, JT, JS];generalize hL : (!laid && ltB r.target s.target) = L;have h1 : L = true → laid = false := by
   intro e;rw [e] at hL
   cases laid
   ·rfl
   ·simp at hL
  constructor
  ·rintro (⟨h, rfl⟩ | ⟨h, rfl⟩ | ⟨h, rfl⟩ | ⟨h, h'⟩)
   ·exact .inl ⟨h1 h, rfl⟩
   ·exact .inr ⟨.inl rfl, h⟩
   ·exact .inl ⟨by cases laid <;> simp_all, rfl⟩
   ·exact .inr ⟨.inr h, h'⟩
  ·rintro (⟨h, rfl⟩ | ⟨rfl | h, h'⟩)
   ·cases hq : L
    ·exact .inr (.inr (.inl ⟨by simp [h], rfl⟩))
    ·exact .inl ⟨rfl, rfl⟩
   ·exact .inr (.inl ⟨h', rfl⟩)
   ·exact .inr (.inr (.inr ⟨h, h'⟩))
theorem CJ (r : Rc) : ∀ (S : List Rc) (laid : Bool), Srt S → (laid = true → ∀ s ∈ S, r.target < s.target ∨ s.target = r.target ∨ s.target < r.target) → Srt (bM r laid S) := by
 intro S
 induction S with
 | nil => intro laid _ _; cases laid <;> simp [bM, Srt]
 | cons s S ih =>
  intro laid hS hl;have hS' := List.pairwise_cons.1 hS;have hrec : ∀ b, Srt (bM r b S) := fun b => ih b hS'.2 fun _ x _ => by
   by_cases h1 : r.target < x.target
   ·exact .inl h1
   ·by_cases h2 : x.target = r.target
    ·exact .inr (.inl h2)
    ·exact .inr (.inr (AS h1 h2))
  simp only [bM]
  cases hL : (!laid && ltB r.target s.target)
  ·simp only [Bool.or_false, abQ, aaW, aam];by_cases hs : s.target = r.target
   ·simp only [hs, abq, aam];exact hrec laid
   ·simp only [hs, aaW, aav, aam];refine List.pairwise_cons.2 ⟨fun x hx => ?_, hrec laid⟩;rcases (gg r S laid x).1 hx with ⟨h, rfl⟩ | ⟨h, _⟩
    ·rw [h] at hL;simp only [abj, aaI, EC, decide_eq_false_iff_not] at hL;exact AS hL hs
    ·exact hS'.1 x h
  ·have hlt : r.target < s.target := by
    simp only [aaq, EC, aa0] at hL;exact hL.2
   have hs : ¬ s.target = r.target := fun e => List.lt_irrefl _ (e ▸ hlt);simp only [Bool.or_true, abq, hs, aaW, aav, aam];have hnr : ∀ x ∈ bM r true S, x ∈ S := fun x hx => by
    rcases (gg r S true x).1 hx with ⟨h, _⟩ | ⟨h, _⟩
    ·cases h
    ·exact h
   refine List.pairwise_cons.2 ⟨fun x hx => ?_, List.pairwise_cons.2 ⟨fun x hx => hS'.1 x (hnr x hx), hrec true⟩⟩;rw [aaY] at hx;rcases hx with rfl | hx
   ·exact hlt
   ·exact List.lt_trans hlt (hS'.1 x (hnr x hx))
theorem E2 {S : List Rc} (r : Rc) (h : Srt S) : Srt (cI S r) := by
 unfold cI;split
 ·exact h
 ·refine CJ r S _ h fun _ x _ => ?_;by_cases h1 : r.target < x.target
  ·exact .inl h1
  ·by_cases h2 : x.target = r.target
   ·exact .inr (.inl h2)
   ·exact .inr (.inr (AS h1 h2))
def sU : iP → B → Rc → iP
 | [], k, r => [(k, r)]
 | p :: mp, k, r => if p.1 = k then (k, r) :: mp else p :: sU mp k r
def tj : iP → B → iP
 | [], _ => []
 | p :: mp, k => if p.1 = k then mp else p :: tj mp k
def qA (mp : iP) (r : Rc) : iP := if r.kind = 1 then sU mp r.target r else if r.kind = 2 then tj mp r.target else mp
def ofM (l : List Rc) : iP := l.foldl qA []
theorem JA (mp : iP) (k : B) (r : Rc) : mz (sU mp k r) = dU (mz mp) (ofB k) (.agg r.enc) := by
 induction mp with
 | nil => rfl
 | cons p mp ih =>
  simp only [sU, mz, aaF, dU];by_cases h : p.1 = k
  ·simp [h]
  ·have : ofB p.1 ≠ ofB k := fun e => h (bZ e);simp only [h, aaW, this, aaF];unfold mz at ih;rw [ih]
theorem JB (mp : iP) (k : B) : mz (tj mp k) = jA (mz mp) (ofB k) := by
 induction mp with
 | nil => rfl
 | cons p mp ih =>
  simp only [tj, mz, aaF, jA];by_cases h : p.1 = k
  ·simp [h]
  ·have : ofB p.1 ≠ ofB k := fun e => h (bZ e);simp only [h, aaW, this, aaF];unfold mz at ih;rw [ih]
def MOk (mp : iP) : Prop := (ii mp).Nodup ∧ ∀ p ∈ mp, p.2.target = p.1
theorem vG {mp : iP} (hn : (ii mp).Nodup) (k : B) (r : Rc) (q : B × Rc) : q ∈ sU mp k r ↔ q = (k, r) ∨ (q ∈ mp ∧ q.1 ≠ k) := by
 induction mp with
 | nil => simp [sU]
 | cons p mp ih =>
  have hn' := List.nodup_cons.1 (show (p.1 :: ii mp).Nodup from hn);simp only [sU];by_cases h : p.1 = k
  ·simp only [h, abq, aaY];constructor
   ·rintro (h1 | h1)
    ·exact .inl h1
    ·refine .inr ⟨.inr h1, fun e => hn'.1 ?_⟩;rw [h, ← e];exact aaD h1
   ·rintro (h1 | ⟨rfl | h1, h2⟩)
    ·exact .inl h1
    ·exact absurd h h2
    ·exact .inr h1
  ·simp only [h, aaW, aaY, ih hn'.2];constructor
   ·rintro (rfl | h1 | ⟨h1, h2⟩)
    ·exact .inr ⟨.inl rfl, h⟩
    ·exact .inl h1
    ·exact .inr ⟨.inr h1, h2⟩
   ·rintro (h1 | ⟨rfl | h1, h2⟩)
    ·exact .inr (.inl h1)
    ·exact .inl rfl
    ·exact .inr (.inr ⟨h1, h2⟩)
theorem wE {mp : iP} (hn : (ii mp).Nodup) (k : B) (q : B × Rc) : q ∈ tj mp k ↔ q ∈ mp ∧ q.1 ≠ k := by
 induction mp with
 | nil => simp [tj]
 | cons p mp ih =>
  have hn' := List.nodup_cons.1 (show (p.1 :: ii mp).Nodup from hn);simp only [tj];by_cases h : p.1 = k
  ·simp only [h, abq, aaY];constructor
   ·intro h1;refine ⟨.inr h1, fun e => hn'.1 ?_⟩;rw [h, ← e];exact aaD h1
   ·rintro ⟨rfl | h1, h2⟩
    ·exact absurd h h2
    ·exact h1
  ·simp only [h, aaW, aaY, ih hn'.2];constructor
   ·rintro (rfl | ⟨h1, h2⟩)
    ·exact ⟨.inl rfl, h⟩
    ·exact ⟨.inr h1, h2⟩
   ·rintro ⟨rfl | h1, h2⟩
    ·exact .inl rfl
    ·exact .inr ⟨h1, h2⟩
theorem El {mp : iP} (hn : (ii mp).Nodup) (k : B) (r : Rc) : (ii (sU mp k r)).Nodup := by
 induction mp with
 | nil => simp [sU, ii]
 | cons p mp ih =>
  have hn' := List.nodup_cons.1 (show (p.1 :: ii mp).Nodup from hn);simp only [sU];by_cases h : p.1 = k
  ·simp only [h, abq];exact List.nodup_cons.2 ⟨by rw [← h]; exact hn'.1, hn'.2⟩
  ·simp only [h, aaW];refine List.nodup_cons.2 ⟨fun hm => ?_, ih hn'.2⟩;obtain ⟨q, hq, e⟩ := List.mem_map.1 hm;rcases (vG hn'.2 k r q).1 hq with rfl | ⟨h1, _⟩
   ·exact h e.symm
   ·have e : q.1 = p.1 := e;exact hn'.1 (by rw [← e]; exact aaD h1)
theorem Fc {mp : iP} (hn : (ii mp).Nodup) (k : B) : (ii (tj mp k)).Nodup := by
 induction mp with
 | nil => simp [tj, ii]
 | cons p mp ih =>
  have hn' := List.nodup_cons.1 (show (p.1 :: ii mp).Nodup from hn);simp only [tj];by_cases h : p.1 = k
  ·simp only [h, abq];exact hn'.2
  ·simp only [h, aaW];refine List.nodup_cons.2 ⟨fun hm => ?_, ih hn'.2⟩;obtain ⟨q, hq, e⟩ := List.mem_map.1 hm;have h1 := (wE hn'.2 k q).1 hq;have e : q.1 = p.1 := e;exact hn'.1 (by rw [← e]; exact aaD h1.1)
theorem L4 {mp : iP} (h : MOk mp) (r : Rc) : MOk (qA mp r) := by
 unfold qA;split
 ·refine ⟨El h.1 _ _, fun p hp => ?_⟩;rcases (vG h.1 _ _ p).1 hp with rfl | ⟨h1, _⟩
  ·rfl
  ·exact h.2 p h1
 ·split
  ·exact ⟨Fc h.1 _, fun p hp => h.2 p ((wE h.1 _ p).1 hp).1⟩
  ·exact h
structure FL (mp : iP) (S : List Rc) : Prop where
 ok : MOk mp
 srt : Srt S
 mem : ∀ x, x ∈ S ↔ (x.target, x) ∈ mp
theorem FL.put {mp : iP} {S : List Rc} (h : FL mp S) (r : Rc) : FL (qA mp r) (cI S r) := by
 refine ⟨L4 h.ok r, E2 r h.srt, fun x => ?_⟩;unfold cI qA;by_cases h1 : r.kind = 1
 ·have hk2 : decide (r.kind = 2) = false := by rw [h1]; rfl
  rw [aap (by simp [h1]), aaz h1, gg, hk2, vG h.ok.1, h.mem];constructor
  ·rintro (⟨_, rfl⟩ | h)
   ·exact .inl rfl
   ·exact .inr h
  ·rintro (h | h)
   ·exact .inl ⟨rfl, by injection h⟩
   ·exact .inr h
 ·by_cases h2 : r.kind = 2
  ·rw [aap (by simp [h2]), aap h1, aaz h2, gg, wE h.ok.1, h.mem];simp [h2]
  ·rw [aaz ⟨h1, h2⟩, aap h1, aap h2];exact h.mem x
theorem GF (l : List Rc) : FL (ofM l) (ay l) := by
 have : ∀ (l : List Rc) (mp : iP) (S : List Rc), FL mp S → FL (l.foldl qA mp) (l.foldl cI S) := by
  intro l
  induction l with
  | nil => intro mp S h; exact h
  | cons r l ih => intro mp S h; exact ih _ _ (h.put r)
 exact this l [] [] ⟨⟨by simp [ii], by simp⟩, List.Pairwise.nil, by simp⟩
theorem FZ : ∀ {l m : List Rc}, Srt l → Srt m → (∀ x, x ∈ l ↔ x ∈ m) → l = m := by
 intro l
 induction l with
 | nil =>
  intro m _ _ h
  cases m with
  | nil => rfl
  | cons b m => exact absurd ((h b).2 (by simp)) (by simp)
 | cons a l ih =>
  intro m hl hm h
  cases m with
  | nil => exact absurd ((h a).1 (by simp)) (by simp)
  | cons b m =>
   have hl' := List.pairwise_cons.1 hl;have hm' := List.pairwise_cons.1 hm;have hab : a = b := by
    rcases List.mem_cons.1 ((h a).1 (by simp)) with e | h1
    ·exact e
    ·rcases List.mem_cons.1 ((h b).2 (by simp)) with e | h2
     ·exact e.symm
     ·exact absurd (hl'.1 b h2) (List.lt_asymm (hm'.1 a h1))
   subst hab;congr 1;refine ih hl'.2 hm'.2 fun x => ?_;constructor
   ·intro hx;rcases List.mem_cons.1 ((h x).1 (by simp [hx])) with rfl | h1
    ·exact absurd (hl'.1 _ hx) (List.lt_irrefl _)
    ·exact h1
   ·intro hx;rcases List.mem_cons.1 ((h x).2 (by simp [hx])) with rfl | h1
    ·exact absurd (hm'.1 _ hx) (List.lt_irrefl _)
    ·exact h1
theorem Ae {mp : iP} (hn : (ii mp).Nodup) {k : B} {r : Rc} (h : (k, r) ∈ mp) : rP mp k = some r := by
 induction mp with
 | nil => simp at h
 | cons p mp ih =>
  have hn' := List.nodup_cons.1 (show (p.1 :: ii mp).Nodup from hn);unfold rP at ih ⊢;simp only [List.find?_cons];rcases List.mem_cons.1 h with rfl | h
  ·simp
  ·have : p.1 ≠ k := fun e => hn'.1 (by rw [e]; exact aaD (f := (·.1)) h);simp only [this, decide_false];exact ih hn'.2 h
theorem z7 {mp : iP} {k : B} {r : Rc} (h : rP mp k = some r) : (k, r) ∈ mp := by
 unfold rP at h;rw [aa5] at h;obtain ⟨p, h1, rfl⟩ := h;have h2 := List.find?_some h1;have : p.1 = k := by simpa using h2
 rw [← this];exact List.mem_of_find?_eq_some h1
theorem Dz {mp : iP} {S : List Rc} (h : FL mp S) {ks : List B} (hp : ks.Perm (ii mp)) (hs : ks = fe ks) : ks.map (tZ mp) = S := by
 have hz : ∀ k ∈ ks, ∃ r, (k, r) ∈ mp ∧ tZ mp k = r := fun k hk => by
  obtain ⟨r, hr⟩ := yF (mp := mp) (k := k) (hp.mem_iff.1 hk);exact ⟨r, z7 hr, by rw [tZ, hr]; rfl⟩
 have hle : ks.Pairwise (fun a b => a ≤ b) := by
  have := List.pairwise_mergeSort (le := fun x y : B => decide (x ≤ y)) (fun a b c h1 h2 => by simp at h1 h2 ⊢; exact List.le_trans h1 h2) (fun a b => by simp; exact List.le_total a b) ks;rw [show ks.mergeSort (fun x y => decide (x ≤ y)) = ks from hs.symm] at this;exact this.imp fun h => aal h
 have hnd : ks.Nodup := hp.nodup_iff.2 h.ok.1;refine FZ ?_ h.srt fun x => ?_
 ·rw [Srt, List.pairwise_map];refine List.Pairwise.imp_of_mem ?_ (hle.and hnd);rintro a b ha hb ⟨h1, h2⟩;obtain ⟨ra, a1, a2⟩ := hz a ha;obtain ⟨rb, b1, b2⟩ := hz b hb;rw [a2, b2, h.ok.2 _ a1, h.ok.2 _ b1];refine Classical.byContradiction fun hn => h2 ?_;exact List.le_antisymm h1 (show b ≤ a from hn)
 ·rw [h.mem, List.mem_map];constructor
  ·rintro ⟨k, hk, rfl⟩;obtain ⟨r, h1, h2⟩ := hz k hk;rw [h2, h.ok.2 _ h1];exact h1
  ·intro hx;have hk : x.target ∈ ks := hp.mem_iff.2 (aaD (f := (·.1)) hx);refine ⟨x.target, hk, ?_⟩;rw [tZ, Ae h.ok.1 hx]; rfl
end Go.Abs
end
