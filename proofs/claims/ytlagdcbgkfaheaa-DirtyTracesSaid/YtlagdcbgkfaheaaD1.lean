/- The digest's functions, and the document's. -/
import Derived.Test.YtlagdcbgkfaheaaB9
import Derived.Test.YtlagdcbgkfaheaaAT
import Derived.Test.YtlagdcbgkfaheaaAN
set_option maxRecDepth 100000
set_option linter.unusedVariables false
set_option linter.unusedSimpArgs false
namespace Go.Abs
open Go Go.Proofs

/-! ### the plain functions -/
namespace Dig
def plus : U := 0x9e3779b97f4a7c15#64
def first : U := 0xbf58476d1ce4e5b9#64
def other : U := 0x94d049bb133111eb#64
def down (k : Nat) (x : U) : U := x ^^^ (x >>> k)
def dig (n : U) : U := down 31 (down 27 (down 30 (n + plus) * first) * other)
def up (k : Nat) (h : U) : U := h ^^^ ((h ^^^ (h >>> k)) >>> k)
def back (n : U) : U := let b0 := n; let s := fun b : U => b * (2 - n * b); s (s (s (s (s (s b0)))))
def dBack (h : U) : U := up 30 (up 27 (up 31 h * back other) * back first) - plus
def fold (n : U) (l : List U) : U := l.foldl (fun h x => dig (h ^^^ x)) (dig n)

theorem up_down (k : Nat) (hk : 22 ≤ k) (x : U) : up k (down k x) = x := by
  unfold up down
  have h1 : ∀ a b : U, (a ^^^ b) >>> k = (a >>> k) ^^^ (b >>> k) := fun a b => BitVec.ushiftRight_xor_distrib a b k
  have h0 : x >>> k >>> k >>> k = 0#64 := by
    rw [← BitVec.shiftRight_add, ← BitVec.shiftRight_add]
    exact BitVec.ushiftRight_eq_zero (by omega)
  simp only [h1, h0]
  apply BitVec.eq_of_getLsbD_eq
  intro i hi
  simp only [BitVec.getLsbD_xor]
  cases x.getLsbD i <;> cases (x >>> k).getLsbD i <;> cases (x >>> k >>> k).getLsbD i <;> simp
theorem back_first (x : U) : x * first * back first = x := by
  rw [BitVec.mul_assoc]
  have : first * back first = 1#64 := by decide +kernel
  rw [this, BitVec.mul_one]
theorem back_other (x : U) : x * other * back other = x := by
  rw [BitVec.mul_assoc]
  have : other * back other = 1#64 := by decide +kernel
  rw [this, BitVec.mul_one]
theorem first_back (x : U) : x * back first * first = x := by
  rw [BitVec.mul_assoc]
  have : back first * first = 1#64 := by decide +kernel
  rw [this, BitVec.mul_one]
theorem other_back (x : U) : x * back other * other = x := by
  rw [BitVec.mul_assoc]
  have : back other * other = 1#64 := by decide +kernel
  rw [this, BitVec.mul_one]
theorem down_up (k : Nat) (hk : 22 ≤ k) (x : U) : down k (up k x) = x := by
  unfold up down
  have h1 : ∀ a b : U, (a ^^^ b) >>> k = (a >>> k) ^^^ (b >>> k) := fun a b => BitVec.ushiftRight_xor_distrib a b k
  have h0 : x >>> k >>> k >>> k = 0#64 := by
    rw [← BitVec.shiftRight_add, ← BitVec.shiftRight_add]
    exact BitVec.ushiftRight_eq_zero (by omega)
  simp only [h1, h0]
  apply BitVec.eq_of_getLsbD_eq
  intro i hi
  simp only [BitVec.getLsbD_xor]
  cases x.getLsbD i <;> cases (x >>> k).getLsbD i <;> cases (x >>> k >>> k).getLsbD i <;> simp
theorem dBack_dOf (n : U) : dBack (dig n) = n := by
  unfold dBack dig
  rw [up_down 31 (by omega), back_other, up_down 27 (by omega), back_first, up_down 30 (by omega), BitVec.add_sub_cancel]
theorem dOf_dBack (n : U) : dig (dBack n) = n := by
  unfold dBack dig
  rw [BitVec.sub_add_cancel, down_up 30 (by omega), first_back, down_up 27 (by omega), other_back, down_up 31 (by omega)]
theorem dOf_inj {a b : U} (h : dig a = dig b) : a = b := by rw [← dBack_dOf a, h, dBack_dOf]
end Dig
open Dig

/-! ### the steps -/
theorem down_calls (b : Int) {R} (h : R (.fn (.func 83) [] [.cptr [.val (.int .u64 b)] 0]) []) : ACalls Try.prog 58 [.val (.int .u64 b)] [] R := by
  refine acalls_of_xwp (an := an58) tab_ok Try.func58 ?_
  conv => whnf
  exact h
theorem times_calls (b : Int) {R} (h : R (.fn (.func 84) [] [.cptr [.val (.int .u64 b)] 0]) []) : ACalls Try.prog 59 [.val (.int .u64 b)] [] R := by
  refine acalls_of_xwp (an := an59) tab_ok Try.func59 ?_
  conv => whnf
  exact h
theorem up_calls (b : Int) {R} (h : R (.fn (.func 85) [] [.cptr [.val (.int .u64 b)] 0]) []) : ACalls Try.prog 60 [.val (.int .u64 b)] [] R := by
  refine acalls_of_xwp (an := an60) tab_ok Try.func60 ?_
  conv => whnf
  exact h

/-- A function value that does what a plain function does. -/
def Does (e : List AV) (g : U → U) : Prop := ∃ f cs, e = [.fn (.func f) [] [.cptr cs 0]] ∧ tab.fn f = true ∧ ∀ x R, R (uv (g x)) [] → ACalls Try.prog f [uv x, .cptr cs 0] [] R

theorem u_shr' (x : U) (k : Nat) (hk : k ≤ 64) : ((x.toNat : Int)).fdiv (2 ^ min ((k : Int)).toNat IntKind.u64.bits) = ((x >>> k).toNat : Int) := by
  have : min ((k : Int)).toNat IntKind.u64.bits = k := by
    show min ((k : Int)).toNat 64 = k
    simp; omega
  rw [this, u_shr]

theorem down_does (k : Nat) (hk : k ≤ 64) : Does [.fn (.func 83) [] [.cptr [.val (.int .u64 k)] 0]] (down k) := by
  refine ⟨_, _, rfl, rfl, fun x R h => ?_⟩
  refine acalls_of_xwp (an := an83) tab_ok Try.func83 ?_
  conv => whnf
  rw [u_shr' x k hk, u_xor]
  exact h
theorem times_does (n : U) : Does [.fn (.func 84) [] [.cptr [uv n] 0]] (· * n) := by
  refine ⟨_, _, rfl, rfl, fun x R h => ?_⟩
  refine acalls_of_xwp (an := an84) tab_ok Try.func84 ?_
  conv => whnf
  rw [u_mul]
  exact h
/-- 'up': twice, at 22 to 32. -/
theorem up_does (k : Nat) (hk : k = 27 ∨ k = 30 ∨ k = 31) : Does [.fn (.func 85) [] [.cptr [.val (.int .u64 k)] 0]] (up k) := by
  refine ⟨_, _, rfl, rfl, fun x R h => ?_⟩
  refine acalls_of_xwp (an := an85) tab_ok Try.func85 ?_
  have key : ∀ (o : Int), o = (((x ^^^ ((x ^^^ (x >>> k)) >>> k)) : U).toNat : Int) → R (.val (.int .u64 o)) [] := by
    rintro o rfl; exact h
  have e1 : ibits .xor .u64 (x.toNat : Int) ((x.toNat : Int).fdiv (2 ^ min ((k : Int)).toNat IntKind.u64.bits)) = ((x ^^^ (x >>> k)).toNat : Int) := by
    rw [u_shr' x k (by omega), u_xor]
  have e2 : ibits .xor .u64 (x.toNat : Int) ((ibits .xor .u64 (x.toNat : Int) ((x.toNat : Int).fdiv (2 ^ min ((k : Int)).toNat IntKind.u64.bits))).fdiv (2 ^ min ((k : Int)).toNat IntKind.u64.bits)) = ((x ^^^ ((x ^^^ (x >>> k)) >>> k)).toNat : Int) := by
    rw [e1, u_shr' _ k (by omega), u_xor]
  rcases hk with rfl | rfl | rfl
  all_goals
    conv => whnf
    refine LoopP.step ?_
    conv => whnf
    refine LoopP.step ?_
    conv => whnf
    refine LoopP.step ?_
    conv => whnf
    exact key _ e2
end Go.Abs
