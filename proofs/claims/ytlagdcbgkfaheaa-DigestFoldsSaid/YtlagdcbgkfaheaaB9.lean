/- The engine, part 18: words for the proofs of functions. -/
import Derived.Test.YtlagdcbgkfaheaaBZ
import Derived.IntWalk
set_option linter.unusedVariables false
set_option linter.unusedSimpArgs false
namespace Go.Abs
open Go

def sets : List AV → List (Nat × AV) → List AV
  | s, [] => s
  | s, (i, v) :: l => sets (setL s i v) l

/-- A loop, by what turns in it: some slots, the objects. -/
theorem LoopP.ind {F : (St → Prop) → St → Prop} {s0 : St} {α : Type} (upd : α → List (Nat × AV)) (objs : α → List (Nm × AObj)) (m : α → Nat) (I : α → Prop) (a0 : α) (h0 : (⟨sets s0.slots (upd a0), objs a0⟩ : St) = s0) (ha : I a0)
    (hstep : ∀ a, I a → (∀ b, I b → m b < m a → LoopP F ⟨sets s0.slots (upd b), objs b⟩) → F (LoopP F) ⟨sets s0.slots (upd a), objs a⟩) : LoopP F s0 := by
  have key : ∀ n a, m a = n → I a → LoopP F ⟨sets s0.slots (upd a), objs a⟩ := by
    intro n
    induction n using Nat.strongRecOn with
    | _ n ih =>
      intro a hn hI
      exact LoopP.step (hstep a hI fun b hb hlt => ih (m b) (by omega) b rfl hb)
  have := key _ a0 rfl ha
  rwa [h0] at this

theorem wrap_i64 {x : Int} (h0 : -9223372036854775808 ≤ x) (h1 : x ≤ 9223372036854775807) : IntKind.i64.wrap x = x := IntWalk.i64_in x (by omega)

/-! ### uint64 as a bit vector -/
abbrev U := BitVec 64
def uv (x : U) : AV := .val (.int .u64 (x.toNat : Int))
theorem u_of {n : Int} (h0 : 0 ≤ n) (h1 : n < 18446744073709551616) : n = (((BitVec.ofInt 64 n) : U).toNat : Int) := by
  simp [BitVec.toNat_ofInt]; omega
theorem wrap_u64 (x : Int) : IntKind.u64.wrap x = x % 18446744073709551616 := by
  simp [IntKind.wrap, IntKind.signed, IntKind.bits]
theorem u_add (a b : U) : IntKind.u64.wrap ((a.toNat : Int) + (b.toNat : Int)) = ((a + b).toNat : Int) := by
  rw [wrap_u64, BitVec.toNat_add]; omega
theorem u_sub (a b : U) : IntKind.u64.wrap ((a.toNat : Int) - (b.toNat : Int)) = ((a - b).toNat : Int) := by
  rw [wrap_u64, BitVec.toNat_sub]; have := a.isLt; have := b.isLt; omega
theorem u_mul (a b : U) : IntKind.u64.wrap ((a.toNat : Int) * (b.toNat : Int)) = ((a * b).toNat : Int) := by
  rw [wrap_u64, BitVec.toNat_mul]; simp
theorem u_shr (a : U) (n : Nat) : ((a.toNat : Int)).fdiv (2 ^ n) = ((a >>> n).toNat : Int) := by
  rw [BitVec.toNat_ushiftRight, Nat.shiftRight_eq_div_pow]
  rw [Int.fdiv_eq_ediv_of_nonneg _ (by exact Int.le_of_lt (Int.pow_pos (by omega)))]
  simp
theorem u_xor (a b : U) : ibits .xor .u64 (a.toNat : Int) (b.toNat : Int) = ((a ^^^ b).toNat : Int) := by
  have e1 : BitVec.ofInt IntKind.u64.bits (a.toNat : Int) = a := by
    show BitVec.ofInt 64 (a.toNat : Int) = a
    simp
  have e2 : BitVec.ofInt IntKind.u64.bits (b.toNat : Int) = b := by
    show BitVec.ofInt 64 (b.toNat : Int) = b
    simp
  simp only [ibits]
  rw [e1, e2, wrap_u64]
  have h : (a ^^^ b : U).toNat < 18446744073709551616 := (a ^^^ b : U).isLt
  show ((a ^^^ b : U).toNat : Int) % 18446744073709551616 = _
  omega
theorem u_inj {a b : U} : (a.toNat : Int) = (b.toNat : Int) ↔ a = b := by
  constructor
  · intro h
    exact BitVec.eq_of_toNat_eq (by omega)
  · rintro rfl; rfl
theorem u_beq (a b : U) : ((a.toNat : Int) == (b.toNat : Int)) = decide (a = b) := by
  rw [Bool.eq_iff_iff]; simp [u_inj]
end Go.Abs
