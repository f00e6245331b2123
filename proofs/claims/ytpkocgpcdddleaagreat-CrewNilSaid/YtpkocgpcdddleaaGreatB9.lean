/- The engine, part 18: words for the proofs of functions. -/
import Derived.Test.YtpkocgpcdddleaaGreatBA
import Derived.IntWalk
set_option linter.unusedVariables false
set_option linter.unusedSimpArgs false
namespace Go.Abs
open Go

def sets : List AV → List (Nat × AV) → List AV
 | s, [] => s
 | s, (i, v) :: l => sets (setL s i v) l

theorem LoopP.ind {F : (St → Prop) → St → Prop} {s0 : St} {α : Type} (upd : α → List (Nat × AV)) (objs : α → List (Nm × AObj)) (m : α → Nat) (I : α → Prop) (a0 : α) (h0 : (⟨sets s0.slots (upd a0), objs a0⟩ : St) = s0) (ha : I a0)
  (hstep : ∀ a, I a → (∀ b, I b → m b < m a → LoopP F ⟨sets s0.slots (upd b), objs b⟩) → F (LoopP F) ⟨sets s0.slots (upd a), objs a⟩) : LoopP F s0 := by
 have key : ∀ n a, m a = n → I a → LoopP F ⟨sets s0.slots (upd a), objs a⟩ := by
  intro n
  induction n using Nat.strongRecOn with
  | _ n ih =>
   intro a hn hI
   exact LoopP.step (hstep a hI fun b hb hlt => ih (m b) (by omega) b rfl hb)
 have := key _ a0 rfl ha
 rwa [h0] at this

theorem LoopP.ind1 {F : (St → Prop) → St → Prop} {s0 : St} {α : Type} (upd : α → List (Nat × AV)) (objs : α → List (Nm × AObj)) (m : α → Nat) (I : α → Prop) (a0 : α) (h0 : (⟨sets s0.slots (upd a0), objs a0⟩ : St) = s0) (ha : I a0)
  (hstep : ∀ a, I a → (∀ a', I a' → m a' < m a → LoopP F ⟨sets s0.slots (upd a'), objs a'⟩) → F (LoopP F) ⟨sets s0.slots (upd a), objs a⟩) : LoopP F s0 := LoopP.ind upd objs m I a0 h0 ha hstep
theorem LoopP.ind2 {F : (St → Prop) → St → Prop} {s0 : St} {α β : Type} (upd : α → β → List (Nat × AV)) (objs : α → β → List (Nm × AObj)) (m : α → β → Nat) (I : α → β → Prop) (a0 : α) (b0 : β) (h0 : (⟨sets s0.slots (upd a0 b0), objs a0 b0⟩ : St) = s0) (ha : I a0 b0)
  (hstep : ∀ a b, I a b → (∀ a' b', I a' b' → m a' b' < m a b → LoopP F ⟨sets s0.slots (upd a' b'), objs a' b'⟩) → F (LoopP F) ⟨sets s0.slots (upd a b), objs a b⟩) : LoopP F s0 :=
 LoopP.ind (α := α × β) (fun p => upd p.1 p.2) (fun p => objs p.1 p.2) (fun p => m p.1 p.2) (fun p => I p.1 p.2) (a0, b0) h0 ha fun p hI IH => hstep p.1 p.2 hI fun a' b' => IH (a', b')
theorem LoopP.ind3 {F : (St → Prop) → St → Prop} {s0 : St} {α β γ : Type} (upd : α → β → γ → List (Nat × AV)) (objs : α → β → γ → List (Nm × AObj)) (m : α → β → γ → Nat) (I : α → β → γ → Prop) (a0 : α) (b0 : β) (c0 : γ) (h0 : (⟨sets s0.slots (upd a0 b0 c0), objs a0 b0 c0⟩ : St) = s0) (ha : I a0 b0 c0)
  (hstep : ∀ a b c, I a b c → (∀ a' b' c', I a' b' c' → m a' b' c' < m a b c → LoopP F ⟨sets s0.slots (upd a' b' c'), objs a' b' c'⟩) → F (LoopP F) ⟨sets s0.slots (upd a b c), objs a b c⟩) : LoopP F s0 :=
 LoopP.ind (α := α × β × γ) (fun p => upd p.1 p.2.1 p.2.2) (fun p => objs p.1 p.2.1 p.2.2) (fun p => m p.1 p.2.1 p.2.2) (fun p => I p.1 p.2.1 p.2.2) (a0, b0, c0) h0 ha fun p hI IH => hstep p.1 p.2.1 p.2.2 hI fun a' b' c' => IH (a', b', c')
theorem LoopP.ind4 {F : (St → Prop) → St → Prop} {s0 : St} {α β γ δ : Type} (upd : α → β → γ → δ → List (Nat × AV)) (objs : α → β → γ → δ → List (Nm × AObj)) (m : α → β → γ → δ → Nat) (I : α → β → γ → δ → Prop) (a0 : α) (b0 : β) (c0 : γ) (d0 : δ) (h0 : (⟨sets s0.slots (upd a0 b0 c0 d0), objs a0 b0 c0 d0⟩ : St) = s0) (ha : I a0 b0 c0 d0)
  (hstep : ∀ a b c d, I a b c d → (∀ a' b' c' d', I a' b' c' d' → m a' b' c' d' < m a b c d → LoopP F ⟨sets s0.slots (upd a' b' c' d'), objs a' b' c' d'⟩) → F (LoopP F) ⟨sets s0.slots (upd a b c d), objs a b c d⟩) : LoopP F s0 :=
 LoopP.ind (α := α × β × γ × δ) (fun p => upd p.1 p.2.1 p.2.2.1 p.2.2.2) (fun p => objs p.1 p.2.1 p.2.2.1 p.2.2.2) (fun p => m p.1 p.2.1 p.2.2.1 p.2.2.2) (fun p => I p.1 p.2.1 p.2.2.1 p.2.2.2) (a0, b0, c0, d0) h0 ha fun p hI IH => hstep p.1 p.2.1 p.2.2.1 p.2.2.2 hI fun a' b' c' d' => IH (a', b', c', d')

theorem wrap_i64 {x : Int} (h0 : -9223372036854775808 ≤ x) (h1 : x ≤ 9223372036854775807) : IntKind.i64.wrap x = x := IntWalk.i64_in x (by omega)

abbrev U := BitVec 64
def uv (x : U) : AV := .val (.int .u64 (x.toNat : Int))
theorem u_of {n : Int} (h0 : 0 ≤ n) (h1 : n < 18446744073709551616) : n = (((BitVec.ofInt 64 n) : U).toNat : Int) := by
 simp [BitVec.toNat_ofInt]; omega
theorem wrap_u64 (x : Int) : IntKind.u64.wrap x = x % 18446744073709551616 := by
 simp [IntKind.wrap, IntKind.signed, IntKind.bits]
theorem u_add (a b : U) : IntKind.u64.wrap ((a.toNat : Int) + (b.toNat : Int)) = ((a + b).toNat : Int) := by
 rw [wrap_u64, BitVec.toNat_add]; omega
theorem u_sub (a b : U) : IntKind.u64.wrap ((a.toNat : Int) - (b.toNat : Int)) = ((a - b).toNat : Int) := by
 rw [wrap_u64, BitVec.toNat_sub]; have := a.isLt; have := b.isLt; omega
theorem u_mul (a b : U) : IntKind.u64.wrap ((a.toNat : Int) * (b.toNat : Int)) = ((a * b).toNat : Int) := by
 rw [wrap_u64, BitVec.toNat_mul]; simp
theorem u_shr (a : U) (n : Nat) : ((a.toNat : Int)).fdiv (2 ^ n) = ((a >>> n).toNat : Int) := by
 rw [BitVec.toNat_ushiftRight, Nat.shiftRight_eq_div_pow]
 rw [Int.fdiv_eq_ediv_of_nonneg _ (by exact Int.le_of_lt (Int.pow_pos (by omega)))]
 simp
theorem u_xor (a b : U) : ibits .xor .u64 (a.toNat : Int) (b.toNat : Int) = ((a ^^^ b).toNat : Int) := by
 have e1 : BitVec.ofInt IntKind.u64.bits (a.toNat : Int) = a := by
  show BitVec.ofInt 64 (a.toNat : Int) = a
  simp
 have e2 : BitVec.ofInt IntKind.u64.bits (b.toNat : Int) = b := by
  show BitVec.ofInt 64 (b.toNat : Int) = b
  simp
 simp only [ibits]
 rw [e1, e2, wrap_u64]
 have h : (a ^^^ b : U).toNat < 18446744073709551616 := (a ^^^ b : U).isLt
 show ((a ^^^ b : U).toNat : Int) % 18446744073709551616 = _
 omega
theorem u_inj {a b : U} : (a.toNat : Int) = (b.toNat : Int) ↔ a = b := by
 constructor
 ·intro h
  exact BitVec.eq_of_toNat_eq (by omega)
 ·rintro rfl; rfl
theorem u_beq (a b : U) : ((a.toNat : Int) == (b.toNat : Int)) = decide (a = b) := by
 rw [Bool.eq_iff_iff]; simp [u_inj]
end Go.Abs
