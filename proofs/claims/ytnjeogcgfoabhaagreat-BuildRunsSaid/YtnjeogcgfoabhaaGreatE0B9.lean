/- The engine, B9. -/
import Derived.Test.YtnjeogcgfoabhaaGreatE0BA
import Derived.IntWalk
set_option linter.unusedVariables false
set_option linter.unusedSimpArgs false
namespace Go.Abs
open Go
def oQ : List AV → List (Nat × AV) → List AV
 | s, [] => s
 | s, (i, v) :: l => oQ (jb s i v) l
theorem aq.ind {F : (St → Prop) → St → Prop} {s0 : St} {α : Type} (upd : α → List (Nat × AV)) (objs : α → List (Nm × aE)) (m : α → Nat) (I : α → Prop) (a0 : α) (h0 : (⟨oQ s0.slots (upd a0), objs a0⟩ : St) = s0) (ha : I a0)
  (hstep : ∀ a, I a → (∀ b, I b → m b < m a → aq F ⟨oQ s0.slots (upd b), objs b⟩) → F (aq F) ⟨oQ s0.slots (upd a), objs a⟩) : aq F s0 := by
 have key : ∀ n a, m a = n → I a → aq F ⟨oQ s0.slots (upd a), objs a⟩ := by
  intro n
  induction n using Nat.strongRecOn with
  | _ n ih =>
   intro a hn hI;exact aq.step (hstep a hI fun b hb hlt => ih (m b) (by omega) b rfl hb)
 have := key _ a0 rfl ha;rwa [h0] at this
theorem aq.ind1 {F : (St → Prop) → St → Prop} {s0 : St} {α : Type} (upd : α → List (Nat × AV)) (objs : α → List (Nm × aE)) (m : α → Nat) (I : α → Prop) (a0 : α) (h0 : (⟨oQ s0.slots (upd a0), objs a0⟩ : St) = s0) (ha : I a0)
  (hstep : ∀ a, I a → (∀ a', I a' → m a' < m a → aq F ⟨oQ s0.slots (upd a'), objs a'⟩) → F (aq F) ⟨oQ s0.slots (upd a), objs a⟩) : aq F s0 := aq.ind upd objs m I a0 h0 ha hstep
theorem aq.ind2 {F : (St → Prop) → St → Prop} {s0 : St} {α β : Type} (upd : α → β → List (Nat × AV)) (objs : α → β → List (Nm × aE)) (m : α → β → Nat) (I : α → β → Prop) (a0 : α) (b0 : β) (h0 : (⟨oQ s0.slots (upd a0 b0), objs a0 b0⟩ : St) = s0) (ha : I a0 b0)
  (hstep : ∀ a b, I a b → (∀ a' b', I a' b' → m a' b' < m a b → aq F ⟨oQ s0.slots (upd a' b'), objs a' b'⟩) → F (aq F) ⟨oQ s0.slots (upd a b), objs a b⟩) : aq F s0 :=
 aq.ind (α := α × β) (fun p => upd p.1 p.2) (fun p => objs p.1 p.2) (fun p => m p.1 p.2) (fun p => I p.1 p.2) (a0, b0) h0 ha fun p hI IH => hstep p.1 p.2 hI fun a' b' => IH (a', b')
theorem aq.ind3 {F : (St → Prop) → St → Prop} {s0 : St} {α β γ : Type} (upd : α → β → γ → List (Nat × AV)) (objs : α → β → γ → List (Nm × aE)) (m : α → β → γ → Nat) (I : α → β → γ → Prop) (a0 : α) (b0 : β) (c0 : γ) (h0 : (⟨oQ s0.slots (upd a0 b0 c0), objs a0 b0 c0⟩ : St) = s0) (ha : I a0 b0 c0)
  (hstep : ∀ a b c, I a b c → (∀ a' b' c', I a' b' c' → m a' b' c' < m a b c → aq F ⟨oQ s0.slots (upd a' b' c'), objs a' b' c'⟩) → F (aq F) ⟨oQ s0.slots (upd a b c), objs a b c⟩) : aq F s0 :=
 aq.ind (α := α × β × γ) (fun p => upd p.1 p.2.1 p.2.2) (fun p => objs p.1 p.2.1 p.2.2) (fun p => m p.1 p.2.1 p.2.2) (fun p => I p.1 p.2.1 p.2.2) (a0, b0, c0) h0 ha fun p hI IH => hstep p.1 p.2.1 p.2.2 hI fun a' b' c' => IH (a', b', c')
theorem aq.ind4 {F : (St → Prop) → St → Prop} {s0 : St} {α β γ δ : Type} (upd : α → β → γ → δ → List (Nat × AV)) (objs : α → β → γ → δ → List (Nm × aE)) (m : α → β → γ → δ → Nat) (I : α → β → γ → δ → Prop) (a0 : α) (b0 : β) (c0 : γ) (d0 : δ) (h0 : (⟨oQ s0.slots (upd a0 b0 c0 d0), objs a0 b0 c0 d0⟩ : St) = s0) (ha : I a0 b0 c0 d0)
  (hstep : ∀ a b c d, I a b c d → (∀ a' b' c' d', I a' b' c' d' → m a' b' c' d' < m a b c d → aq F ⟨oQ s0.slots (upd a' b' c' d'), objs a' b' c' d'⟩) → F (aq F) ⟨oQ s0.slots (upd a b c d), objs a b c d⟩) : aq F s0 :=
 aq.ind (α := α × β × γ × δ) (fun p => upd p.1 p.2.1 p.2.2.1 p.2.2.2) (fun p => objs p.1 p.2.1 p.2.2.1 p.2.2.2) (fun p => m p.1 p.2.1 p.2.2.1 p.2.2.2) (fun p => I p.1 p.2.1 p.2.2.1 p.2.2.2) (a0, b0, c0, d0) h0 ha fun p hI IH => hstep p.1 p.2.1 p.2.2.1 p.2.2.2 hI fun a' b' c' d' => IH (a', b', c', d')
theorem aI {x : Int} (h0 : -9223372036854775808 ≤ x) (h1 : x ≤ 9223372036854775807) : IntKind.i64.wrap x = x := IntWalk.i64_in x (by omega)
abbrev U := BitVec 64
def uv (x : U) : AV := .val (.int .u64 (x.toNat : Int))
theorem Qc {n : Int} (h0 : 0 ≤ n) (h1 : n < 18446744073709551616) : n = (((BitVec.ofInt 64 n) : U).toNat : Int) := by
 simp [BitVec.toNat_ofInt]; omega
theorem gX (x : Int) : IntKind.u64.wrap x = x % 18446744073709551616 := by
 simp [IntKind.wrap, IntKind.signed, IntKind.bits]
theorem tG (a b : U) : IntKind.u64.wrap ((a.toNat : Int) + (b.toNat : Int)) = ((a + b).toNat : Int) := by
 rw [gX, BitVec.toNat_add]; omega
theorem Jc (a b : U) : IntKind.u64.wrap ((a.toNat : Int) - (b.toNat : Int)) = ((a - b).toNat : Int) := by
 rw [gX, BitVec.toNat_sub]; have := a.isLt; have := b.isLt; omega
theorem uW (a b : U) : IntKind.u64.wrap ((a.toNat : Int) * (b.toNat : Int)) = ((a * b).toNat : Int) := by
 rw [gX, BitVec.toNat_mul]; simp
theorem Qb (a : U) (n : Nat) : ((a.toNat : Int)).fdiv (2 ^ n) = ((a >>> n).toNat : Int) := by
 rw [BitVec.toNat_ushiftRight, Nat.shiftRight_eq_div_pow];rw [abS _ (by exact Int.le_of_lt (Int.pow_pos (by omega)))];simp
theorem lW (a b : U) : aH .xor .u64 (a.toNat : Int) (b.toNat : Int) = ((a ^^^ b).toNat : Int) := by
 have e1 : BitVec.ofInt IntKind.u64.bits (a.toNat : Int) = a := by
  show BitVec.ofInt 64 (a.toNat : Int) = a;simp
 have e2 : BitVec.ofInt IntKind.u64.bits (b.toNat : Int) = b := by
  show BitVec.ofInt 64 (b.toNat : Int) = b;simp
 simp only [aH];rw [e1, e2, gX];have h : (a ^^^ b : U).toNat < 18446744073709551616 := (a ^^^ b : U).isLt;show ((a ^^^ b : U).toNat : Int) % 18446744073709551616 = _;omega
theorem Jd {a b : U} : (a.toNat : Int) = (b.toNat : Int) ↔ a = b := by
 constructor
 ·intro h;exact aaZ (by omega)
 ·rintro rfl; rfl
end Go.Abs
