/- What is known of the program's own variables, wherever a call begins: internal/bytealg.MaxLen is a number; the table of powers of ten is laid. -/
import Derived.Test.YthgjcmfbfigpbaaDoorA1
set_option linter.unusedVariables false
namespace Go.Abs
open Go
def GlobM (K : Nat → Nat → Option Value) : Prop := ∃ m, K 0 0 = some (.int .i64 m)
theorem GlobM.mono {K K' : Nat → Nat → Option Value} (h : GlobM K) (hK : ∀ b o v, K b o = some v → K' b o = some v) : GlobM K' := ⟨h.choose, hK _ _ _ h.choose_spec⟩
def GlobP (K : Nat → Nat → Option Value) : Prop := ∀ o, o < 20 → K 1 o = some (.int .u64 ((10 ^ o : Nat) : Int))
theorem GlobP.mono {K K' : Nat → Nat → Option Value} (h : GlobP K) (hK : ∀ b o v, K b o = some v → K' b o = some v) : GlobP K' := fun o ho => hK _ _ _ (h o ho)
def GlobOk (K : Nat → Nat → Option Value) : Prop := GlobM K ∧ GlobP K
theorem GlobOk.mono {K K' : Nat → Nat → Option Value} (h : GlobOk K) (hK : ∀ b o v, K b o = some v → K' b o = some v) : GlobOk K' := ⟨h.1.mono hK, h.2.mono hK⟩
end Go.Abs
