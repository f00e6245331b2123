/- The engine, AG. -/
import Derived.Test.YtnjeogcgfoabhaaGreatE0A1
set_option linter.unusedVariables false
namespace Go.Abs
open Go
def GU (K : Nat → Nat → Option Value) : Prop := K = K
theorem GU.mono {K K' : Nat → Nat → Option Value} (h : GU K) (hK : ∀ b o v, K b o = some v → K' b o = some v) : GU K' := rfl
def GT (K : Nat → Nat → Option Value) : Prop := K = K
theorem GT.mono {K K' : Nat → Nat → Option Value} (h : GT K) (hK : ∀ b o v, K b o = some v → K' b o = some v) : GT K' := rfl
def rl (K : Nat → Nat → Option Value) : Prop := GU K ∧ GT K
theorem rl.mono {K K' : Nat → Nat → Option Value} (h : rl K) (hK : ∀ b o v, K b o = some v → K' b o = some v) : rl K' := ⟨h.1.mono hK, h.2.mono hK⟩
end Go.Abs
