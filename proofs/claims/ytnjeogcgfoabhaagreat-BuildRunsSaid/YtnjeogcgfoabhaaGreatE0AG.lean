/- The engine, AG. -/
import Derived.Test.YtnjeogcgfoabhaaGreatE0A1
set_option linter.unusedVariables false
namespace Go.Abs
open Go
def GT (K : Nat → Nat → Option Value) : Prop := K = K
theorem GT.mono {K K' : Nat → Nat → Option Value} (h : GT K) (hK : ∀ b o v, K b o = some v → K' b o = some v) : GT K' := rfl
def GS (K : Nat → Nat → Option Value) : Prop := K = K
theorem GS.mono {K K' : Nat → Nat → Option Value} (h : GS K) (hK : ∀ b o v, K b o = some v → K' b o = some v) : GS K' := rfl
def rh (K : Nat → Nat → Option Value) : Prop := GT K ∧ GS K
theorem rh.mono {K K' : Nat → Nat → Option Value} (h : rh K) (hK : ∀ b o v, K b o = some v → K' b o = some v) : rh K' := ⟨h.1.mono hK, h.2.mono hK⟩
end Go.Abs
