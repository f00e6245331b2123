/- The engine, AG. -/
import Derived.Test.YtnjeogcgfoabhaaGreatE0A1
set_option linter.unusedVariables false
namespace Go.Abs
open Go
def Gw (K : Nat → Nat → Option Value) : Prop := K = K
theorem Gw.mono {K K' : Nat → Nat → Option Value} (h : Gw K) (hK : ∀ b o v, K b o = some v → K' b o = some v) : Gw K' := rfl
def Gv (K : Nat → Nat → Option Value) : Prop := K = K
theorem Gv.mono {K K' : Nat → Nat → Option Value} (h : Gv K) (hK : ∀ b o v, K b o = some v → K' b o = some v) : Gv K' := rfl
def qT (K : Nat → Nat → Option Value) : Prop := Gw K ∧ Gv K
theorem qT.mono {K K' : Nat → Nat → Option Value} (h : qT K) (hK : ∀ b o v, K b o = some v → K' b o = some v) : qT K' := ⟨h.1.mono hK, h.2.mono hK⟩
end Go.Abs
