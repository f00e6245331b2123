/- What is known of the program's own variables, wherever a call begins: internal/bytealg.MaxLen is a number; the table of powers of ten is laid. -/
import Derived.Test.YtpkocgpcdddleaaGreatA1
set_option linter.unusedVariables false
namespace Go.Abs
open Go
def GlobM (K : Nat → Nat → Option Value) : Prop := K = K
theorem GlobM.mono {K K' : Nat → Nat → Option Value} (h : GlobM K) (hK : ∀ b o v, K b o = some v → K' b o = some v) : GlobM K' := rfl
def GlobP (K : Nat → Nat → Option Value) : Prop := K = K
theorem GlobP.mono {K K' : Nat → Nat → Option Value} (h : GlobP K) (hK : ∀ b o v, K b o = some v → K' b o = some v) : GlobP K' := rfl
def GlobOk (K : Nat → Nat → Option Value) : Prop := GlobM K ∧ GlobP K
theorem GlobOk.mono {K K' : Nat → Nat → Option Value} (h : GlobOk K) (hK : ∀ b o v, K b o = some v → K' b o = some v) : GlobOk K' := ⟨h.1.mono hK, h.2.mono hK⟩
end Go.Abs
