/- The engine, part 18k: the same within a round of a range over a function. -/
import Derived.Test.YtpkocgpcdddleaaGreatBW
import Derived.OrdersIn
import Derived.TacticsIn
set_option linter.unusedVariables false
set_option linter.unusedSimpArgs false
namespace Go.Abs
open Go

theorem rows_in {P : Program} {row : String} {args : Array Value} {w : World} {R : Value → World → Prop} {ro : Option Nat} {n : Nat} (h : Rows P row args w R) : RowsIn (FW ro) n P row args w R :=
 fun c cs _ => let ⟨v, w', r, s⟩ := h c cs; ⟨v, w', r, stepsIn_wide.2 s⟩
theorem calls_in {P : Program} {f : FuncId} {args : Array Value} {w : World} {R : Ending → World → Prop} {ro : Option Nat} {n : Nat} (h : Calls P f args w R) : CallsIn (FW ro) n P f args w R :=
 (callsIn_wide (n := n)).2 h

theorem oper_in {P : Program} {o : Oper} {a : Act} {w : World} {next : Act → World → Prop} {Q : Exit → Act → World → Prop} {ro : Option Nat} {n : Nat} (hd : ∀ c, o.op ≠ .defer c)
  (h : o.wp P a w next Q) : o.wpIn (FW ro) n P a w next Q := by
 refine ⟨fun _ _ => trivial, ?_⟩
 have e : o.semAt (FW ro).round a.eval = execOp a.eval o := by
  cases ro with
  | none => exact Oper.semAt_none _ _
  | some l => exact Oper.semAt_some l _ o hd
 rw [e]
 unfold Oper.wp at h
 generalize (execOp a.eval o).run P w = r at h
 cases r with
 | ok x w' =>
  cases x with
  | value v => exact h
  | skip => exact h
  | defer d => exact h
  | enter f args => exact ⟨fun h => by simp [FW, Fence.wide] at h, calls_in h⟩
  | row r args => exact ⟨fun h => by simp [FW, Fence.wide] at h, rows_in h⟩
  | round l f t a b => exact h.elim
  | _ => exact h.elim
 | halt x w' =>
  cases x <;> first | exact h | exact h.elim

section
variable {P : Program} {T : Tab} {an : Ann} {o : Oper} {st : St} {k : St → Prop}
theorem awpOp_nodefer (h : awpOp P T an o st k) : ∀ c, o.op ≠ .defer c := by
 intro c hc
 unfold awpOp genOp at h
 simp only [hc] at h
theorem awpOpY_nodefer (h : awpOpY P T an o st k) : ∀ c, o.op ≠ .defer c := by
 intro c hc
 unfold awpOpY at h
 split at h
 ·unfold extraOp at h
  simp only [hc] at h
 ·exact awpOp_nodefer h c hc
theorem freezeK_some {p : Option Nat} {s : List AV} {ob : List (Nm × AObj)} {K : St → Prop} (h : freezeK p s ob K) : ∃ st', K st' := by
 unfold freezeK at h
 split at h
 ·exact ⟨_, h⟩
 ·split at h
  ·split at h
   ·split at h
    ·rw [forceL_eq] at h
     obtain ⟨_, h⟩ := must_elim h
     obtain ⟨_, h, _⟩ := objGet_set h
     rw [setK_eq] at h
     exact ⟨_, h⟩
    ·exact h.elim
   ·exact h.elim
  ·exact h.elim
theorem freezeVK_some {p : Option Nat} {K : St → Prop} (h : freezeVK p st K) : ∃ st', K st' := by
 unfold freezeVK at h
 split at h
 ·exact ⟨_, h⟩
 ·split at h
  ·split at h
   ·obtain ⟨_, h⟩ := must_elim h
    obtain ⟨_, h⟩ := h
    obtain ⟨_, h, _⟩ := objGet_set h
    rw [setK_eq] at h
    exact ⟨_, h⟩
   ·exact h.elim
  ·split at h
   ·obtain ⟨_, h⟩ := must_elim h
    obtain ⟨_, h, _⟩ := objGet_set h
    rw [setK_eq] at h
    exact ⟨_, h⟩
   ·exact h.elim
  ·exact freezeK_some h
  ·exact ⟨_, h⟩
  ·exact h.elim
theorem awpOpX_nodefer (h : awpOpX P T an o st k) : ∀ c, o.op ≠ .defer c := by
 obtain ⟨st', h⟩ := freezeVK_some h
 exact awpOpY_nodefer h
end
end Go.Abs
