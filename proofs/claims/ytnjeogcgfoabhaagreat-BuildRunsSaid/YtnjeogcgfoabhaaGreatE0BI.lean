/- The engine, BI. -/
import Derived.Test.YtnjeogcgfoabhaaGreatE0BW
import Derived.OrdersIn
import Derived.TacticsIn
set_option linter.unusedVariables false
set_option linter.unusedSimpArgs false
namespace Go.Abs
open Go
theorem LV {P : Program} {row : String} {args : Array Value} {w : World} {R : Value → World → Prop} {ro : Option Nat} {n : Nat} (h : Rows P row args w R) : RowsIn (FW ro) n P row args w R :=
 fun c cs _ => let ⟨v, w', r, s⟩ := h c cs; ⟨v, w', r, stepsIn_wide.2 s⟩
theorem KD {P : Program} {f : FuncId} {args : Array Value} {w : World} {R : Ending → World → Prop} {ro : Option Nat} {n : Nat} (h : Calls P f args w R) : CallsIn (FW ro) n P f args w R :=
 (callsIn_wide (n := n)).2 h
theorem Gn {P : Program} {o : Oper} {a : Act} {w : World} {next : Act → World → Prop} {Q : Exit → Act → World → Prop} {ro : Option Nat} {n : Nat} (hd : ∀ c, o.op ≠ .defer c)
  (h : o.wp P a w next Q) : o.wpIn (FW ro) n P a w next Q := by
 refine ⟨fun _ _ => trivial, ?_⟩;have e : o.semAt (FW ro).round a.eval = execOp a.eval o := by
  cases ro with
  | none => exact Oper.semAt_none _ _
  | some l => exact Oper.semAt_some l _ o hd
 rw [e];unfold Oper.wp at h;generalize (execOp a.eval o).run P w = r at h
 cases r with
 | ok x w' =>
  cases x with
  | value v => exact h
  | skip => exact h
  | defer d => exact h
  | enter f args => exact ⟨fun h => by simp [FW, Fence.wide] at h, KD h⟩
  | row r args => exact ⟨fun h => by simp [FW, Fence.wide] at h, LV h⟩
  | round l f t a b => exact h.elim
  | _ => exact h.elim
 | halt x w' =>
  cases x <;> first | exact h | exact h.elim
section
variable {P : Program} {T : Tab} {an : Ann} {o : Oper} {st : St} {k : St → Prop}
theorem qj (h : ck P T an o st k) : ∀ c, o.op ≠ .defer c := by
 intro c hc;unfold ck aQ at h;simp only [hc] at h
theorem wU (h : oe P T an o st k) : ∀ c, o.op ≠ .defer c := by
 intro c hc;unfold oe at h;split at h
 ·unfold gT at h;simp only [hc] at h
 ·exact qj h c hc
theorem Al {p : Option Nat} {s : List AV} {ob : List (Nm × aE)} {K : St → Prop} (h : nT p s ob K) : ∃ st', K st' := by
 unfold nT at h;split at h
 ·exact ⟨_, h⟩
 ·split at h
  ·split at h
   ·split at h
    ·rw [co] at h;obtain ⟨_, h⟩ := az h;obtain ⟨_, h, _⟩ := cu h;rw [gm] at h;exact ⟨_, h⟩
    ·exact h.elim
   ·exact h.elim
  ·exact h.elim
theorem xB {p : Option Nat} {K : St → Prop} (h : nh p st K) : ∃ st', K st' := by
 unfold nh at h;split at h
 ·exact ⟨_, h⟩
 ·split at h
  ·split at h
   ·obtain ⟨_, h⟩ := az h;obtain ⟨_, h⟩ := h;obtain ⟨_, h, _⟩ := cu h;rw [gm] at h;exact ⟨_, h⟩
   ·exact h.elim
  ·split at h
   ·obtain ⟨_, h⟩ := az h;obtain ⟨_, h, _⟩ := cu h;rw [gm] at h;exact ⟨_, h⟩
   ·exact h.elim
  ·exact Al h
  ·exact ⟨_, h⟩
  ·exact h.elim
theorem wV (h : tv P T an o st k) : ∀ c, o.op ≠ .defer c := by
 obtain ⟨st', h⟩ := xB h;exact wU h
end
end Go.Abs
