/- The engine, part 4: regions, code, loops. -/
import Derived.Test.YtlagdcbgkfaheaaA3
set_option linter.unusedVariables false
set_option linter.unusedSimpArgs false
namespace Go.Abs
open Go

section
variable (P : Program) (T : Tab) (an : Ann)

def guardK (ops : Array Oper) (o : Oper) (st : St) (yes no : St → Prop) : Prop :=
  match o.guard with
  | none => yes st
  | some (j, want) => (match ops[j]? with
    | none => False
    | some oj => (match oj.dst with
      | none => False
      | some d => (match getL st.slots d with
        | .val (.bool b) =>
          br b (setK st.slots d (.val (.bool true)) fun s => match want with | true => yes ⟨s, st.objs⟩ | false => no ⟨s, st.objs⟩)
               (setK st.slots d (.val (.bool false)) fun s => match want with | true => no ⟨s, st.objs⟩ | false => yes ⟨s, st.objs⟩)
        | _ => False)))

def awpOps (ops : Array Oper) : List Nat → St → (St → Prop) → Prop
  | [], st, k => k st
  | i :: rest, st, k => (match ops[i]? with
    | none => False
    | some o => guardK ops o st (fun st => awpOp P T an o st fun st => awpOps ops rest st k) (fun st => put st o.dst .junk fun st => awpOps ops rest st k))

def upto : Nat → List Nat → List Nat
  | 0, l => l
  | n + 1, l => upto n (n :: l)

/-! ### what is left of a state at the head of a loop -/
mutual
def AV.names : AV → List Nm
  | .sl own _ _ => (match own with | some n => [n] | none => [])
  | .ptr n _ => [n]
  | .slm n _ _ _ => [n]
  | .mapv n => [n]
  | .agg l => namesL l
  | .tup l => namesL l
  | .fn _ a b => namesL a ++ namesL b
  | .iface _ x => x.names
  | .junk => []
  | .val _ => []
  | .cptr _ _ => []
  termination_by structural x => x
def namesL : List AV → List Nm
  | [] => []
  | a :: l => a.names ++ namesL l
  termination_by structural x => x
end

/-- Slots that a loop doesn't keep are forgotten. -/
def keepL (keep : List Nat) : List AV → Nat → List AV
  | [], _ => []
  | a :: l, i => (match memN keep i with
    | true => a
    | false => .junk) :: keepL keep l (i + 1)

def objNames : AObj → List Nm
  | .cells _ l => namesL l
  | _ => []

/-- All that is reached from names. -/
def reach (objs : List (Nm × AObj)) : Nat → List Nm → List Nm → List Nm
  | 0, _, seen => seen
  | _ + 1, [], seen => seen
  | f + 1, n :: work, seen => (match memN seen n with
    | true => reach objs f work seen
    | false => (match objGet objs n with
      | some o => reach objs f (objNames o ++ work) (n :: seen)
      | none => reach objs f work (n :: seen)))

def sift (live : List Nm) : List (Nm × AObj) → List (Nm × AObj)
  | [] => []
  | (n, o) :: l => (match (memN live n || Nat.blt n 64) with
    | true => (n, o) :: sift live l
    | false => sift live l)

def forceO : List (Nm × AObj) → (List (Nm × AObj) → Prop) → Prop
  | [], k => k []
  | (n, o) :: l, k => forceO l fun l' => k ((n, o) :: l')

def closedN (o : List (Nm × AObj)) : List Nm → Bool
  | [] => true
  | n :: l => (match objGet o n with
    | some _ => closedN o l
    | none => false)
def closedO (o : List (Nm × AObj)) : List (Nm × AObj) → Bool
  | [] => true
  | (_, x) :: l => (match closedN o (objNames x) with
    | true => closedO o l
    | false => false)

def normK (keep : List Nat) (st : St) (k : St → Prop) : Prop :=
  forceL (keepL keep st.slots 0) fun s => forceO (sift (reach st.objs 1000 (namesL s) []) st.objs) fun o => must (closedN o (namesL s)) (must (closedO o o) (k ⟨s, o⟩))

/-- A loop comes to its ways out: the least such statement. -/
inductive LoopP (F : (St → Prop) → St → Prop) : St → Prop where
  | mk (X : St → Prop) (hX : ∀ s, X s → LoopP F s) (s : St) (h : F X s) : LoopP F s
theorem LoopP.step {F : (St → Prop) → St → Prop} {st : St} (h : F (LoopP F) st) : LoopP F st := .mk _ (fun _ h => h) st h

/-- A loop's mark: its first region. -/
def firstReg : Code → Nat
  | .region id _ _ => id
  | .seq a _ => firstReg a
  | .block _ b => firstReg b
  | .loop b => firstReg b
  | .cond _ a _ => firstReg a
  | _ => 0
def keepFor : List (Nat × List Nat) → Nat → List Nat
  | [], _ => []
  | (i, l) :: ks, n => match Nat.beq i n with
    | true => l
    | false => keepFor ks n

def awp : Code → St → (St → Prop) → (XK → St → Prop) → Prop
  | .skip, st, k, _ => k st
  | .region _ ops false, st, k, _ => awpOps P T an ops (upto ops.size []) st k
  | .region id ops true, st, k, _ => False
  | .seq a b, st, k, kx => awp a st (fun st => awp b st k kx) kx
  | .cond c a b, st, k, kx => (match evA st.slots c with
    | .val (.bool c) => br c (awp a st k kx) (awp b st k kx)
    | _ => False)
  | .block id b, st, k, kx => awp b st k fun x st => (match x with
    | .exit id' => (match Nat.beq id' id with
      | true => k st
      | false => kx x st)
    | .ret => kx x st)
  | .loop b, st, _, kx => normK (keepFor an.keep (firstReg b)) st fun st => LoopP (fun X s => awp b s (fun s => normK (keepFor an.keep (firstReg b)) s X) kx) st
  | .exit id, st, _, kx => kx (.exit id) st
  | .ret, st, _, kx => kx .ret st
  | .label _, st, k, _ => k st
  | _, _, _, _ => False

/-! ### a whole function -/
def retSlots (s : List AV) : List ResultVar → Option (List AV)
  | [] => some []
  | .tmp t :: rs => (retSlots s rs).map (getL s t :: ·)
  | .cell _ _ :: _ => none

def retK (rs : List ResultVar) (st : St) (R : AV → List AObj → Prop) : Prop :=
  match retSlots st.slots rs with
  | some l => forceL (l.map AV.strips) fun l => must (allNoNames l) (match l with
    | [a] => R a []
    | l => R (.tup l) [])
  | none => False

def junks : Nat → List AV
  | 0 => []
  | n + 1 => .junk :: junks n

def padTo : List AV → Nat → List AV
  | [], n => junks n
  | a :: l, 0 => a :: l
  | a :: l, n + 1 => a :: padTo l n

/-- What a function's body needs, called so. -/
def awpFn (fn : Func) (args : List AV) (R : AV → List AObj → Prop) : Prop :=
  match fn.body with
  | some c => awp P T an c ⟨padTo args fn.ntmps, []⟩ (fun st => retK fn.results.toList st R) fun x st => (match x with
    | .ret => retK fn.results.toList st R
    | .exit _ => False)
  | none => False

end

end Go.Abs
