/- The engine, part 4: regions, code, loops. -/
import Derived.Test.YthgjcmfbfigpbaaDoorA3
set_option linter.unusedVariables false
set_option linter.unusedSimpArgs false
namespace Go.Abs
open Go

/-- The contract of a function without a body that changes nothing. -/
structure XCalls (P : Program) (g : FuncId) (args : List AV) (R : AV → Prop) : Prop where
  run : ∀ (G : Gh) (w : World) (vals : List Value), (∀ b o v, G.K b o = some v → w.cell? ⟨b, o, none⟩ = some v) → RepL G args vals →
    ∃ v r, (callFunc g vals.toArray).run P w = .ok (.value v) w ∧ R r ∧ Rep G r v

section
variable (P : Program) (T : Tab) (an : Ann)

def guardK (ops : Array Oper) (o : Oper) (st : St) (yes no : St → Prop) : Prop :=
  match o.guard with
  | none => yes st
  | some (j, want) => (match ops[j]? with
    | none => False
    | some oj => (match oj.dst with
      | none => False
      | some d => (match getL st.slots d with
        | .val (.bool b) =>
          br b (setK st.slots d (.val (.bool true)) fun s => match want with | true => yes ⟨s, st.objs⟩ | false => no ⟨s, st.objs⟩)
               (setK st.slots d (.val (.bool false)) fun s => match want with | true => no ⟨s, st.objs⟩ | false => yes ⟨s, st.objs⟩)
        | .val (.tuple _) => no st
        | _ => False)))

/-- Operations that are taken only where the order is that of the text. -/
def isExtra (op : Op) (ev : Operand → AV) : Bool :=
  match op with
  | .convert s d x => (match ev x with
    | .slm _ _ _ _ => true
    | .sl own _ _ => (match own with
      | some _ => Nat.beq s d
      | none => false)
    | _ => false)
  | .binOp _ _ x _ _ => (match ev x with
    | .sl _ _ _ => true
    | _ => false)
  | .call c => (match c.callee with
    | .value f => (match f with
      | .func g => (match T.fn g with
        | true => false
        | false => true)
      | _ => false)
    | _ => false)
  | .lookup _ m _ _ => (match ev m with
    | .val _ => true
    | _ => false)
  | .range _ _ => true
  | .next _ _ => true
  | .entry _ => true
  | _ => false

/-! maps that are gone over -/
def rangeOpK (d : Nat) (t : TypeId) (x : AV) (objs : List (Nm × AObj)) (k : AV → List (Nm × AObj) → Prop) : Prop :=
  match dOf T t with
  | .map _ _ => (match x with
    | .mapv n => (match objGet objs n with
      | some (.map es) => ∀ ms clock, objSetK objs n (.mapc es ms clock) fun objs => objInsK objs (nameOf d) (.iter n ms clock []) fun objs => k (.ptr (nameOf d) 0) objs
      | _ => False)
    | _ => False)
  | _ => False
def nextOpK (it : AV) (objs : List (Nm × AObj)) (k : AV → List (Nm × AObj) → Prop) : Prop :=
  match it with
  | .ptr r off => (match off with
    | 0 => (match objGet objs r with
      | some (.iter n ms clock seen) => (match objGet objs n with
        | some (.mapc es ms' clock') => (ms' = ms ∧ clock' = clock) ∧
            ((∀ i, i < es.length → i ∈ seen) → objSetK objs n (.map es) fun objs => k (.tup [.val (.bool false)]) objs) ∧
            (∀ i e, es[i]? = some e → i ∉ seen → objSetK objs r (.iter n ms clock (i :: seen)) fun objs => k (.tup [.val (.bool true), .val (.string e.1), e.2]) objs)
        | _ => False)
      | _ => False)
    | _ => False)
  | _ => False
def entryOpK (it : AV) (objs : List (Nm × AObj)) (k : AV → List (Nm × AObj) → Prop) : Prop :=
  match it with
  | .ptr r off => (match off with
    | 0 => (match objGet objs r with
      | some (.iter n ms clock seen) => (match seen with
        | i :: _ => (match objGet objs n with
          | some (.mapc es ms' clock') => (ms' = ms ∧ clock' = clock) ∧ idxK es i fun e => k (.tup [.val (.string e.1), e.2]) objs
          | _ => False)
        | [] => False)
      | _ => False)
    | _ => False)
  | _ => False
def extraOp (op : Op) (dst : Option Tmp) (ev : Operand → AV) (objs : List (Nm × AObj)) (k : AV → List (Nm × AObj) → Prop) : Prop :=
  match op with
  | .convert src dst x =>
    tyOk T src fun si => tyOk T dst fun di => (match di.d, ev x with
    | .string, .slm n off len _ => (match si.d with
      | .slice e => (match dOf T e with
        | .int .u8 => (match objGet objs n with
          | some (.cells _ l) => ∃ bs : List Int, ((l.drop off).take len = bs.map fun b => .val (.int .u8 b)) ∧ bs.length = len ∧ k (.val (.string (strOfNums bs))) objs
          | _ => False)
        | _ => False)
      | _ => False)
    | .slice e, .sl own sz l => (match own with
      | some n => (match dOf T e with
        | .int .u8 => (match objGet objs n with
          | some (.row _ _ top) => (match l with
            | [] => False
            | _ :: _ => must (Nat.beq src dst) (must (Nat.beq top l.length) (objSetK objs n .dead fun objs => k (.sl none sz l) objs)))
          | _ => False)
        | _ => False)
      | none => False)
    | _, _ => False)
  | .binOp op t x y _ =>
    (match dOf T t with
    | .slice _ => (match ev x, ev y with
      | .sl _ _ l, .val (.slice none 0 0) => (match op with
        | .eql => ∀ b : Bool, (b = true → l = []) → k (.val (.bool b)) objs
        | .neq => ∀ b : Bool, (b = true → l = []) → k (.val (.bool (!b))) objs
        | _ => False)
      | _, _ => False)
    | _ => False)
  | .call c =>
    (match c.callee with
    | .value f => (match ev f with
      | .fn (.func g) first cap => forceL (argsOf an dst ev c first cap) fun args => XCalls P g args fun r => k r objs
      | _ => False)
    | _ => False)
  | .range t x => (match dst with
    | some d => rangeOpK T d t (ev x) objs k
    | none => False)
  | .next it s => (match s with
    | true => False
    | false => nextOpK (ev it) objs k)
  | .entry it => entryOpK (ev it) objs k
  | .lookup t m x ok =>
    (match dOf T t with
    | .map kt e => (match dOf T kt with
      | .string => tyOk T e fun ei => (match ev m, ev x with
        | .val (.map none), .val (.string s) => zeroA ei fun z => (match ok with
          | true => k (.tup [z, .val (.bool false)]) objs
          | false => k z objs)
        | _, _ => False)
      | _ => False)
    | _ => False)
  | _ => False
/-- Does an operation lay a variable for good? -/
def lookN : List (Nat × Nat) → Nat → Option Nat
  | [], _ => none
  | (a, b) :: l, n => (match Nat.beq a n with
    | true => some b
    | false => lookN l n)
def frzOf (op : Op) : Option Nat :=
  match op with
  | .store _ x _ => (match x with
    | .tmp p => (match memN an.frz p with
      | true => some p
      | false => lookN an.frz2 p)
    | _ => none)
  | _ => none
def freezeK (p : Option Nat) (s : List AV) (ob : List (Nm × AObj)) (k : St → Prop) : Prop :=
  match p with
  | none => k ⟨s, ob⟩
  | some p => (match getL s p with
    | .ptr n off => (match Nat.beq off 0 with
      | true => (match objGet ob n with
        | some (.cells _ c) => forceL (c.map AV.strip) fun c => must (okCells c) (objSetK ob n .dead fun ob => setK s p (.cptr c 0) fun s => k ⟨s, ob⟩)
        | _ => False)
      | false => False)
    | _ => False)
/-- A row whose elements may change is one whose elements never change, from now on; an owned row of no elements is one whose elements may change. -/
def freezeVK (p : Option Nat) (st : St) (k : St → Prop) : Prop :=
  match p with
  | none => k st
  | some p => (match getL st.slots p with
    | .slv n size ver off len => (match objGet st.objs n with
      | some (.vec _ sz l ver') => must (Nat.beq sz size) ((ver = ver' ∧ off = 0 ∧ len = l.length) ∧ objSetK st.objs n .dead fun ob => setK st.slots p (.sl none size l) fun s => k ⟨s, ob⟩)
      | _ => False)
    | .sl (some n) size [] => (match objGet st.objs n with
      | some (.row t sz top) => must (Nat.beq sz size && Nat.beq top 0) (objSetK st.objs n (.vec t size [] 0) fun ob => setK st.slots p (.slv n size 0 0 0) fun s => k ⟨s, ob⟩)
      | _ => False)
    | _ => False)
def frvOf (o : Oper) : Option Nat :=
  match o.dst with
  | some d => lookN an.frv d
  | none => none
def awpOpY (o : Oper) (st : St) (k : St → Prop) : Prop :=
  match isExtra T o.op (evA st.slots) with
  | true => extraOp P T an o.op o.dst (evA st.slots) st.objs fun v objs => put ⟨st.slots, objs⟩ o.dst v k
  | false => awpOp P T an o st fun st => freezeK (frzOf an o.op) st.slots st.objs k
def awpOpX (o : Oper) (st : St) (k : St → Prop) : Prop := freezeVK (frvOf an o) st fun st => awpOpY P T an o st k


def awpOps (ops : Array Oper) : List Nat → St → (St → Prop) → Prop
  | [], st, k => k st
  | i :: rest, st, k => (match ops[i]? with
    | none => False
    | some o => guardK ops o st (fun st => awpOpX P T an o st fun st => awpOps ops rest st k) (fun st => put st o.dst (.val undef) fun st => awpOps ops rest st k))

/-- The kind of an operation, brought to its head. -/
def clsK (c : Cls) (quiet : Prop) (loud : Cls → Prop) : Prop :=
  match c with
  | .val [] => quiet
  | .val (n :: l) => loud (.val (n :: l))
  | .mk => loud .mk
  | .call => loud .call
  | .wr => loud .wr
def skipCls (c : Cls) : Cls :=
  match c with
  | .wr => .wr
  | _ => .val []
def plainOk (c : Cls) (b : Bool) : Bool :=
  match c with
  | .call => b
  | _ => true

/-- A region that draws its order: as it is written, if what may come in another order may. -/
def awpDraw (ops : Array Oper) : List (Nat × Cls) → List Nat → St → (St → Prop) → Prop
  | _, [], st, k => k st
  | seen, i :: rest, st, k => (match ops[i]? with
    | none => False
    | some o => guardK ops o st
        (fun st => clsK (clsOf an o.op o.dst (evA st.slots)) (awpOp P T an o st fun st => awpDraw ops seen rest st k)
          fun c => must (okAll ops i o c seen) (must (plainOk c (plainCall an o.op o.dst (evA st.slots))) (awpOp P T an o st fun st => awpDraw ops ((i, c) :: seen) rest st k)))
        (fun st => clsK (skipCls (clsOf an o.op o.dst (evA st.slots))) (put st o.dst (.val undef) fun st => awpDraw ops seen rest st k)
          fun c => must (okAll ops i o c seen) (put st o.dst (.val undef) fun st => awpDraw ops ((i, c) :: seen) rest st k)))

/-! ### what is left of a state at the head of a loop -/
/-- Slots that a loop doesn't keep are forgotten. -/
def keepL (keep : List Nat) : List AV → Nat → List AV
  | [], _ => []
  | a :: l, i => (match memN keep i with
    | true => a
    | false => .junk) :: keepL keep l (i + 1)

def sift (live : List Nm) : List (Nm × AObj) → List (Nm × AObj)
  | [] => []
  | (n, o) :: l => (match (memN live n || Nat.blt n 64) with
    | true => (n, o) :: sift live l
    | false => sift live l)

def forceO : List (Nm × AObj) → (List (Nm × AObj) → Prop) → Prop
  | [], k => k []
  | (n, o) :: l, k => forceO l fun l' => k ((n, o) :: l')

def closedO (o : List (Nm × AObj)) : List (Nm × AObj) → Bool
  | [] => true
  | (_, x) :: l => (match closedN o (objNames x) with
    | true => closedO o l
    | false => false)

def normK (keep : List Nat) (st : St) (k : St → Prop) : Prop :=
  forceL (keepL keep st.slots 0) fun s => forceO (sift (reach st.objs 1000 (namesL s) []) st.objs) fun o => must (closedN o (namesL s)) (must (closedO o o) (k ⟨s, o⟩))

/-- Slots that hold no slice: from now on owned rows of no elements. -/
def rowsK (vec : List Nat) : List (Nat × TypeId) → St → (St → Prop) → Prop
  | [], st, k => k st
  | (d, e) :: l, st, k => (match st with
    | ⟨s, ob⟩ => (match getL s d with
      | .val (.slice none 0 0) => (match memN vec d with
        | true => objInsK ob (nameOf d) (.vec e (T.ti e).size [] 0) fun ob => setK s d (.slv (nameOf d) (T.ti e).size 0 0 0) fun s => rowsK vec l ⟨s, ob⟩ k
        | false => objInsK ob (nameOf d) (.row e (T.ti e).size 0) fun ob => setK s d (.sl (some (nameOf d)) (T.ti e).size []) fun s => rowsK vec l ⟨s, ob⟩ k)
      | _ => rowsK vec l ⟨s, ob⟩ k))
def nilFor : List (Nat × List (Nat × TypeId)) → Nat → List (Nat × TypeId)
  | [], _ => []
  | (i, l) :: ks, n => match Nat.beq i n with
    | true => l
    | false => nilFor ks n

/-- A loop comes to its ways out: the least such statement. -/
inductive LoopP (F : (St → Prop) → St → Prop) : St → Prop where
  | mk (X : St → Prop) (hX : ∀ s, X s → LoopP F s) (s : St) (h : F X s) : LoopP F s
theorem LoopP.step {F : (St → Prop) → St → Prop} {st : St} (h : F (LoopP F) st) : LoopP F st := .mk _ (fun _ h => h) st h

/-- A loop's mark: its first region. -/
def firstReg : Code → Nat
  | .region id _ _ => id
  | .seq a _ => firstReg a
  | .block _ b => firstReg b
  | .loop b => firstReg b
  | .cond _ a _ => firstReg a
  | _ => 0
def keepFor : List (Nat × List Nat) → Nat → List Nat
  | [], _ => []
  | (i, l) :: ks, n => match Nat.beq i n with
    | true => l
    | false => keepFor ks n

/-- The fence that asks nothing, in a round or not. -/
def FW (ro : Option Nat) : Fence := { Fence.wide with round := ro }

/-- The contract of an iterator that only reads what never changes: it yields just these, in turn. -/
structure AIter (P : Program) (g : FuncId) (caps : List AV) (xs : List (List AV)) : Prop where
  enter : ∀ args w, (callFunc g args).run P w = .ok (.enter g args) w
  run : ∀ (G : Gh) (w : World) (lb : List Value), (∀ b o v, G.K b o = some v → w.cell? ⟨b, o, none⟩ = some v) → RepL G caps lb →
    ∃ es : List (Array Value), es.length = xs.length ∧ (∀ (i : Nat) (x : List AV) (e : Array Value), xs[i]? = some x → es[i]? = some e → RepL ⟨G.K, fun _ => none⟩ x e.toList) ∧
      ∀ (l n : Nat) (J Jx : Nat → World → Prop),
        (∀ (m i : Nat) (e : Array Value) (W1 : World), es[i]? = some e → J i W1 → YieldAt (FW none) m P l e W1 fun r W' => (r = .returned (.bool true) ∧ J (i + 1) W') ∨ (r = .returned (.bool false) ∧ Jx (i + 1) W')) →
        (∀ (i : Nat) (W1 : World), J i W1 → ∀ b o v, G.K b o = some v → W1.cell? ⟨b, o, none⟩ = some v) →
        J 0 w → CallsIn (FW none) n P g (#[.func (.yield l) #[] #[]] ++ lb.toArray) w fun e W' => (∃ v, e = .returned v) ∧ (J es.length W' ∨ ∃ i, Jx i W')

def setPs : List AV → List Nat → List AV → List AV
  | s, p :: ps, x :: xs => setPs (setL s p x) ps xs
  | s, _, _ => s

/-- No loop and no range over a function. -/
def plainC : Code → Bool
  | .seq a b => (match plainC a with
    | true => plainC b
    | false => false)
  | .cond _ a b => (match plainC a with
    | true => plainC b
    | false => false)
  | .block _ b => plainC b
  | .loop _ => false
  | .rangeFunc _ _ _ _ => false
  | _ => true

/-- A range over a function: the rounds, told by what stands ahead of each. -/
def rangeK (keep : List Nat) (caps : List AV) (g : FuncId) (ps : List Nat) (round : St → (St → Prop) → (XK → St → Prop) → Prop) (st : St) (k : St → Prop) (kx : XK → St → Prop) : Prop :=
  normK keep st fun st => ∃ xs : List (List AV), AIter P g caps xs ∧ (∀ x ∈ xs, x.length = ps.length) ∧ ∃ I : Nat → St → Prop, I 0 st ∧
    (∀ (i : Nat) (x : List AV) (s : St), xs[i]? = some x → I i s → round ⟨setPs s.slots ps x, s.objs⟩ (fun s2 => normK keep ⟨s.slots, s2.objs⟩ (I (i + 1))) (fun e s2 => kx e ⟨s.slots, s2.objs⟩)) ∧
    ∀ s, I xs.length s → k s

def awp : Code → St → (St → Prop) → (XK → St → Prop) → Prop
  | .skip, st, k, _ => k st
  | .region _ ops false, st, k, _ => awpOps P T an ops (upto ops.size []) st k
  | .region _ ops true, st, k, _ => awpDraw P T an ops [] (upto ops.size []) st k
  | .seq a b, st, k, kx => awp a st (fun st => awp b st k kx) kx
  | .cond c a b, st, k, kx => (match evA st.slots c with
    | .val (.bool c) => br c (awp a st k kx) (awp b st k kx)
    | _ => False)
  | .block id b, st, k, kx => awp b st k fun x st => (match x with
    | .exit id' => (match Nat.beq id' id with
      | true => k st
      | false => kx x st)
    | .ret => kx x st)
  | .loop b, st, _, kx => normK (keepFor an.keep (firstReg b)) st fun st => rowsK T an.vec (nilFor an.nilr (firstReg b)) st fun st => LoopP (fun X s => awp b s (fun s => normK (keepFor an.keep (firstReg b)) s X) kx) st
  | .exit id, st, _, kx => kx (.exit id) st
  | .ret, st, _, kx => kx .ret st
  | .label _, st, k, _ => k st
  | .rangeFunc g ps x b, st, k, kx => must (plainC x) (must (plainC b) (match evA st.slots g with
    | .fn (.func gf) [] caps => rangeK P (keepFor an.keep (firstReg x)) caps gf ps.toList (fun s k' kx' => awp x s (fun s => awp b s k' kx') (fun _ _ => False)) st k kx
    | _ => False))
  | _, _, _, _ => False

/-! ### a whole function -/
def retSlots (s : List AV) (objs : List (Nm × AObj)) : List ResultVar → (List AV → Prop) → Prop
  | [], k => k []
  | .tmp t :: rs, k => force (getL s t) fun a => retSlots s objs rs fun l => k (a :: l)
  | .cell x t :: rs, k => (match getL s x with
    | .ptr n off => (match objGet objs n with
      | some (.cells _ c) => aload T t (dropL c off) fun v => retSlots s objs rs fun l => k (v :: l)
      | _ => False)
    | _ => False)

def paramNames (objs : List (Nm × AObj)) : List Nat → List Nm
  | [] => []
  | i :: is => (match objGet objs i with
    | some o => objNames o ++ paramNames objs is
    | none => paramNames objs is)

/-- What comes back: the results, and the objects: those that came in, and behind them what else is reached. -/
def retK (rs : List ResultVar) (k : Nat) (st : St) (R : AV → List AObj → Prop) : Prop :=
  retSlots T st.slots st.objs rs fun l => forceL (match an.keepRes with | true => l | false => l.map AV.strips) fun l =>
      partK st.objs (revL (reach st.objs 1000 (namesL l ++ paramNames st.objs (upto k [])) (revL (upto k []) [])) []) fun ms os => must (prefixN (upto k []) ms) (must (subN (namesL l) ms) (forceL (renL (idxN ms) l) fun l => match l with
      | [a] => R a os
      | l => R (.tup l) os))

def junks : Nat → List AV
  | 0 => []
  | n + 1 => .junk :: junks n

def padTo : List AV → Nat → List AV
  | [], n => junks n
  | a :: l, 0 => a :: l
  | a :: l, n + 1 => a :: padTo l n

/-- What a function's body needs, called so. -/
def awpFn (fn : Func) (args : List AV) (os : List AObj) (R : AV → List AObj → Prop) : Prop :=
  match fn.body with
  | some c => must (Nat.ble os.length 64) (awp P T an c ⟨padTo args fn.ntmps, numbered 0 os⟩ (fun st => retK T an fn.results.toList os.length st R) fun x st => (match x with
    | .ret => retK T an fn.results.toList os.length st R
    | .exit _ => False))
  | none => False

end

end Go.Abs
