/- The engine, part 4: regions, code, loops. -/
import Derived.Test.YtpkocgpcdddleaaGreatA3
set_option linter.unusedVariables false
set_option linter.unusedSimpArgs false
namespace Go.Abs
open Go

structure XCalls (P : Program) (g : FuncId) (args : List AV) (R : AV → Prop) : Prop where
 run : ∀ (G : Gh) (w : World) (vals : List Value), (∀ b o v, G.K b o = some v → w.cell? ⟨b, o, none⟩ = some v) → RepL G args vals →
  ∃ v r, (callFunc g vals.toArray).run P w = .ok (.value v) w ∧ R r ∧ Rep G r v

section
variable (P : Program) (T : Tab) (an : Ann)

def guardK (ops : Array Oper) (o : Oper) (st : St) (yes no : St → Prop) : Prop :=
 match o.guard with
 | none => yes st
 | some (j, want) => (match ops[j]? with
  | none => False
  | some oj => (match oj.dst with
   | none => False
   | some d => (match getL st.slots d with
    | .val (.bool b) =>
     br b (setK st.slots d (.val (.bool true)) fun s => match want with | true => yes ⟨s, st.objs⟩ | false => no ⟨s, st.objs⟩)
        (setK st.slots d (.val (.bool false)) fun s => match want with | true => no ⟨s, st.objs⟩ | false => yes ⟨s, st.objs⟩)
    | .val (.tuple _) => no st
    | _ => False)))

def isExtra (op : Op) (ev : Operand → AV) : Bool :=
 match op with
 | .convert s d x => (match ev x with
  | .slm _ _ _ _ => true
  | .sl own _ _ => (match own with
   | some _ => Nat.beq s d
   | none => false)
  | _ => false)
 | .binOp _ _ x _ _ => (match ev x with
  | .sl _ _ _ => true
  | _ => false)
 | .call c => (match c.callee with
  | .value f => (match f with
   | .func g => (match T.fn g with
    | true => false
    | false => true)
   | _ => false)
  | .builtin b => (match b with
   | .append => (match c.args.toList with
    | [_, x] => (match ev x with
     | .slm _ _ _ _ => true
     | _ => false)
    | _ => false)
   | _ => false)
  | _ => false)
 | .indexAddr _ x _ => (match ev x with
  | .slv _ sz _ _ _ => Nat.beq sz 0
  | _ => false)
 | .load _ p => (match ev p with
  | .ptv _ sz _ _ _ => Nat.beq sz 0
  | _ => false)
 | .buildSlice _ _ ps => (match ps.toList with
  | (_, x) :: _ => (match ev x with
   | .fn _ _ c => (match c with
    | [] => false
    | _ :: _ => true)
   | _ => false)
  | [] => false)
 | .lookup _ m _ _ => (match ev m with
  | .val _ => true
  | _ => false)
 | .range _ _ => true
 | .next _ _ => true
 | .entry _ => true
 | _ => false

def rangeOpK (d : Nat) (t : TypeId) (x : AV) (objs : List (Nm × AObj)) (k : AV → List (Nm × AObj) → Prop) : Prop :=
 match dOf T t with
 | .map _ _ => (match x with
  | .mapv n => (match objGet objs n with
   | some (.map es) => ∀ ms clock, objSetK objs n (.mapc es ms clock) fun objs => objInsK objs (nameOf d) (.iter n ms clock []) fun objs => k (.ptr (nameOf d) 0) objs
   | _ => False)
  | _ => False)
 | _ => False
def nextOpK (it : AV) (objs : List (Nm × AObj)) (k : AV → List (Nm × AObj) → Prop) : Prop :=
 match it with
 | .ptr r off => (match off with
  | 0 => (match objGet objs r with
   | some (.iter n ms clock seen) => (match objGet objs n with
    | some (.mapc es ms' clock') => (ms' = ms ∧ clock' = clock) ∧
      ((∀ i, i < es.length → i ∈ seen) → objSetK objs n (.map es) fun objs => k (.tup [.val (.bool false)]) objs) ∧
      (∀ i e, es[i]? = some e → i ∉ seen → objSetK objs r (.iter n ms clock (i :: seen)) fun objs => k (.tup [.val (.bool true), .val (.string e.1), e.2]) objs)
    | _ => False)
   | _ => False)
  | _ => False)
 | _ => False
def entryOpK (it : AV) (objs : List (Nm × AObj)) (k : AV → List (Nm × AObj) → Prop) : Prop :=
 match it with
 | .ptr r off => (match off with
  | 0 => (match objGet objs r with
   | some (.iter n ms clock seen) => (match seen with
    | i :: _ => (match objGet objs n with
     | some (.mapc es ms' clock') => (ms' = ms ∧ clock' = clock) ∧ idxK es i fun e => k (.tup [.val (.string e.1), e.2]) objs
     | _ => False)
    | [] => False)
   | _ => False)
  | _ => False)
 | _ => False
def fappK (objs : List (Nm × AObj)) (d : Nat) (t : TypeId) (s x : AV) (k : AV → List (Nm × AObj) → Prop) : Prop :=
 match dOf T t with
 | .slice e => tyOk T e fun ei => must (Nat.beq ei.size 1 && zeroOk ei) (match x with
  | .slm nx ox lx _ => (match objGet objs nx with
   | some (.cells _ l) => takeK (dropL l ox) lx fun m => must (allCellish m) (match s with
    | .val (.slice none 0 0) => lx * (ei.bytes + 1) ≤ 140737488355328 ∧ objInsK objs (nameOf d) (.fns e m 0) fun objs => k (.slv (nameOf d) 0 0 0 lx) objs
    | .slv n sz ver off len => (match objGet objs n with
     | some (.fns te l2 ver') => must (Nat.beq te e && (Nat.beq sz 0 && Nat.beq off 0)) ((ver = ver' ∧ len = l2.length) ∧ (len + lx) * (ei.bytes + 1) ≤ 140737488355328 ∧
       forceL (l2 ++ m) fun l3 => objSetK objs n (.fns e l3 (ver' + 1)) fun objs => k (.slv n 0 (ver' + 1) 0 (len + lx)) objs)
     | _ => False)
    | _ => False)
   | _ => False)
  | _ => False)
 | _ => False
def elemsF (ev : Operand → AV) : List (Nat × Operand) → Nat → (List AV → Prop) → Prop
 | [], _, k => k []
 | (i, x) :: ps, n, k => match Nat.beq i n with
  | false => False
  | true => force (ev x) fun c => match cellish c with
   | false => False
   | true => elemsF ev ps (n + 1) fun l => k (c :: l)
def fbuildK (objs : List (Nm × AObj)) (d : Nat) (t : TypeId) (len : Nat) (ps : List (Nat × Operand)) (ev : Operand → AV) (k : AV → List (Nm × AObj) → Prop) : Prop :=
 match dOf T t with
 | .slice e => tyOk T e fun ei => must (zeroOk ei && Nat.beq ei.size 1) (must (Nat.beq ps.length len && Nat.ble len 16777216) (elemsF ev ps 0 fun l =>
   objInsK objs (nameOf d) (.cells e l) fun objs => k (.slm (nameOf d) 0 l.length l.length) objs))
 | _ => False
def findexK (t : TypeId) (x i : AV) (k : AV → Prop) : Prop :=
 tyOk T t fun ti => (match ti.d with
  | .slice e => tyOk T e fun ei => must (Nat.beq ei.size 1) (match i with
   | .val (.int _ i) => (match x with
    | .slv n sz ver off len => must (Nat.beq sz 0 && Nat.beq off 0) (must (decide (0 ≤ i)) (must (decide (i < (len : Int))) (k (.ptv n 0 ver 0 i.toNat))))
    | _ => False)
   | _ => False)
  | _ => False)
def floadK (objs : List (Nm × AObj)) (t : TypeId) (p : AV) (k : AV → Prop) : Prop :=
 match p with
 | .ptv n sz ver i off => (match objGet objs n with
  | some (.fns _ l ver') => must (Nat.beq sz 0 && Nat.beq i 0) (ver = ver' ∧ aload T t (dropL l off) k)
  | _ => False)
 | _ => False
def extraOp (op : Op) (dst : Option Tmp) (ev : Operand → AV) (objs : List (Nm × AObj)) (k : AV → List (Nm × AObj) → Prop) : Prop :=
 match op with
 | .convert src dst x =>
  tyOk T src fun si => tyOk T dst fun di => (match di.d, ev x with
  | .string, .slm n off len _ => (match si.d with
   | .slice e => (match dOf T e with
    | .int .u8 => (match objGet objs n with
     | some (.cells _ l) => ∃ bs : List Int, ((l.drop off).take len = bs.map fun b => .val (.int .u8 b)) ∧ bs.length = len ∧ k (.val (.string (strOfNums bs))) objs
     | _ => False)
    | _ => False)
   | _ => False)
  | .slice e, .sl own sz l => (match own with
   | some n => (match dOf T e with
    | .int .u8 => (match objGet objs n with
     | some (.row _ _ top) => (match l with
      | [] => False
      | _ :: _ => must (Nat.beq src dst) (must (Nat.beq top l.length) (objSetK objs n .dead fun objs => k (.sl none sz l) objs)))
     | _ => False)
    | _ => False)
   | none => False)
  | _, _ => False)
 | .binOp op t x y _ =>
  (match dOf T t with
  | .slice _ => (match ev x, ev y with
   | .sl _ _ l, .val (.slice none 0 0) => (match op with
    | .eql => ∀ b : Bool, (b = true → l = []) → k (.val (.bool b)) objs
    | .neq => ∀ b : Bool, (b = true → l = []) → k (.val (.bool (!b))) objs
    | _ => False)
   | _, _ => False)
  | _ => False)
 | .call c =>
  (match c.callee with
  | .value f => (match ev f with
   | .fn (.func g) first cap => forceL (argsOf an dst ev c first cap) fun args => XCalls P g args fun r => k r objs
   | _ => False)
  | .builtin b => (match b, c.args.toList, c.argTypes.toList, dst with
   | .append, [s, x], [t, t2], some d => must (Nat.beq t t2) (fappK T objs d t (ev s) (ev x) k)
   | _, _, _, _ => False)
  | _ => False)
 | .indexAddr t x i => findexK T t (ev x) (ev i) fun v => k v objs
 | .load t p => floadK T objs t (ev p) fun v => k v objs
 | .buildSlice t len ps => (match dst with
  | some d => fbuildK T objs d t len ps.toList ev k
  | none => False)
 | .range t x => (match dst with
  | some d => rangeOpK T d t (ev x) objs k
  | none => False)
 | .next it s => (match s with
  | true => False
  | false => nextOpK (ev it) objs k)
 | .entry it => entryOpK (ev it) objs k
 | .lookup t m x ok =>
  (match dOf T t with
  | .map kt e => (match dOf T kt with
   | .string => tyOk T e fun ei => (match ev m, ev x with
    | .val (.map none), .val (.string s) => zeroA ei fun z => (match ok with
     | true => k (.tup [z, .val (.bool false)]) objs
     | false => k z objs)
    | _, _ => False)
   | _ => False)
  | _ => False)
 | _ => False
def lookN : List (Nat × Nat) → Nat → Option Nat
 | [], _ => none
 | (a, b) :: l, n => (match Nat.beq a n with
  | true => some b
  | false => lookN l n)
def frzOf (op : Op) : Option Nat :=
 match op with
 | .store _ x _ => (match x with
  | .tmp p => (match memN an.frz p with
   | true => some p
   | false => lookN an.frz2 p)
  | _ => none)
 | _ => none
def freezeK (p : Option Nat) (s : List AV) (ob : List (Nm × AObj)) (k : St → Prop) : Prop :=
 match p with
 | none => k ⟨s, ob⟩
 | some p => (match getL s p with
  | .ptr n off => (match Nat.beq off 0 with
   | true => (match objGet ob n with
    | some (.cells _ c) => forceL (c.map AV.strip) fun c => must (okCells c) (objSetK ob n .dead fun ob => setK s p (.cptr c 0) fun s => k ⟨s, ob⟩)
    | _ => False)
   | false => False)
  | _ => False)
def freezeVK (p : Option Nat) (st : St) (k : St → Prop) : Prop :=
 match p with
 | none => k st
 | some p => (match getL st.slots p with
  | .slv n size ver off len => (match objGet st.objs n with
   | some (.vec _ sz l ver') => must (Nat.beq sz size) ((ver = ver' ∧ off = 0 ∧ len = l.length) ∧ objSetK st.objs n .dead fun ob => setK st.slots p (.sl none size l) fun s => k ⟨s, ob⟩)
   | _ => False)
  | .sl (some n) size [] => (match objGet st.objs n with
   | some (.row t sz top) => must (Nat.beq sz size && Nat.beq top 0) (objSetK st.objs n (.vec t size [] 0) fun ob => setK st.slots p (.slv n size 0 0 0) fun s => k ⟨s, ob⟩)
   | _ => False)
  | .ptr _ _ => freezeK (some p) st.slots st.objs k
  | .junk => k st
  | _ => False)
def frvOf (o : Oper) : Option Nat :=
 match o.dst with
 | some d => lookN an.frv d
 | none => none
def awpOpY (o : Oper) (st : St) (k : St → Prop) : Prop :=
 match isExtra T o.op (evA st.slots) with
 | true => extraOp P T an o.op o.dst (evA st.slots) st.objs fun v objs => put ⟨st.slots, objs⟩ o.dst v k
 | false => awpOp P T an o st fun st => freezeK (frzOf an o.op) st.slots st.objs k
def awpOpX (o : Oper) (st : St) (k : St → Prop) : Prop := freezeVK (frvOf an o) st fun st => awpOpY P T an o st k


def awpOps (ops : Array Oper) : List Nat → St → (St → Prop) → Prop
 | [], st, k => k st
 | i :: rest, st, k => (match ops[i]? with
  | none => False
  | some o => guardK ops o st (fun st => awpOpX P T an o st fun st => awpOps ops rest st k) (fun st => put st o.dst (.val undef) fun st => awpOps ops rest st k))

def clsK (c : Cls) (quiet : Prop) (loud : Cls → Prop) : Prop :=
 match c with
 | .val [] => quiet
 | .val (n :: l) => loud (.val (n :: l))
 | .mk => loud .mk
 | .call => loud .call
 | .wr => loud .wr
def skipCls (c : Cls) : Cls :=
 match c with
 | .wr => .wr
 | _ => .val []
def plainOk (c : Cls) (b : Bool) : Bool :=
 match c with
 | .call => b
 | _ => true

def awpDraw (ops : Array Oper) : List (Nat × Cls) → List Nat → St → (St → Prop) → Prop
 | _, [], st, k => k st
 | seen, i :: rest, st, k => (match ops[i]? with
  | none => False
  | some o => guardK ops o st
    (fun st => clsK (clsOf an o.op o.dst (evA st.slots)) (awpOp P T an o st fun st => awpDraw ops seen rest st k)
     fun c => must (okAll ops i o c seen) (must (plainOk c (plainCall an o.op o.dst (evA st.slots))) (awpOp P T an o st fun st => awpDraw ops ((i, c) :: seen) rest st k)))
    (fun st => clsK (skipCls (clsOf an o.op o.dst (evA st.slots))) (put st o.dst (.val undef) fun st => awpDraw ops seen rest st k)
     fun c => must (okAll ops i o c seen) (put st o.dst (.val undef) fun st => awpDraw ops ((i, c) :: seen) rest st k)))

def opK (o : Oper) (k : Oper → Prop) : Prop := match o with | ⟨a, b, c, d, e, f⟩ => k ⟨a, b, c, d, e, f⟩
theorem opK_eq (o : Oper) (k : Oper → Prop) : opK o k = k o := by cases o; rfl
def xop (o : Oper) (st : St) (k : St → Prop) : Prop :=
 match o, st with
 | ⟨dst, op, _, _, _, _⟩, ⟨s, ob⟩ => genOp P T an op dst (evA s) ob fun v objs => put ⟨s, objs⟩ dst v k
theorem xop_eq (o : Oper) (st : St) (k : St → Prop) : xop P T an o st k = awpOp P T an o st k := by cases o; cases st; rfl

def xguard (ops : Array Oper) (o : Oper) (st : St) (yes no : St → Prop) : Prop :=
 match o, st with
 | ⟨_, _, _, _, _, g⟩, ⟨s, ob⟩ => (match g with
  | none => yes ⟨s, ob⟩
  | some (j, want) => (match ops[j]? with
   | none => False
   | some oj => (match oj.dst with
    | none => False
    | some d => (match getL s d with
     | .val (.bool b) =>
      br b (setK s d (.val (.bool true)) fun s => match want with | true => yes ⟨s, ob⟩ | false => no ⟨s, ob⟩)
         (setK s d (.val (.bool false)) fun s => match want with | true => no ⟨s, ob⟩ | false => yes ⟨s, ob⟩)
     | .val (.tuple _) => no ⟨s, ob⟩
     | _ => False))))
theorem xguard_eq (ops : Array Oper) (o : Oper) (st : St) (yes no : St → Prop) : xguard ops o st yes no = guardK ops o st yes no := by cases o; cases st; rfl


def noneLeft (left : List Nat) : List Edge → Bool
 | [] => true
 | e :: l => (match Region.binds .any e with
  | true => (match memN left e.on with
   | true => false
   | false => noneLeft left l)
  | false => noneLeft left l)
def readyN (ops : Array Oper) (left : List Nat) (i : Nat) : Bool :=
 match ops[i]? with
 | none => false
 | some o => noneLeft left o.after.toList
def eraseN : List Nat → Nat → List Nat
 | [], _ => []
 | j :: l, i => (match Nat.beq j i with
  | true => eraseN l i
  | false => j :: eraseN l i)
abbrev MotS := St → (St → Prop) → Prop
abbrev MotA := List Nat → MotS
def stepA (ops : Array Oper) (left : List Nat) (r : MotA) (i : Nat) : MotS := fun st k =>
 match ops[i]? with
 | none => False
 | some o => opK o fun o => xguard ops o st (fun st => xop P T an o st fun st => r (eraseN left i) st k) (fun st => put st o.dst (.val undef) fun st => r (eraseN left i) st k)
def eachC (ops : Array Oper) (left : List Nat) (r : MotA) (i : Nat) (_ : List Nat) (c : MotS) : MotS := fun st k =>
 match readyN ops left i with
 | true => stepA P T an ops left r i st k ∧ c st k
 | false => c st k
noncomputable def eachN (ops : Array Oper) (left : List Nat) (r : MotA) (l : List Nat) : MotS := List.rec (motive := fun _ => MotS) (fun _ _ => True) (eachC P T an ops left r) l
def allZ : MotA := fun left st k =>
 match left with
 | [] => k st
 | _ :: _ => False
def quietN (ops : Array Oper) (s : List AV) (i : Nat) : Bool :=
 match ops[i]? with
 | none => false
 | some o => (match (match o.guard with
   | some _ => an.gq
   | none => true) with
  | false => false
  | true => (match clsOf an o.op o.dst (evA s) with
   | .val r => (match r with
    | [] => true
    | _ :: _ => false)
   | _ => false))
def pickC (ops : Array Oper) (left : List Nat) (s : List AV) (q : Nat) (_ : List Nat) (r : Option Nat) : Option Nat :=
 match readyN ops left q with
 | true => (match quietN an ops s q with
  | true => some q
  | false => r)
 | false => r
noncomputable def pickQ (ops : Array Oper) (left : List Nat) (s : List AV) (l : List Nat) : Option Nat := List.rec (motive := fun _ => Option Nat) none (pickC an ops left s) l
noncomputable def allS (ops : Array Oper) (_ : Nat) (r : MotA) : MotA := fun left st k =>
 match left with
 | [] => k st
 | i :: l => (match st with
  | ⟨s, ob⟩ => (match pickQ an ops (i :: l) s (i :: l) with
   | some q => stepA P T an ops (i :: l) r q ⟨s, ob⟩ k
   | none => eachN P T an ops (i :: l) r (i :: l) ⟨s, ob⟩ k))
noncomputable def awpAll (ops : Array Oper) (n : Nat) : MotA := Nat.rec (motive := fun _ => MotA) allZ (allS P T an ops) n

def keepL (keep : List Nat) : List AV → Nat → List AV
 | [], _ => []
 | a :: l, i => (match memN keep i with
  | true => a
  | false => .junk) :: keepL keep l (i + 1)

def sift (live : List Nm) : List (Nm × AObj) → List (Nm × AObj)
 | [] => []
 | (n, o) :: l => (match (memN live n || Nat.blt n 64) with
  | true => (n, o) :: sift live l
  | false => sift live l)

def forceO : List (Nm × AObj) → (List (Nm × AObj) → Prop) → Prop
 | [], k => k []
 | (n, o) :: l, k => forceO l fun l' => k ((n, o) :: l')

def closedO (o : List (Nm × AObj)) : List (Nm × AObj) → Bool
 | [] => true
 | (_, x) :: l => (match closedN o (objNames x) with
  | true => closedO o l
  | false => false)

def normK (keep : List Nat) (st : St) (k : St → Prop) : Prop :=
 forceL (keepL keep st.slots 0) fun s => forceO (sift (reach st.objs 1000 (namesL s) []) st.objs) fun o => must (closedN o (namesL s)) (must (closedO o o) (k ⟨s, o⟩))

def rowsK (vec : List Nat) : List (Nat × TypeId) → St → (St → Prop) → Prop
 | [], st, k => k st
 | (d, e) :: l, st, k => (match st with
  | ⟨s, ob⟩ => (match getL s d with
   | .val (.slice none 0 0) => (match memN vec d with
    | true => objInsK ob (nameOf d) (.vec e (T.ti e).size [] 0) fun ob => setK s d (.slv (nameOf d) (T.ti e).size 0 0 0) fun s => rowsK vec l ⟨s, ob⟩ k
    | false => objInsK ob (nameOf d) (.row e (T.ti e).size 0) fun ob => setK s d (.sl (some (nameOf d)) (T.ti e).size []) fun s => rowsK vec l ⟨s, ob⟩ k)
   | _ => rowsK vec l ⟨s, ob⟩ k))
def nilFor : List (Nat × List (Nat × TypeId)) → Nat → List (Nat × TypeId)
 | [], _ => []
 | (i, l) :: ks, n => match Nat.beq i n with
  | true => l
  | false => nilFor ks n

inductive LoopP (F : (St → Prop) → St → Prop) : St → Prop where
 | mk (X : St → Prop) (hX : ∀ s, X s → LoopP F s) (s : St) (h : F X s) : LoopP F s
theorem LoopP.step {F : (St → Prop) → St → Prop} {st : St} (h : F (LoopP F) st) : LoopP F st := .mk _ (fun _ h => h) st h

def firstReg : Code → Nat
 | .region id _ _ => id
 | .seq a _ => firstReg a
 | .block _ b => firstReg b
 | .scope b => firstReg b
 | .loop b => firstReg b
 | .cond _ a _ => firstReg a
 | _ => 0
def keepFor : List (Nat × List Nat) → Nat → List Nat
 | [], _ => []
 | (i, l) :: ks, n => match Nat.beq i n with
  | true => l
  | false => keepFor ks n

def FW (ro : Option Nat) : Fence := { Fence.wide with round := ro }

structure AIter (P : Program) (g : FuncId) (caps : List AV) (xs : List (List AV)) : Prop where
 enter : ∀ args w, (callFunc g args).run P w = .ok (.enter g args) w
 run : ∀ (G : Gh) (w : World) (lb : List Value), (∀ b o v, G.K b o = some v → w.cell? ⟨b, o, none⟩ = some v) → RepL G caps lb →
  ∃ es : List (Array Value), es.length = xs.length ∧ (∀ (i : Nat) (x : List AV) (e : Array Value), xs[i]? = some x → es[i]? = some e → RepL ⟨G.K, fun _ => none⟩ x e.toList) ∧
   ∀ (l n : Nat) (J Jx : Nat → World → Prop),
    (∀ (m i : Nat) (e : Array Value) (W1 : World), es[i]? = some e → J i W1 → YieldAt (FW none) m P l e W1 fun r W' => (r = .returned (.bool true) ∧ J (i + 1) W') ∨ (r = .returned (.bool false) ∧ Jx (i + 1) W')) →
    (∀ (i : Nat) (W1 : World), J i W1 → ∀ b o v, G.K b o = some v → W1.cell? ⟨b, o, none⟩ = some v) →
    J 0 w → CallsIn (FW none) n P g (#[.func (.yield l) #[] #[]] ++ lb.toArray) w fun e W' => (∃ v, e = .returned v) ∧ (J es.length W' ∨ ∃ i, Jx i W')

def setPs : List AV → List Nat → List AV → List AV
 | s, p :: ps, x :: xs => setPs (setL s p x) ps xs
 | s, _, _ => s

def plainC : Code → Bool
 | .seq a b => (match plainC a with
  | true => plainC b
  | false => false)
 | .cond _ a b => (match plainC a with
  | true => plainC b
  | false => false)
 | .block _ b => plainC b
 | .scope b => plainC b
 | .loop _ => false
 | .rangeFunc _ _ _ _ => false
 | _ => true

def rangeK (keep : List Nat) (caps : List AV) (g : FuncId) (ps : List Nat) (round : St → (St → Prop) → (XK → St → Prop) → Prop) (st : St) (k : St → Prop) (kx : XK → St → Prop) : Prop :=
 normK keep st fun st => ∃ xs : List (List AV), AIter P g caps xs ∧ (∀ x ∈ xs, x.length = ps.length) ∧ ∃ I : Nat → St → Prop, I 0 st ∧
  (∀ (i : Nat) (x : List AV) (s : St), xs[i]? = some x → I i s → round ⟨setPs s.slots ps x, s.objs⟩ (fun s2 => normK keep ⟨s.slots, s2.objs⟩ (I (i + 1))) (fun e s2 => kx e ⟨s.slots, s2.objs⟩)) ∧
  ∀ s, I xs.length s → k s

structure Steps (Own : Nat → Prop) (K : Nat → Nat → Option Value) (w : World) (Own' : Nat → Prop) (K' : Nat → Nat → Option Value) (w' : World) : Prop where
 os : w'.os = w.os
 tape : w'.tape = w.tape
 output : w'.output = w.output
 size : w.heap.size ≤ w'.heap.size
 block : ∀ b, b < w.heap.size → ¬ Own b → w'.heap[b]? = w.heap[b]?
 own : ∀ b, Own' b → Own b ∨ w.heap.size ≤ b
 more : ∀ b o v, K b o = some v → K' b o = some v
 old : ∀ b o, b < w.heap.size → ¬ Own b → K' b o = K b o
 know : ∀ b o v, K' b o = some v → w'.cell? ⟨b, o, none⟩ = some v
 lies : ∀ b, Own' b → b < w'.heap.size

structure SIter (P : Program) (g : FuncId) (caps : List AV) (os : List AObj) (xs : List (List AV)) : Prop where
 enter : ∀ args w, (callFunc g args).run P w = .ok (.enter g args) w
 run : ∀ (G : Gh) (w : World) (lb : List Value), WR G (numbered 0 os) w → RepL G caps lb →
  ∀ (l n : Nat) (J : Nat → (Nat → Prop) → (Nat → Nat → Option Value) → World → Prop) (Jx : World → Prop),
   (∀ (m i : Nat) (x : List AV) (e : Array Value) (Own : Nat → Prop) (K : Nat → Nat → Option Value) (W1 : World), xs[i]? = some x → RepL ⟨K, fun _ => none⟩ x e.toList → J i Own K W1 →
    YieldAt (FW none) m P l e W1 fun r W' =>
     (r = .returned (.bool true) ∧ ∃ K', J (i + 1) Own K' W' ∧ (∀ b o v, K b o = some v → K' b o = some v) ∧ (∀ b, Own b → W'.heap[b]? = W1.heap[b]? ∧ ∀ o, K' b o = K b o) ∧ W'.os = W1.os ∧ W'.tape = W1.tape ∧ W'.output = W1.output ∧ W1.heap.size ≤ W'.heap.size) ∨
     (r = .returned (.bool false) ∧ Jx W')) →
   (∀ (i : Nat) (Own : Nat → Prop) (K : Nat → Nat → Option Value) (W : World) (Own' : Nat → Prop) (K' : Nat → Nat → Option Value) (W' : World), J i Own K W → Steps Own K W Own' K' W' → J i Own' K' W') →
   (∀ (i : Nat) (Own : Nat → Prop) (K : Nat → Nat → Option Value) (W : World), J i Own K W → ∀ b o v, K b o = some v → W.cell? ⟨b, o, none⟩ = some v) →
   J 0 (fun b => ∃ k, G.at k b) G.K w →
   CallsIn (FW none) n P g (#[.func (.yield l) #[] #[]] ++ lb.toArray) w fun e W' => (∃ v, e = .returned v) ∧ ((∃ Own K, J xs.length Own K W') ∨ Jx W')

def disjN (ns : List Nm) : List (Nm × AObj) → Bool
 | [] => true
 | (n, _) :: l => (match memN ns n with
  | true => false
  | false => disjN ns l)
def rangeS (keep : List Nat) (caps : List AV) (g : FuncId) (ps : List Nat) (round : St → (St → Prop) → (XK → St → Prop) → Prop) (st : St) (k : St → Prop) (kx : XK → St → Prop) : Prop :=
 partK st.objs (reach st.objs 1000 (namesL caps) []) fun ns os => must (subN (namesL caps) ns) (normK keep st fun st => must (disjN ns st.objs) (∃ xs : List (List AV), SIter P g (renL (idxN ns) caps) os xs ∧ (∀ x ∈ xs, x.length = ps.length) ∧ ∃ I : Nat → St → Prop, I 0 st ∧
  (∀ (i : Nat) (x : List AV) (s : St), xs[i]? = some x → I i s → round ⟨setPs s.slots ps x, s.objs⟩ (fun s2 => normK keep ⟨s.slots, s2.objs⟩ (I (i + 1))) (fun e s2 => kx e ⟨s.slots, s2.objs⟩)) ∧
  ∀ s, I xs.length s → k s))

noncomputable def awp : Code → St → (St → Prop) → (XK → St → Prop) → Prop
 | .skip, st, k, _ => k st
 | .region _ ops false, st, k, _ => awpOps P T an ops (upto ops.size []) st k
 | .region id ops true, st, k, _ => (match memN an.anyo id with
  | true => awpAll P T an ops (ops.size + 1) (upto ops.size []) st k
  | false => awpDraw P T an ops [] (upto ops.size []) st k)
 | .seq a b, st, k, kx => awp a st (fun st => awp b st k kx) kx
 | .cond c a b, st, k, kx => (match evA st.slots c with
  | .val (.bool c) => br c (awp a st k kx) (awp b st k kx)
  | _ => False)
 | .block id b, st, k, kx => awp b st k fun x st => (match x with
  | .exit id' => (match Nat.beq id' id with
   | true => k st
   | false => kx x st)
  | .ret => kx x st)
 | .scope b, st, k, kx => awp b st k kx
 | .loop b, st, _, kx => normK (keepFor an.keep (firstReg b)) st fun st => rowsK T an.vec (nilFor an.nilr (firstReg b)) st fun st => LoopP (fun X s => awp b s (fun s => normK (keepFor an.keep (firstReg b)) s X) kx) st
 | .exit id, st, _, kx => kx (.exit id) st
 | .ret, st, _, kx => kx .ret st
 | .label _, st, k, _ => k st
 | .rangeFunc g ps x b, st, k, kx => must (plainC x) (must (plainC b) (match evA st.slots g with
  | .fn (.func gf) [] caps => rangeK P (keepFor an.keep (firstReg x)) caps gf ps.toList (fun s k' kx' => awp x s (fun s => awp b s k' kx') (fun _ _ => False)) st k kx
   ∨ rangeS P (keepFor an.keep (firstReg x)) caps gf ps.toList (fun s k' kx' => awp x s (fun s => awp b s k' kx') (fun _ _ => False)) st k kx
  | _ => False))
 | _, _, _, _ => False

def retSlots (s : List AV) (objs : List (Nm × AObj)) : List ResultVar → (List AV → Prop) → Prop
 | [], k => k []
 | .tmp t :: rs, k => force (getL s t) fun a => retSlots s objs rs fun l => k (a :: l)
 | .cell x t :: rs, k => (match getL s x with
  | .ptr n off => (match objGet objs n with
   | some (.cells _ c) => aload T t (dropL c off) fun v => retSlots s objs rs fun l => k (v :: l)
   | _ => False)
  | _ => False)

def paramNames (objs : List (Nm × AObj)) : List Nat → List Nm
 | [] => []
 | i :: is => (match objGet objs i with
  | some o => objNames o ++ paramNames objs is
  | none => paramNames objs is)

def retK (rs : List ResultVar) (k : Nat) (st : St) (R : AV → List AObj → Prop) : Prop :=
 retSlots T st.slots st.objs rs fun l => forceL (match an.keepRes with | true => l | false => l.map AV.strips) fun l =>
   partK st.objs (revL (reach st.objs 1000 (namesL l ++ paramNames st.objs (upto k [])) (revL (upto k []) [])) []) fun ms os => must (prefixN (upto k []) ms) (must (subN (namesL l) ms) (forceL (renL (idxN ms) l) fun l => match l with
   | [a] => R a os
   | l => R (.tup l) os))

def junks : Nat → List AV
 | 0 => []
 | n + 1 => .junk :: junks n

def padTo : List AV → Nat → List AV
 | [], n => junks n
 | a :: l, 0 => a :: l
 | a :: l, n + 1 => a :: padTo l n

noncomputable def awpFn (fn : Func) (args : List AV) (os : List AObj) (R : AV → List AObj → Prop) : Prop :=
 match fn.body with
 | some c => must (Nat.ble os.length 64) (awp P T an c ⟨padTo args fn.ntmps, numbered 0 os⟩ (fun st => retK T an fn.results.toList os.length st R) fun x st => (match x with
  | .ret => retK T an fn.results.toList os.length st R
  | .exit _ => False))
 | none => False

end

end Go.Abs
