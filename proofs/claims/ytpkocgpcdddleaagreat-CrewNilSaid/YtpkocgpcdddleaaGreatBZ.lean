/- The engine, part 17 and a half: the same statement once more, so written that a kernel that evaluates it meets no delayed terms. -/
import Derived.Test.YtpkocgpcdddleaaGreatB8
set_option linter.unusedVariables false
set_option linter.unusedSimpArgs false
namespace Go.Abs
open Go

section
variable (P : Program) (T : Tab) (an : Ann)

def stK (st : St) (k : List AV → List (Nm × AObj) → Prop) : Prop := match st with | ⟨s, o⟩ => k s o
theorem stK_eq (st : St) (k : List AV → List (Nm × AObj) → Prop) : stK st k = k st.slots st.objs := by cases st; rfl

def xopY (dst : Option Tmp) (op : Op) (s : List AV) (ob : List (Nm × AObj)) (k : St → Prop) : Prop :=
 match isExtra T op (evA s) with
  | true => extraOp P T an op dst (evA s) ob fun v objs => put ⟨s, objs⟩ dst v k
  | false => genOp P T an op dst (evA s) ob fun v objs => put ⟨s, objs⟩ dst v fun st => stK st fun s ob => freezeK (frzOf an op) s ob k
def frvT (dst : Option Tmp) : Option Nat :=
 match dst with
 | some d => lookN an.frv d
 | none => none
def xopX (o : Oper) (st : St) (k : St → Prop) : Prop :=
 match o, st with
 | ⟨dst, op, _, _, _, _⟩, ⟨s, ob⟩ => (match frvT an dst with
  | none => xopY P T an dst op s ob k
  | some p => freezeVK (some p) ⟨s, ob⟩ fun st => stK st fun s ob => xopY P T an dst op s ob k)
theorem xopY_eq (o : Oper) (st : St) (k : St → Prop) : xopY P T an o.dst o.op st.slots st.objs k = awpOpY P T an o st k := by
 cases o; cases st
 unfold xopY awpOpY awpOp
 simp only [stK_eq]
 rfl
theorem xopX_eq (o : Oper) (st : St) (k : St → Prop) : xopX P T an o st k = awpOpX P T an o st k := by
 have h : ∀ st, xopY P T an o.dst o.op st.slots st.objs k = awpOpY P T an o st k := fun st => xopY_eq P T an o st k
 have h2 : (fun st : St => xopY P T an o.dst o.op st.slots st.objs k) = fun st => awpOpY P T an o st k := funext h
 obtain ⟨dst, op, ty, ps, af, gd⟩ := o
 cases st with
 | mk s ob =>
  have e : frvOf an ⟨dst, op, ty, ps, af, gd⟩ = frvT an dst := rfl
  unfold awpOpX
  rw [← h2, e]
  simp only [xopX, stK_eq]
  cases frvT an dst <;> rfl
abbrev MotO := St → (St → Prop) → Prop
def opsNil : MotO := fun st k => k st
def opsCons (ops : Array Oper) (i : Nat) (_ : List Nat) (r : MotO) : MotO := fun st k => (match ops[i]? with
  | none => False
  | some o => opK o fun o => xguard ops o st (fun st => xopX P T an o st fun st => r st k) (fun st => put st o.dst (.val undef) fun st => r st k))
noncomputable def xops (ops : Array Oper) (l : List Nat) : MotO := List.rec (motive := fun _ => MotO) opsNil (opsCons P T an ops) l
theorem xops_eq (ops : Array Oper) : ∀ (l : List Nat) (st : St) (k : St → Prop), xops P T an ops l st k = awpOps P T an ops l st k := by
 intro l
 induction l with
 | nil => intro st k; rfl
 | cons i l ih =>
  intro st k
  show opsCons P T an ops i l (xops P T an ops l) st k = _
  unfold opsCons awpOps
  cases ops[i]? with
  | none => rfl
  | some o => simp only [opK_eq, xguard_eq, xopX_eq, ih]

abbrev MotD := List (Nat × Cls) → St → (St → Prop) → Prop
def drawNil : MotD := fun _ st k => k st
def drawCons (ops : Array Oper) (i : Nat) (_ : List Nat) (r : MotD) : MotD := fun seen st k => (match ops[i]? with
  | none => False
  | some o => opK o fun o => xguard ops o st
    (fun st => stK st fun s ob => clsK (clsOf an o.op o.dst (evA s)) (xop P T an o ⟨s, ob⟩ fun st => r seen st k)
     fun c => must (okAll ops i o c seen) (must (plainOk c (plainCall an o.op o.dst (evA s))) (xop P T an o ⟨s, ob⟩ fun st => r ((i, c) :: seen) st k)))
    (fun st => stK st fun s ob => clsK (skipCls (clsOf an o.op o.dst (evA s))) (put ⟨s, ob⟩ o.dst (.val undef) fun st => r seen st k)
     fun c => must (okAll ops i o c seen) (put ⟨s, ob⟩ o.dst (.val undef) fun st => r ((i, c) :: seen) st k)))
noncomputable def xdraw (ops : Array Oper) (l : List Nat) : MotD := List.rec (motive := fun _ => MotD) drawNil (drawCons P T an ops) l
theorem xdraw_eq (ops : Array Oper) : ∀ (l : List Nat) (seen : List (Nat × Cls)) (st : St) (k : St → Prop), xdraw P T an ops l seen st k = awpDraw P T an ops seen l st k := by
 intro l
 induction l with
 | nil => intro seen st k; simp only [awpDraw]; rfl
 | cons i l ih =>
  intro seen st k
  show drawCons P T an ops i l (xdraw P T an ops l) seen st k = _
  unfold drawCons awpDraw
  cases ops[i]? with
  | none => rfl
  | some o => simp only [opK_eq, stK_eq, xguard_eq, xop_eq, ih]

abbrev MotC := St → (St → Prop) → (XK → St → Prop) → Prop
def cSkip : MotC := fun st k _ => k st
def cNone : MotC := fun _ _ _ => False
noncomputable def cRegion (id : Nat) (ops : Array Oper) (d : Bool) : MotC := fun st k _ => (match d with
 | false => xops P T an ops (upto ops.size []) st k
 | true => (match memN an.anyo id with
  | true => awpAll P T an ops (ops.size + 1) (upto ops.size []) st k
  | false => xdraw P T an ops (upto ops.size []) [] st k))
def cSeq (_ _ : Code) (a b : MotC) : MotC := fun st k kx => a st (fun st => b st k kx) kx
def cCond (c : Operand) (_ _ : Code) (a b : MotC) : MotC := fun st k kx => (match evA st.slots c with
  | .val (.bool c) => br c (a st k kx) (b st k kx)
  | _ => False)
def cBlock (id : Nat) (_ : Code) (b : MotC) : MotC := fun st k kx => b st k fun x st => (match x with
  | .exit id' => (match Nat.beq id' id with
   | true => k st
   | false => kx x st)
  | .ret => kx x st)
def cLoop (b : Code) (r : MotC) : MotC := fun st _ kx => normK (keepFor an.keep (firstReg b)) st fun st => rowsK T an.vec (nilFor an.nilr (firstReg b)) st fun st => LoopP (fun X s => r s (fun s => normK (keepFor an.keep (firstReg b)) s X) kx) st
def cExit (id : Nat) : MotC := fun st _ kx => kx (.exit id) st
def cRet : MotC := fun st _ kx => kx .ret st
def cLabel (_ : Nat) : MotC := fun st k _ => k st
def cRange (g : Operand) (ps : Array Tmp) (x b : Code) (rx rb : MotC) : MotC := fun st k kx => must (plainC x) (must (plainC b) (match evA st.slots g with
  | .fn (.func gf) [] caps => rangeK P (keepFor an.keep (firstReg x)) caps gf ps.toList (fun s k' kx' => rx s (fun s => rb s k' kx') (fun _ _ => False)) st k kx
   ∨ rangeS P (keepFor an.keep (firstReg x)) caps gf ps.toList (fun s k' kx' => rx s (fun s => rb s k' kx') (fun _ _ => False)) st k kx
  | _ => False))
noncomputable def xwp (c : Code) : MotC := Code.rec (motive := fun _ => MotC) cSkip (cRegion P T an) cSeq cCond cBlock (cLoop T an) (cRange P an) cExit (fun _ r => r) cLabel (fun _ => cNone) cRet (fun _ => cNone) c

theorem xwp_eq : ∀ (c : Code) (st : St) (k : St → Prop) (kx : XK → St → Prop), xwp P T an c st k kx = awp P T an c st k kx
 | .skip, st, k, kx => rfl
 | .region _ ops false, st, k, kx => xops_eq P T an ops _ st k
 | .region id ops true, st, k, kx => by
  show cRegion P T an id ops true st k kx = _
  simp only [cRegion, awp, xdraw_eq]
  cases memN an.anyo id <;> rfl
 | .seq a b, st, k, kx => by
  show cSeq a b (xwp P T an a) (xwp P T an b) st k kx = _
  simp only [cSeq, awp, xwp_eq a, xwp_eq b]
 | .cond c a b, st, k, kx => by
  show cCond c a b (xwp P T an a) (xwp P T an b) st k kx = _
  simp only [cCond, awp, xwp_eq a, xwp_eq b]; rfl
 | .block id b, st, k, kx => by
  show cBlock id b (xwp P T an b) st k kx = _
  simp only [cBlock, awp, xwp_eq b]; rfl
 | .loop b, st, k, kx => by
  show cLoop T an b (xwp P T an b) st k kx = _
  simp only [cLoop, awp, xwp_eq b]
 | .exit id, st, k, kx => rfl
 | .ret, st, k, kx => rfl
 | .label l, st, k, kx => rfl
 | .rangeFunc g ps x b, st, k, kx => by
  show cRange P an g ps x b (xwp P T an x) (xwp P T an b) st k kx = _
  simp only [cRange, awp, xwp_eq x, xwp_eq b]; rfl
 | .scope b, st, k, kx => by
  show xwp P T an b st k kx = _
  simp only [awp, xwp_eq b]
 | .goto .., st, k, kx => rfl
 | .refuse .., st, k, kx => rfl

noncomputable def xwpFn (fn : Func) (args : List AV) (os : List AObj) (R : AV → List AObj → Prop) : Prop :=
 match fn.body with
 | some c => must (Nat.ble os.length 64) (forceL (padTo args fn.ntmps) fun s => forceO (numbered 0 os) fun ob => xwp P T an c ⟨s, ob⟩ (fun st => retK T an fn.results.toList os.length st R) fun x st => (match x with
  | .ret => retK T an fn.results.toList os.length st R
  | .exit _ => False))
 | none => False
end

theorem acalls_of_xwp {P : Program} {T : Tab} {an : Ann} {f : FuncId} {fn : Func} {args : List AV} {os : List AObj} {R : AV → List AObj → Prop} (hT : TabOk P T) (hf : P.funcs[f]? = some fn) (h : xwpFn P T an fn args os R) (he : T.fn f = true := by rfl) : ACalls P f args os R := by
 refine acalls_of_awp (an := an) hT hf ?_ he
 unfold xwpFn at h
 unfold awpFn
 simp only [forceL_eq, forceO_eq, xwp_eq] at h
 exact h
end Go.Abs
