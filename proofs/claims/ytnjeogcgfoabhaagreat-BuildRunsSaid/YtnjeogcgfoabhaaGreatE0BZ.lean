/- The engine, BZ. -/
import Derived.Test.YtnjeogcgfoabhaaGreatE0B8
set_option linter.unusedVariables false
set_option linter.unusedSimpArgs false
namespace Go.Abs
open Go
section
variable (P : Program) (T : Tab) (an : Ann)
def stK (st : St) (k : List AV → List (Nm × aE) → Prop) : Prop := match st with | ⟨s, o⟩ => k s o
theorem DU (st : St) (k : List AV → List (Nm × aE) → Prop) : stK st k = k st.slots st.objs := by cases st; rfl
def GV (dst : Option Tmp) (op : Op) (s : List AV) (ob : List (Nm × aE)) (k : St → Prop) : Prop :=
 match Gx T op (evA s) with
  | true => gT P T an op dst (evA s) ob fun v objs => put ⟨s, objs⟩ dst v k
  | false => aQ P T an op dst (evA s) ob fun v objs => put ⟨s, objs⟩ dst v fun st => stK st fun s ob => nT (Nj an op) s ob k
def OI (dst : Option Tmp) : Option Nat :=
 match dst with
 | some d => Gt an.frv d
 | none => none
def NQ (o : Oper) (st : St) (k : St → Prop) : Prop :=
 match o, st with
 | ⟨dst, op, _, _, _, _⟩, ⟨s, ob⟩ => (match OI an dst with
  | none => GV P T an dst op s ob k
  | some p => nh (some p) ⟨s, ob⟩ fun st => stK st fun s ob => GV P T an dst op s ob k)
theorem Lr (o : Oper) (st : St) (k : St → Prop) : GV P T an o.dst o.op st.slots st.objs k = oe P T an o st k := by
 cases o; cases st;unfold GV oe ck;simp only [DU];rfl
theorem Ls (o : Oper) (st : St) (k : St → Prop) : NQ P T an o st k = tv P T an o st k := by
 have h : ∀ st, GV P T an o.dst o.op st.slots st.objs k = oe P T an o st k := fun st => Lr P T an o st k;have h2 : (fun st : St => GV P T an o.dst o.op st.slots st.objs k) = fun st => oe P T an o st k := funext h;obtain ⟨dst, op, ty, ps, af, gd⟩ := o
 cases st with
 | mk s ob =>
  have e : Nk an ⟨dst, op, ty, ps, af, gd⟩ = OI an dst := rfl;unfold tv;rw [← h2, e];simp only [NQ, DU]
  cases OI an dst <;> rfl
abbrev Li := St → (St → Prop) → Prop
def Oq : Li := fun st k => k st
def zU (ops : Array Oper) (i : Nat) (_ : List Nat) (r : Li) : Li := fun st k => (match ops[i]? with
  | none => False
  | some o => opK o fun o => zj ops o st (fun st => NQ P T an o st fun st => r st k) (fun st => put st o.dst (.val undef) fun st => r st k))
noncomputable def Lq (ops : Array Oper) (l : List Nat) : Li := List.rec (motive := fun _ => Li) Oq (zU P T an ops) l
theorem Lp (ops : Array Oper) : ∀ (l : List Nat) (st : St) (k : St → Prop), Lq P T an ops l st k = lK P T an ops l st k := by
 intro l
 induction l with
 | nil => intro st k; rfl
 | cons i l ih =>
  intro st k;show zU P T an ops i l (Lq P T an ops l) st k = _;unfold zU lK
  cases ops[i]? with
  | none => rfl
  | some o => simp only [zV, pE, Ls, ih]
abbrev Lj := List (Nat × Cls) → St → (St → Prop) → Prop
def Mu : Lj := fun _ st k => k st
def wx (ops : Array Oper) (i : Nat) (_ : List Nat) (r : Lj) : Lj := fun seen st k => (match ops[i]? with
  | none => False
  | some o => opK o fun o => zj ops o st
    (fun st => stK st fun s ob => xI (bH an o.op o.dst (evA s)) (xop P T an o ⟨s, ob⟩ fun st => r seen st k)
     fun c => bQ (lz ops i o c seen) (bQ (i6 c (eZ an o.op o.dst (evA s))) (xop P T an o ⟨s, ob⟩ fun st => r ((i, c) :: seen) st k)))
    (fun st => stK st fun s ob => xI (kg (bH an o.op o.dst (evA s))) (put ⟨s, ob⟩ o.dst (.val undef) fun st => r seen st k)
     fun c => bQ (lz ops i o c seen) (put ⟨s, ob⟩ o.dst (.val undef) fun st => r ((i, c) :: seen) st k)))
noncomputable def I5 (ops : Array Oper) (l : List Nat) : Lj := List.rec (motive := fun _ => Lj) Mu (wx P T an ops) l
theorem I4 (ops : Array Oper) : ∀ (l : List Nat) (seen : List (Nat × Cls)) (st : St) (k : St → Prop), I5 P T an ops l seen st k = c7 P T an ops seen l st k := by
 intro l
 induction l with
 | nil => intro seen st k; simp only [c7]; rfl
 | cons i l ih =>
  intro seen st k;show wx P T an ops i l (I5 P T an ops l) seen st k = _;unfold wx c7
  cases ops[i]? with
  | none => rfl
  | some o => simp only [zV, DU, pE, Du, ih]
abbrev oG := St → (St → Prop) → (XK → St → Prop) → Prop
def QN : oG := fun st k _ => k st
def Nt : oG := fun _ _ _ => False
noncomputable def AH (id : Nat) (ops : Array Oper) (d : Bool) : oG := fun st k _ => (match d with
 | false => L5 (qB an.pre id) st fun st => Lq P T an ops (oD ops.size []) st k
 | true => (match ig an.anyo id with
  | true => wW P T an ops (ops.size + 1) (oD ops.size []) st k
  | false => I5 P T an ops (oD ops.size []) [] st k))
def OZ (_ _ : Code) (a b : oG) : oG := fun st k kx => a st (fun st => b st k kx) kx
def KJ (c : Operand) (_ _ : Code) (a b : oG) : oG := fun st k kx => (match evA st.slots c with
  | .val (.bool c) => br c (a st k kx) (b st k kx)
  | _ => False)
def Fh (id : Nat) (_ : Code) (b : oG) : oG := fun st k kx => b st k fun x st => (match x with
  | .exit id' => (match Nat.beq id' id with
   | true => k st
   | false => kx x st)
  | .ret => kx x st)
def KG (b : Code) (r : oG) : oG := fun st _ kx => oz (kL an.keep (fj b)) st fun st => vl T an.vec (Ew an.nilr (fj b)) st fun st => aq (fun X s => r s (fun s => oz (kL an.keep (fj b)) s X) kx) st
def QO (id : Nat) : oG := fun st _ kx => kx (.exit id) st
def T9 : oG := fun st _ kx => kx .ret st
def O1 (_ : Nat) : oG := fun st k _ => k st
def Fg (g : Operand) (ps : Array Tmp) (x b : Code) (rx rb : oG) : oG := fun st k kx => bQ (eI an x) (bQ (eI an b) (match evA st.slots g with
  | .fn (.func gf) [] caps => Ej P (kL an.keep (fj x)) caps gf ps.toList (fun s k' kx' => rx s (fun s => rb s k' kx') (fun _ _ => False)) st k kx
   ∨ zP P (kL an.keep (fj x)) caps gf ps.toList (fun s k' kx' => rx s (fun s => rb s k' kx') (fun _ _ => False)) st k kx
  | _ => False))
noncomputable def xwp (c : Code) : oG := Code.rec (motive := fun _ => oG) QN (AH P T an) OZ KJ Fh (KG T an) (Fg P an) QO (fun _ r => r) O1 (fun _ => Nt) T9 (fun _ => Nt) c
theorem mw : ∀ (c : Code) (st : St) (k : St → Prop) (kx : XK → St → Prop), xwp P T an c st k kx = awp P T an c st k kx
 | .skip, st, k, kx => rfl
 | .region id ops false, st, k, kx => by
  show L5 (qB an.pre id) st (fun st => Lq P T an ops (oD ops.size []) st k) = L5 (qB an.pre id) st (fun st => lK P T an ops (oD ops.size []) st k);congr 1;funext st;exact Lp P T an ops _ st k
 | .region id ops true, st, k, kx => by
  show AH P T an id ops true st k kx = _;simp only [AH, awp, I4]
  cases ig an.anyo id <;> rfl
 | .seq a b, st, k, kx => by
  show OZ a b (xwp P T an a) (xwp P T an b) st k kx = _;simp only [OZ, awp, mw a, mw b]
 | .cond c a b, st, k, kx => by
  show KJ c a b (xwp P T an a) (xwp P T an b) st k kx = _;simp only [KJ, awp, mw a, mw b]; rfl
 | .block id b, st, k, kx => by
  show Fh id b (xwp P T an b) st k kx = _;simp only [Fh, awp, mw b]; rfl
 | .loop b, st, k, kx => by
  show KG T an b (xwp P T an b) st k kx = _;simp only [KG, awp, mw b]
 | .exit id, st, k, kx => rfl
 | .ret, st, k, kx => rfl
 | .label l, st, k, kx => rfl
 | .rangeFunc g ps x b, st, k, kx => by
  show Fg P an g ps x b (xwp P T an x) (xwp P T an b) st k kx = _;simp only [Fg, awp, mw x, mw b]; rfl
 | .scope b, st, k, kx => by
  show xwp P T an b st k kx = _;simp only [awp, mw b]
 | .goto .., st, k, kx => rfl
 | .refuse .., st, k, kx => rfl
noncomputable def MW (fn : Func) (args : List AV) (os : List aE) (R : AV → List aE → Prop) : Prop :=
 match fn.body with
 | some c => bQ (Nat.ble os.length 64) (dY (tU args fn.ntmps) fun s => wm (bC 0 os) fun ob => xwp P T an c ⟨s, ob⟩ (fun st => Eg T an fn.results.toList os.length st R) fun x st => (match x with
  | .ret => Eg T an fn.results.toList os.length st R
  | .exit _ => False))
 | none => False
end
theorem aa {P : Program} {T : Tab} {an : Ann} {f : FuncId} {fn : Func} {args : List AV} {os : List aE} {R : AV → List aE → Prop} (hT : cd P T) (hf : P.funcs[f]? = some fn) (h : MW P T an fn args os R) (he : T.fn f = true := by rfl) : ag P f args os R := by
 refine xR (an := an) hT hf ?_ he;unfold MW at h;unfold KT;simp only [co, yQ, mw] at h;exact h
end Go.Abs
