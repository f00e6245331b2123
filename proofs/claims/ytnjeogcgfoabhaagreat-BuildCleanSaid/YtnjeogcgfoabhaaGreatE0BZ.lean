/- The engine, BZ. -/
import Derived.Test.YtnjeogcgfoabhaaGreatE0B8
set_option linter.unusedVariables false
set_option linter.unusedSimpArgs false
namespace Go.Abs
open Go
section
variable (P : Program) (T : Tab) (an : Ann)
def stK (st : St) (k : List AV → List (Nm × aF) → Prop) : Prop := match st with | ⟨s, o⟩ => k s o
theorem DW (st : St) (k : List AV → List (Nm × aF) → Prop) : stK st k = k st.slots st.objs := by cases st; rfl
def GW (dst : Option Tmp) (op : Op) (s : List AV) (ob : List (Nm × aF)) (k : St → Prop) : Prop :=
 match Gy T op (evA s) with
  | true => gW P T an op dst (evA s) ob fun v objs => put ⟨s, objs⟩ dst v k
  | false => aT P T an op dst (evA s) ob fun v objs => put ⟨s, objs⟩ dst v fun st => stK st fun s ob => nY (Nj an op) s ob k
def OI (dst : Option Tmp) : Option Nat :=
 match dst with
 | some d => Gu an.frv d
 | none => none
def NQ (o : Oper) (st : St) (k : St → Prop) : Prop :=
 match o, st with
 | ⟨dst, op, _, _, _, _⟩, ⟨s, ob⟩ => (match OI an dst with
  | none => GW P T an dst op s ob k
  | some p => nu (some p) ⟨s, ob⟩ fun st => stK st fun s ob => GW P T an dst op s ob k)
theorem Lr (o : Oper) (st : St) (k : St → Prop) : GW P T an o.dst o.op st.slots st.objs k = oo P T an o st k := by
 cases o; cases st;unfold GW oo cn;simp only [DW];rfl
theorem Ls (o : Oper) (st : St) (k : St → Prop) : NQ P T an o st k = tC P T an o st k := by
 have h : ∀ st, GW P T an o.dst o.op st.slots st.objs k = oo P T an o st k := fun st => Lr P T an o st k;have h2 : (fun st : St => GW P T an o.dst o.op st.slots st.objs k) = fun st => oo P T an o st k := funext h;obtain ⟨dst, op, ty, ps, af, gd⟩ := o
 cases st with
 | mk s ob =>
  have e : Nk an ⟨dst, op, ty, ps, af, gd⟩ = OI an dst := rfl;unfold tC;rw [← h2, e];simp only [NQ, DW]
  cases OI an dst <;> rfl
abbrev Li := St → (St → Prop) → Prop
def Oq : Li := fun st k => k st
def zZ (ops : Array Oper) (i : Nat) (_ : List Nat) (r : Li) : Li := fun st k => (match ops[i]? with
  | none => False
  | some o => opK o fun o => zo ops o st (fun st => NQ P T an o st fun st => r st k) (fun st => put st o.dst (.val undef) fun st => r st k))
noncomputable def Lq (ops : Array Oper) (l : List Nat) : Li := List.rec (motive := fun _ => Li) Oq (zZ P T an ops) l
theorem Lp (ops : Array Oper) : ∀ (l : List Nat) (st : St) (k : St → Prop), Lq P T an ops l st k = l6 P T an ops l st k := by
 intro l
 induction l with
 | nil => intro st k; rfl
 | cons i l ih =>
  intro st k;show zZ P T an ops i l (Lq P T an ops l) st k = _;unfold zZ l6
  cases ops[i]? with
  | none => rfl
  | some o => simp only [z6, pG, Ls, ih]
abbrev Lj := List (Nat × Cls) → St → (St → Prop) → Prop
def Mu : Lj := fun _ st k => k st
def wE (ops : Array Oper) (i : Nat) (_ : List Nat) (r : Lj) : Lj := fun seen st k => (match ops[i]? with
  | none => False
  | some o => opK o fun o => zo ops o st
    (fun st => stK st fun s ob => xN (bJ an o.op o.dst (evA s)) (xop P T an o ⟨s, ob⟩ fun st => r seen st k)
     fun c => bV (lP ops i o c seen) (bV (jd c (fj an o.op o.dst (evA s))) (xop P T an o ⟨s, ob⟩ fun st => r ((i, c) :: seen) st k)))
    (fun st => stK st fun s ob => xN (kD (bJ an o.op o.dst (evA s))) (put ⟨s, ob⟩ o.dst (.val undef) fun st => r seen st k)
     fun c => bV (lP ops i o c seen) (put ⟨s, ob⟩ o.dst (.val undef) fun st => r ((i, c) :: seen) st k)))
noncomputable def I6 (ops : Array Oper) (l : List Nat) : Lj := List.rec (motive := fun _ => Lj) Mu (wE P T an ops) l
theorem I5 (ops : Array Oper) : ∀ (l : List Nat) (seen : List (Nat × Cls)) (st : St) (k : St → Prop), I6 P T an ops l seen st k = dc P T an ops seen l st k := by
 intro l
 induction l with
 | nil => intro seen st k; simp only [dc]; rfl
 | cons i l ih =>
  intro seen st k;show wE P T an ops i l (I6 P T an ops l) seen st k = _;unfold wE dc
  cases ops[i]? with
  | none => rfl
  | some o => simp only [z6, DW, pG, Dw, ih]
abbrev oK := St → (St → Prop) → (XK → St → Prop) → Prop
def QO : oK := fun st k _ => k st
def Nt : oK := fun _ _ _ => False
noncomputable def AL (id : Nat) (ops : Array Oper) (d : Bool) : oK := fun st k _ => (match d with
 | false => L5 (qE an.pre id) st fun st => Lq P T an ops (oH ops.size []) st k
 | true => (match im an.anyo id with
  | true => w6 P T an ops (ops.size + 1) (oH ops.size []) st k
  | false => I6 P T an ops (oH ops.size []) [] st k))
def OZ (_ _ : Code) (a b : oK) : oK := fun st k kx => a st (fun st => b st k kx) kx
def KJ (c : Operand) (_ _ : Code) (a b : oK) : oK := fun st k kx => (match evA st.slots c with
  | .val (.bool c) => br c (a st k kx) (b st k kx)
  | _ => False)
def Fj (id : Nat) (_ : Code) (b : oK) : oK := fun st k kx => b st k fun x st => (match x with
  | .exit id' => (match Nat.beq id' id with
   | true => k st
   | false => kx x st)
  | .ret => kx x st)
def KG (b : Code) (r : oK) : oK := fun st _ kx => oE (ld an.keep (fv b)) st fun st => vr T an.vec (Ey an.nilr (fv b)) st fun st => au (fun X s => r s (fun s => oE (ld an.keep (fv b)) s X) kx) st
def QP (id : Nat) : oK := fun st _ kx => kx (.exit id) st
def T9 : oK := fun st _ kx => kx .ret st
def O1 (_ : Nat) : oK := fun st k _ => k st
def Fi (g : Operand) (ps : Array Tmp) (x b : Code) (rx rb : oK) : oK := fun st k kx => bV (eQ an x) (bV (eQ an b) (match evA st.slots g with
  | .fn (.func gf) [] caps => El P (ld an.keep (fv x)) caps gf ps.toList (fun s k' kx' => rx s (fun s => rb s k' kx') (fun _ _ => False)) st k kx
   ∨ zT P (ld an.keep (fv x)) caps gf ps.toList (fun s k' kx' => rx s (fun s => rb s k' kx') (fun _ _ => False)) st k kx
  | _ => False))
noncomputable def xwp (c : Code) : oK := Code.rec (motive := fun _ => oK) QO (AL P T an) OZ KJ Fj (KG T an) (Fi P an) QP (fun _ r => r) O1 (fun _ => Nt) T9 (fun _ => Nt) c
theorem mJ : ∀ (c : Code) (st : St) (k : St → Prop) (kx : XK → St → Prop), xwp P T an c st k kx = awp P T an c st k kx
 | .skip, st, k, kx => rfl
 | .region id ops false, st, k, kx => by
  show L5 (qE an.pre id) st (fun st => Lq P T an ops (oH ops.size []) st k) = L5 (qE an.pre id) st (fun st => l6 P T an ops (oH ops.size []) st k);congr 1;funext st;exact Lp P T an ops _ st k
 | .region id ops true, st, k, kx => by
  show AL P T an id ops true st k kx = _;simp only [AL, awp, I5]
  cases im an.anyo id <;> rfl
 | .seq a b, st, k, kx => by
  show OZ a b (xwp P T an a) (xwp P T an b) st k kx = _;simp only [OZ, awp, mJ a, mJ b]
 | .cond c a b, st, k, kx => by
  show KJ c a b (xwp P T an a) (xwp P T an b) st k kx = _;simp only [KJ, awp, mJ a, mJ b]; rfl
 | .block id b, st, k, kx => by
  show Fj id b (xwp P T an b) st k kx = _;simp only [Fj, awp, mJ b]; rfl
 | .loop b, st, k, kx => by
  show KG T an b (xwp P T an b) st k kx = _;simp only [KG, awp, mJ b]
 | .exit id, st, k, kx => rfl
 | .ret, st, k, kx => rfl
 | .label l, st, k, kx => rfl
 | .rangeFunc g ps x b, st, k, kx => by
  show Fi P an g ps x b (xwp P T an x) (xwp P T an b) st k kx = _;simp only [Fi, awp, mJ x, mJ b]; rfl
 | .scope b, st, k, kx => by
  show xwp P T an b st k kx = _;simp only [awp, mJ b]
 | .goto .., st, k, kx => rfl
 | .refuse .., st, k, kx => rfl
noncomputable def MW (fn : Func) (args : List AV) (os : List aF) (R : AV → List aF → Prop) : Prop :=
 match fn.body with
 | some c => bV (Nat.ble os.length 64) (d9 (tZ args fn.ntmps) fun s => wu (bE 0 os) fun ob => xwp P T an c ⟨s, ob⟩ (fun st => Ei T an fn.results.toList os.length st R) fun x st => (match x with
  | .ret => Ei T an fn.results.toList os.length st R
  | .exit _ => False))
 | none => False
end
theorem ab {P : Program} {T : Tab} {an : Ann} {f : FuncId} {fn : Func} {args : List AV} {os : List aF} {R : AV → List aF → Prop} (hT : cg P T) (hf : P.funcs[f]? = some fn) (h : MW P T an fn args os R) (he : T.fn f = true := by rfl) : ag P f args os R := by
 refine xX (an := an) hT hf ?_ he;unfold MW at h;unfold KT;simp only [cq, yV, mJ] at h;exact h
end Go.Abs
