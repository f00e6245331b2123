/- The engine, BZ. -/
import Derived.Test.YtnjeogcgfoabhaaGreatE0B8
set_option linter.unusedVariables false
set_option linter.unusedSimpArgs false
namespace Go.Abs
open Go
section
variable (P : Program) (T : Tab) (an : Ann)
def stK (st : St) (k : List AV → List (Nm × aF) → Prop) : Prop := match st with | ⟨s, o⟩ => k s o
theorem DG (st : St) (k : List AV → List (Nm × aF) → Prop) : stK st k = k st.slots st.objs := by cases st; rfl
def Gy (dst : Option Tmp) (op : Op) (s : List AV) (ob : List (Nm × aF)) (k : St → Prop) : Prop :=
 match Gc T op (evA s) with
  | true => gR P T an op dst (evA s) ob fun v objs => put ⟨s, objs⟩ dst v k
  | false => aR P T an op dst (evA s) ob fun v objs => put ⟨s, objs⟩ dst v fun st => stK st fun s ob => nN (MX an op) s ob k
def Om (dst : Option Tmp) : Option Nat :=
 match dst with
 | some d => F8 an.frv d
 | none => none
def Nw (o : Oper) (st : St) (k : St → Prop) : Prop :=
 match o, st with
 | ⟨dst, op, _, _, _, _⟩, ⟨s, ob⟩ => (match Om an dst with
  | none => Gy P T an dst op s ob k
  | some p => ng (some p) ⟨s, ob⟩ fun st => stK st fun s ob => Gy P T an dst op s ob k)
theorem K3 (o : Oper) (st : St) (k : St → Prop) : Gy P T an o.dst o.op st.slots st.objs k = n5 P T an o st k := by
 cases o; cases st;unfold Gy n5 ck;simp only [DG];rfl
theorem K4 (o : Oper) (st : St) (k : St → Prop) : Nw P T an o st k = tf P T an o st k := by
 have h : ∀ st, Gy P T an o.dst o.op st.slots st.objs k = n5 P T an o st k := fun st => K3 P T an o st k;have h2 : (fun st : St => Gy P T an o.dst o.op st.slots st.objs k) = fun st => n5 P T an o st k := funext h;obtain ⟨dst, op, ty, ps, af, gd⟩ := o
 cases st with
 | mk s ob =>
  have e : MY an ⟨dst, op, ty, ps, af, gd⟩ = Om an dst := rfl;unfold tf;rw [← h2, e];simp only [Nw, DG]
  cases Om an dst <;> rfl
abbrev KU := St → (St → Prop) → Prop
def N5 : KU := fun st k => k st
def zJ (ops : Array Oper) (i : Nat) (_ : List Nat) (r : KU) : KU := fun st k => (match ops[i]? with
  | none => False
  | some o => opK o fun o => y7 ops o st (fun st => Nw P T an o st fun st => r st k) (fun st => put st o.dst (.val undef) fun st => r st k))
noncomputable def K2 (ops : Array Oper) (l : List Nat) : KU := List.rec (motive := fun _ => KU) N5 (zJ P T an ops) l
theorem K1 (ops : Array Oper) : ∀ (l : List Nat) (st : St) (k : St → Prop), K2 P T an ops l st k = lS P T an ops l st k := by
 intro l
 induction l with
 | nil => intro st k; rfl
 | cons i l ih =>
  intro st k;show zJ P T an ops i l (K2 P T an ops l) st k = _;unfold zJ lS
  cases ops[i]? with
  | none => rfl
  | some o => simp only [zK, pq, K4, ih]
abbrev KV := List (Nat × Cls) → St → (St → Prop) → Prop
def L9 : KV := fun _ st k => k st
def wb (ops : Array Oper) (i : Nat) (_ : List Nat) (r : KV) : KV := fun seen st k => (match ops[i]? with
  | none => False
  | some o => opK o fun o => y7 ops o st
    (fun st => stK st fun s ob => xw (bI an o.op o.dst (evA s)) (xop P T an o ⟨s, ob⟩ fun st => r seen st k)
     fun c => bU (lI ops i o c seen) (bU (i5 c (fg an o.op o.dst (evA s))) (xop P T an o ⟨s, ob⟩ fun st => r ((i, c) :: seen) st k)))
    (fun st => stK st fun s ob => xw (ku (bI an o.op o.dst (evA s))) (put ⟨s, ob⟩ o.dst (.val undef) fun st => r seen st k)
     fun c => bU (lI ops i o c seen) (put ⟨s, ob⟩ o.dst (.val undef) fun st => r ((i, c) :: seen) st k)))
noncomputable def II (ops : Array Oper) (l : List Nat) : KV := List.rec (motive := fun _ => KV) L9 (wb P T an ops) l
theorem IG (ops : Array Oper) : ∀ (l : List Nat) (seen : List (Nat × Cls)) (st : St) (k : St → Prop), II P T an ops l seen st k = db P T an ops seen l st k := by
 intro l
 induction l with
 | nil => intro seen st k; simp only [db]; rfl
 | cons i l ih =>
  intro seen st k;show wb P T an ops i l (II P T an ops l) seen st k = _;unfold wb db
  cases ops[i]? with
  | none => rfl
  | some o => simp only [zK, DG, pq, De, ih]
abbrev oA := St → (St → Prop) → (XK → St → Prop) → Prop
def Qv : oA := fun st k _ => k st
def M6 : oA := fun _ _ _ => False
noncomputable def Aw (id : Nat) (ops : Array Oper) (d : Bool) : oA := fun st k _ => (match d with
 | false => LH (qq an.pre id) st fun st => K2 P T an ops (ow ops.size []) st k
 | true => (match ia an.anyo id with
  | true => wG P T an ops (ops.size + 1) (ow ops.size []) st k
  | false => II P T an ops (ow ops.size []) [] st k))
def OF (_ _ : Code) (a b : oA) : oA := fun st k kx => a st (fun st => b st k kx) kx
def Kk (c : Operand) (_ _ : Code) (a b : oA) : oA := fun st k kx => (match evA st.slots c with
  | .val (.bool c) => br c (a st k kx) (b st k kx)
  | _ => False)
def E2 (id : Nat) (_ : Code) (b : oA) : oA := fun st k kx => b st k fun x st => (match x with
  | .exit id' => (match Nat.beq id' id with
   | true => k st
   | false => kx x st)
  | .ret => kx x st)
def Ki (b : Code) (r : oA) : oA := fun st _ kx => om (kW an.keep (fu b)) st fun st => u2 T an.vec (Eh an.nilr (fu b)) st fun st => aq (fun X s => r s (fun s => om (kW an.keep (fu b)) s X) kx) st
def Qw (id : Nat) : oA := fun st _ kx => kx (.exit id) st
def TO : oA := fun st _ kx => kx .ret st
def OH (_ : Nat) : oA := fun st k _ => k st
def E1 (g : Operand) (ps : Array Tmp) (x b : Code) (rx rb : oA) : oA := fun st k kx => bU (eM an x) (bU (eM an b) (match evA st.slots g with
  | .fn (.func gf) [] caps => D5 P (kW an.keep (fu x)) caps gf ps.toList (fun s k' kx' => rx s (fun s => rb s k' kx') (fun _ _ => False)) st k kx
   ∨ zC P (kW an.keep (fu x)) caps gf ps.toList (fun s k' kx' => rx s (fun s => rb s k' kx') (fun _ _ => False)) st k kx
  | _ => False))
noncomputable def xwp (c : Code) : oA := Code.rec (motive := fun _ => oA) Qv (Aw P T an) OF Kk E2 (Ki T an) (E1 P an) Qw (fun _ r => r) OH (fun _ => M6) TO (fun _ => M6) c
theorem my : ∀ (c : Code) (st : St) (k : St → Prop) (kx : XK → St → Prop), xwp P T an c st k kx = awp P T an c st k kx
 | .skip, st, k, kx => rfl
 | .region id ops false, st, k, kx => by
  show LH (qq an.pre id) st (fun st => K2 P T an ops (ow ops.size []) st k) = LH (qq an.pre id) st (fun st => lS P T an ops (ow ops.size []) st k);congr 1;funext st;exact K1 P T an ops _ st k
 | .region id ops true, st, k, kx => by
  show Aw P T an id ops true st k kx = _;simp only [Aw, awp, IG]
  cases ia an.anyo id <;> rfl
 | .seq a b, st, k, kx => by
  show OF a b (xwp P T an a) (xwp P T an b) st k kx = _;simp only [OF, awp, my a, my b]
 | .cond c a b, st, k, kx => by
  show Kk c a b (xwp P T an a) (xwp P T an b) st k kx = _;simp only [Kk, awp, my a, my b]; rfl
 | .block id b, st, k, kx => by
  show E2 id b (xwp P T an b) st k kx = _;simp only [E2, awp, my b]; rfl
 | .loop b, st, k, kx => by
  show Ki T an b (xwp P T an b) st k kx = _;simp only [Ki, awp, my b]
 | .exit id, st, k, kx => rfl
 | .ret, st, k, kx => rfl
 | .label l, st, k, kx => rfl
 | .rangeFunc g ps x b, st, k, kx => by
  show E1 P an g ps x b (xwp P T an x) (xwp P T an b) st k kx = _;simp only [E1, awp, my x, my b]; rfl
 | .scope b, st, k, kx => by
  show xwp P T an b st k kx = _;simp only [awp, my b]
 | .goto .., st, k, kx => rfl
 | .refuse .., st, k, kx => rfl
noncomputable def MC (fn : Func) (args : List AV) (os : List aF) (R : AV → List aF → Prop) : Prop :=
 match fn.body with
 | some c => bU (Nat.ble os.length 64) (d8 (tI args fn.ntmps) fun s => vW (bC 0 os) fun ob => xwp P T an c ⟨s, ob⟩ (fun st => D2 T an fn.results.toList os.length st R) fun x st => (match x with
  | .ret => D2 T an fn.results.toList os.length st R
  | .exit _ => False))
 | none => False
end
theorem aa {P : Program} {T : Tab} {an : Ann} {f : FuncId} {fn : Func} {args : List AV} {os : List aF} {R : AV → List aF → Prop} (hT : cd P T) (hf : P.funcs[f]? = some fn) (h : MC P T an fn args os R) (he : T.fn f = true := by rfl) : ag P f args os R := by
 refine xF (an := an) hT hf ?_ he;unfold MC at h;unfold Ks;simp only [co, yF, my] at h;exact h
end Go.Abs
