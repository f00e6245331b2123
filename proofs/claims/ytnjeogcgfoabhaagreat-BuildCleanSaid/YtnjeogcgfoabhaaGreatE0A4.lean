/- The engine, A4. -/
import Derived.Test.YtnjeogcgfoabhaaGreatE0A3
set_option linter.unusedVariables false
set_option linter.unusedSimpArgs false
namespace Go.Abs
open Go
structure Lg (P : Program) (g : FuncId) (args : List AV) (R : AV → Prop) : Prop where
 run : ∀ (G : Gh) (w : World) (vals : List Value), (∀ b o v, G.K b o = some v → w.cell? ⟨b, o, none⟩ = some v) → aB G args vals →
  ∃ v r, (callFunc g vals.toArray).run P w = .ok (.value v) w ∧ R r ∧ Rep G r v
section
variable (P : Program) (T : Tab) (an : Ann)
def pl (ops : Array Oper) (o : Oper) (st : St) (yes no : St → Prop) : Prop :=
 match o.guard with
 | none => yes st
 | some (j, want) => (match ops[j]? with
  | none => False
  | some oj => (match oj.dst with
   | none => False
   | some d => (match iZ st.slots d with
    | .val (.bool b) =>
     br b (qy st.slots d (.val (.bool true)) fun s => match want with | true => yes ⟨s, st.objs⟩ | false => no ⟨s, st.objs⟩)
        (qy st.slots d (.val (.bool false)) fun s => match want with | true => no ⟨s, st.objs⟩ | false => yes ⟨s, st.objs⟩)
    | .val (.tuple _) => no st
    | _ => False)))
def Gy (op : Op) (ev : Operand → AV) : Bool :=
 match op with
 | .convert s d x => (match ev x with
  | .slm _ _ _ _ => true
  | .sl own _ _ => (match own with
   | some _ => Nat.beq s d
   | none => false)
  | _ => false)
 | .binOp _ _ x _ _ => (match ev x with
  | .sl _ _ _ => true
  | _ => false)
 | .call c => (match c.callee with
  | .value f => (match f with
   | .func g => (match T.fn g with
    | true => false
    | false => true)
   | _ => false)
  | .builtin b => (match b with
   | .append => (match c.args.toList with
    | [_, x] => (match ev x with
     | .slm _ _ _ _ => true
     | _ => false)
    | _ => false)
   | _ => false)
  | _ => false)
 | .indexAddr _ x _ => (match ev x with
  | .slv _ sz _ _ _ => Nat.beq sz 0
  | _ => false)
 | .load _ p => (match ev p with
  | .ptv _ sz _ _ _ => Nat.beq sz 0
  | _ => false)
 | .buildSlice _ _ ps => (match ps.toList with
  | (_, x) :: _ => (match ev x with
   | .fn _ _ c => (match cL c with
    | [] => false
    | _ :: _ => true)
   | _ => false)
  | [] => false)
 | .lookup _ m _ _ => (match ev m with
  | .val _ => true
  | _ => false)
 | .range _ _ => true
 | .next _ _ => true
 | .entry _ => true
 | _ => false
def vG (d : Nat) (t : TypeId) (x : AV) (objs : List (Nm × aF)) (k : AV → List (Nm × aF) → Prop) : Prop :=
 match dOf T t with
 | .map _ _ => (match x with
  | .mapv n => (match az objs n with
   | some (.map es) => ∀ ms clock, dC objs n (.mapc es ms clock) fun objs => eU objs (ak d) (.iter n ms clock []) fun objs => k (.ptr (ak d) 0) objs
   | _ => False)
  | _ => False)
 | _ => False
def Ab (it : AV) (objs : List (Nm × aF)) (k : AV → List (Nm × aF) → Prop) : Prop :=
 match it with
 | .ptr r off => (match off with
  | 0 => (match az objs r with
   | some (.iter n ms clock seen) => (match az objs n with
    | some (.mapc es ms' clock') => (ms' = ms ∧ clock' = clock) ∧
      ((∀ i, i < es.length → i ∈ seen) → dC objs n (.map es) fun objs => k (.tup [.val (.bool false)]) objs) ∧
      (∀ i e, es[i]? = some e → i ∉ seen → dC objs r (.iter n ms clock (i :: seen)) fun objs => k (.tup [.val (.bool true), .val (.string e.1), e.2]) objs)
    | _ => False)
   | _ => False)
  | _ => False)
 | _ => False
def wD (it : AV) (objs : List (Nm × aF)) (k : AV → List (Nm × aF) → Prop) : Prop :=
 match it with
 | .ptr r off => (match off with
  | 0 => (match az objs r with
   | some (.iter n ms clock seen) => (match seen with
    | i :: _ => (match az objs n with
     | some (.mapc es ms' clock') => (ms' = ms ∧ clock' = clock) ∧ qO es i fun e => k (.tup [.val (.string e.1), e.2]) objs
     | _ => False)
    | [] => False)
   | _ => False)
  | _ => False)
 | _ => False
def Kl (objs : List (Nm × aF)) (d : Nat) (t : TypeId) (s x : AV) (k : AV → List (Nm × aF) → Prop) : Prop :=
 match dOf T t with
 | .slice e => f7 T e fun ei => bV (Nat.beq ei.size 1 && jh ei) (match x with
  | .slm nx ox lx _ => (match az objs nx with
   | some (.cells _ l) => tO (pv l ox) lx fun m => bV (fA m) (match s with
    | .val (.slice none 0 0) => lx * (ei.bytes + 1) ≤ 140737488355328 ∧ eU objs (ak d) (.fns e m 0) fun objs => k (.slv (ak d) 0 0 0 lx) objs
    | .slv n sz ver off len => (match az objs n with
     | some (.fns te l2 ver') => bV (Nat.beq te e && (Nat.beq sz 0 && Nat.beq off 0)) ((ver = ver' ∧ len = l2.length) ∧ (len + lx) * (ei.bytes + 1) ≤ 140737488355328 ∧
       d9 (l2 ++ m) fun l3 => dC objs n (.fns e l3 (ver' + 1)) fun objs => k (.slv n 0 (ver' + 1) 0 (len + lx)) objs)
     | _ => False)
    | _ => False)
   | _ => False)
  | _ => False)
 | _ => False
def AB (ev : Operand → AV) : List (Nat × Operand) → Nat → (List AV → Prop) → Prop
 | [], _, k => k []
 | (i, x) :: ps, n, k => match Nat.beq i n with
  | false => False
  | true => pn (ev x) fun c => match dZ c with
   | false => False
   | true => AB ev ps (n + 1) fun l => k (c :: l)
def Aw (objs : List (Nm × aF)) (d : Nat) (t : TypeId) (len : Nat) (ps : List (Nat × Operand)) (ev : Operand → AV) (k : AV → List (Nm × aF) → Prop) : Prop :=
 match dOf T t with
 | .slice e => f7 T e fun ei => bV (jh ei && Nat.beq ei.size 1) (bV (Nat.beq ps.length len && Nat.ble len 16777216) (AB ev ps 0 fun l =>
   eU objs (ak d) (.cells e l) fun objs => k (.slm (ak d) 0 l.length l.length) objs))
 | _ => False
def Av (t : TypeId) (x i : AV) (k : AV → Prop) : Prop :=
 f7 T t fun ti => (match ti.d with
  | .slice e => f7 T e fun ei => bV (Nat.beq ei.size 1) (match i with
   | .val (.int _ i) => (match x with
    | .slv n sz ver off len => bV (Nat.beq sz 0 && Nat.beq off 0) (bV (decide (0 ≤ i)) (bV (decide (i < (len : Int))) (k (.ptv n 0 ver 0 i.toNat))))
    | _ => False)
   | _ => False)
  | _ => False)
def EQ (objs : List (Nm × aF)) (t : TypeId) (p : AV) (k : AV → Prop) : Prop :=
 match p with
 | .ptv n sz ver i off => (match az objs n with
  | some (.fns _ l ver') => bV (Nat.beq sz 0 && Nat.beq i 0) (ver = ver' ∧ nB T t (pv l off) k)
  | _ => False)
 | _ => False
def gW (op : Op) (dst : Option Tmp) (ev : Operand → AV) (objs : List (Nm × aF)) (k : AV → List (Nm × aF) → Prop) : Prop :=
 match op with
 | .convert src dst x =>
  f7 T src fun si => f7 T dst fun di => (match di.d, ev x with
  | .string, .slm n off len _ => (match si.d with
   | .slice e => (match dOf T e with
    | .int .u8 => (match az objs n with
     | some (.cells _ l) => ∃ bs : List Int, ((l.drop off).take len = bs.map fun b => .val (.int .u8 b)) ∧ bs.length = len ∧ k (.val (.string (strOfNums bs))) objs
     | _ => False)
    | _ => False)
   | _ => False)
  | .slice e, .sl own sz l => (match own with
   | some n => (match dOf T e with
    | .int .u8 => (match az objs n with
     | some (.row _ _ top) => (match l with
      | [] => False
      | _ :: _ => bV (Nat.beq src dst) (bV (Nat.beq top l.length) (dC objs n .dead fun objs => k (.sl none sz l) objs)))
     | _ => False)
    | _ => False)
   | none => False)
  | _, _ => False)
 | .binOp op t x y _ =>
  (match dOf T t with
  | .slice _ => (match ev x, ev y with
   | .sl _ _ l, .val (.slice none 0 0) => (match op with
    | .eql => ∀ b : Bool, (b = true → l = []) → k (.val (.bool b)) objs
    | .neq => ∀ b : Bool, (b = true → l = []) → k (.val (.bool (!b))) objs
    | _ => False)
   | _, _ => False)
  | _ => False)
 | .call c =>
  (match c.callee with
  | .value f => (match ev f with
   | .fn (.func g) first cap => d9 (rc an dst ev c first cap) fun args => Lg P g args fun r => k r objs
   | _ => False)
  | .builtin b => (match b, c.args.toList, c.argTypes.toList, dst with
   | .append, [s, x], [t, t2], some d => bV (Nat.beq t t2) (Kl T objs d t (ev s) (ev x) k)
   | _, _, _, _ => False)
  | _ => False)
 | .indexAddr t x i => Av T t (ev x) (ev i) fun v => k v objs
 | .load t p => EQ T objs t (ev p) fun v => k v objs
 | .buildSlice t len ps => (match dst with
  | some d => Aw T objs d t len ps.toList ev k
  | none => False)
 | .range t x => (match dst with
  | some d => vG T d t (ev x) objs k
  | none => False)
 | .next it s => (match s with
  | true => False
  | false => Ab (ev it) objs k)
 | .entry it => wD (ev it) objs k
 | .lookup t m x ok =>
  (match dOf T t with
  | .map kt e => (match dOf T kt with
   | .string => f7 T e fun ei => (match ev m, ev x with
    | .val (.map none), .val (.string s) => xZ ei fun z => (match ok with
     | true => k (.tup [z, .val (.bool false)]) objs
     | false => k z objs)
    | _, _ => False)
   | _ => False)
  | _ => False)
 | _ => False
def Gu : List (Nat × Nat) → Nat → Option Nat
 | [], _ => none
 | (a, b) :: l, n => (match Nat.beq a n with
  | true => some b
  | false => Gu l n)
def Nj (op : Op) : Option Nat :=
 match op with
 | .store _ x _ => (match x with
  | .tmp p => (match im an.frz p with
   | true => some p
   | false => Gu an.frz2 p)
  | _ => none)
 | _ => none
def nY (p : Option Nat) (s : List AV) (ob : List (Nm × aF)) (k : St → Prop) : Prop :=
 match p with
 | none => k ⟨s, ob⟩
 | some p => (match iZ s p with
  | .ptr n off => (match Nat.beq off 0 with
   | true => (match az ob n with
    | some (.cells _ c) => d9 (c.map AV.strip) fun c => bV (bU c) (dC ob n .dead fun ob => qy s p (.cptr c 0) fun s => k ⟨s, ob⟩)
    | _ => False)
   | false => False)
  | _ => False)
def nu (p : Option Nat) (st : St) (k : St → Prop) : Prop :=
 match p with
 | none => k st
 | some p => (match iZ st.slots p with
  | .slv n size ver off len => (match az st.objs n with
   | some (.vec _ sz l ver') => bV (Nat.beq sz size) ((ver = ver' ∧ off = 0 ∧ len = l.length) ∧ dC st.objs n .dead fun ob => qy st.slots p (.sl none size l) fun s => k ⟨s, ob⟩)
   | _ => False)
  | .sl (some n) size [] => (match az st.objs n with
   | some (.row t sz top) => bV (Nat.beq sz size && Nat.beq top 0) (dC st.objs n (.vec t size [] 0) fun ob => qy st.slots p (.slv n size 0 0 0) fun s => k ⟨s, ob⟩)
   | _ => False)
  | .ptr _ _ => nY (some p) st.slots st.objs k
  | .junk => k st
  | _ => False)
def Nk (o : Oper) : Option Nat :=
 match o.dst with
 | some d => Gu an.frv d
 | none => none
def oo (o : Oper) (st : St) (k : St → Prop) : Prop :=
 match Gy T o.op (evA st.slots) with
 | true => gW P T an o.op o.dst (evA st.slots) st.objs fun v objs => put ⟨st.slots, objs⟩ o.dst v k
 | false => cn P T an o st fun st => nY (Nj an o.op) st.slots st.objs k
def tC (o : Oper) (st : St) (k : St → Prop) : Prop := nu (Nk an o) st fun st => oo P T an o st k
def l6 (ops : Array Oper) : List Nat → St → (St → Prop) → Prop
 | [], st, k => k st
 | i :: rest, st, k => (match ops[i]? with
  | none => False
  | some o => pl ops o st (fun st => tC P T an o st fun st => l6 ops rest st k) (fun st => put st o.dst (.val undef) fun st => l6 ops rest st k))
def xN (c : Cls) (quiet : Prop) (loud : Cls → Prop) : Prop :=
 match c with
 | .val [] => quiet
 | .val (n :: l) => loud (.val (n :: l))
 | .mk => loud .mk
 | .call => loud .call
 | .wr => loud .wr
def kD (c : Cls) : Cls :=
 match c with
 | .wr => .wr
 | _ => .val []
def jd (c : Cls) (b : Bool) : Bool :=
 match c with
 | .call => b
 | _ => true
def dc (ops : Array Oper) : List (Nat × Cls) → List Nat → St → (St → Prop) → Prop
 | _, [], st, k => k st
 | seen, i :: rest, st, k => (match ops[i]? with
  | none => False
  | some o => pl ops o st
    (fun st => xN (bJ an o.op o.dst (evA st.slots)) (cn P T an o st fun st => dc ops seen rest st k)
     fun c => bV (lP ops i o c seen) (bV (jd c (fj an o.op o.dst (evA st.slots))) (cn P T an o st fun st => dc ops ((i, c) :: seen) rest st k)))
    (fun st => xN (kD (bJ an o.op o.dst (evA st.slots))) (put st o.dst (.val undef) fun st => dc ops seen rest st k)
     fun c => bV (lP ops i o c seen) (put st o.dst (.val undef) fun st => dc ops ((i, c) :: seen) rest st k)))
def opK (o : Oper) (k : Oper → Prop) : Prop := match o with | ⟨a, b, c, d, e, f⟩ => k ⟨a, b, c, d, e, f⟩
theorem z6 (o : Oper) (k : Oper → Prop) : opK o k = k o := by cases o; rfl
def xop (o : Oper) (st : St) (k : St → Prop) : Prop :=
 match o, st with
 | ⟨dst, op, _, _, _, _⟩, ⟨s, ob⟩ => aT P T an op dst (evA s) ob fun v objs => put ⟨s, objs⟩ dst v k
theorem Dw (o : Oper) (st : St) (k : St → Prop) : xop P T an o st k = cn P T an o st k := by cases o; cases st; rfl
def zo (ops : Array Oper) (o : Oper) (st : St) (yes no : St → Prop) : Prop :=
 match o, st with
 | ⟨_, _, _, _, _, g⟩, ⟨s, ob⟩ => (match g with
  | none => yes ⟨s, ob⟩
  | some (j, want) => (match ops[j]? with
   | none => False
   | some oj => (match oj.dst with
    | none => False
    | some d => (match iZ s d with
     | .val (.bool b) =>
      br b (qy s d (.val (.bool true)) fun s => match want with | true => yes ⟨s, ob⟩ | false => no ⟨s, ob⟩)
         (qy s d (.val (.bool false)) fun s => match want with | true => no ⟨s, ob⟩ | false => yes ⟨s, ob⟩)
     | .val (.tuple _) => no ⟨s, ob⟩
     | _ => False))))
theorem pG (ops : Array Oper) (o : Oper) (st : St) (yes no : St → Prop) : zo ops o st yes no = pl ops o st yes no := by cases o; cases st; rfl
def iW (left : List Nat) : List Edge → Bool
 | [] => true
 | e :: l => (match Region.binds .any e with
  | true => (match im left e.on with
   | true => false
   | false => iW left l)
  | false => iW left l)
def gx (ops : Array Oper) (left : List Nat) (i : Nat) : Bool :=
 match ops[i]? with
 | none => false
 | some o => iW left o.after.toList
def eJ : List Nat → Nat → List Nat
 | [], _ => []
 | j :: l, i => (match Nat.beq j i with
  | true => eJ l i
  | false => j :: eJ l i)
abbrev I1 := St → (St → Prop) → Prop
abbrev sM := List Nat → I1
def yb (ops : Array Oper) (left : List Nat) (r : sM) (i : Nat) : I1 := fun st k =>
 match ops[i]? with
 | none => False
 | some o => opK o fun o => zo ops o st (fun st => xop P T an o st fun st => r (eJ left i) st k) (fun st => put st o.dst (.val undef) fun st => r (eJ left i) st k)
def Ko (ops : Array Oper) (left : List Nat) (r : sM) (i : Nat) (_ : List Nat) (c : I1) : I1 := fun st k =>
 match gx ops left i with
 | true => yb P T an ops left r i st k ∧ c st k
 | false => c st k
noncomputable def su (ops : Array Oper) (left : List Nat) (r : sM) (l : List Nat) : I1 := List.rec (motive := fun _ => I1) (fun _ _ => True) (Ko P T an ops left r) l
def IP : sM := fun left st k =>
 match left with
 | [] => k st
 | _ :: _ => False
def o8 (ops : Array Oper) (s : List AV) (i : Nat) : Bool :=
 match ops[i]? with
 | none => false
 | some o => (match (match o.guard with
   | some _ => an.gq
   | none => true) with
  | false => false
  | true => (match bJ an o.op o.dst (evA s) with
   | .val r => (match r with
    | [] => true
    | _ :: _ => false)
   | _ => false))
def JM (ops : Array Oper) (left : List Nat) (s : List AV) (q : Nat) (_ : List Nat) (r : Option Nat) : Option Nat :=
 match gx ops left q with
 | true => (match o8 an ops s q with
  | true => some q
  | false => r)
 | false => r
noncomputable def Gn (ops : Array Oper) (left : List Nat) (s : List AV) (l : List Nat) : Option Nat := List.rec (motive := fun _ => Option Nat) none (JM an ops left s) l
noncomputable def Pj (ops : Array Oper) (_ : Nat) (r : sM) : sM := fun left st k =>
 match left with
 | [] => k st
 | i :: l => (match st with
  | ⟨s, ob⟩ => (match Gn an ops (i :: l) s (i :: l) with
   | some q => yb P T an ops (i :: l) r q ⟨s, ob⟩ k
   | none => su P T an ops (i :: l) r (i :: l) ⟨s, ob⟩ k))
noncomputable def w6 (ops : Array Oper) (n : Nat) : sM := Nat.rec (motive := fun _ => sM) IP (Pj P T an ops) n
def Ci (keep : List Nat) : List AV → Nat → List AV
 | [], _ => []
 | a :: l, i => (match im keep i with
  | true => a
  | false => .junk) :: Ci keep l (i + 1)
def xp (live : List Nm) : List (Nm × aF) → List (Nm × aF)
 | [] => []
 | (n, o) :: l => (match (im live n || Nat.blt n 64) with
  | true => (n, o) :: xp live l
  | false => xp live l)
def wu : List (Nm × aF) → (List (Nm × aF) → Prop) → Prop
 | [], k => k []
 | (n, o) :: l, k => wu l fun l' => k ((n, o) :: l')
def uS (o : List (Nm × aF)) : List (Nm × aF) → Bool
 | [] => true
 | (_, x) :: l => (match og o (ck x) with
  | true => uS o l
  | false => false)
def oE (keep : List Nat) (st : St) (k : St → Prop) : Prop :=
 d9 (Ci keep st.slots 0) fun s => wu (xp (rK st.objs 1000 (cL s) []) st.objs) fun o => bV (og o (cL s)) (bV (uS o o) (k ⟨s, o⟩))
def vr (vec : List Nat) : List (Nat × TypeId) → St → (St → Prop) → Prop
 | [], st, k => k st
 | (d, e) :: l, st, k => (match st with
  | ⟨s, ob⟩ => (match iZ s d with
   | .val (.slice none 0 0) => (match im vec d with
    | true => eU ob (ak d) (.vec e (T.ti e).size [] 0) fun ob => qy s d (.slv (ak d) (T.ti e).size 0 0 0) fun s => vr vec l ⟨s, ob⟩ k
    | false => eU ob (ak d) (.row e (T.ti e).size 0) fun ob => qy s d (.sl (some (ak d)) (T.ti e).size []) fun s => vr vec l ⟨s, ob⟩ k)
   | _ => vr vec l ⟨s, ob⟩ k))
def Ey : List (Nat × List (Nat × TypeId)) → Nat → List (Nat × TypeId)
 | [], _ => []
 | (i, l) :: ks, n => match Nat.beq i n with
  | true => l
  | false => Ey ks n
inductive au (F : (St → Prop) → St → Prop) : St → Prop where
 | mk (X : St → Prop) (hX : ∀ s, X s → au F s) (s : St) (h : F X s) : au F s
theorem au.step {F : (St → Prop) → St → Prop} {st : St} (h : F (au F) st) : au F st := .mk _ (fun _ h => h) st h
def fv : Code → Nat
 | .region id _ _ => id
 | .seq a _ => fv a
 | .block _ b => fv b
 | .scope b => fv b
 | .loop b => fv b
 | .cond _ a _ => fv a
 | _ => 0
def ld : List (Nat × List Nat) → Nat → List Nat
 | [], _ => []
 | (i, l) :: ks, n => match Nat.beq i n with
  | true => l
  | false => ld ks n
def FW (ro : Option Nat) : Fence := { Fence.wide with round := ro }
structure GV (P : Program) (g : FuncId) (caps : List AV) (xs : List (List AV)) : Prop where
 enter : ∀ args w, (callFunc g args).run P w = .ok (.enter g args) w
 run : ∀ (G : Gh) (w : World) (lb : List Value), (∀ b o v, G.K b o = some v → w.cell? ⟨b, o, none⟩ = some v) → aB G caps lb →
  ∃ es : List (Array Value), es.length = xs.length ∧ (∀ (i : Nat) (x : List AV) (e : Array Value), xs[i]? = some x → es[i]? = some e → aB ⟨G.K, fun _ => none⟩ x e.toList) ∧
   ∀ (l n : Nat) (J Jx : Nat → World → Prop),
    (∀ (m i : Nat) (e : Array Value) (W1 : World), es[i]? = some e → J i W1 → YieldAt (FW none) m P l e W1 fun r W' => (r = .returned (.bool true) ∧ J (i + 1) W') ∨ (r = .returned (.bool false) ∧ Jx (i + 1) W')) →
    (∀ (i : Nat) (W1 : World), J i W1 → ∀ b o v, G.K b o = some v → W1.cell? ⟨b, o, none⟩ = some v) →
    J 0 w → CallsIn (FW none) n P g (#[.func (.yield l) #[] #[]] ++ lb.toArray) w fun e W' => (∃ v, e = .returned v) ∧ (J es.length W' ∨ ∃ i, Jx i W')
def rC : List AV → List Nat → List AV → List AV
 | s, p :: ps, x :: xs => rC (ji s p x) ps xs
 | s, _, _ => s
def qE : List (Nat × List Nat) → Nat → Option (List Nat)
 | [], _ => none
 | (i, l) :: ks, n => match Nat.beq i n with
  | true => some l
  | false => qE ks n
def L5 (p : Option (List Nat)) (st : St) (k : St → Prop) : Prop :=
 match p with
 | none => k st
 | some keep => oE keep st k
def eQ : Code → Bool
 | .region id _ _ => (match qE an.pre id with
  | none => true
  | some _ => false)
 | .seq a b => (match eQ a with
  | true => eQ b
  | false => false)
 | .cond _ a b => (match eQ a with
  | true => eQ b
  | false => false)
 | .block _ b => eQ b
 | .scope b => eQ b
 | .loop _ => false
 | .rangeFunc _ _ _ _ => false
 | _ => true
def El (keep : List Nat) (caps : List AV) (g : FuncId) (ps : List Nat) (round : St → (St → Prop) → (XK → St → Prop) → Prop) (st : St) (k : St → Prop) (kx : XK → St → Prop) : Prop :=
 oE keep st fun st => ∃ xs : List (List AV), GV P g caps xs ∧ (∀ x ∈ xs, x.length = ps.length) ∧ ∃ I : Nat → St → Prop, I 0 st ∧
  (∀ (i : Nat) (x : List AV) (s : St), xs[i]? = some x → I i s → round ⟨rC s.slots ps x, s.objs⟩ (fun s2 => oE keep ⟨s.slots, s2.objs⟩ (I (i + 1))) (fun e s2 => kx e ⟨s.slots, s2.objs⟩)) ∧
  ∀ s, I xs.length s → k s
structure xe (Own : Nat → Prop) (K : Nat → Nat → Option Value) (w : World) (Own' : Nat → Prop) (K' : Nat → Nat → Option Value) (w' : World) : Prop where
 os : w'.os = w.os
 tape : w'.tape = w.tape
 output : w'.output = w.output
 size : w.heap.size ≤ w'.heap.size
 block : ∀ b, b < w.heap.size → ¬ Own b → w'.heap[b]? = w.heap[b]?
 own : ∀ b, Own' b → Own b ∨ w.heap.size ≤ b
 more : ∀ b o v, K b o = some v → K' b o = some v
 old : ∀ b o, b < w.heap.size → ¬ Own b → K' b o = K b o
 know : ∀ b o v, K' b o = some v → w'.cell? ⟨b, o, none⟩ = some v
 lies : ∀ b, Own' b → b < w'.heap.size
structure GR (P : Program) (g : FuncId) (caps : List AV) (os : List aF) (xs : List (List AV)) : Prop where
 enter : ∀ args w, (callFunc g args).run P w = .ok (.enter g args) w
 run : ∀ (G : Gh) (w : World) (lb : List Value), WR G (bE 0 os) w → aB G caps lb →
  ∀ (l n : Nat) (J : Nat → (Nat → Prop) → (Nat → Nat → Option Value) → World → Prop) (Jx : World → Prop),
   (∀ (m i : Nat) (x : List AV) (e : Array Value) (Own : Nat → Prop) (K : Nat → Nat → Option Value) (W1 : World), xs[i]? = some x → aB ⟨K, fun _ => none⟩ x e.toList → J i Own K W1 →
    YieldAt (FW none) m P l e W1 fun r W' =>
     (r = .returned (.bool true) ∧ ∃ K', J (i + 1) Own K' W' ∧ (∀ b o v, K b o = some v → K' b o = some v) ∧ (∀ b, Own b → W'.heap[b]? = W1.heap[b]? ∧ ∀ o, K' b o = K b o) ∧ W'.os = W1.os ∧ W'.tape = W1.tape ∧ W'.output = W1.output ∧ W1.heap.size ≤ W'.heap.size) ∨
     (r = .returned (.bool false) ∧ Jx W')) →
   (∀ (i : Nat) (Own : Nat → Prop) (K : Nat → Nat → Option Value) (W : World) (Own' : Nat → Prop) (K' : Nat → Nat → Option Value) (W' : World), J i Own K W → xe Own K W Own' K' W' → J i Own' K' W') →
   (∀ (i : Nat) (Own : Nat → Prop) (K : Nat → Nat → Option Value) (W : World), J i Own K W → ∀ b o v, K b o = some v → W.cell? ⟨b, o, none⟩ = some v) →
   J 0 (fun b => ∃ k, G.at k b) G.K w →
   CallsIn (FW none) n P g (#[.func (.yield l) #[] #[]] ++ lb.toArray) w fun e W' => (∃ v, e = .returned v) ∧ ((∃ Own K, J xs.length Own K W') ∨ Jx W')
def GK (ns : List Nm) : List (Nm × aF) → Bool
 | [] => true
 | (n, _) :: l => (match im ns n with
  | true => false
  | false => GK ns l)
def zT (keep : List Nat) (caps : List AV) (g : FuncId) (ps : List Nat) (round : St → (St → Prop) → (XK → St → Prop) → Prop) (st : St) (k : St → Prop) (kx : XK → St → Prop) : Prop :=
 yF st.objs (rK st.objs 1000 (cL caps) []) fun ns os => bV (zx (cL caps) ns) (oE keep st fun st => bV (GK ns st.objs) (∃ xs : List (List AV), GR P g (nN (qN ns) caps) os xs ∧ (∀ x ∈ xs, x.length = ps.length) ∧ ∃ I : Nat → St → Prop, I 0 st ∧
  (∀ (i : Nat) (x : List AV) (s : St), xs[i]? = some x → I i s → round ⟨rC s.slots ps x, s.objs⟩ (fun s2 => oE keep ⟨s.slots, s2.objs⟩ (I (i + 1))) (fun e s2 => kx e ⟨s.slots, s2.objs⟩)) ∧
  ∀ s, I xs.length s → k s))
noncomputable def awp : Code → St → (St → Prop) → (XK → St → Prop) → Prop
 | .skip, st, k, _ => k st
 | .region id ops false, st, k, _ => L5 (qE an.pre id) st fun st => l6 P T an ops (oH ops.size []) st k
 | .region id ops true, st, k, _ => (match im an.anyo id with
  | true => w6 P T an ops (ops.size + 1) (oH ops.size []) st k
  | false => dc P T an ops [] (oH ops.size []) st k)
 | .seq a b, st, k, kx => awp a st (fun st => awp b st k kx) kx
 | .cond c a b, st, k, kx => (match evA st.slots c with
  | .val (.bool c) => br c (awp a st k kx) (awp b st k kx)
  | _ => False)
 | .block id b, st, k, kx => awp b st k fun x st => (match x with
  | .exit id' => (match Nat.beq id' id with
   | true => k st
   | false => kx x st)
  | .ret => kx x st)
 | .scope b, st, k, kx => awp b st k kx
 | .loop b, st, _, kx => oE (ld an.keep (fv b)) st fun st => vr T an.vec (Ey an.nilr (fv b)) st fun st => au (fun X s => awp b s (fun s => oE (ld an.keep (fv b)) s X) kx) st
 | .exit id, st, _, kx => kx (.exit id) st
 | .ret, st, _, kx => kx .ret st
 | .label _, st, k, _ => k st
 | .rangeFunc g ps x b, st, k, kx => bV (eQ an x) (bV (eQ an b) (match evA st.slots g with
  | .fn (.func gf) [] caps => El P (ld an.keep (fv x)) caps gf ps.toList (fun s k' kx' => awp x s (fun s => awp b s k' kx') (fun _ _ => False)) st k kx
   ∨ zT P (ld an.keep (fv x)) caps gf ps.toList (fun s k' kx' => awp x s (fun s => awp b s k' kx') (fun _ _ => False)) st k kx
  | _ => False))
 | _, _, _, _ => False
def nf (s : List AV) (objs : List (Nm × aF)) : List ResultVar → (List AV → Prop) → Prop
 | [], k => k []
 | .tmp t :: rs, k => pn (iZ s t) fun a => nf s objs rs fun l => k (a :: l)
 | .cell x t :: rs, k => (match iZ s x with
  | .ptr n off => (match az objs n with
   | some (.cells _ c) => nB T t (pv c off) fun v => nf s objs rs fun l => k (v :: l)
   | _ => False)
  | _ => False)
def qH (objs : List (Nm × aF)) : List Nat → List Nm
 | [] => []
 | i :: is => (match az objs i with
  | some o => ck o ++ qH objs is
  | none => qH objs is)
def Ei (rs : List ResultVar) (k : Nat) (st : St) (R : AV → List aF → Prop) : Prop :=
 nf T st.slots st.objs rs fun l => d9 (match an.keepRes with | true => l | false => l.map AV.strips) fun l =>
   yF st.objs (LX (rK st.objs 1000 (cL l ++ qH st.objs (oH k [])) (LX (oH k []) [])) []) fun ms os => bV (rM (oH k []) ms) (bV (zx (cL l) ms) (d9 (nN (qN ms) l) fun l => match l with
   | [a] => R a os
   | l => R (.tup l) os))
def wi : Nat → List AV
 | 0 => []
 | n + 1 => .junk :: wi n
def tZ : List AV → Nat → List AV
 | [], n => wi n
 | a :: l, 0 => a :: l
 | a :: l, n + 1 => a :: tZ l n
noncomputable def KT (fn : Func) (args : List AV) (os : List aF) (R : AV → List aF → Prop) : Prop :=
 match fn.body with
 | some c => bV (Nat.ble os.length 64) (awp P T an c ⟨tZ args fn.ntmps, bE 0 os⟩ (fun st => Ei T an fn.results.toList os.length st R) fun x st => (match x with
  | .ret => Ei T an fn.results.toList os.length st R
  | .exit _ => False))
 | none => False
end
end Go.Abs
