/- The engine, A4. -/
import Derived.Test.YtnjeogcgfoabhaaGreatE0A3
set_option linter.unusedVariables false
set_option linter.unusedSimpArgs false
namespace Go.Abs
open Go
structure KR (P : Program) (g : FuncId) (args : List AV) (R : AV → Prop) : Prop where
 run : ∀ (G : Gh) (w : World) (vals : List Value), (∀ b o v, G.K b o = some v → w.cell? ⟨b, o, none⟩ = some v) → aB G args vals →
  ∃ v r, (callFunc g vals.toArray).run P w = .ok (.value v) w ∧ R r ∧ Rep G r v
section
variable (P : Program) (T : Tab) (an : Ann)
def o9 (ops : Array Oper) (o : Oper) (st : St) (yes no : St → Prop) : Prop :=
 match o.guard with
 | none => yes st
 | some (j, want) => (match ops[j]? with
  | none => False
  | some oj => (match oj.dst with
   | none => False
   | some d => (match iS st.slots d with
    | .val (.bool b) =>
     br b (qk st.slots d (.val (.bool true)) fun s => match want with | true => yes ⟨s, st.objs⟩ | false => no ⟨s, st.objs⟩)
        (qk st.slots d (.val (.bool false)) fun s => match want with | true => no ⟨s, st.objs⟩ | false => yes ⟨s, st.objs⟩)
    | .val (.tuple _) => no st
    | _ => False)))
def Gc (op : Op) (ev : Operand → AV) : Bool :=
 match op with
 | .convert s d x => (match ev x with
  | .slm _ _ _ _ => true
  | .sl own _ _ => (match own with
   | some _ => Nat.beq s d
   | none => false)
  | _ => false)
 | .binOp _ _ x _ _ => (match ev x with
  | .sl _ _ _ => true
  | _ => false)
 | .call c => (match c.callee with
  | .value f => (match f with
   | .func g => (match T.fn g with
    | true => false
    | false => true)
   | _ => false)
  | .builtin b => (match b with
   | .append => (match c.args.toList with
    | [_, x] => (match ev x with
     | .slm _ _ _ _ => true
     | _ => false)
    | _ => false)
   | _ => false)
  | _ => false)
 | .indexAddr _ x _ => (match ev x with
  | .slv _ sz _ _ _ => Nat.beq sz 0
  | _ => false)
 | .load _ p => (match ev p with
  | .ptv _ sz _ _ _ => Nat.beq sz 0
  | _ => false)
 | .buildSlice _ _ ps => (match ps.toList with
  | (_, x) :: _ => (match ev x with
   | .fn _ _ c => (match cK c with
    | [] => false
    | _ :: _ => true)
   | _ => false)
  | [] => false)
 | .lookup _ m _ _ => (match ev m with
  | .val _ => true
  | _ => false)
 | .range _ _ => true
 | .next _ _ => true
 | .entry _ => true
 | _ => false
def vh (d : Nat) (t : TypeId) (x : AV) (objs : List (Nm × aF)) (k : AV → List (Nm × aF) → Prop) : Prop :=
 match dOf T t with
 | .map _ _ => (match x with
  | .mapv n => (match az objs n with
   | some (.map es) => ∀ ms clock, dB objs n (.mapc es ms clock) fun objs => eQ objs (ak d) (.iter n ms clock []) fun objs => k (.ptr (ak d) 0) objs
   | _ => False)
  | _ => False)
 | _ => False
def zO (it : AV) (objs : List (Nm × aF)) (k : AV → List (Nm × aF) → Prop) : Prop :=
 match it with
 | .ptr r off => (match off with
  | 0 => (match az objs r with
   | some (.iter n ms clock seen) => (match az objs n with
    | some (.mapc es ms' clock') => (ms' = ms ∧ clock' = clock) ∧
      ((∀ i, i < es.length → i ∈ seen) → dB objs n (.map es) fun objs => k (.tup [.val (.bool false)]) objs) ∧
      (∀ i e, es[i]? = some e → i ∉ seen → dB objs r (.iter n ms clock (i :: seen)) fun objs => k (.tup [.val (.bool true), .val (.string e.1), e.2]) objs)
    | _ => False)
   | _ => False)
  | _ => False)
 | _ => False
def wa (it : AV) (objs : List (Nm × aF)) (k : AV → List (Nm × aF) → Prop) : Prop :=
 match it with
 | .ptr r off => (match off with
  | 0 => (match az objs r with
   | some (.iter n ms clock seen) => (match seen with
    | i :: _ => (match az objs n with
     | some (.mapc es ms' clock') => (ms' = ms ∧ clock' = clock) ∧ qA es i fun e => k (.tup [.val (.string e.1), e.2]) objs
     | _ => False)
    | [] => False)
   | _ => False)
  | _ => False)
 | _ => False
def JY (objs : List (Nm × aF)) (d : Nat) (t : TypeId) (s x : AV) (k : AV → List (Nm × aF) → Prop) : Prop :=
 match dOf T t with
 | .slice e => fY T e fun ei => bU (Nat.beq ei.size 1 && jb ei) (match x with
  | .slm nx ox lx _ => (match az objs nx with
   | some (.cells _ l) => tw (pg l ox) lx fun m => bU (fy m) (match s with
    | .val (.slice none 0 0) => lx * (ei.bytes + 1) ≤ 140737488355328 ∧ eQ objs (ak d) (.fns e m 0) fun objs => k (.slv (ak d) 0 0 0 lx) objs
    | .slv n sz ver off len => (match az objs n with
     | some (.fns te l2 ver') => bU (Nat.beq te e && (Nat.beq sz 0 && Nat.beq off 0)) ((ver = ver' ∧ len = l2.length) ∧ (len + lx) * (ei.bytes + 1) ≤ 140737488355328 ∧
       d8 (l2 ++ m) fun l3 => dB objs n (.fns e l3 (ver' + 1)) fun objs => k (.slv n 0 (ver' + 1) 0 (len + lx)) objs)
     | _ => False)
    | _ => False)
   | _ => False)
  | _ => False)
 | _ => False
def Al (ev : Operand → AV) : List (Nat × Operand) → Nat → (List AV → Prop) → Prop
 | [], _, k => k []
 | (i, x) :: ps, n, k => match Nat.beq i n with
  | false => False
  | true => pb (ev x) fun c => match dY c with
   | false => False
   | true => Al ev ps (n + 1) fun l => k (c :: l)
def Ag (objs : List (Nm × aF)) (d : Nat) (t : TypeId) (len : Nat) (ps : List (Nat × Operand)) (ev : Operand → AV) (k : AV → List (Nm × aF) → Prop) : Prop :=
 match dOf T t with
 | .slice e => fY T e fun ei => bU (jb ei && Nat.beq ei.size 1) (bU (Nat.beq ps.length len && Nat.ble len 16777216) (Al ev ps 0 fun l =>
   eQ objs (ak d) (.cells e l) fun objs => k (.slm (ak d) 0 l.length l.length) objs))
 | _ => False
def Af (t : TypeId) (x i : AV) (k : AV → Prop) : Prop :=
 fY T t fun ti => (match ti.d with
  | .slice e => fY T e fun ei => bU (Nat.beq ei.size 1) (match i with
   | .val (.int _ i) => (match x with
    | .slv n sz ver off len => bU (Nat.beq sz 0 && Nat.beq off 0) (bU (decide (0 ≤ i)) (bU (decide (i < (len : Int))) (k (.ptv n 0 ver 0 i.toNat))))
    | _ => False)
   | _ => False)
  | _ => False)
def EA (objs : List (Nm × aF)) (t : TypeId) (p : AV) (k : AV → Prop) : Prop :=
 match p with
 | .ptv n sz ver i off => (match az objs n with
  | some (.fns _ l ver') => bU (Nat.beq sz 0 && Nat.beq i 0) (ver = ver' ∧ np T t (pg l off) k)
  | _ => False)
 | _ => False
def gR (op : Op) (dst : Option Tmp) (ev : Operand → AV) (objs : List (Nm × aF)) (k : AV → List (Nm × aF) → Prop) : Prop :=
 match op with
 | .convert src dst x =>
  fY T src fun si => fY T dst fun di => (match di.d, ev x with
  | .string, .slm n off len _ => (match si.d with
   | .slice e => (match dOf T e with
    | .int .u8 => (match az objs n with
     | some (.cells _ l) => ∃ bs : List Int, ((l.drop off).take len = bs.map fun b => .val (.int .u8 b)) ∧ bs.length = len ∧ k (.val (.string (strOfNums bs))) objs
     | _ => False)
    | _ => False)
   | _ => False)
  | .slice e, .sl own sz l => (match own with
   | some n => (match dOf T e with
    | .int .u8 => (match az objs n with
     | some (.row _ _ top) => (match l with
      | [] => False
      | _ :: _ => bU (Nat.beq src dst) (bU (Nat.beq top l.length) (dB objs n .dead fun objs => k (.sl none sz l) objs)))
     | _ => False)
    | _ => False)
   | none => False)
  | _, _ => False)
 | .binOp op t x y _ =>
  (match dOf T t with
  | .slice _ => (match ev x, ev y with
   | .sl _ _ l, .val (.slice none 0 0) => (match op with
    | .eql => ∀ b : Bool, (b = true → l = []) → k (.val (.bool b)) objs
    | .neq => ∀ b : Bool, (b = true → l = []) → k (.val (.bool (!b))) objs
    | _ => False)
   | _, _ => False)
  | _ => False)
 | .call c =>
  (match c.callee with
  | .value f => (match ev f with
   | .fn (.func g) first cap => d8 (qO an dst ev c first cap) fun args => KR P g args fun r => k r objs
   | _ => False)
  | .builtin b => (match b, c.args.toList, c.argTypes.toList, dst with
   | .append, [s, x], [t, t2], some d => bU (Nat.beq t t2) (JY T objs d t (ev s) (ev x) k)
   | _, _, _, _ => False)
  | _ => False)
 | .indexAddr t x i => Af T t (ev x) (ev i) fun v => k v objs
 | .load t p => EA T objs t (ev p) fun v => k v objs
 | .buildSlice t len ps => (match dst with
  | some d => Ag T objs d t len ps.toList ev k
  | none => False)
 | .range t x => (match dst with
  | some d => vh T d t (ev x) objs k
  | none => False)
 | .next it s => (match s with
  | true => False
  | false => zO (ev it) objs k)
 | .entry it => wa (ev it) objs k
 | .lookup t m x ok =>
  (match dOf T t with
  | .map kt e => (match dOf T kt with
   | .string => fY T e fun ei => (match ev m, ev x with
    | .val (.map none), .val (.string s) => xI ei fun z => (match ok with
     | true => k (.tup [z, .val (.bool false)]) objs
     | false => k z objs)
    | _, _ => False)
   | _ => False)
  | _ => False)
 | _ => False
def F8 : List (Nat × Nat) → Nat → Option Nat
 | [], _ => none
 | (a, b) :: l, n => (match Nat.beq a n with
  | true => some b
  | false => F8 l n)
def MX (op : Op) : Option Nat :=
 match op with
 | .store _ x _ => (match x with
  | .tmp p => (match ia an.frz p with
   | true => some p
   | false => F8 an.frz2 p)
  | _ => none)
 | _ => none
def nN (p : Option Nat) (s : List AV) (ob : List (Nm × aF)) (k : St → Prop) : Prop :=
 match p with
 | none => k ⟨s, ob⟩
 | some p => (match iS s p with
  | .ptr n off => (match Nat.beq off 0 with
   | true => (match az ob n with
    | some (.cells _ c) => d8 (c.map AV.strip) fun c => bU (bS c) (dB ob n .dead fun ob => qk s p (.cptr c 0) fun s => k ⟨s, ob⟩)
    | _ => False)
   | false => False)
  | _ => False)
def ng (p : Option Nat) (st : St) (k : St → Prop) : Prop :=
 match p with
 | none => k st
 | some p => (match iS st.slots p with
  | .slv n size ver off len => (match az st.objs n with
   | some (.vec _ sz l ver') => bU (Nat.beq sz size) ((ver = ver' ∧ off = 0 ∧ len = l.length) ∧ dB st.objs n .dead fun ob => qk st.slots p (.sl none size l) fun s => k ⟨s, ob⟩)
   | _ => False)
  | .sl (some n) size [] => (match az st.objs n with
   | some (.row t sz top) => bU (Nat.beq sz size && Nat.beq top 0) (dB st.objs n (.vec t size [] 0) fun ob => qk st.slots p (.slv n size 0 0 0) fun s => k ⟨s, ob⟩)
   | _ => False)
  | .ptr _ _ => nN (some p) st.slots st.objs k
  | .junk => k st
  | _ => False)
def MY (o : Oper) : Option Nat :=
 match o.dst with
 | some d => F8 an.frv d
 | none => none
def n5 (o : Oper) (st : St) (k : St → Prop) : Prop :=
 match Gc T o.op (evA st.slots) with
 | true => gR P T an o.op o.dst (evA st.slots) st.objs fun v objs => put ⟨st.slots, objs⟩ o.dst v k
 | false => ck P T an o st fun st => nN (MX an o.op) st.slots st.objs k
def tf (o : Oper) (st : St) (k : St → Prop) : Prop := ng (MY an o) st fun st => n5 P T an o st k
def lS (ops : Array Oper) : List Nat → St → (St → Prop) → Prop
 | [], st, k => k st
 | i :: rest, st, k => (match ops[i]? with
  | none => False
  | some o => o9 ops o st (fun st => tf P T an o st fun st => lS ops rest st k) (fun st => put st o.dst (.val undef) fun st => lS ops rest st k))
def xw (c : Cls) (quiet : Prop) (loud : Cls → Prop) : Prop :=
 match c with
 | .val [] => quiet
 | .val (n :: l) => loud (.val (n :: l))
 | .mk => loud .mk
 | .call => loud .call
 | .wr => loud .wr
def ku (c : Cls) : Cls :=
 match c with
 | .wr => .wr
 | _ => .val []
def i5 (c : Cls) (b : Bool) : Bool :=
 match c with
 | .call => b
 | _ => true
def db (ops : Array Oper) : List (Nat × Cls) → List Nat → St → (St → Prop) → Prop
 | _, [], st, k => k st
 | seen, i :: rest, st, k => (match ops[i]? with
  | none => False
  | some o => o9 ops o st
    (fun st => xw (bI an o.op o.dst (evA st.slots)) (ck P T an o st fun st => db ops seen rest st k)
     fun c => bU (lI ops i o c seen) (bU (i5 c (fg an o.op o.dst (evA st.slots))) (ck P T an o st fun st => db ops ((i, c) :: seen) rest st k)))
    (fun st => xw (ku (bI an o.op o.dst (evA st.slots))) (put st o.dst (.val undef) fun st => db ops seen rest st k)
     fun c => bU (lI ops i o c seen) (put st o.dst (.val undef) fun st => db ops ((i, c) :: seen) rest st k)))
def opK (o : Oper) (k : Oper → Prop) : Prop := match o with | ⟨a, b, c, d, e, f⟩ => k ⟨a, b, c, d, e, f⟩
theorem zK (o : Oper) (k : Oper → Prop) : opK o k = k o := by cases o; rfl
def xop (o : Oper) (st : St) (k : St → Prop) : Prop :=
 match o, st with
 | ⟨dst, op, _, _, _, _⟩, ⟨s, ob⟩ => aR P T an op dst (evA s) ob fun v objs => put ⟨s, objs⟩ dst v k
theorem De (o : Oper) (st : St) (k : St → Prop) : xop P T an o st k = ck P T an o st k := by cases o; cases st; rfl
def y7 (ops : Array Oper) (o : Oper) (st : St) (yes no : St → Prop) : Prop :=
 match o, st with
 | ⟨_, _, _, _, _, g⟩, ⟨s, ob⟩ => (match g with
  | none => yes ⟨s, ob⟩
  | some (j, want) => (match ops[j]? with
   | none => False
   | some oj => (match oj.dst with
    | none => False
    | some d => (match iS s d with
     | .val (.bool b) =>
      br b (qk s d (.val (.bool true)) fun s => match want with | true => yes ⟨s, ob⟩ | false => no ⟨s, ob⟩)
         (qk s d (.val (.bool false)) fun s => match want with | true => no ⟨s, ob⟩ | false => yes ⟨s, ob⟩)
     | .val (.tuple _) => no ⟨s, ob⟩
     | _ => False))))
theorem pq (ops : Array Oper) (o : Oper) (st : St) (yes no : St → Prop) : y7 ops o st yes no = o9 ops o st yes no := by cases o; cases st; rfl
def iQ (left : List Nat) : List Edge → Bool
 | [] => true
 | e :: l => (match Region.binds .any e with
  | true => (match ia left e.on with
   | true => false
   | false => iQ left l)
  | false => iQ left l)
def gn (ops : Array Oper) (left : List Nat) (i : Nat) : Bool :=
 match ops[i]? with
 | none => false
 | some o => iQ left o.after.toList
def eH : List Nat → Nat → List Nat
 | [], _ => []
 | j :: l, i => (match Nat.beq j i with
  | true => eH l i
  | false => j :: eH l i)
abbrev IC := St → (St → Prop) → Prop
abbrev sq := List Nat → IC
def xO (ops : Array Oper) (left : List Nat) (r : sq) (i : Nat) : IC := fun st k =>
 match ops[i]? with
 | none => False
 | some o => opK o fun o => y7 ops o st (fun st => xop P T an o st fun st => r (eH left i) st k) (fun st => put st o.dst (.val undef) fun st => r (eH left i) st k)
def J1 (ops : Array Oper) (left : List Nat) (r : sq) (i : Nat) (_ : List Nat) (c : IC) : IC := fun st k =>
 match gn ops left i with
 | true => xO P T an ops left r i st k ∧ c st k
 | false => c st k
noncomputable def rX (ops : Array Oper) (left : List Nat) (r : sq) (l : List Nat) : IC := List.rec (motive := fun _ => IC) (fun _ _ => True) (J1 P T an ops left r) l
def Iq : sq := fun left st k =>
 match left with
 | [] => k st
 | _ :: _ => False
def oS (ops : Array Oper) (s : List AV) (i : Nat) : Bool :=
 match ops[i]? with
 | none => false
 | some o => (match (match o.guard with
   | some _ => an.gq
   | none => true) with
  | false => false
  | true => (match bI an o.op o.dst (evA s) with
   | .val r => (match r with
    | [] => true
    | _ :: _ => false)
   | _ => false))
def Jp (ops : Array Oper) (left : List Nat) (s : List AV) (q : Nat) (_ : List Nat) (r : Option Nat) : Option Nat :=
 match gn ops left q with
 | true => (match oS an ops s q with
  | true => some q
  | false => r)
 | false => r
noncomputable def F2 (ops : Array Oper) (left : List Nat) (s : List AV) (l : List Nat) : Option Nat := List.rec (motive := fun _ => Option Nat) none (Jp an ops left s) l
noncomputable def OY (ops : Array Oper) (_ : Nat) (r : sq) : sq := fun left st k =>
 match left with
 | [] => k st
 | i :: l => (match st with
  | ⟨s, ob⟩ => (match F2 an ops (i :: l) s (i :: l) with
   | some q => xO P T an ops (i :: l) r q ⟨s, ob⟩ k
   | none => rX P T an ops (i :: l) r (i :: l) ⟨s, ob⟩ k))
noncomputable def wG (ops : Array Oper) (n : Nat) : sq := Nat.rec (motive := fun _ => sq) Iq (OY P T an ops) n
def B1 (keep : List Nat) : List AV → Nat → List AV
 | [], _ => []
 | a :: l, i => (match ia keep i with
  | true => a
  | false => .junk) :: B1 keep l (i + 1)
def w5 (live : List Nm) : List (Nm × aF) → List (Nm × aF)
 | [] => []
 | (n, o) :: l => (match (ia live n || Nat.blt n 64) with
  | true => (n, o) :: w5 live l
  | false => w5 live l)
def vW : List (Nm × aF) → (List (Nm × aF) → Prop) → Prop
 | [], k => k []
 | (n, o) :: l, k => vW l fun l' => k ((n, o) :: l')
def uy (o : List (Nm × aF)) : List (Nm × aF) → Bool
 | [] => true
 | (_, x) :: l => (match nX o (cf x) with
  | true => uy o l
  | false => false)
def om (keep : List Nat) (st : St) (k : St → Prop) : Prop :=
 d8 (B1 keep st.slots 0) fun s => vW (w5 (rp st.objs 1000 (cK s) []) st.objs) fun o => bU (nX o (cK s)) (bU (uy o o) (k ⟨s, o⟩))
def u2 (vec : List Nat) : List (Nat × TypeId) → St → (St → Prop) → Prop
 | [], st, k => k st
 | (d, e) :: l, st, k => (match st with
  | ⟨s, ob⟩ => (match iS s d with
   | .val (.slice none 0 0) => (match ia vec d with
    | true => eQ ob (ak d) (.vec e (T.ti e).size [] 0) fun ob => qk s d (.slv (ak d) (T.ti e).size 0 0 0) fun s => u2 vec l ⟨s, ob⟩ k
    | false => eQ ob (ak d) (.row e (T.ti e).size 0) fun ob => qk s d (.sl (some (ak d)) (T.ti e).size []) fun s => u2 vec l ⟨s, ob⟩ k)
   | _ => u2 vec l ⟨s, ob⟩ k))
def Eh : List (Nat × List (Nat × TypeId)) → Nat → List (Nat × TypeId)
 | [], _ => []
 | (i, l) :: ks, n => match Nat.beq i n with
  | true => l
  | false => Eh ks n
inductive aq (F : (St → Prop) → St → Prop) : St → Prop where
 | mk (X : St → Prop) (hX : ∀ s, X s → aq F s) (s : St) (h : F X s) : aq F s
theorem aq.step {F : (St → Prop) → St → Prop} {st : St} (h : F (aq F) st) : aq F st := .mk _ (fun _ h => h) st h
def fu : Code → Nat
 | .region id _ _ => id
 | .seq a _ => fu a
 | .block _ b => fu b
 | .scope b => fu b
 | .loop b => fu b
 | .cond _ a _ => fu a
 | _ => 0
def kW : List (Nat × List Nat) → Nat → List Nat
 | [], _ => []
 | (i, l) :: ks, n => match Nat.beq i n with
  | true => l
  | false => kW ks n
def FW (ro : Option Nat) : Fence := { Fence.wide with round := ro }
structure Gx (P : Program) (g : FuncId) (caps : List AV) (xs : List (List AV)) : Prop where
 enter : ∀ args w, (callFunc g args).run P w = .ok (.enter g args) w
 run : ∀ (G : Gh) (w : World) (lb : List Value), (∀ b o v, G.K b o = some v → w.cell? ⟨b, o, none⟩ = some v) → aB G caps lb →
  ∃ es : List (Array Value), es.length = xs.length ∧ (∀ (i : Nat) (x : List AV) (e : Array Value), xs[i]? = some x → es[i]? = some e → aB ⟨G.K, fun _ => none⟩ x e.toList) ∧
   ∀ (l n : Nat) (J Jx : Nat → World → Prop),
    (∀ (m i : Nat) (e : Array Value) (W1 : World), es[i]? = some e → J i W1 → YieldAt (FW none) m P l e W1 fun r W' => (r = .returned (.bool true) ∧ J (i + 1) W') ∨ (r = .returned (.bool false) ∧ Jx (i + 1) W')) →
    (∀ (i : Nat) (W1 : World), J i W1 → ∀ b o v, G.K b o = some v → W1.cell? ⟨b, o, none⟩ = some v) →
    J 0 w → CallsIn (FW none) n P g (#[.func (.yield l) #[] #[]] ++ lb.toArray) w fun e W' => (∃ v, e = .returned v) ∧ (J es.length W' ∨ ∃ i, Jx i W')
def rc : List AV → List Nat → List AV → List AV
 | s, p :: ps, x :: xs => rc (jc s p x) ps xs
 | s, _, _ => s
def qq : List (Nat × List Nat) → Nat → Option (List Nat)
 | [], _ => none
 | (i, l) :: ks, n => match Nat.beq i n with
  | true => some l
  | false => qq ks n
def LH (p : Option (List Nat)) (st : St) (k : St → Prop) : Prop :=
 match p with
 | none => k st
 | some keep => om keep st k
def eM : Code → Bool
 | .region id _ _ => (match qq an.pre id with
  | none => true
  | some _ => false)
 | .seq a b => (match eM a with
  | true => eM b
  | false => false)
 | .cond _ a b => (match eM a with
  | true => eM b
  | false => false)
 | .block _ b => eM b
 | .scope b => eM b
 | .loop _ => false
 | .rangeFunc _ _ _ _ => false
 | _ => true
def D5 (keep : List Nat) (caps : List AV) (g : FuncId) (ps : List Nat) (round : St → (St → Prop) → (XK → St → Prop) → Prop) (st : St) (k : St → Prop) (kx : XK → St → Prop) : Prop :=
 om keep st fun st => ∃ xs : List (List AV), Gx P g caps xs ∧ (∀ x ∈ xs, x.length = ps.length) ∧ ∃ I : Nat → St → Prop, I 0 st ∧
  (∀ (i : Nat) (x : List AV) (s : St), xs[i]? = some x → I i s → round ⟨rc s.slots ps x, s.objs⟩ (fun s2 => om keep ⟨s.slots, s2.objs⟩ (I (i + 1))) (fun e s2 => kx e ⟨s.slots, s2.objs⟩)) ∧
  ∀ s, I xs.length s → k s
structure wQ (Own : Nat → Prop) (K : Nat → Nat → Option Value) (w : World) (Own' : Nat → Prop) (K' : Nat → Nat → Option Value) (w' : World) : Prop where
 os : w'.os = w.os
 tape : w'.tape = w.tape
 output : w'.output = w.output
 size : w.heap.size ≤ w'.heap.size
 block : ∀ b, b < w.heap.size → ¬ Own b → w'.heap[b]? = w.heap[b]?
 own : ∀ b, Own' b → Own b ∨ w.heap.size ≤ b
 more : ∀ b o v, K b o = some v → K' b o = some v
 old : ∀ b o, b < w.heap.size → ¬ Own b → K' b o = K b o
 know : ∀ b o v, K' b o = some v → w'.cell? ⟨b, o, none⟩ = some v
 lies : ∀ b, Own' b → b < w'.heap.size
structure Gt (P : Program) (g : FuncId) (caps : List AV) (os : List aF) (xs : List (List AV)) : Prop where
 enter : ∀ args w, (callFunc g args).run P w = .ok (.enter g args) w
 run : ∀ (G : Gh) (w : World) (lb : List Value), WR G (bC 0 os) w → aB G caps lb →
  ∀ (l n : Nat) (J : Nat → (Nat → Prop) → (Nat → Nat → Option Value) → World → Prop) (Jx : World → Prop),
   (∀ (m i : Nat) (x : List AV) (e : Array Value) (Own : Nat → Prop) (K : Nat → Nat → Option Value) (W1 : World), xs[i]? = some x → aB ⟨K, fun _ => none⟩ x e.toList → J i Own K W1 →
    YieldAt (FW none) m P l e W1 fun r W' =>
     (r = .returned (.bool true) ∧ ∃ K', J (i + 1) Own K' W' ∧ (∀ b o v, K b o = some v → K' b o = some v) ∧ (∀ b, Own b → W'.heap[b]? = W1.heap[b]? ∧ ∀ o, K' b o = K b o) ∧ W'.os = W1.os ∧ W'.tape = W1.tape ∧ W'.output = W1.output ∧ W1.heap.size ≤ W'.heap.size) ∨
     (r = .returned (.bool false) ∧ Jx W')) →
   (∀ (i : Nat) (Own : Nat → Prop) (K : Nat → Nat → Option Value) (W : World) (Own' : Nat → Prop) (K' : Nat → Nat → Option Value) (W' : World), J i Own K W → wQ Own K W Own' K' W' → J i Own' K' W') →
   (∀ (i : Nat) (Own : Nat → Prop) (K : Nat → Nat → Option Value) (W : World), J i Own K W → ∀ b o v, K b o = some v → W.cell? ⟨b, o, none⟩ = some v) →
   J 0 (fun b => ∃ k, G.at k b) G.K w →
   CallsIn (FW none) n P g (#[.func (.yield l) #[] #[]] ++ lb.toArray) w fun e W' => (∃ v, e = .returned v) ∧ ((∃ Own K, J xs.length Own K W') ∨ Jx W')
def Gn (ns : List Nm) : List (Nm × aF) → Bool
 | [] => true
 | (n, _) :: l => (match ia ns n with
  | true => false
  | false => Gn ns l)
def zC (keep : List Nat) (caps : List AV) (g : FuncId) (ps : List Nat) (round : St → (St → Prop) → (XK → St → Prop) → Prop) (st : St) (k : St → Prop) (kx : XK → St → Prop) : Prop :=
 yk st.objs (rp st.objs 1000 (cK caps) []) fun ns os => bU (ze (cK caps) ns) (om keep st fun st => bU (Gn ns st.objs) (∃ xs : List (List AV), Gt P g (nD (qz ns) caps) os xs ∧ (∀ x ∈ xs, x.length = ps.length) ∧ ∃ I : Nat → St → Prop, I 0 st ∧
  (∀ (i : Nat) (x : List AV) (s : St), xs[i]? = some x → I i s → round ⟨rc s.slots ps x, s.objs⟩ (fun s2 => om keep ⟨s.slots, s2.objs⟩ (I (i + 1))) (fun e s2 => kx e ⟨s.slots, s2.objs⟩)) ∧
  ∀ s, I xs.length s → k s))
noncomputable def awp : Code → St → (St → Prop) → (XK → St → Prop) → Prop
 | .skip, st, k, _ => k st
 | .region id ops false, st, k, _ => LH (qq an.pre id) st fun st => lS P T an ops (ow ops.size []) st k
 | .region id ops true, st, k, _ => (match ia an.anyo id with
  | true => wG P T an ops (ops.size + 1) (ow ops.size []) st k
  | false => db P T an ops [] (ow ops.size []) st k)
 | .seq a b, st, k, kx => awp a st (fun st => awp b st k kx) kx
 | .cond c a b, st, k, kx => (match evA st.slots c with
  | .val (.bool c) => br c (awp a st k kx) (awp b st k kx)
  | _ => False)
 | .block id b, st, k, kx => awp b st k fun x st => (match x with
  | .exit id' => (match Nat.beq id' id with
   | true => k st
   | false => kx x st)
  | .ret => kx x st)
 | .scope b, st, k, kx => awp b st k kx
 | .loop b, st, _, kx => om (kW an.keep (fu b)) st fun st => u2 T an.vec (Eh an.nilr (fu b)) st fun st => aq (fun X s => awp b s (fun s => om (kW an.keep (fu b)) s X) kx) st
 | .exit id, st, _, kx => kx (.exit id) st
 | .ret, st, _, kx => kx .ret st
 | .label _, st, k, _ => k st
 | .rangeFunc g ps x b, st, k, kx => bU (eM an x) (bU (eM an b) (match evA st.slots g with
  | .fn (.func gf) [] caps => D5 P (kW an.keep (fu x)) caps gf ps.toList (fun s k' kx' => awp x s (fun s => awp b s k' kx') (fun _ _ => False)) st k kx
   ∨ zC P (kW an.keep (fu x)) caps gf ps.toList (fun s k' kx' => awp x s (fun s => awp b s k' kx') (fun _ _ => False)) st k kx
  | _ => False))
 | _, _, _, _ => False
def mW (s : List AV) (objs : List (Nm × aF)) : List ResultVar → (List AV → Prop) → Prop
 | [], k => k []
 | .tmp t :: rs, k => pb (iS s t) fun a => mW s objs rs fun l => k (a :: l)
 | .cell x t :: rs, k => (match iS s x with
  | .ptr n off => (match az objs n with
   | some (.cells _ c) => np T t (pg c off) fun v => mW s objs rs fun l => k (v :: l)
   | _ => False)
  | _ => False)
def qt (objs : List (Nm × aF)) : List Nat → List Nm
 | [] => []
 | i :: is => (match az objs i with
  | some o => cf o ++ qt objs is
  | none => qt objs is)
def D2 (rs : List ResultVar) (k : Nat) (st : St) (R : AV → List aF → Prop) : Prop :=
 mW T st.slots st.objs rs fun l => d8 (match an.keepRes with | true => l | false => l.map AV.strips) fun l =>
   yk st.objs (LB (rp st.objs 1000 (cK l ++ qt st.objs (ow k [])) (LB (ow k []) [])) []) fun ms os => bU (rv (ow k []) ms) (bU (ze (cK l) ms) (d8 (nD (qz ms) l) fun l => match l with
   | [a] => R a os
   | l => R (.tup l) os))
def vM : Nat → List AV
 | 0 => []
 | n + 1 => .junk :: vM n
def tI : List AV → Nat → List AV
 | [], n => vM n
 | a :: l, 0 => a :: l
 | a :: l, n + 1 => a :: tI l n
noncomputable def Ks (fn : Func) (args : List AV) (os : List aF) (R : AV → List aF → Prop) : Prop :=
 match fn.body with
 | some c => bU (Nat.ble os.length 64) (awp P T an c ⟨tI args fn.ntmps, bC 0 os⟩ (fun st => D2 T an fn.results.toList os.length st R) fun x st => (match x with
  | .ret => D2 T an fn.results.toList os.length st R
  | .exit _ => False))
 | none => False
end
end Go.Abs
