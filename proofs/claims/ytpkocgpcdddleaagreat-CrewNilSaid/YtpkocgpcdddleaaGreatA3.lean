/- The engine, part 3: 'awp': what a piece of code needs so that it comes to its continuations, told of abstract values. -/
import Derived.Test.YtpkocgpcdddleaaGreatA2
set_option linter.unusedVariables false
set_option linter.unusedSimpArgs false
namespace Go.Abs
open Go

section
variable (P : Program) (T : Tab) (an : Ann)

def AV.strips : AV → AV
 | .sl _ s l => .sl none s l
 | .agg l => .agg (l.map AV.strip)
 | .tup l => .tup (l.map fun a => match a with
  | .agg l => .agg (l.map AV.strip)
  | a => a.strip)
 | a => a

def elemsK (ev : Operand → AV) (size : Nat) : List (Nat × Operand) → Nat → (List (List AV) → Prop) → Prop
 | [], _, k => k []
 | (i, x) :: ps, n, k => match Nat.beq i n with
  | false => False
  | true => forceL ((ev x).cells.map AV.strip) fun c => match Nat.beq c.length size with
   | false => False
   | true => match okCells c with
    | false => False
    | true => elemsK ev size ps (n + 1) fun l => k (c :: l)

def cellish : AV → Bool
 | .val v => (match v with | .agg _ => false | .tuple _ => false | _ => true)
 | .junk => false
 | .agg _ => false
 | .tup _ => false
 | _ => true
def allCellish : List AV → Bool
 | [] => true
 | a :: l => match cellish a with
  | true => allCellish l
  | false => false

def allTy (T : Tab) : List (Nat × TypeId) → Bool
 | [] => true
 | (_, t) :: l => (match (T.ti t).ok with
  | true => allTy T l
  | false => false)

def cellsOk (c : List AV) (n : Nat) : Bool := Nat.beq c.length n && (Nat.blt 0 n && allCellish c)

def tyOk (t : TypeId) (k : TI → Prop) : Prop :=
 match (T.ti t).ok with
 | true => k (T.ti t)
 | false => False

def lenA (a : AV) (objs : List (Nm × AObj)) : Option Int :=
 match a with
 | .val (.string s) => some s.size
 | .val (.slice none 0 _) => some 0
 | .sl _ _ l => some l.length
 | .slm _ _ n _ => some n
 | .slv _ _ _ _ n => some n
 | .mapv n => (match objGet objs n with
  | some (.map es) => some es.length
  | _ => none)
 | _ => none

def zeroOk (ti : TI) : Bool := Nat.beq ti.zero.length ti.size && Nat.blt 0 ti.size

def lenTy (d : TD) (a : AV) : Bool :=
 match d, a with
 | .string, .val (.string _) => true
 | .slice _, .val (.slice _ _ _) => true
 | .slice _, .sl _ _ _ => true
 | .slice _, .slm _ _ _ _ => true
 | .slice _, .slv _ _ _ _ _ => true
 | .map _ _, .mapv _ => true
 | _, _ => false

def appendK (objs : List (Nm × AObj)) (d : Nat) (t : TypeId) (s x : AV) (k : AV → List (Nm × AObj) → Prop) : Prop :=
 match dOf T t with
 | .slice e =>
  (match (T.ti e).ok with
  | false => False
  | true =>
   (match x with
   | .sl _ sz m =>
    (match Nat.beq sz (T.ti e).size && zeroOk (T.ti e) with
    | false => False
    | true =>
     (match s with
     | .sl (some n) sz' l =>
      (match Nat.beq sz' (T.ti e).size with
      | false => False
      | true =>
       (match objGet objs n with
       | some (.row te sr top) => (match Nat.beq te e && Nat.beq sr (T.ti e).size with
        | false => False
        | true => top = l.length ∧ (l.length + m.length) * ((T.ti e).bytes + 1) ≤ 140737488355328 ∧
          objSetK objs n (.row e (T.ti e).size (l.length + m.length)) fun objs => k (.sl (some n) (T.ti e).size (l ++ m)) objs)
       | _ => False))
     | .val (.slice none 0 0) =>
       m.length * ((T.ti e).bytes + 1) ≤ 140737488355328 ∧ objInsK objs (nameOf d) (.row e (T.ti e).size m.length) fun objs => k (.sl (some (nameOf d)) (T.ti e).size m) objs
     | _ => False))
   | _ => False))
 | _ => False

def hasV (s x : AV) : Bool :=
 match s with
 | .slv _ _ _ _ _ => true
 | _ => (match x with
  | .slv _ _ _ _ _ => true
  | _ => false)
def vappendK (objs : List (Nm × AObj)) (t : TypeId) (s x : AV) (k : AV → List (Nm × AObj) → Prop) : Prop :=
 match dOf T t with
 | .slice e =>
  (match (T.ti e).ok with
  | false => False
  | true => (match x with
   | .sl _ sz m => (match Nat.beq sz (T.ti e).size && zeroOk (T.ti e) with
    | false => False
    | true => (match s with
     | .slv n sz' ver off len => (match Nat.beq sz' (T.ti e).size with
      | false => False
      | true => (match objGet objs n with
       | some (.vec te sr l ver') => (match Nat.beq te e && Nat.beq sr (T.ti e).size with
        | false => False
        | true => (ver = ver' ∧ off = 0 ∧ len ≤ l.length) ∧ (len + m.length) * ((T.ti e).bytes + 1) ≤ 140737488355328 ∧
          objSetK objs n (.vec e (T.ti e).size (l.take len ++ m) (ver' + 1)) fun objs => k (.slv n (T.ti e).size (ver' + 1) 0 (len + m.length)) objs)
       | _ => False))
     | _ => False))
   | .slv n2 sz ver off len => (match Nat.beq sz (T.ti e).size && zeroOk (T.ti e) with
    | false => False
    | true => (match objGet objs n2 with
     | some (.vec te2 sr2 l2 ver') => (match Nat.beq te2 e && Nat.beq sr2 (T.ti e).size with
      | false => False
      | true => (match s with
       | .sl (some n) sz' l => (match Nat.beq sz' (T.ti e).size with
        | false => False
        | true => (match objGet objs n with
         | some (.row te sr top) => (match Nat.beq te e && Nat.beq sr (T.ti e).size with
          | false => False
          | true => (ver = ver' ∧ top = l.length) ∧ (l.length + len) * ((T.ti e).bytes + 1) ≤ 140737488355328 ∧
            objSetK objs n (.row e (T.ti e).size (l.length + len)) fun objs => k (.sl (some n) (T.ti e).size (l ++ (l2.drop off).take len)) objs)
         | _ => False))
       | _ => False))
     | _ => False))
   | _ => False))
 | _ => False

def byteA (s : ByteArray) : List (List AV) := s.data.toList.map fun c => [.val (.int .u8 c.toNat)]
def sappendK (objs : List (Nm × AObj)) (d : Nat) (t t2 : TypeId) (s x : AV) (k : AV → List (Nm × AObj) → Prop) : Prop :=
 match dOf T t2 with
 | .string => (match dOf T t with
  | .slice e => (match dOf T e with
   | .int .u8 => (match x with
    | .val (.string b) => appendK T objs d t s (.sl none 1 (byteA b)) k
    | _ => False)
   | _ => False)
  | _ => False)
 | .slice _ => (match x with
  | .sl own sz m => appendK T objs d t s (.sl own sz m) k
  | _ => False)
 | _ => False

def mapFind : List (ByteArray × AV) → ByteArray → Option AV
 | [], _ => none
 | (s, v) :: es, k => if s = k then some v else mapFind es k
def mapPut : List (ByteArray × AV) → ByteArray → AV → List (ByteArray × AV)
 | [], k, v => [(k, v)]
 | (s, u) :: es, k, v => if s = k then (k, v) :: es else (s, u) :: mapPut es k v
def mapDel : List (ByteArray × AV) → ByteArray → List (ByteArray × AV)
 | [], _ => []
 | (s, u) :: es, k => if s = k then es else (s, u) :: mapDel es k

def zeroA (ti : TI) (k : AV → Prop) : Prop := must (zeroOk ti) <|
 match ti.zagg with
 | true => k (.agg (valsA ti.zero))
 | false => (match ti.zero with
  | [v] => k (.val v)
  | _ => False)

def passes (d : Option Tmp) : Bool :=
 match d with
 | none => false
 | some d => memN an.pass d
def dstN (d : Option Tmp) : Nat :=
 match d with
 | none => 0
 | some d => d

def argsOf (an : Ann) (dst : Option Tmp) (ev : Operand → AV) (c : Call) (first cap : List AV) : List AV :=
 first ++ (match passes an dst with | true => c.args.toList.map ev | false => (c.args.toList.map ev).map AV.strips) ++ cap

def genOp (op : Op) (dst : Option Tmp) (ev : Operand → AV) (objs : List (Nm × AObj)) (k : AV → List (Nm × AObj) → Prop) : Prop :=
 match op with
 | .move x => k (ev x) objs
 | .assign x => k (ev x) objs
 | .pick c a b =>
  (match ev c with
  | .val (.bool c) => br c (k (ev a) objs) (k (ev b) objs)
  | _ => False)
 | .binOp op t x y _ => abin T op t (ev x) (ev y) fun v => k v objs
 | .unOp op _ x => aun op (ev x) fun v => k v objs
 | .load t p =>
  (match ev p with
  | .cptr c off => aload T t (dropL c off) fun v => k v objs
  | .ptr n off => (match objGet objs n with
   | some (.cells _ l) => aload T t (dropL l off) fun v => k v objs
   | _ => False)
  | .ptv n size ver i off => (match objGet objs n with
   | some (.vec _ sz l ver') => must (Nat.beq sz size) (ver = ver' ∧ idxK l i fun e => aload T t (dropL e off) fun v => k v objs)
   | _ => False)
  | _ => False)
 | .store t p x =>
  (match ev p with
  | .ptr n off => (match objGet objs n with
   | some (.cells te l) => tyOk T t fun ti => forceL (ev x).cells fun c => must (Nat.beq c.length ti.size) (must (allCellish c) (updK l off c fun l' => objSetK objs n (.cells te l') fun objs => k .junk objs))
   | _ => False)
  | .ptv n size ver i off => (match objGet objs n with
   | some (.vec te sz l ver') => tyOk T t fun ti => forceL ((ev x).cells.map AV.strip) fun c => must (Nat.beq sz size && (Nat.beq c.length ti.size && Nat.blt 0 ti.size)) (must (okCells c) (ver = ver' ∧ idxK l i fun e => updK e off c fun e' => objSetK objs n (.vec te sz (l.set i e') ver') fun objs => k .junk objs))
   | _ => False)
  | _ => False)
 | .fieldAddr t p f =>
  (match fieldOff T t f with
  | some (fo, ft) => tyOk T t fun _ => tyOk T ft fun fi => must (Nat.blt 0 fi.size) (match ev p with
   | .cptr c off => k (.cptr c (off + fo)) objs
   | .ptr n off => k (.ptr n (off + fo)) objs
   | .ptv n size ver i off => k (.ptv n size ver i (off + fo)) objs
   | _ => False)
  | none => False)
 | .field t x f =>
  (match fieldOff T t f with
  | some (fo, ft) => (match ev x with
   | .agg l => tyOk T t fun _ => aload T ft (dropL l fo) fun v => k v objs
   | _ => False)
  | none => False)
 | .indexAddr t x i =>
  tyOk T t fun ti => (match ev i with
  | .val (.int _ i) => (match ti.d with
   | .slice e => tyOk T e fun ei => must (Nat.blt 0 ei.size) (match ev x with
    | .sl _ sz l => must (Nat.beq sz ei.size) (must (decide (0 ≤ i)) (idxK l i.toNat fun c => k (.cptr c 0) objs))
    | .slm n off len _ => must (decide (0 ≤ i)) (must (decide (i < (len : Int))) (k (.ptr n (off + i.toNat * ei.size)) objs))
    | .slv n sz ver off len => must (Nat.beq sz ei.size) (must (decide (0 ≤ i)) (must (decide (i < (len : Int))) (k (.ptv n sz ver (off + i.toNat) 0) objs)))
    | _ => False)
   | .array m e => tyOk T e fun ei => must (Nat.blt 0 ei.size) (must (decide (0 ≤ i)) (must (decide (i < (m : Int))) (match ev x with
    | .cptr c off => k (.cptr c (off + i.toNat * ei.size)) objs
    | .ptr n off => k (.ptr n (off + i.toNat * ei.size)) objs
    | _ => False)))
   | _ => False)
  | _ => False)
 | .index t x i =>
  tyOk T t fun ti => (match ev i with
  | .val (.int _ i) => (match ti.d with
   | .string => (match ev x with
    | .val (.string s) => must (decide (0 ≤ i)) (must (decide (i < (s.size : Int))) (k (.val (.int .u8 (byteAt s i.toNat))) objs))
    | _ => False)
   | .array m e => (match ev x with
    | .agg l => must (decide (0 ≤ i)) (must (decide (i < (m : Int))) (tyOk T e fun ei => aload T e (dropL l (i.toNat * ei.size)) fun v => k v objs))
    | _ => False)
   | _ => False)
  | _ => False)
 | .extract x i =>
  (match ev x with
  | .tup l => idxK l i fun v => k v objs
  | _ => False)
 | .build t ps =>
  tyOk T t fun ti => (match ti.d with
  | .struct fs => must (zeroOk ti && allTy T fs) (buildK ev fs ps.toList (valsA ti.zero) fun l => k (.agg l) objs)
  | .array _ e => must (zeroOk ti) (tyOk T e fun ei => buildArrK ev ei.size ps.toList (valsA ti.zero) fun l => k (.agg l) objs)
  | _ => False)
 | .buildSlice t len ps =>
  tyOk T t fun ti => (match ti.d with
  | .slice e => tyOk T e fun ei => must (zeroOk ei) (must (Nat.beq ps.size len && Nat.ble (len * ei.size) 16777216) (elemsK ev ei.size ps.toList 0 fun l =>
    match dst with
    | none => False
    | some d => (match memN an.own d with
     | true => objInsK objs (nameOf d) (.row e ei.size l.length) fun objs => k (.sl (some (nameOf d)) ei.size l) objs
     | false => (match memN an.chg d with
      | true => objInsK objs (nameOf d) (.cells e l.flatten) fun objs => k (.slm (nameOf d) 0 l.length l.length) objs
      | false => k (.sl none ei.size l) objs))))
  | _ => False)
 | .alloc t =>
  tyOk T t fun ti => (match dst with
  | none => False
  | some d => must (zeroOk ti) (objInsK objs (nameOf d) (.cells t (valsA ti.zero)) fun objs => k (.ptr (nameOf d) 0) objs))
 | .box t x =>
  (match dst with
  | none => False
  | some d => (match memN an.cst d with
   | true => forceL ((ev x).cells.map AV.strip) fun c => must (okCells c) (k (.cptr c 0) objs)
   | false => forceL (ev x).cells fun c => must (allCellish c) (objInsK objs (nameOf d) (.cells t c) fun objs => k (.ptr (nameOf d) 0) objs)))
 | .nilCheck x =>
  (match ev x with
  | .ptr n off => k (.ptr n off) objs
  | .cptr c off => k (.cptr c off) objs
  | _ => False)
 | .makeFunc f first cap => forceL (first.toList.map ev) fun a => forceL (cap.toList.map ev) fun b => k (.fn f a b) objs
 | .makeMap _ none =>
  (match dst with
  | none => False
  | some d => objInsK objs (nameOf d) (.map []) fun objs => k (.mapv (nameOf d)) objs)
 | .slice t x lo hi none =>
  tyOk T t fun ti => (match ev x with
  | .val (.string s) => (match ti.d with
   | .string => boundK ev lo 0 fun l => boundK ev hi s.size fun h =>
     must (decide (0 ≤ l)) (must (decide (l ≤ h)) (must (decide (h ≤ (s.size : Int))) (k (.val (.string (s.extract l.toNat h.toNat))) objs)))
   | _ => False)
  | .sl _ sz xs => (match ti.d with
   | .slice e => tyOk T e fun ei => must (Nat.beq sz ei.size) (boundK ev lo 0 fun l => boundK ev hi xs.length fun h =>
     must (decide (0 ≤ l)) (must (decide (l ≤ h)) (must (decide (h ≤ (xs.length : Int))) (k (.sl none sz ((xs.take h.toNat).drop l.toNat)) objs))))
   | _ => False)
  | .slv n sz ver off len => (match ti.d with
   | .slice e => tyOk T e fun ei => must (Nat.beq sz ei.size) (boundK ev lo 0 fun l => boundK ev hi len fun h =>
     must (decide (0 ≤ l)) (must (decide (l ≤ h)) (must (decide (h ≤ (len : Int))) (k (.slv n sz ver (off + l.toNat) (h.toNat - l.toNat)) objs))))
   | _ => False)
  | .ptr n off => (match ti.d with
   | .array m e => tyOk T e fun _ => (match lo, hi with
    | none, none => k (.slm n off m m) objs
    | _, _ => False)
   | _ => False)
  | _ => False)
 | .slice t x lo (some hi) (some mx) =>
  tyOk T t fun ti => (match ev x with
  | .sl _ sz xs => (match ti.d with
   | .slice e => tyOk T e fun ei => must (Nat.beq sz ei.size) (boundK ev lo 0 fun l => boundK ev (some hi) 0 fun h => boundK ev (some mx) 0 fun m =>
     must (decide (0 ≤ l)) (must (decide (l ≤ h)) (must (decide (h ≤ m)) (must (decide (m ≤ (xs.length : Int))) (k (.sl none sz ((xs.take h.toNat).drop l.toNat)) objs)))))
   | _ => False)
  | _ => False)
 | .convert src dst x =>
  tyOk T src fun si => tyOk T dst fun di => (match di.d, ev x with
  | .int kd, .val (.int ks n) => (match si.d with
   | .int _ => k (.val (.int kd (kd.wrap n))) objs
   | _ => False)
  | .string, .val (.string s) => (match si.d with
   | .string => k (.val (.string s)) objs
   | _ => False)
  | .slice e, .val (.string s) => (match dOf T e with
   | .int .u8 => k (.sl none 1 (s.data.toList.map fun c => [.val (.int .u8 c.toNat)])) objs
   | _ => False)
  | .string, .sl _ _ l => (match si.d with
   | .slice e => (match dOf T e with
    | .int .u8 => ∃ bs : List Int, (l = bs.map fun b => [.val (.int .u8 b)]) ∧ k (.val (.string (strOfNums bs))) objs
    | _ => False)
   | _ => False)
  | .string, .slv n sz ver off len => (match si.d with
   | .slice e => (match dOf T e with
    | .int .u8 => (match objGet objs n with
     | some (.vec _ _ l ver') => must (Nat.beq sz 1 && Nat.beq off 0) ((ver = ver' ∧ len = l.length ∧ 0 < len) ∧ ∃ bs : List Int, (l = bs.map fun b => [.val (.int .u8 b)]) ∧ k (.val (.string (strOfNums bs))) objs)
     | _ => False)
    | _ => False)
   | _ => False)
  | _, _ => False)
 | .lookup t m x ok =>
  (match dOf T t with
  | .map kt e => (match dOf T kt with
   | .string => tyOk T e fun ei => (match ev m, ev x with
    | .mapv n, .val (.string s) => (match objGet objs n with
     | some (.map es) => zeroA ei fun z => (match ok with
      | true => k (.tup [(mapFind es s).getD z, .val (.bool (mapFind es s).isSome)]) objs
      | false => k ((mapFind es s).getD z) objs)
     | _ => False)
    | _, _ => False)
   | _ => False)
  | _ => False)
 | .mapUpdate t m x v =>
  (match dOf T t with
  | .map kt e => (match dOf T kt with
   | .string => (match ev m, ev x with
    | .mapv n, .val (.string s) => (match objGet objs n with
     | some (.map es) => force (ev v).strips fun v => must (noNames v) (objSetK objs n (.map (mapPut es s v)) fun objs => k .junk objs)
     | _ => False)
    | _, _ => False)
   | _ => False)
  | _ => False)
 | .call c =>
  (match c.callee with
  | .value f => (match ev f with
   | .fn (.func g) first cap => forceL (argsOf an dst ev c first cap) fun args => must (T.fn g)
     (partK objs (revL (reach objs 1000 (namesL args) []) []) fun ns os => must (subN (namesL args) ns) (forceL (renL (idxN ns) args) fun args =>
     ACalls P g args os fun r os => backK (backN (dstN dst) ns 0) (dstN dst) ns os 0 objs fun objs => k (renA (backN (dstN dst) ns 0) r) objs))
   | _ => False)
  | .builtin b => (match b, c.args.toList, c.argTypes.toList with
   | .len, [x], [t] => must (lenTy (dOf T t) (ev x)) (match lenA (ev x) objs with
    | some n => k (.val (.int .i64 n)) objs
    | none => False)
   | .append, [s, x], [t, t2] => (match Nat.beq t t2, dst with
    | true, some d => (match hasV (ev s) (ev x) with
     | true => vappendK T objs t (ev s) (ev x) fun v objs => k v objs
     | false => appendK T objs d t (ev s) (ev x) fun v objs => k v objs)
    | false, some d => sappendK T objs d t t2 (ev s) (ev x) fun v objs => k v objs
    | _, _ => False)
   | .delete, [m, x], [t, _] => (match dOf T t with
    | .map kt e => (match dOf T kt with
     | .string => (match ev m, ev x with
      | .mapv n, .val (.string s) => (match objGet objs n with
       | some (.map es) => objSetK objs n (.map (mapDel es s)) fun objs => k .junk objs
       | _ => False)
      | _, _ => False)
     | _ => False)
    | _ => False)
   | .min, [x, y], [_, _] => (match ev x, ev y with
    | .val (.int ka x), .val (.int kb y) => must (ikEq ka kb) (k (.val (.int ka (if y < x then y else x))) objs)
    | _, _ => False)
   | .max, [x, y], [_, _] => (match ev x, ev y with
    | .val (.int ka x), .val (.int kb y) => must (ikEq ka kb) (k (.val (.int ka (if x < y then y else x))) objs)
    | _, _ => False)
   | _, _, _ => False)
  | _ => False)
 | .makeInterface t x =>
  (match dOf T t with
  | .iface => False
  | .other => False
  | _ => force (ev x) fun v => k (.iface t v) objs)
 | _ => False
where
 /-- A struct's cells, the given fields laid over. -/
 buildK (ev : Operand → AV) (fs : List (Nat × TypeId)) : List (Nat × Operand) → List AV → (List AV → Prop) → Prop
  | [], l, k => k l
  | (i, x) :: ps, l, k => match fs[i]? with
   | none => False
   | some (off, t) => tyOk T t fun ti => forceL (ev x).cells fun c => must (cellsOk c ti.size) (updK l off c fun l' => buildK ev fs ps l' k)
 buildArrK (ev : Operand → AV) (size : Nat) : List (Nat × Operand) → List AV → (List AV → Prop) → Prop
  | [], l, k => k l
  | (i, x) :: ps, l, k => forceL (ev x).cells fun c => must (cellsOk c size) (updK l (i * size) c fun l' => buildArrK ev size ps l' k)
 boundK (ev : Operand → AV) (x : Option Operand) (d : Nat) (k : Int → Prop) : Prop :=
  match x with
  | none => k d
  | some x => (match ev x with
   | .val (.int _ i) => k i
   | _ => False)


def awpOp (o : Oper) (st : St) (k : St → Prop) : Prop :=
 genOp P T an o.op o.dst (evA st.slots) st.objs fun v objs => put ⟨st.slots, objs⟩ o.dst v k

inductive Cls where
 | val (r : List Nm)
 | mk
 | call
 | wr

def clsOf (op : Op) (dst : Option Tmp) (ev : Operand → AV) : Cls :=
 match op with
 | .load _ p => (match ev p with
  | .ptr n _ => .val [n]
  | .ptv n _ _ _ _ => .val [n]
  | _ => .val [])
 | .lookup _ m _ _ => (match ev m with
  | .mapv n => .val [n]
  | _ => .val [])
 | .alloc _ => .mk
 | .makeMap _ _ => .mk
 | .box _ _ => (match dst with
  | some d => (match memN an.cst d with
   | true => .val []
   | false => .mk)
  | none => .mk)
 | .buildSlice _ _ _ => (match dst with
  | some d => (match memN an.own d with
   | true => .mk
   | false => (match memN an.chg d with
    | true => .mk
    | false => .val []))
  | none => .mk)
 | .store _ _ _ => .wr
 | .mapUpdate _ _ _ _ => .wr
 | .call c => (match c.callee with
  | .value f => (match dst with
   | some d => (match memN an.objc d with
    | true => .wr
    | false => .call)
   | none => .wr)
  | .builtin b => (match b with
   | .len => (match c.args.toList with
    | [x] => (match ev x with
     | .mapv n => .val [n]
     | _ => .val [])
    | _ => .val [])
   | .min => .val []
   | .max => .val []
   | _ => .wr)
  | _ => .wr)
 | .move _ => .val []
 | .assign _ => .val []
 | .pick _ _ _ => .val []
 | .binOp _ _ _ _ _ => .val []
 | .unOp _ _ _ => .val []
 | .fieldAddr _ _ _ => .val []
 | .field _ _ _ => .val []
 | .indexAddr _ _ _ => .val []
 | .index _ _ _ => .val []
 | .extract _ _ => .val []
 | .build _ _ => .val []
 | .nilCheck _ => .val []
 | .makeFunc _ _ _ => .val []
 | .slice _ _ _ _ _ => .val []
 | .convert _ _ x => (match ev x with
  | .slv n _ _ _ _ => .val [n]
  | _ => .val [])
 | .makeInterface _ _ => .val []
 | _ => .wr

def plainCall (op : Op) (dst : Option Tmp) (ev : Operand → AV) : Bool :=
 match op with
 | .call c => (match c.callee with
  | .value f => (match ev f with
   | .fn (.func _) first cap => (match namesL (argsOf an dst ev c first cap) with
    | [] => true
    | _ => false)
   | _ => false)
  | _ => false)
 | _ => false

def compat (cj ci : Cls) : Bool :=
 match cj, ci with
 | .val [], _ => true
 | _, .val [] => true
 | .val _, .val _ => true
 | .val _, .mk => true
 | .mk, .val _ => true
 | .mk, .mk => true
 | .val _, .call => true
 | .call, .val _ => true
 | .mk, .call => true
 | .call, .mk => true
 | .call, .call => true
 | .call, .wr => true
 | .wr, .call => true
 | .wr, .wr => true
 | _, _ => false
def anyE (p : Nat → Bool) : List Edge → Bool
 | [] => false
 | e :: l => (match Region.binds .any e with
  | true => (match p e.on with
   | true => true
   | false => anyE p l)
  | false => anyE p l)
def befR (ops : Array Oper) (j : Nat) : Nat → Nat → Bool
 | 0, _ => false
 | f + 1, i => (match ops[i]? with
  | none => false
  | some o => anyE (fun x => (match Nat.beq x j with
   | true => true
   | false => (match Nat.ble x j with
    | true => false
    | false => befR ops j f x))) o.after.toList)
def befT (ops : Array Oper) (i j : Nat) : Bool := befR ops j 4 i
def okAll (ops : Array Oper) (i : Nat) (o : Oper) (c : Cls) : List (Nat × Cls) → Bool
 | [] => true
 | (j, cj) :: l => match afterN o.after.toList j with
  | true => okAll ops i o c l
  | false => (match compat cj c with
   | true => okAll ops i o c l
   | false => (match befT ops i j with
    | true => okAll ops i o c l
    | false => false))

end
end Go.Abs
