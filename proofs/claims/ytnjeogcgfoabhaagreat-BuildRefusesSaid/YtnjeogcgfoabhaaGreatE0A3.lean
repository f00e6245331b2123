/- The engine, A3. -/
import Derived.Test.YtnjeogcgfoabhaaGreatE0A2
set_option linter.unusedVariables false
set_option linter.unusedSimpArgs false
namespace Go.Abs
open Go
section
variable (P : Program) (T : Tab) (an : Ann)
def AV.strips : AV → AV
 | .sl _ s l => .sl none s l
 | .agg l => .agg (l.map AV.strip)
 | .tup l => .tup (l.map fun a => match a with
  | .agg l => .agg (l.map AV.strip)
  | a => a.strip)
 | a => a
def nR (ev : Operand → AV) (size : Nat) : List (Nat × Operand) → Nat → (List (List AV) → Prop) → Prop
 | [], _, k => k []
 | (i, x) :: ps, n, k => match Nat.beq i n with
  | false => False
  | true => d8 ((ev x).cells.map AV.strip) fun c => match Nat.beq c.length size with
   | false => False
   | true => match bS c with
    | false => False
    | true => nR ev size ps (n + 1) fun l => k (c :: l)
def dY : AV → Bool
 | .val v => (match v with | .agg _ => false | .tuple _ => false | _ => true)
 | .junk => false
 | .agg _ => false
 | .tup _ => false
 | _ => true
def fy : List AV → Bool
 | [] => true
 | a :: l => match dY a with
  | true => fy l
  | false => false
def y3 (T : Tab) : List (Nat × TypeId) → Bool
 | [] => true
 | (_, t) :: l => (match (T.ti t).ok with
  | true => y3 T l
  | false => false)
def r8 (c : List AV) (n : Nat) : Bool := Nat.beq c.length n && (Nat.blt 0 n && fy c)
def fY (t : TypeId) (k : TI → Prop) : Prop :=
 match (T.ti t).ok with
 | true => k (T.ti t)
 | false => False
def xg (a : AV) (objs : List (Nm × aF)) : Option Int :=
 match a with
 | .val (.string s) => some s.size
 | .val (.slice none 0 _) => some 0
 | .sl _ _ l => some l.length
 | .slm _ _ n _ => some n
 | .slv _ _ _ _ n => some n
 | .mapv n => (match az objs n with
  | some (.map es) => some es.length
  | _ => none)
 | _ => none
def jb (ti : TI) : Bool := Nat.beq ti.zero.length ti.size && Nat.blt 0 ti.size
def pY (d : TD) (a : AV) : Bool :=
 match d, a with
 | .string, .val (.string _) => true
 | .slice _, .val (.slice _ _ _) => true
 | .slice _, .sl _ _ _ => true
 | .slice _, .slm _ _ _ _ => true
 | .slice _, .slv _ _ _ _ _ => true
 | .map _ _, .mapv _ => true
 | _, _ => false
def ja (objs : List (Nm × aF)) (d : Nat) (t : TypeId) (s x : AV) (k : AV → List (Nm × aF) → Prop) : Prop :=
 match dOf T t with
 | .slice e =>
  (match (T.ti e).ok with
  | false => False
  | true =>
   (match x with
   | .sl _ sz m =>
    (match Nat.beq sz (T.ti e).size && jb (T.ti e) with
    | false => False
    | true =>
     (match s with
     | .sl (some n) sz' l =>
      (match Nat.beq sz' (T.ti e).size with
      | false => False
      | true =>
       (match az objs n with
       | some (.row te sr top) => (match Nat.beq te e && Nat.beq sr (T.ti e).size with
        | false => False
        | true => top = l.length ∧ (l.length + m.length) * ((T.ti e).bytes + 1) ≤ 140737488355328 ∧
          dB objs n (.row e (T.ti e).size (l.length + m.length)) fun objs => k (.sl (some n) (T.ti e).size (l ++ m)) objs)
       | _ => False))
     | .val (.slice none 0 0) =>
       m.length * ((T.ti e).bytes + 1) ≤ 140737488355328 ∧ eQ objs (ak d) (.row e (T.ti e).size m.length) fun objs => k (.sl (some (ak d)) (T.ti e).size m) objs
     | _ => False))
   | _ => False))
 | _ => False
def Oh (s x : AV) : Bool :=
 match s with
 | .slv _ _ _ _ _ => true
 | _ => (match x with
  | .slv _ _ _ _ _ => true
  | _ => false)
def mQ (objs : List (Nm × aF)) (t : TypeId) (s x : AV) (k : AV → List (Nm × aF) → Prop) : Prop :=
 match dOf T t with
 | .slice e =>
  (match (T.ti e).ok with
  | false => False
  | true => (match x with
   | .sl _ sz m => (match Nat.beq sz (T.ti e).size && jb (T.ti e) with
    | false => False
    | true => (match s with
     | .slv n sz' ver off len => (match Nat.beq sz' (T.ti e).size with
      | false => False
      | true => (match az objs n with
       | some (.vec te sr l ver') => (match Nat.beq te e && Nat.beq sr (T.ti e).size with
        | false => False
        | true => (ver = ver' ∧ off = 0 ∧ len ≤ l.length) ∧ (len + m.length) * ((T.ti e).bytes + 1) ≤ 140737488355328 ∧
          dB objs n (.vec e (T.ti e).size (l.take len ++ m) (ver' + 1)) fun objs => k (.slv n (T.ti e).size (ver' + 1) 0 (len + m.length)) objs)
       | _ => False))
     | _ => False))
   | .slv n2 sz ver off len => (match Nat.beq sz (T.ti e).size && jb (T.ti e) with
    | false => False
    | true => (match az objs n2 with
     | some (.vec te2 sr2 l2 ver') => (match Nat.beq te2 e && Nat.beq sr2 (T.ti e).size with
      | false => False
      | true => (match s with
       | .sl (some n) sz' l => (match Nat.beq sz' (T.ti e).size with
        | false => False
        | true => (match az objs n with
         | some (.row te sr top) => (match Nat.beq te e && Nat.beq sr (T.ti e).size with
          | false => False
          | true => (ver = ver' ∧ top = l.length) ∧ (l.length + len) * ((T.ti e).bytes + 1) ≤ 140737488355328 ∧
            dB objs n (.row e (T.ti e).size (l.length + len)) fun objs => k (.sl (some n) (T.ti e).size (l ++ (l2.drop off).take len)) objs)
         | _ => False))
       | _ => False))
     | _ => False))
   | _ => False))
 | _ => False
def p7 (s : ByteArray) : List (List AV) := s.data.toList.map fun c => [.val (.int .u8 c.toNat)]
def mV (objs : List (Nm × aF)) (d : Nat) (t t2 : TypeId) (s x : AV) (k : AV → List (Nm × aF) → Prop) : Prop :=
 match dOf T t2 with
 | .string => (match dOf T t with
  | .slice e => (match dOf T e with
   | .int .u8 => (match x with
    | .val (.string b) => ja T objs d t s (.sl none 1 (p7 b)) k
    | _ => False)
   | _ => False)
  | _ => False)
 | .slice _ => (match x with
  | .sl own sz m => ja T objs d t s (.sl own sz m) k
  | _ => False)
 | _ => False
def cB : List (ByteArray × AV) → ByteArray → Option AV
 | [], _ => none
 | (s, v) :: es, k => if s = k then some v else cB es k
def dZ : List (ByteArray × AV) → ByteArray → AV → List (ByteArray × AV)
 | [], k, v => [(k, v)]
 | (s, u) :: es, k, v => if s = k then (k, v) :: es else (s, u) :: dZ es k v
def jC : List (ByteArray × AV) → ByteArray → List (ByteArray × AV)
 | [], _ => []
 | (s, u) :: es, k => if s = k then es else (s, u) :: jC es k
def xI (ti : TI) (k : AV → Prop) : Prop := bU (jb ti) <|
 match ti.zagg with
 | true => k (.agg (qY ti.zero))
 | false => (match ti.zero with
  | [v] => k (.val v)
  | _ => False)
def Eb (d : Option Tmp) : Bool :=
 match d with
 | none => false
 | some d => ia an.pass d
def Oy (d : Option Tmp) : Nat :=
 match d with
 | none => 0
 | some d => d
def qO (an : Ann) (dst : Option Tmp) (ev : Operand → AV) (c : Call) (first cap : List AV) : List AV :=
 first ++ (match Eb an dst with | true => c.args.toList.map ev | false => (c.args.toList.map ev).map AV.strips) ++ cap
def aR (op : Op) (dst : Option Tmp) (ev : Operand → AV) (objs : List (Nm × aF)) (k : AV → List (Nm × aF) → Prop) : Prop :=
 match op with
 | .move x => k (ev x) objs
 | .assign x => k (ev x) objs
 | .pick c a b =>
  (match ev c with
  | .val (.bool c) => br c (k (ev a) objs) (k (ev b) objs)
  | _ => False)
 | .binOp op t x y _ => It T op t (ev x) (ev y) fun v => k v objs
 | .unOp op _ x => aun op (ev x) fun v => k v objs
 | .load t p =>
  (match ev p with
  | .cptr c off => np T t (pg c off) fun v => k v objs
  | .ptr n off => (match az objs n with
   | some (.cells _ l) => np T t (pg l off) fun v => k v objs
   | _ => False)
  | .ptv n size ver i off => (match az objs n with
   | some (.vec _ sz l ver') => bU (Nat.beq sz size) (ver = ver' ∧ qA l i fun e => np T t (pg e off) fun v => k v objs)
   | _ => False)
  | _ => False)
 | .store t p x =>
  (match ev p with
  | .ptr n off => (match az objs n with
   | some (.cells te l) => fY T t fun ti => d8 (ev x).cells fun c => bU (Nat.beq c.length ti.size) (bU (fy c) (sA l off c fun l' => dB objs n (.cells te l') fun objs => k .junk objs))
   | _ => False)
  | .ptv n size ver i off => (match az objs n with
   | some (.vec te sz l ver') => fY T t fun ti => d8 ((ev x).cells.map AV.strip) fun c => bU (Nat.beq sz size && (Nat.beq c.length ti.size && Nat.blt 0 ti.size)) (bU (bS c) (ver = ver' ∧ qA l i fun e => sA e off c fun e' => dB objs n (.vec te sz (l.set i e') ver') fun objs => k .junk objs))
   | _ => False)
  | _ => False)
 | .fieldAddr t p f =>
  (match ni T t f with
  | some (fo, ft) => fY T t fun _ => fY T ft fun fi => bU (Nat.blt 0 fi.size) (match ev p with
   | .cptr c off => k (.cptr c (off + fo)) objs
   | .ptr n off => k (.ptr n (off + fo)) objs
   | .ptv n size ver i off => k (.ptv n size ver i (off + fo)) objs
   | _ => False)
  | none => False)
 | .field t x f =>
  (match ni T t f with
  | some (fo, ft) => (match ev x with
   | .agg l => fY T t fun _ => np T ft (pg l fo) fun v => k v objs
   | _ => False)
  | none => False)
 | .indexAddr t x i =>
  fY T t fun ti => (match ev i with
  | .val (.int _ i) => (match ti.d with
   | .slice e => fY T e fun ei => bU (Nat.blt 0 ei.size) (match ev x with
    | .sl _ sz l => bU (Nat.beq sz ei.size) (bU (decide (0 ≤ i)) (qA l i.toNat fun c => k (.cptr c 0) objs))
    | .slm n off len _ => bU (decide (0 ≤ i)) (bU (decide (i < (len : Int))) (k (.ptr n (off + i.toNat * ei.size)) objs))
    | .slv n sz ver off len => bU (Nat.beq sz ei.size) (bU (decide (0 ≤ i)) (bU (decide (i < (len : Int))) (k (.ptv n sz ver (off + i.toNat) 0) objs)))
    | _ => False)
   | .array m e => fY T e fun ei => bU (Nat.blt 0 ei.size) (bU (decide (0 ≤ i)) (bU (decide (i < (m : Int))) (match ev x with
    | .cptr c off => k (.cptr c (off + i.toNat * ei.size)) objs
    | .ptr n off => k (.ptr n (off + i.toNat * ei.size)) objs
    | _ => False)))
   | _ => False)
  | _ => False)
 | .index t x i =>
  fY T t fun ti => (match ev i with
  | .val (.int _ i) => (match ti.d with
   | .string => (match ev x with
    | .val (.string s) => bU (decide (0 ≤ i)) (bU (decide (i < (s.size : Int))) (k (.val (.int .u8 (aE s i.toNat))) objs))
    | _ => False)
   | .array m e => (match ev x with
    | .agg l => bU (decide (0 ≤ i)) (bU (decide (i < (m : Int))) (fY T e fun ei => np T e (pg l (i.toNat * ei.size)) fun v => k v objs))
    | _ => False)
   | _ => False)
  | _ => False)
 | .extract x i =>
  (match ev x with
  | .tup l => qA l i fun v => k v objs
  | _ => False)
 | .build t ps =>
  fY T t fun ti => (match ti.d with
  | .struct fs => bU (jb ti && y3 T fs) (buildK ev fs ps.toList (qY ti.zero) fun l => k (.agg l) objs)
  | .array _ e => bU (jb ti) (fY T e fun ei => buildArrK ev ei.size ps.toList (qY ti.zero) fun l => k (.agg l) objs)
  | _ => False)
 | .buildSlice t len ps =>
  fY T t fun ti => (match ti.d with
  | .slice e => fY T e fun ei => bU (jb ei) (bU (Nat.beq ps.size len && Nat.ble (len * ei.size) 16777216) (nR ev ei.size ps.toList 0 fun l =>
    match dst with
    | none => False
    | some d => (match ia an.own d with
     | true => eQ objs (ak d) (.row e ei.size l.length) fun objs => k (.sl (some (ak d)) ei.size l) objs
     | false => (match ia an.chg d with
      | true => eQ objs (ak d) (.cells e l.flatten) fun objs => k (.slm (ak d) 0 l.length l.length) objs
      | false => k (.sl none ei.size l) objs))))
  | _ => False)
 | .alloc t =>
  fY T t fun ti => (match dst with
  | none => False
  | some d => bU (jb ti) (eQ objs (ak d) (.cells t (qY ti.zero)) fun objs => k (.ptr (ak d) 0) objs))
 | .box t x =>
  (match dst with
  | none => False
  | some d => (match ia an.cst d with
   | true => d8 ((ev x).cells.map AV.strip) fun c => bU (bS c) (k (.cptr c 0) objs)
   | false => d8 (ev x).cells fun c => bU (fy c) (eQ objs (ak d) (.cells t c) fun objs => k (.ptr (ak d) 0) objs)))
 | .nilCheck x =>
  (match ev x with
  | .ptr n off => k (.ptr n off) objs
  | .cptr c off => k (.cptr c off) objs
  | _ => False)
 | .makeFunc f first cap => d8 (first.toList.map ev) fun a => d8 (cap.toList.map ev) fun b => k (.fn f a b) objs
 | .makeMap _ none =>
  (match dst with
  | none => False
  | some d => eQ objs (ak d) (.map []) fun objs => k (.mapv (ak d)) objs)
 | .slice t x lo hi none =>
  fY T t fun ti => (match ev x with
  | .val (.string s) => (match ti.d with
   | .string => boundK ev lo 0 fun l => boundK ev hi s.size fun h =>
     bU (decide (0 ≤ l)) (bU (decide (l ≤ h)) (bU (decide (h ≤ (s.size : Int))) (k (.val (.string (s.extract l.toNat h.toNat))) objs)))
   | _ => False)
  | .sl _ sz xs => (match ti.d with
   | .slice e => fY T e fun ei => bU (Nat.beq sz ei.size) (boundK ev lo 0 fun l => boundK ev hi xs.length fun h =>
     bU (decide (0 ≤ l)) (bU (decide (l ≤ h)) (bU (decide (h ≤ (xs.length : Int))) (k (.sl none sz ((xs.take h.toNat).drop l.toNat)) objs))))
   | _ => False)
  | .slv n sz ver off len => (match ti.d with
   | .slice e => fY T e fun ei => bU (Nat.beq sz ei.size) (boundK ev lo 0 fun l => boundK ev hi len fun h =>
     bU (decide (0 ≤ l)) (bU (decide (l ≤ h)) (bU (decide (h ≤ (len : Int))) (k (.slv n sz ver (off + l.toNat) (h.toNat - l.toNat)) objs))))
   | _ => False)
  | .ptr n off => (match ti.d with
   | .array m e => fY T e fun _ => (match lo, hi with
    | none, none => k (.slm n off m m) objs
    | _, _ => False)
   | _ => False)
  | _ => False)
 | .slice t x lo (some hi) (some mx) =>
  fY T t fun ti => (match ev x with
  | .sl _ sz xs => (match ti.d with
   | .slice e => fY T e fun ei => bU (Nat.beq sz ei.size) (boundK ev lo 0 fun l => boundK ev (some hi) 0 fun h => boundK ev (some mx) 0 fun m =>
     bU (decide (0 ≤ l)) (bU (decide (l ≤ h)) (bU (decide (h ≤ m)) (bU (decide (m ≤ (xs.length : Int))) (k (.sl none sz ((xs.take h.toNat).drop l.toNat)) objs)))))
   | _ => False)
  | _ => False)
 | .convert src dst x =>
  fY T src fun si => fY T dst fun di => (match di.d, ev x with
  | .int kd, .val (.int ks n) => (match si.d with
   | .int _ => k (.val (.int kd (kd.wrap n))) objs
   | _ => False)
  | .string, .val (.string s) => (match si.d with
   | .string => k (.val (.string s)) objs
   | _ => False)
  | .slice e, .val (.string s) => (match dOf T e with
   | .int .u8 => k (.sl none 1 (s.data.toList.map fun c => [.val (.int .u8 c.toNat)])) objs
   | _ => False)
  | .string, .sl _ _ l => (match si.d with
   | .slice e => (match dOf T e with
    | .int .u8 => ∃ bs : List Int, (l = bs.map fun b => [.val (.int .u8 b)]) ∧ k (.val (.string (strOfNums bs))) objs
    | _ => False)
   | _ => False)
  | .string, .slv n sz ver off len => (match si.d with
   | .slice e => (match dOf T e with
    | .int .u8 => (match az objs n with
     | some (.vec _ _ l ver') => bU (Nat.beq sz 1 && Nat.beq off 0) ((ver = ver' ∧ len = l.length ∧ 0 < len) ∧ ∃ bs : List Int, (l = bs.map fun b => [.val (.int .u8 b)]) ∧ k (.val (.string (strOfNums bs))) objs)
     | _ => False)
    | _ => False)
   | _ => False)
  | _, _ => False)
 | .lookup t m x ok =>
  (match dOf T t with
  | .map kt e => (match dOf T kt with
   | .string => fY T e fun ei => (match ev m, ev x with
    | .mapv n, .val (.string s) => (match az objs n with
     | some (.map es) => xI ei fun z => (match ok with
      | true => k (.tup [(cB es s).getD z, .val (.bool (cB es s).isSome)]) objs
      | false => k ((cB es s).getD z) objs)
     | _ => False)
    | _, _ => False)
   | _ => False)
  | _ => False)
 | .mapUpdate t m x v =>
  (match dOf T t with
  | .map kt e => (match dOf T kt with
   | .string => (match ev m, ev x with
    | .mapv n, .val (.string s) => (match az objs n with
     | some (.map es) => pb (ev v).strips fun v => bU (cA v) (dB objs n (.map (dZ es s v)) fun objs => k .junk objs)
     | _ => False)
    | _, _ => False)
   | _ => False)
  | _ => False)
 | .call c =>
  (match c.callee with
  | .value f => (match ev f with
   | .fn (.func g) first cap => d8 (qO an dst ev c first cap) fun args => bU (T.fn g)
     (yk objs (LB (rp objs 1000 (cK args) []) []) fun ns os => bU (ze (cK args) ns) (d8 (nD (qz ns) args) fun args =>
     ag P g args os fun r os => lR (dO (Oy dst) ns 0) (Oy dst) ns os 0 objs fun objs => k (kN (dO (Oy dst) ns 0) r) objs))
   | _ => False)
  | .builtin b => (match b, c.args.toList, c.argTypes.toList with
   | .len, [x], [t] => bU (pY (dOf T t) (ev x)) (match xg (ev x) objs with
    | some n => k (.val (.int .i64 n)) objs
    | none => False)
   | .append, [s, x], [t, t2] => (match Nat.beq t t2, dst with
    | true, some d => (match Oh (ev s) (ev x) with
     | true => mQ T objs t (ev s) (ev x) fun v objs => k v objs
     | false => ja T objs d t (ev s) (ev x) fun v objs => k v objs)
    | false, some d => mV T objs d t t2 (ev s) (ev x) fun v objs => k v objs
    | _, _ => False)
   | .delete, [m, x], [t, _] => (match dOf T t with
    | .map kt e => (match dOf T kt with
     | .string => (match ev m, ev x with
      | .mapv n, .val (.string s) => (match az objs n with
       | some (.map es) => dB objs n (.map (jC es s)) fun objs => k .junk objs
       | _ => False)
      | _, _ => False)
     | _ => False)
    | _ => False)
   | .min, [x, y], [_, _] => (match ev x, ev y with
    | .val (.int ka x), .val (.int kb y) => bU (zX ka kb) (k (.val (.int ka (if y < x then y else x))) objs)
    | _, _ => False)
   | .max, [x, y], [_, _] => (match ev x, ev y with
    | .val (.int ka x), .val (.int kb y) => bU (zX ka kb) (k (.val (.int ka (if x < y then y else x))) objs)
    | _, _ => False)
   | _, _, _ => False)
  | _ => False)
 | .makeInterface t x =>
  (match dOf T t with
  | .iface => False
  | .other => False
  | _ => pb (ev x) fun v => k (.iface t v) objs)
 | _ => False
where
 /-- A struct's cells, the given fields laid over. -/
 buildK (ev : Operand → AV) (fs : List (Nat × TypeId)) : List (Nat × Operand) → List AV → (List AV → Prop) → Prop
  | [], l, k => k l
  | (i, x) :: ps, l, k => match fs[i]? with
   | none => False
   | some (off, t) => fY T t fun ti => d8 (ev x).cells fun c => bU (r8 c ti.size) (sA l off c fun l' => buildK ev fs ps l' k)
 buildArrK (ev : Operand → AV) (size : Nat) : List (Nat × Operand) → List AV → (List AV → Prop) → Prop
  | [], l, k => k l
  | (i, x) :: ps, l, k => d8 (ev x).cells fun c => bU (r8 c size) (sA l (i * size) c fun l' => buildArrK ev size ps l' k)
 boundK (ev : Operand → AV) (x : Option Operand) (d : Nat) (k : Int → Prop) : Prop :=
  match x with
  | none => k d
  | some x => (match ev x with
   | .val (.int _ i) => k i
   | _ => False)
def ck (o : Oper) (st : St) (k : St → Prop) : Prop :=
 aR P T an o.op o.dst (evA st.slots) st.objs fun v objs => put ⟨st.slots, objs⟩ o.dst v k
inductive Cls where
 | val (r : List Nm)
 | mk
 | call
 | wr
def bI (op : Op) (dst : Option Tmp) (ev : Operand → AV) : Cls :=
 match op with
 | .load _ p => (match ev p with
  | .ptr n _ => .val [n]
  | .ptv n _ _ _ _ => .val [n]
  | _ => .val [])
 | .lookup _ m _ _ => (match ev m with
  | .mapv n => .val [n]
  | _ => .val [])
 | .alloc _ => .mk
 | .makeMap _ _ => .mk
 | .box _ _ => (match dst with
  | some d => (match ia an.cst d with
   | true => .val []
   | false => .mk)
  | none => .mk)
 | .buildSlice _ _ _ => (match dst with
  | some d => (match ia an.own d with
   | true => .mk
   | false => (match ia an.chg d with
    | true => .mk
    | false => .val []))
  | none => .mk)
 | .store _ _ _ => .wr
 | .mapUpdate _ _ _ _ => .wr
 | .call c => (match c.callee with
  | .value f => (match dst with
   | some d => (match ia an.objc d with
    | true => .wr
    | false => .call)
   | none => .wr)
  | .builtin b => (match b with
   | .len => (match c.args.toList with
    | [x] => (match ev x with
     | .mapv n => .val [n]
     | _ => .val [])
    | _ => .val [])
   | .min => .val []
   | .max => .val []
   | _ => .wr)
  | _ => .wr)
 | .move _ => .val []
 | .assign _ => .val []
 | .pick _ _ _ => .val []
 | .binOp _ _ _ _ _ => .val []
 | .unOp _ _ _ => .val []
 | .fieldAddr _ _ _ => .val []
 | .field _ _ _ => .val []
 | .indexAddr _ _ _ => .val []
 | .index _ _ _ => .val []
 | .extract _ _ => .val []
 | .build _ _ => .val []
 | .nilCheck _ => .val []
 | .makeFunc _ _ _ => .val []
 | .slice _ _ _ _ _ => .val []
 | .convert _ _ x => (match ev x with
  | .slv n _ _ _ _ => .val [n]
  | _ => .val [])
 | .makeInterface _ _ => .val []
 | _ => .wr
def fg (op : Op) (dst : Option Tmp) (ev : Operand → AV) : Bool :=
 match op with
 | .call c => (match c.callee with
  | .value f => (match ev f with
   | .fn (.func _) first cap => (match cK (qO an dst ev c first cap) with
    | [] => true
    | _ => false)
   | _ => false)
  | _ => false)
 | _ => false
def pl (cj ci : Cls) : Bool :=
 match cj, ci with
 | .val [], _ => true
 | _, .val [] => true
 | .val _, .val _ => true
 | .val _, .mk => true
 | .mk, .val _ => true
 | .mk, .mk => true
 | .val _, .call => true
 | .call, .val _ => true
 | .mk, .call => true
 | .call, .mk => true
 | .call, .call => true
 | .call, .wr => true
 | .wr, .call => true
 | .wr, .wr => true
 | _, _ => false
def Kw (p : Nat → Bool) : List Edge → Bool
 | [] => false
 | e :: l => (match Region.binds .any e with
  | true => (match p e.on with
   | true => true
   | false => Kw p l)
  | false => Kw p l)
def Ko (ops : Array Oper) (j : Nat) : Nat → Nat → Bool
 | 0, _ => false
 | f + 1, i => (match ops[i]? with
  | none => false
  | some o => Kw (fun x => (match Nat.beq x j with
   | true => true
   | false => (match Nat.ble x j with
    | true => false
    | false => Ko ops j f x))) o.after.toList)
def CS (ops : Array Oper) (i j : Nat) : Bool := Ko ops j 4 i
def lI (ops : Array Oper) (i : Nat) (o : Oper) (c : Cls) : List (Nat × Cls) → Bool
 | [] => true
 | (j, cj) :: l => match gD o.after.toList j with
  | true => lI ops i o c l
  | false => (match pl cj c with
   | true => lI ops i o c l
   | false => (match CS ops i j with
    | true => lI ops i o c l
    | false => false))
end
end Go.Abs
