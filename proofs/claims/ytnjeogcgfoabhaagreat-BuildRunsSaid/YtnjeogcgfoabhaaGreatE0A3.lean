/- The engine, A3. -/
import Derived.Test.YtnjeogcgfoabhaaGreatE0A2
set_option linter.unusedVariables false
set_option linter.unusedSimpArgs false
namespace Go.Abs
open Go
section
variable (P : Program) (T : Tab) (an : Ann)
def AV.strips : AV → AV
 | .sl _ s l => .sl none s l
 | .agg l => .agg (l.map AV.strip)
 | .tup l => .tup (l.map fun a => match a with
  | .agg l => .agg (l.map AV.strip)
  | a => a.strip)
 | a => a
def nX (ev : Operand → AV) (size : Nat) : List (Nat × Operand) → Nat → (List (List AV) → Prop) → Prop
 | [], _, k => k []
 | (i, x) :: ps, n, k => match Nat.beq i n with
  | false => False
  | true => dY ((ev x).cells.map AV.strip) fun c => match Nat.beq c.length size with
   | false => False
   | true => match bP c with
    | false => False
    | true => nX ev size ps (n + 1) fun l => k (c :: l)
def dT : AV → Bool
 | .val v => (match v with | .agg _ => false | .tuple _ => false | _ => true)
 | .junk => false
 | .agg _ => false
 | .tup _ => false
 | _ => true
def fq : List AV → Bool
 | [] => true
 | a :: l => match dT a with
  | true => fq l
  | false => false
def zf (T : Tab) : List (Nat × TypeId) → Bool
 | [] => true
 | (_, t) :: l => (match (T.ti t).ok with
  | true => zf T l
  | false => false)
def sq (c : List AV) (n : Nat) : Bool := Nat.beq c.length n && (Nat.blt 0 n && fq c)
def fW (t : TypeId) (k : TI → Prop) : Prop :=
 match (T.ti t).ok with
 | true => k (T.ti t)
 | false => False
def xw (a : AV) (objs : List (Nm × aE)) : Option Int :=
 match a with
 | .val (.string s) => some s.size
 | .val (.slice none 0 _) => some 0
 | .sl _ _ l => some l.length
 | .slm _ _ n _ => some n
 | .slv _ _ _ _ n => some n
 | .mapv n => (match ax objs n with
  | some (.map es) => some es.length
  | _ => none)
 | _ => none
def ja (ti : TI) : Bool := Nat.beq ti.zero.length ti.size && Nat.blt 0 ti.size
def qb (d : TD) (a : AV) : Bool :=
 match d, a with
 | .string, .val (.string _) => true
 | .slice _, .val (.slice _ _ _) => true
 | .slice _, .sl _ _ _ => true
 | .slice _, .slm _ _ _ _ => true
 | .slice _, .slv _ _ _ _ _ => true
 | .map _ _, .mapv _ => true
 | _, _ => false
def i9 (objs : List (Nm × aE)) (d : Nat) (t : TypeId) (s x : AV) (k : AV → List (Nm × aE) → Prop) : Prop :=
 match dOf T t with
 | .slice e =>
  (match (T.ti e).ok with
  | false => False
  | true =>
   (match x with
   | .sl _ sz m =>
    (match Nat.beq sz (T.ti e).size && ja (T.ti e) with
    | false => False
    | true =>
     (match s with
     | .sl (some n) sz' l =>
      (match Nat.beq sz' (T.ti e).size with
      | false => False
      | true =>
       (match ax objs n with
       | some (.row te sr top) => (match Nat.beq te e && Nat.beq sr (T.ti e).size with
        | false => False
        | true => top = l.length ∧ (l.length + m.length) * ((T.ti e).bytes + 1) ≤ 140737488355328 ∧
          dx objs n (.row e (T.ti e).size (l.length + m.length)) fun objs => k (.sl (some n) (T.ti e).size (l ++ m)) objs)
       | _ => False))
     | .val (.slice none 0 0) =>
       m.length * ((T.ti e).bytes + 1) ≤ 140737488355328 ∧ eK objs (al d) (.row e (T.ti e).size m.length) fun objs => k (.sl (some (al d)) (T.ti e).size m) objs
     | _ => False))
   | _ => False))
 | _ => False
def OD (s x : AV) : Bool :=
 match s with
 | .slv _ _ _ _ _ => true
 | _ => (match x with
  | .slv _ _ _ _ _ => true
  | _ => false)
def mR (objs : List (Nm × aE)) (t : TypeId) (s x : AV) (k : AV → List (Nm × aE) → Prop) : Prop :=
 match dOf T t with
 | .slice e =>
  (match (T.ti e).ok with
  | false => False
  | true => (match x with
   | .sl _ sz m => (match Nat.beq sz (T.ti e).size && ja (T.ti e) with
    | false => False
    | true => (match s with
     | .slv n sz' ver off len => (match Nat.beq sz' (T.ti e).size with
      | false => False
      | true => (match ax objs n with
       | some (.vec te sr l ver') => (match Nat.beq te e && Nat.beq sr (T.ti e).size with
        | false => False
        | true => (ver = ver' ∧ off = 0 ∧ len ≤ l.length) ∧ (len + m.length) * ((T.ti e).bytes + 1) ≤ 140737488355328 ∧
          dx objs n (.vec e (T.ti e).size (l.take len ++ m) (ver' + 1)) fun objs => k (.slv n (T.ti e).size (ver' + 1) 0 (len + m.length)) objs)
       | _ => False))
     | _ => False))
   | .slv n2 sz ver off len => (match Nat.beq sz (T.ti e).size && ja (T.ti e) with
    | false => False
    | true => (match ax objs n2 with
     | some (.vec te2 sr2 l2 ver') => (match Nat.beq te2 e && Nat.beq sr2 (T.ti e).size with
      | false => False
      | true => (match s with
       | .sl (some n) sz' l => (match Nat.beq sz' (T.ti e).size with
        | false => False
        | true => (match ax objs n with
         | some (.row te sr top) => (match Nat.beq te e && Nat.beq sr (T.ti e).size with
          | false => False
          | true => (ver = ver' ∧ top = l.length) ∧ (l.length + len) * ((T.ti e).bytes + 1) ≤ 140737488355328 ∧
            dx objs n (.row e (T.ti e).size (l.length + len)) fun objs => k (.sl (some n) (T.ti e).size (l ++ (l2.drop off).take len)) objs)
         | _ => False))
       | _ => False))
     | _ => False))
   | _ => False))
 | _ => False
def qg (s : ByteArray) : List (List AV) := s.data.toList.map fun c => [.val (.int .u8 c.toNat)]
def mW (objs : List (Nm × aE)) (d : Nat) (t t2 : TypeId) (s x : AV) (k : AV → List (Nm × aE) → Prop) : Prop :=
 match dOf T t2 with
 | .string => (match dOf T t with
  | .slice e => (match dOf T e with
   | .int .u8 => (match x with
    | .val (.string b) => i9 T objs d t s (.sl none 1 (qg b)) k
    | _ => False)
   | _ => False)
  | _ => False)
 | .slice _ => (match x with
  | .sl own sz m => i9 T objs d t s (.sl own sz m) k
  | _ => False)
 | _ => False
def cD : List (ByteArray × AV) → ByteArray → Option AV
 | [], _ => none
 | (s, v) :: es, k => if s = k then some v else cD es k
def dU : List (ByteArray × AV) → ByteArray → AV → List (ByteArray × AV)
 | [], k, v => [(k, v)]
 | (s, u) :: es, k, v => if s = k then (k, v) :: es else (s, u) :: dU es k v
def jA : List (ByteArray × AV) → ByteArray → List (ByteArray × AV)
 | [], _ => []
 | (s, u) :: es, k => if s = k then es else (s, u) :: jA es k
def xU (ti : TI) (k : AV → Prop) : Prop := bQ (ja ti) <|
 match ti.zagg with
 | true => k (.agg (rl ti.zero))
 | false => (match ti.zero with
  | [v] => k (.val v)
  | _ => False)
def Ep (d : Option Tmp) : Bool :=
 match d with
 | none => false
 | some d => ig an.pass d
def OS (d : Option Tmp) : Nat :=
 match d with
 | none => 0
 | some d => d
def q7 (an : Ann) (dst : Option Tmp) (ev : Operand → AV) (c : Call) (first cap : List AV) : List AV :=
 first ++ (match Ep an dst with | true => c.args.toList.map ev | false => (c.args.toList.map ev).map AV.strips) ++ cap
def aQ (op : Op) (dst : Option Tmp) (ev : Operand → AV) (objs : List (Nm × aE)) (k : AV → List (Nm × aE) → Prop) : Prop :=
 match op with
 | .move x => k (ev x) objs
 | .assign x => k (ev x) objs
 | .pick c a b =>
  (match ev c with
  | .val (.bool c) => br c (k (ev a) objs) (k (ev b) objs)
  | _ => False)
 | .binOp op t x y _ => IQ T op t (ev x) (ev y) fun v => k v objs
 | .unOp op _ x => aun op (ev x) fun v => k v objs
 | .load t p =>
  (match ev p with
  | .cptr c off => nr T t (pn c off) fun v => k v objs
  | .ptr n off => (match ax objs n with
   | some (.cells _ l) => nr T t (pn l off) fun v => k v objs
   | _ => False)
  | .ptv n size ver i off => (match ax objs n with
   | some (.vec _ sz l ver') => bQ (Nat.beq sz size) (ver = ver' ∧ qL l i fun e => nr T t (pn e off) fun v => k v objs)
   | _ => False)
  | _ => False)
 | .store t p x =>
  (match ev p with
  | .ptr n off => (match ax objs n with
   | some (.cells te l) => fW T t fun ti => dY (ev x).cells fun c => bQ (Nat.beq c.length ti.size) (bQ (fq c) (sK l off c fun l' => dx objs n (.cells te l') fun objs => k .junk objs))
   | _ => False)
  | .ptv n size ver i off => (match ax objs n with
   | some (.vec te sz l ver') => fW T t fun ti => dY ((ev x).cells.map AV.strip) fun c => bQ (Nat.beq sz size && (Nat.beq c.length ti.size && Nat.blt 0 ti.size)) (bQ (bP c) (ver = ver' ∧ qL l i fun e => sK e off c fun e' => dx objs n (.vec te sz (l.set i e') ver') fun objs => k .junk objs))
   | _ => False)
  | _ => False)
 | .fieldAddr t p f =>
  (match nj T t f with
  | some (fo, ft) => fW T t fun _ => fW T ft fun fi => bQ (Nat.blt 0 fi.size) (match ev p with
   | .cptr c off => k (.cptr c (off + fo)) objs
   | .ptr n off => k (.ptr n (off + fo)) objs
   | .ptv n size ver i off => k (.ptv n size ver i (off + fo)) objs
   | _ => False)
  | none => False)
 | .field t x f =>
  (match nj T t f with
  | some (fo, ft) => (match ev x with
   | .agg l => fW T t fun _ => nr T ft (pn l fo) fun v => k v objs
   | _ => False)
  | none => False)
 | .indexAddr t x i =>
  fW T t fun ti => (match ev i with
  | .val (.int _ i) => (match ti.d with
   | .slice e => fW T e fun ei => bQ (Nat.blt 0 ei.size) (match ev x with
    | .sl _ sz l => bQ (Nat.beq sz ei.size) (bQ (decide (0 ≤ i)) (qL l i.toNat fun c => k (.cptr c 0) objs))
    | .slm n off len _ => bQ (decide (0 ≤ i)) (bQ (decide (i < (len : Int))) (k (.ptr n (off + i.toNat * ei.size)) objs))
    | .slv n sz ver off len => bQ (Nat.beq sz ei.size) (bQ (decide (0 ≤ i)) (bQ (decide (i < (len : Int))) (k (.ptv n sz ver (off + i.toNat) 0) objs)))
    | _ => False)
   | .array m e => fW T e fun ei => bQ (Nat.blt 0 ei.size) (bQ (decide (0 ≤ i)) (bQ (decide (i < (m : Int))) (match ev x with
    | .cptr c off => k (.cptr c (off + i.toNat * ei.size)) objs
    | .ptr n off => k (.ptr n (off + i.toNat * ei.size)) objs
    | _ => False)))
   | _ => False)
  | _ => False)
 | .index t x i =>
  fW T t fun ti => (match ev i with
  | .val (.int _ i) => (match ti.d with
   | .string => (match ev x with
    | .val (.string s) => bQ (decide (0 ≤ i)) (bQ (decide (i < (s.size : Int))) (k (.val (.int .u8 (aD s i.toNat))) objs))
    | _ => False)
   | .array m e => (match ev x with
    | .agg l => bQ (decide (0 ≤ i)) (bQ (decide (i < (m : Int))) (fW T e fun ei => nr T e (pn l (i.toNat * ei.size)) fun v => k v objs))
    | _ => False)
   | _ => False)
  | _ => False)
 | .extract x i =>
  (match ev x with
  | .tup l => qL l i fun v => k v objs
  | _ => False)
 | .build t ps =>
  fW T t fun ti => (match ti.d with
  | .struct fs => bQ (ja ti && zf T fs) (buildK ev fs ps.toList (rl ti.zero) fun l => k (.agg l) objs)
  | .array _ e => bQ (ja ti) (fW T e fun ei => buildArrK ev ei.size ps.toList (rl ti.zero) fun l => k (.agg l) objs)
  | _ => False)
 | .buildSlice t len ps =>
  fW T t fun ti => (match ti.d with
  | .slice e => fW T e fun ei => bQ (ja ei) (bQ (Nat.beq ps.size len && Nat.ble (len * ei.size) 16777216) (nX ev ei.size ps.toList 0 fun l =>
    match dst with
    | none => False
    | some d => (match ig an.own d with
     | true => eK objs (al d) (.row e ei.size l.length) fun objs => k (.sl (some (al d)) ei.size l) objs
     | false => (match ig an.chg d with
      | true => eK objs (al d) (.cells e l.flatten) fun objs => k (.slm (al d) 0 l.length l.length) objs
      | false => k (.sl none ei.size l) objs))))
  | _ => False)
 | .alloc t =>
  fW T t fun ti => (match dst with
  | none => False
  | some d => bQ (ja ti) (eK objs (al d) (.cells t (rl ti.zero)) fun objs => k (.ptr (al d) 0) objs))
 | .box t x =>
  (match dst with
  | none => False
  | some d => (match ig an.cst d with
   | true => dY ((ev x).cells.map AV.strip) fun c => bQ (bP c) (k (.cptr c 0) objs)
   | false => dY (ev x).cells fun c => bQ (fq c) (eK objs (al d) (.cells t c) fun objs => k (.ptr (al d) 0) objs)))
 | .nilCheck x =>
  (match ev x with
  | .ptr n off => k (.ptr n off) objs
  | .cptr c off => k (.cptr c off) objs
  | _ => False)
 | .makeFunc f first cap => dY (first.toList.map ev) fun a => dY (cap.toList.map ev) fun b => k (.fn f a b) objs
 | .makeMap _ none =>
  (match dst with
  | none => False
  | some d => eK objs (al d) (.map []) fun objs => k (.mapv (al d)) objs)
 | .slice t x lo hi none =>
  fW T t fun ti => (match ev x with
  | .val (.string s) => (match ti.d with
   | .string => boundK ev lo 0 fun l => boundK ev hi s.size fun h =>
     bQ (decide (0 ≤ l)) (bQ (decide (l ≤ h)) (bQ (decide (h ≤ (s.size : Int))) (k (.val (.string (s.extract l.toNat h.toNat))) objs)))
   | _ => False)
  | .sl _ sz xs => (match ti.d with
   | .slice e => fW T e fun ei => bQ (Nat.beq sz ei.size) (boundK ev lo 0 fun l => boundK ev hi xs.length fun h =>
     bQ (decide (0 ≤ l)) (bQ (decide (l ≤ h)) (bQ (decide (h ≤ (xs.length : Int))) (k (.sl none sz ((xs.take h.toNat).drop l.toNat)) objs))))
   | _ => False)
  | .slv n sz ver off len => (match ti.d with
   | .slice e => fW T e fun ei => bQ (Nat.beq sz ei.size) (boundK ev lo 0 fun l => boundK ev hi len fun h =>
     bQ (decide (0 ≤ l)) (bQ (decide (l ≤ h)) (bQ (decide (h ≤ (len : Int))) (k (.slv n sz ver (off + l.toNat) (h.toNat - l.toNat)) objs))))
   | _ => False)
  | .ptr n off => (match ti.d with
   | .array m e => fW T e fun _ => (match lo, hi with
    | none, none => k (.slm n off m m) objs
    | _, _ => False)
   | _ => False)
  | _ => False)
 | .slice t x lo (some hi) (some mx) =>
  fW T t fun ti => (match ev x with
  | .sl _ sz xs => (match ti.d with
   | .slice e => fW T e fun ei => bQ (Nat.beq sz ei.size) (boundK ev lo 0 fun l => boundK ev (some hi) 0 fun h => boundK ev (some mx) 0 fun m =>
     bQ (decide (0 ≤ l)) (bQ (decide (l ≤ h)) (bQ (decide (h ≤ m)) (bQ (decide (m ≤ (xs.length : Int))) (k (.sl none sz ((xs.take h.toNat).drop l.toNat)) objs)))))
   | _ => False)
  | _ => False)
 | .convert src dst x =>
  fW T src fun si => fW T dst fun di => (match di.d, ev x with
  | .int kd, .val (.int ks n) => (match si.d with
   | .int _ => k (.val (.int kd (kd.wrap n))) objs
   | _ => False)
  | .string, .val (.string s) => (match si.d with
   | .string => k (.val (.string s)) objs
   | _ => False)
  | .slice e, .val (.string s) => (match dOf T e with
   | .int .u8 => k (.sl none 1 (s.data.toList.map fun c => [.val (.int .u8 c.toNat)])) objs
   | _ => False)
  | .string, .sl _ _ l => (match si.d with
   | .slice e => (match dOf T e with
    | .int .u8 => ∃ bs : List Int, (l = bs.map fun b => [.val (.int .u8 b)]) ∧ k (.val (.string (strOfNums bs))) objs
    | _ => False)
   | _ => False)
  | .string, .slv n sz ver off len => (match si.d with
   | .slice e => (match dOf T e with
    | .int .u8 => (match ax objs n with
     | some (.vec _ _ l ver') => bQ (Nat.beq sz 1 && Nat.beq off 0) ((ver = ver' ∧ len = l.length ∧ 0 < len) ∧ ∃ bs : List Int, (l = bs.map fun b => [.val (.int .u8 b)]) ∧ k (.val (.string (strOfNums bs))) objs)
     | _ => False)
    | _ => False)
   | _ => False)
  | _, _ => False)
 | .lookup t m x ok =>
  (match dOf T t with
  | .map kt e => (match dOf T kt with
   | .string => fW T e fun ei => (match ev m, ev x with
    | .mapv n, .val (.string s) => (match ax objs n with
     | some (.map es) => xU ei fun z => (match ok with
      | true => k (.tup [(cD es s).getD z, .val (.bool (cD es s).isSome)]) objs
      | false => k ((cD es s).getD z) objs)
     | _ => False)
    | _, _ => False)
   | _ => False)
  | _ => False)
 | .mapUpdate t m x v =>
  (match dOf T t with
  | .map kt e => (match dOf T kt with
   | .string => (match ev m, ev x with
    | .mapv n, .val (.string s) => (match ax objs n with
     | some (.map es) => pj (ev v).strips fun v => bQ (cC v) (dx objs n (.map (dU es s v)) fun objs => k .junk objs)
     | _ => False)
    | _, _ => False)
   | _ => False)
  | _ => False)
 | .call c =>
  (match c.callee with
  | .value f => (match ev f with
   | .fn (.func g) first cap => dY (q7 an dst ev c first cap) fun args => bQ (T.fn g)
     (yA objs (LX (rG objs 1000 (cH args) []) []) fun ns os => bQ (zq (cH args) ns) (dY (nG (qK ns) args) fun args =>
     ag P g args os fun r os => lJ (dI (OS dst) ns 0) (OS dst) ns os 0 objs fun objs => k (kD (dI (OS dst) ns 0) r) objs))
   | _ => False)
  | .builtin b => (match b, c.args.toList, c.argTypes.toList with
   | .len, [x], [t] => bQ (qb (dOf T t) (ev x)) (match xw (ev x) objs with
    | some n => k (.val (.int .i64 n)) objs
    | none => False)
   | .append, [s, x], [t, t2] => (match Nat.beq t t2, dst with
    | true, some d => (match OD (ev s) (ev x) with
     | true => mR T objs t (ev s) (ev x) fun v objs => k v objs
     | false => i9 T objs d t (ev s) (ev x) fun v objs => k v objs)
    | false, some d => mW T objs d t t2 (ev s) (ev x) fun v objs => k v objs
    | _, _ => False)
   | .delete, [m, x], [t, _] => (match dOf T t with
    | .map kt e => (match dOf T kt with
     | .string => (match ev m, ev x with
      | .mapv n, .val (.string s) => (match ax objs n with
       | some (.map es) => dx objs n (.map (jA es s)) fun objs => k .junk objs
       | _ => False)
      | _, _ => False)
     | _ => False)
    | _ => False)
   | .min, [x, y], [_, _] => (match ev x, ev y with
    | .val (.int ka x), .val (.int kb y) => bQ (Ah ka kb) (k (.val (.int ka (if y < x then y else x))) objs)
    | _, _ => False)
   | .max, [x, y], [_, _] => (match ev x, ev y with
    | .val (.int ka x), .val (.int kb y) => bQ (Ah ka kb) (k (.val (.int ka (if x < y then y else x))) objs)
    | _, _ => False)
   | _, _, _ => False)
  | _ => False)
 | .makeInterface t x =>
  (match dOf T t with
  | .iface => False
  | .other => False
  | _ => pj (ev x) fun v => k (.iface t v) objs)
 | _ => False
where
 /-- A struct's cells, the given fields laid over. -/
 buildK (ev : Operand → AV) (fs : List (Nat × TypeId)) : List (Nat × Operand) → List AV → (List AV → Prop) → Prop
  | [], l, k => k l
  | (i, x) :: ps, l, k => match fs[i]? with
   | none => False
   | some (off, t) => fW T t fun ti => dY (ev x).cells fun c => bQ (sq c ti.size) (sK l off c fun l' => buildK ev fs ps l' k)
 buildArrK (ev : Operand → AV) (size : Nat) : List (Nat × Operand) → List AV → (List AV → Prop) → Prop
  | [], l, k => k l
  | (i, x) :: ps, l, k => dY (ev x).cells fun c => bQ (sq c size) (sK l (i * size) c fun l' => buildArrK ev size ps l' k)
 boundK (ev : Operand → AV) (x : Option Operand) (d : Nat) (k : Int → Prop) : Prop :=
  match x with
  | none => k d
  | some x => (match ev x with
   | .val (.int _ i) => k i
   | _ => False)
def ck (o : Oper) (st : St) (k : St → Prop) : Prop :=
 aQ P T an o.op o.dst (evA st.slots) st.objs fun v objs => put ⟨st.slots, objs⟩ o.dst v k
inductive Cls where
 | val (r : List Nm)
 | mk
 | call
 | wr
def bH (op : Op) (dst : Option Tmp) (ev : Operand → AV) : Cls :=
 match op with
 | .load _ p => (match ev p with
  | .ptr n _ => .val [n]
  | .ptv n _ _ _ _ => .val [n]
  | _ => .val [])
 | .lookup _ m _ _ => (match ev m with
  | .mapv n => .val [n]
  | _ => .val [])
 | .alloc _ => .mk
 | .makeMap _ _ => .mk
 | .box _ _ => (match dst with
  | some d => (match ig an.cst d with
   | true => .val []
   | false => .mk)
  | none => .mk)
 | .buildSlice _ _ _ => (match dst with
  | some d => (match ig an.own d with
   | true => .mk
   | false => (match ig an.chg d with
    | true => .mk
    | false => .val []))
  | none => .mk)
 | .store _ _ _ => .wr
 | .mapUpdate _ _ _ _ => .wr
 | .call c => (match c.callee with
  | .value f => (match dst with
   | some d => (match ig an.objc d with
    | true => .wr
    | false => .call)
   | none => .wr)
  | .builtin b => (match b with
   | .len => (match c.args.toList with
    | [x] => (match ev x with
     | .mapv n => .val [n]
     | _ => .val [])
    | _ => .val [])
   | .min => .val []
   | .max => .val []
   | _ => .wr)
  | _ => .wr)
 | .move _ => .val []
 | .assign _ => .val []
 | .pick _ _ _ => .val []
 | .binOp _ _ _ _ _ => .val []
 | .unOp _ _ _ => .val []
 | .fieldAddr _ _ _ => .val []
 | .field _ _ _ => .val []
 | .indexAddr _ _ _ => .val []
 | .index _ _ _ => .val []
 | .extract _ _ => .val []
 | .build _ _ => .val []
 | .nilCheck _ => .val []
 | .makeFunc _ _ _ => .val []
 | .slice _ _ _ _ _ => .val []
 | .convert _ _ x => (match ev x with
  | .slv n _ _ _ _ => .val [n]
  | _ => .val [])
 | .makeInterface _ _ => .val []
 | _ => .wr
def eZ (op : Op) (dst : Option Tmp) (ev : Operand → AV) : Bool :=
 match op with
 | .call c => (match c.callee with
  | .value f => (match ev f with
   | .fn (.func _) first cap => (match cH (q7 an dst ev c first cap) with
    | [] => true
    | _ => false)
   | _ => false)
  | _ => false)
 | _ => false
def py (cj ci : Cls) : Bool :=
 match cj, ci with
 | .val [], _ => true
 | _, .val [] => true
 | .val _, .val _ => true
 | .val _, .mk => true
 | .mk, .val _ => true
 | .mk, .mk => true
 | .val _, .call => true
 | .call, .val _ => true
 | .mk, .call => true
 | .call, .mk => true
 | .call, .call => true
 | .call, .wr => true
 | .wr, .call => true
 | .wr, .wr => true
 | _, _ => false
def KX (p : Nat → Bool) : List Edge → Bool
 | [] => false
 | e :: l => (match Region.binds .any e with
  | true => (match p e.on with
   | true => true
   | false => KX p l)
  | false => KX p l)
def KN (ops : Array Oper) (j : Nat) : Nat → Nat → Bool
 | 0, _ => false
 | f + 1, i => (match ops[i]? with
  | none => false
  | some o => KX (fun x => (match Nat.beq x j with
   | true => true
   | false => (match Nat.ble x j with
    | true => false
    | false => KN ops j f x))) o.after.toList)
def C7 (ops : Array Oper) (i j : Nat) : Bool := KN ops j 4 i
def lz (ops : Array Oper) (i : Nat) (o : Oper) (c : Cls) : List (Nat × Cls) → Bool
 | [] => true
 | (j, cj) :: l => match gE o.after.toList j with
  | true => lz ops i o c l
  | false => (match py cj c with
   | true => lz ops i o c l
   | false => (match C7 ops i j with
    | true => lz ops i o c l
    | false => false))
end
end Go.Abs
