/- The engine, A3. -/
import Derived.Test.YtnjeogcgfoabhaaGreatE0A2
set_option linter.unusedVariables false
set_option linter.unusedSimpArgs false
namespace Go.Abs
open Go
section
variable (P : Program) (T : Tab) (an : Ann)
def AV.strips : AV → AV
 | .sl _ s l => .sl none s l
 | .agg l => .agg (l.map AV.strip)
 | .tup l => .tup (l.map fun a => match a with
  | .agg l => .agg (l.map AV.strip)
  | a => a.strip)
 | a => a
def n6 (ev : Operand → AV) (size : Nat) : List (Nat × Operand) → Nat → (List (List AV) → Prop) → Prop
 | [], _, k => k []
 | (i, x) :: ps, n, k => match Nat.beq i n with
  | false => False
  | true => d9 ((ev x).cells.map AV.strip) fun c => match Nat.beq c.length size with
   | false => False
   | true => match bU c with
    | false => False
    | true => n6 ev size ps (n + 1) fun l => k (c :: l)
def dZ : AV → Bool
 | .val v => (match v with | .agg _ => false | .tuple _ => false | _ => true)
 | .junk => false
 | .agg _ => false
 | .tup _ => false
 | _ => true
def fA : List AV → Bool
 | [] => true
 | a :: l => match dZ a with
  | true => fA l
  | false => false
def zk (T : Tab) : List (Nat × TypeId) → Bool
 | [] => true
 | (_, t) :: l => (match (T.ti t).ok with
  | true => zk T l
  | false => false)
def sC (c : List AV) (n : Nat) : Bool := Nat.beq c.length n && (Nat.blt 0 n && fA c)
def f7 (t : TypeId) (k : TI → Prop) : Prop :=
 match (T.ti t).ok with
 | true => k (T.ti t)
 | false => False
def xB (a : AV) (objs : List (Nm × aF)) : Option Int :=
 match a with
 | .val (.string s) => some s.size
 | .val (.slice none 0 _) => some 0
 | .sl _ _ l => some l.length
 | .slm _ _ n _ => some n
 | .slv _ _ _ _ n => some n
 | .mapv n => (match az objs n with
  | some (.map es) => some es.length
  | _ => none)
 | _ => none
def jh (ti : TI) : Bool := Nat.beq ti.zero.length ti.size && Nat.blt 0 ti.size
def qe (d : TD) (a : AV) : Bool :=
 match d, a with
 | .string, .val (.string _) => true
 | .slice _, .val (.slice _ _ _) => true
 | .slice _, .sl _ _ _ => true
 | .slice _, .slm _ _ _ _ => true
 | .slice _, .slv _ _ _ _ _ => true
 | .map _ _, .mapv _ => true
 | _, _ => false
def jg (objs : List (Nm × aF)) (d : Nat) (t : TypeId) (s x : AV) (k : AV → List (Nm × aF) → Prop) : Prop :=
 match dOf T t with
 | .slice e =>
  (match (T.ti e).ok with
  | false => False
  | true =>
   (match x with
   | .sl _ sz m =>
    (match Nat.beq sz (T.ti e).size && jh (T.ti e) with
    | false => False
    | true =>
     (match s with
     | .sl (some n) sz' l =>
      (match Nat.beq sz' (T.ti e).size with
      | false => False
      | true =>
       (match az objs n with
       | some (.row te sr top) => (match Nat.beq te e && Nat.beq sr (T.ti e).size with
        | false => False
        | true => top = l.length ∧ (l.length + m.length) * ((T.ti e).bytes + 1) ≤ 140737488355328 ∧
          dC objs n (.row e (T.ti e).size (l.length + m.length)) fun objs => k (.sl (some n) (T.ti e).size (l ++ m)) objs)
       | _ => False))
     | .val (.slice none 0 0) =>
       m.length * ((T.ti e).bytes + 1) ≤ 140737488355328 ∧ eU objs (ak d) (.row e (T.ti e).size m.length) fun objs => k (.sl (some (ak d)) (T.ti e).size m) objs
     | _ => False))
   | _ => False))
 | _ => False
def OD (s x : AV) : Bool :=
 match s with
 | .slv _ _ _ _ _ => true
 | _ => (match x with
  | .slv _ _ _ _ _ => true
  | _ => false)
def m0 (objs : List (Nm × aF)) (t : TypeId) (s x : AV) (k : AV → List (Nm × aF) → Prop) : Prop :=
 match dOf T t with
 | .slice e =>
  (match (T.ti e).ok with
  | false => False
  | true => (match x with
   | .sl _ sz m => (match Nat.beq sz (T.ti e).size && jh (T.ti e) with
    | false => False
    | true => (match s with
     | .slv n sz' ver off len => (match Nat.beq sz' (T.ti e).size with
      | false => False
      | true => (match az objs n with
       | some (.vec te sr l ver') => (match Nat.beq te e && Nat.beq sr (T.ti e).size with
        | false => False
        | true => (ver = ver' ∧ off = 0 ∧ len ≤ l.length) ∧ (len + m.length) * ((T.ti e).bytes + 1) ≤ 140737488355328 ∧
          dC objs n (.vec e (T.ti e).size (l.take len ++ m) (ver' + 1)) fun objs => k (.slv n (T.ti e).size (ver' + 1) 0 (len + m.length)) objs)
       | _ => False))
     | _ => False))
   | .slv n2 sz ver off len => (match Nat.beq sz (T.ti e).size && jh (T.ti e) with
    | false => False
    | true => (match az objs n2 with
     | some (.vec te2 sr2 l2 ver') => (match Nat.beq te2 e && Nat.beq sr2 (T.ti e).size with
      | false => False
      | true => (match s with
       | .sl (some n) sz' l => (match Nat.beq sz' (T.ti e).size with
        | false => False
        | true => (match az objs n with
         | some (.row te sr top) => (match Nat.beq te e && Nat.beq sr (T.ti e).size with
          | false => False
          | true => (ver = ver' ∧ top = l.length) ∧ (l.length + len) * ((T.ti e).bytes + 1) ≤ 140737488355328 ∧
            dC objs n (.row e (T.ti e).size (l.length + len)) fun objs => k (.sl (some n) (T.ti e).size (l ++ (l2.drop off).take len)) objs)
         | _ => False))
       | _ => False))
     | _ => False))
   | _ => False))
 | _ => False
def qj (s : ByteArray) : List (List AV) := s.data.toList.map fun c => [.val (.int .u8 c.toNat)]
def ne (objs : List (Nm × aF)) (d : Nat) (t t2 : TypeId) (s x : AV) (k : AV → List (Nm × aF) → Prop) : Prop :=
 match dOf T t2 with
 | .string => (match dOf T t with
  | .slice e => (match dOf T e with
   | .int .u8 => (match x with
    | .val (.string b) => jg T objs d t s (.sl none 1 (qj b)) k
    | _ => False)
   | _ => False)
  | _ => False)
 | .slice _ => (match x with
  | .sl own sz m => jg T objs d t s (.sl own sz m) k
  | _ => False)
 | _ => False
def cF : List (ByteArray × AV) → ByteArray → Option AV
 | [], _ => none
 | (s, v) :: es, k => if s = k then some v else cF es k
def d7 : List (ByteArray × AV) → ByteArray → AV → List (ByteArray × AV)
 | [], k, v => [(k, v)]
 | (s, u) :: es, k, v => if s = k then (k, v) :: es else (s, u) :: d7 es k v
def jL : List (ByteArray × AV) → ByteArray → List (ByteArray × AV)
 | [], _ => []
 | (s, u) :: es, k => if s = k then es else (s, u) :: jL es k
def xZ (ti : TI) (k : AV → Prop) : Prop := bV (jh ti) <|
 match ti.zagg with
 | true => k (.agg (rv ti.zero))
 | false => (match ti.zero with
  | [v] => k (.val v)
  | _ => False)
def Es (d : Option Tmp) : Bool :=
 match d with
 | none => false
 | some d => im an.pass d
def OS (d : Option Tmp) : Nat :=
 match d with
 | none => 0
 | some d => d
def rc (an : Ann) (dst : Option Tmp) (ev : Operand → AV) (c : Call) (first cap : List AV) : List AV :=
 first ++ (match Es an dst with | true => c.args.toList.map ev | false => (c.args.toList.map ev).map AV.strips) ++ cap
def aT (op : Op) (dst : Option Tmp) (ev : Operand → AV) (objs : List (Nm × aF)) (k : AV → List (Nm × aF) → Prop) : Prop :=
 match op with
 | .move x => k (ev x) objs
 | .assign x => k (ev x) objs
 | .pick c a b =>
  (match ev c with
  | .val (.bool c) => br c (k (ev a) objs) (k (ev b) objs)
  | _ => False)
 | .binOp op t x y _ => IR T op t (ev x) (ev y) fun v => k v objs
 | .unOp op _ x => aun op (ev x) fun v => k v objs
 | .load t p =>
  (match ev p with
  | .cptr c off => nB T t (pv c off) fun v => k v objs
  | .ptr n off => (match az objs n with
   | some (.cells _ l) => nB T t (pv l off) fun v => k v objs
   | _ => False)
  | .ptv n size ver i off => (match az objs n with
   | some (.vec _ sz l ver') => bV (Nat.beq sz size) (ver = ver' ∧ qO l i fun e => nB T t (pv e off) fun v => k v objs)
   | _ => False)
  | _ => False)
 | .store t p x =>
  (match ev p with
  | .ptr n off => (match az objs n with
   | some (.cells te l) => f7 T t fun ti => d9 (ev x).cells fun c => bV (Nat.beq c.length ti.size) (bV (fA c) (sP l off c fun l' => dC objs n (.cells te l') fun objs => k .junk objs))
   | _ => False)
  | .ptv n size ver i off => (match az objs n with
   | some (.vec te sz l ver') => f7 T t fun ti => d9 ((ev x).cells.map AV.strip) fun c => bV (Nat.beq sz size && (Nat.beq c.length ti.size && Nat.blt 0 ti.size)) (bV (bU c) (ver = ver' ∧ qO l i fun e => sP e off c fun e' => dC objs n (.vec te sz (l.set i e') ver') fun objs => k .junk objs))
   | _ => False)
  | _ => False)
 | .fieldAddr t p f =>
  (match nw T t f with
  | some (fo, ft) => f7 T t fun _ => f7 T ft fun fi => bV (Nat.blt 0 fi.size) (match ev p with
   | .cptr c off => k (.cptr c (off + fo)) objs
   | .ptr n off => k (.ptr n (off + fo)) objs
   | .ptv n size ver i off => k (.ptv n size ver i (off + fo)) objs
   | _ => False)
  | none => False)
 | .field t x f =>
  (match nw T t f with
  | some (fo, ft) => (match ev x with
   | .agg l => f7 T t fun _ => nB T ft (pv l fo) fun v => k v objs
   | _ => False)
  | none => False)
 | .indexAddr t x i =>
  f7 T t fun ti => (match ev i with
  | .val (.int _ i) => (match ti.d with
   | .slice e => f7 T e fun ei => bV (Nat.blt 0 ei.size) (match ev x with
    | .sl _ sz l => bV (Nat.beq sz ei.size) (bV (decide (0 ≤ i)) (qO l i.toNat fun c => k (.cptr c 0) objs))
    | .slm n off len _ => bV (decide (0 ≤ i)) (bV (decide (i < (len : Int))) (k (.ptr n (off + i.toNat * ei.size)) objs))
    | .slv n sz ver off len => bV (Nat.beq sz ei.size) (bV (decide (0 ≤ i)) (bV (decide (i < (len : Int))) (k (.ptv n sz ver (off + i.toNat) 0) objs)))
    | _ => False)
   | .array m e => f7 T e fun ei => bV (Nat.blt 0 ei.size) (bV (decide (0 ≤ i)) (bV (decide (i < (m : Int))) (match ev x with
    | .cptr c off => k (.cptr c (off + i.toNat * ei.size)) objs
    | .ptr n off => k (.ptr n (off + i.toNat * ei.size)) objs
    | _ => False)))
   | _ => False)
  | _ => False)
 | .index t x i =>
  f7 T t fun ti => (match ev i with
  | .val (.int _ i) => (match ti.d with
   | .string => (match ev x with
    | .val (.string s) => bV (decide (0 ≤ i)) (bV (decide (i < (s.size : Int))) (k (.val (.int .u8 (aE s i.toNat))) objs))
    | _ => False)
   | .array m e => (match ev x with
    | .agg l => bV (decide (0 ≤ i)) (bV (decide (i < (m : Int))) (f7 T e fun ei => nB T e (pv l (i.toNat * ei.size)) fun v => k v objs))
    | _ => False)
   | _ => False)
  | _ => False)
 | .extract x i =>
  (match ev x with
  | .tup l => qO l i fun v => k v objs
  | _ => False)
 | .build t ps =>
  f7 T t fun ti => (match ti.d with
  | .struct fs => bV (jh ti && zk T fs) (buildK ev fs ps.toList (rv ti.zero) fun l => k (.agg l) objs)
  | .array _ e => bV (jh ti) (f7 T e fun ei => buildArrK ev ei.size ps.toList (rv ti.zero) fun l => k (.agg l) objs)
  | _ => False)
 | .buildSlice t len ps =>
  f7 T t fun ti => (match ti.d with
  | .slice e => f7 T e fun ei => bV (jh ei) (bV (Nat.beq ps.size len && Nat.ble (len * ei.size) 16777216) (n6 ev ei.size ps.toList 0 fun l =>
    match dst with
    | none => False
    | some d => (match im an.own d with
     | true => eU objs (ak d) (.row e ei.size l.length) fun objs => k (.sl (some (ak d)) ei.size l) objs
     | false => (match im an.chg d with
      | true => eU objs (ak d) (.cells e l.flatten) fun objs => k (.slm (ak d) 0 l.length l.length) objs
      | false => k (.sl none ei.size l) objs))))
  | _ => False)
 | .alloc t =>
  f7 T t fun ti => (match dst with
  | none => False
  | some d => bV (jh ti) (eU objs (ak d) (.cells t (rv ti.zero)) fun objs => k (.ptr (ak d) 0) objs))
 | .box t x =>
  (match dst with
  | none => False
  | some d => (match im an.cst d with
   | true => d9 ((ev x).cells.map AV.strip) fun c => bV (bU c) (k (.cptr c 0) objs)
   | false => d9 (ev x).cells fun c => bV (fA c) (eU objs (ak d) (.cells t c) fun objs => k (.ptr (ak d) 0) objs)))
 | .nilCheck x =>
  (match ev x with
  | .ptr n off => k (.ptr n off) objs
  | .cptr c off => k (.cptr c off) objs
  | _ => False)
 | .makeFunc f first cap => d9 (first.toList.map ev) fun a => d9 (cap.toList.map ev) fun b => k (.fn f a b) objs
 | .makeMap _ none =>
  (match dst with
  | none => False
  | some d => eU objs (ak d) (.map []) fun objs => k (.mapv (ak d)) objs)
 | .slice t x lo hi none =>
  f7 T t fun ti => (match ev x with
  | .val (.string s) => (match ti.d with
   | .string => boundK ev lo 0 fun l => boundK ev hi s.size fun h =>
     bV (decide (0 ≤ l)) (bV (decide (l ≤ h)) (bV (decide (h ≤ (s.size : Int))) (k (.val (.string (s.extract l.toNat h.toNat))) objs)))
   | _ => False)
  | .sl _ sz xs => (match ti.d with
   | .slice e => f7 T e fun ei => bV (Nat.beq sz ei.size) (boundK ev lo 0 fun l => boundK ev hi xs.length fun h =>
     bV (decide (0 ≤ l)) (bV (decide (l ≤ h)) (bV (decide (h ≤ (xs.length : Int))) (k (.sl none sz ((xs.take h.toNat).drop l.toNat)) objs))))
   | _ => False)
  | .slv n sz ver off len => (match ti.d with
   | .slice e => f7 T e fun ei => bV (Nat.beq sz ei.size) (boundK ev lo 0 fun l => boundK ev hi len fun h =>
     bV (decide (0 ≤ l)) (bV (decide (l ≤ h)) (bV (decide (h ≤ (len : Int))) (k (.slv n sz ver (off + l.toNat) (h.toNat - l.toNat)) objs))))
   | _ => False)
  | .ptr n off => (match ti.d with
   | .array m e => f7 T e fun _ => (match lo, hi with
    | none, none => k (.slm n off m m) objs
    | _, _ => False)
   | _ => False)
  | _ => False)
 | .slice t x lo (some hi) (some mx) =>
  f7 T t fun ti => (match ev x with
  | .sl _ sz xs => (match ti.d with
   | .slice e => f7 T e fun ei => bV (Nat.beq sz ei.size) (boundK ev lo 0 fun l => boundK ev (some hi) 0 fun h => boundK ev (some mx) 0 fun m =>
     bV (decide (0 ≤ l)) (bV (decide (l ≤ h)) (bV (decide (h ≤ m)) (bV (decide (m ≤ (xs.length : Int))) (k (.sl none sz ((xs.take h.toNat).drop l.toNat)) objs)))))
   | _ => False)
  | _ => False)
 | .convert src dst x =>
  f7 T src fun si => f7 T dst fun di => (match di.d, ev x with
  | .int kd, .val (.int ks n) => (match si.d with
   | .int _ => k (.val (.int kd (kd.wrap n))) objs
   | _ => False)
  | .string, .val (.string s) => (match si.d with
   | .string => k (.val (.string s)) objs
   | _ => False)
  | .slice e, .val (.string s) => (match dOf T e with
   | .int .u8 => k (.sl none 1 (s.data.toList.map fun c => [.val (.int .u8 c.toNat)])) objs
   | _ => False)
  | .string, .sl _ _ l => (match si.d with
   | .slice e => (match dOf T e with
    | .int .u8 => ∃ bs : List Int, (l = bs.map fun b => [.val (.int .u8 b)]) ∧ k (.val (.string (strOfNums bs))) objs
    | _ => False)
   | _ => False)
  | .string, .slv n sz ver off len => (match si.d with
   | .slice e => (match dOf T e with
    | .int .u8 => (match az objs n with
     | some (.vec _ _ l ver') => bV (Nat.beq sz 1 && Nat.beq off 0) ((ver = ver' ∧ len = l.length ∧ 0 < len) ∧ ∃ bs : List Int, (l = bs.map fun b => [.val (.int .u8 b)]) ∧ k (.val (.string (strOfNums bs))) objs)
     | _ => False)
    | _ => False)
   | _ => False)
  | _, _ => False)
 | .lookup t m x ok =>
  (match dOf T t with
  | .map kt e => (match dOf T kt with
   | .string => f7 T e fun ei => (match ev m, ev x with
    | .mapv n, .val (.string s) => (match az objs n with
     | some (.map es) => xZ ei fun z => (match ok with
      | true => k (.tup [(cF es s).getD z, .val (.bool (cF es s).isSome)]) objs
      | false => k ((cF es s).getD z) objs)
     | _ => False)
    | _, _ => False)
   | _ => False)
  | _ => False)
 | .mapUpdate t m x v =>
  (match dOf T t with
  | .map kt e => (match dOf T kt with
   | .string => (match ev m, ev x with
    | .mapv n, .val (.string s) => (match az objs n with
     | some (.map es) => pn (ev v).strips fun v => bV (cE v) (dC objs n (.map (d7 es s v)) fun objs => k .junk objs)
     | _ => False)
    | _, _ => False)
   | _ => False)
  | _ => False)
 | .call c =>
  (match c.callee with
  | .value f => (match ev f with
   | .fn (.func g) first cap => d9 (rc an dst ev c first cap) fun args => bV (T.fn g)
     (yF objs (LX (rK objs 1000 (cL args) []) []) fun ns os => bV (zx (cL args) ns) (d9 (nN (qN ns) args) fun args =>
     ag P g args os fun r os => lZ (dP (OS dst) ns 0) (OS dst) ns os 0 objs fun objs => k (kU (dP (OS dst) ns 0) r) objs))
   | _ => False)
  | .builtin b => (match b, c.args.toList, c.argTypes.toList with
   | .len, [x], [t] => bV (qe (dOf T t) (ev x)) (match xB (ev x) objs with
    | some n => k (.val (.int .i64 n)) objs
    | none => False)
   | .append, [s, x], [t, t2] => (match Nat.beq t t2, dst with
    | true, some d => (match OD (ev s) (ev x) with
     | true => m0 T objs t (ev s) (ev x) fun v objs => k v objs
     | false => jg T objs d t (ev s) (ev x) fun v objs => k v objs)
    | false, some d => ne T objs d t t2 (ev s) (ev x) fun v objs => k v objs
    | _, _ => False)
   | .delete, [m, x], [t, _] => (match dOf T t with
    | .map kt e => (match dOf T kt with
     | .string => (match ev m, ev x with
      | .mapv n, .val (.string s) => (match az objs n with
       | some (.map es) => dC objs n (.map (jL es s)) fun objs => k .junk objs
       | _ => False)
      | _, _ => False)
     | _ => False)
    | _ => False)
   | .min, [x, y], [_, _] => (match ev x, ev y with
    | .val (.int ka x), .val (.int kb y) => bV (Al ka kb) (k (.val (.int ka (if y < x then y else x))) objs)
    | _, _ => False)
   | .max, [x, y], [_, _] => (match ev x, ev y with
    | .val (.int ka x), .val (.int kb y) => bV (Al ka kb) (k (.val (.int ka (if x < y then y else x))) objs)
    | _, _ => False)
   | _, _, _ => False)
  | _ => False)
 | .makeInterface t x =>
  (match dOf T t with
  | .iface => False
  | .other => False
  | _ => pn (ev x) fun v => k (.iface t v) objs)
 | _ => False
where
 /-- A struct's cells, the given fields laid over. -/
 buildK (ev : Operand → AV) (fs : List (Nat × TypeId)) : List (Nat × Operand) → List AV → (List AV → Prop) → Prop
  | [], l, k => k l
  | (i, x) :: ps, l, k => match fs[i]? with
   | none => False
   | some (off, t) => f7 T t fun ti => d9 (ev x).cells fun c => bV (sC c ti.size) (sP l off c fun l' => buildK ev fs ps l' k)
 buildArrK (ev : Operand → AV) (size : Nat) : List (Nat × Operand) → List AV → (List AV → Prop) → Prop
  | [], l, k => k l
  | (i, x) :: ps, l, k => d9 (ev x).cells fun c => bV (sC c size) (sP l (i * size) c fun l' => buildArrK ev size ps l' k)
 boundK (ev : Operand → AV) (x : Option Operand) (d : Nat) (k : Int → Prop) : Prop :=
  match x with
  | none => k d
  | some x => (match ev x with
   | .val (.int _ i) => k i
   | _ => False)
def cn (o : Oper) (st : St) (k : St → Prop) : Prop :=
 aT P T an o.op o.dst (evA st.slots) st.objs fun v objs => put ⟨st.slots, objs⟩ o.dst v k
inductive Cls where
 | val (r : List Nm)
 | mk
 | call
 | wr
def bJ (op : Op) (dst : Option Tmp) (ev : Operand → AV) : Cls :=
 match op with
 | .load _ p => (match ev p with
  | .ptr n _ => .val [n]
  | .ptv n _ _ _ _ => .val [n]
  | _ => .val [])
 | .lookup _ m _ _ => (match ev m with
  | .mapv n => .val [n]
  | _ => .val [])
 | .alloc _ => .mk
 | .makeMap _ _ => .mk
 | .box _ _ => (match dst with
  | some d => (match im an.cst d with
   | true => .val []
   | false => .mk)
  | none => .mk)
 | .buildSlice _ _ _ => (match dst with
  | some d => (match im an.own d with
   | true => .mk
   | false => (match im an.chg d with
    | true => .mk
    | false => .val []))
  | none => .mk)
 | .store _ _ _ => .wr
 | .mapUpdate _ _ _ _ => .wr
 | .call c => (match c.callee with
  | .value f => (match dst with
   | some d => (match im an.objc d with
    | true => .wr
    | false => .call)
   | none => .wr)
  | .builtin b => (match b with
   | .len => (match c.args.toList with
    | [x] => (match ev x with
     | .mapv n => .val [n]
     | _ => .val [])
    | _ => .val [])
   | .min => .val []
   | .max => .val []
   | _ => .wr)
  | _ => .wr)
 | .move _ => .val []
 | .assign _ => .val []
 | .pick _ _ _ => .val []
 | .binOp _ _ _ _ _ => .val []
 | .unOp _ _ _ => .val []
 | .fieldAddr _ _ _ => .val []
 | .field _ _ _ => .val []
 | .indexAddr _ _ _ => .val []
 | .index _ _ _ => .val []
 | .extract _ _ => .val []
 | .build _ _ => .val []
 | .nilCheck _ => .val []
 | .makeFunc _ _ _ => .val []
 | .slice _ _ _ _ _ => .val []
 | .convert _ _ x => (match ev x with
  | .slv n _ _ _ _ => .val [n]
  | _ => .val [])
 | .makeInterface _ _ => .val []
 | _ => .wr
def fj (op : Op) (dst : Option Tmp) (ev : Operand → AV) : Bool :=
 match op with
 | .call c => (match c.callee with
  | .value f => (match ev f with
   | .fn (.func _) first cap => (match cL (rc an dst ev c first cap) with
    | [] => true
    | _ => false)
   | _ => false)
  | _ => false)
 | _ => false
def pB (cj ci : Cls) : Bool :=
 match cj, ci with
 | .val [], _ => true
 | _, .val [] => true
 | .val _, .val _ => true
 | .val _, .mk => true
 | .mk, .val _ => true
 | .mk, .mk => true
 | .val _, .call => true
 | .call, .val _ => true
 | .mk, .call => true
 | .call, .mk => true
 | .call, .call => true
 | .call, .wr => true
 | .wr, .call => true
 | .wr, .wr => true
 | _, _ => false
def KX (p : Nat → Bool) : List Edge → Bool
 | [] => false
 | e :: l => (match Region.binds .any e with
  | true => (match p e.on with
   | true => true
   | false => KX p l)
  | false => KX p l)
def KN (ops : Array Oper) (j : Nat) : Nat → Nat → Bool
 | 0, _ => false
 | f + 1, i => (match ops[i]? with
  | none => false
  | some o => KX (fun x => (match Nat.beq x j with
   | true => true
   | false => (match Nat.ble x j with
    | true => false
    | false => KN ops j f x))) o.after.toList)
def C9 (ops : Array Oper) (i j : Nat) : Bool := KN ops j 4 i
def lP (ops : Array Oper) (i : Nat) (o : Oper) (c : Cls) : List (Nat × Cls) → Bool
 | [] => true
 | (j, cj) :: l => match gK o.after.toList j with
  | true => lP ops i o c l
  | false => (match pB cj c with
   | true => lP ops i o c l
   | false => (match C9 ops i j with
    | true => lP ops i o c l
    | false => false))
end
end Go.Abs
