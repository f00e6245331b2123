/- The engine, part 3: 'awp': what a piece of code needs so that it comes to its continuations, told of abstract values. -/
import Derived.Test.YtlagdcbgkfaheaaA2
set_option linter.unusedVariables false
set_option linter.unusedSimpArgs false
namespace Go.Abs
open Go

section
variable (P : Program) (T : Tab) (an : Ann)

/-- Loses what would make it a view of an owned row. -/
def AV.strips : AV → AV
  | .sl _ s l => .sl none s l
  | .agg l => .agg (l.map AV.strip)
  | .tup l => .tup (l.map fun a => match a with
    | .agg l => .agg (l.map AV.strip)
    | a => a.strip)
  | a => a

/-- The elements of a literal. -/
def elemsK (s : List AV) (size : Nat) : List (Nat × Operand) → Nat → (List (List AV) → Prop) → Prop
  | [], _, k => k []
  | (i, x) :: ps, n, k => match Nat.beq i n with
    | false => False
    | true => forceL ((evA s x).cells.map AV.strip) fun c => match Nat.beq c.length size with
      | false => False
      | true => match okCells c with
        | false => False
        | true => elemsK s size ps (n + 1) fun l => k (c :: l)

/-- A value of one cell. -/
def cellish : AV → Bool
  | .val v => (match v with | .agg _ => false | .tuple _ => false | _ => true)
  | .junk => false
  | .agg _ => false
  | .tup _ => false
  | _ => true
def allCellish : List AV → Bool
  | [] => true
  | a :: l => match cellish a with
    | true => allCellish l
    | false => false

def allTy (T : Tab) : List (Nat × TypeId) → Bool
  | [] => true
  | (_, t) :: l => (match (T.ti t).ok with
    | true => allTy T l
    | false => false)

def cellsOk (c : List AV) (n : Nat) : Bool := Nat.beq c.length n && (Nat.blt 0 n && allCellish c)

def tyOk (t : TypeId) (k : TI → Prop) : Prop :=
  match (T.ti t).ok with
  | true => k (T.ti t)
  | false => False

def lenA (a : AV) (st : St) : Option Int :=
  match a with
  | .val (.string s) => some s.size
  | .val (.slice none 0 _) => some 0
  | .sl _ _ l => some l.length
  | .slm _ _ n _ => some n
  | .mapv n => (match objGet st.objs n with
    | some (.map es) => some es.length
    | _ => none)
  | _ => none

def zeroOk (ti : TI) : Bool := Nat.beq ti.zero.length ti.size && Nat.blt 0 ti.size

def lenTy (d : TD) (a : AV) : Bool :=
  match d, a with
  | .string, .val (.string _) => true
  | .slice _, .val (.slice _ _ _) => true
  | .slice _, .sl _ _ _ => true
  | .slice _, .slm _ _ _ _ => true
  | .map _ _, .mapv _ => true
  | _, _ => false

/-- append(s, x): 'd' is where the value goes. -/
def appendK (st : St) (d : Nat) (t : TypeId) (s x : AV) (k : AV → List (Nm × AObj) → Prop) : Prop :=
  match dOf T t with
  | .slice e =>
    (match (T.ti e).ok with
    | false => False
    | true =>
      (match x with
      | .sl _ sz m =>
        (match Nat.beq sz (T.ti e).size && zeroOk (T.ti e) with
        | false => False
        | true =>
          (match s with
          | .sl (some n) sz' l =>
            (match Nat.beq sz' (T.ti e).size with
            | false => False
            | true =>
              (match objGet st.objs n with
              | some (.row te sr top) => (match Nat.beq te e && Nat.beq sr (T.ti e).size with
                | false => False
                | true => top = l.length ∧ (l.length + m.length) * ((T.ti e).bytes + 1) ≤ 140737488355328 ∧
                    objSetK st.objs n (.row e (T.ti e).size (l.length + m.length)) fun objs => k (.sl (some n) (T.ti e).size (l ++ m)) objs)
              | _ => False))
          | .val (.slice none 0 0) =>
              m.length * ((T.ti e).bytes + 1) ≤ 140737488355328 ∧ objInsK st.objs (nameOf d) (.row e (T.ti e).size m.length) fun objs => k (.sl (some (nameOf d)) (T.ti e).size m) objs
          | _ => False))
      | _ => False))
  | _ => False

def mapFind : List (ByteArray × AV) → ByteArray → Option AV
  | [], _ => none
  | (s, v) :: es, k => if s = k then some v else mapFind es k
def mapPut : List (ByteArray × AV) → ByteArray → AV → List (ByteArray × AV)
  | [], k, v => [(k, v)]
  | (s, u) :: es, k, v => if s = k then (k, v) :: es else (s, u) :: mapPut es k v
def mapDel : List (ByteArray × AV) → ByteArray → List (ByteArray × AV)
  | [], _ => []
  | (s, u) :: es, k => if s = k then es else (s, u) :: mapDel es k

def zeroA (ti : TI) (k : AV → Prop) : Prop := must (zeroOk ti) <|
  match ti.zagg with
  | true => k (.agg (valsA ti.zero))
  | false => (match ti.zero with
    | [v] => k (.val v)
    | _ => False)

/-- One operation. -/
def awpOp (o : Oper) (st : St) (k : St → Prop) : Prop :=
  match o.op with
  | .move x => put st o.dst (evA st.slots x) k
  | .assign x => put st o.dst (evA st.slots x) k
  | .pick c a b =>
    (match evA st.slots c with
    | .val (.bool c) => br c (put st o.dst (evA st.slots a) k) (put st o.dst (evA st.slots b) k)
    | _ => False)
  | .binOp op t x y _ => abin T op t (evA st.slots x) (evA st.slots y) fun v => put st o.dst v k
  | .unOp op _ x => aun op (evA st.slots x) fun v => put st o.dst v k
  | .load t p =>
    (match evA st.slots p with
    | .cptr c off => aload T t (dropL c off) fun v => put st o.dst v k
    | .ptr n off => (match objGet st.objs n with
      | some (.cells _ l) => aload T t (dropL l off) fun v => put st o.dst v k
      | _ => False)
    | _ => False)
  | .store t p x =>
    (match evA st.slots p with
    | .ptr n off => (match objGet st.objs n with
      | some (.cells te l) => tyOk T t fun ti => forceL (evA st.slots x).cells fun c => must (Nat.beq c.length ti.size) (must (allCellish c) (updK l off c fun l' => objSetK st.objs n (.cells te l') fun objs => put ⟨st.slots, objs⟩ o.dst .junk k))
      | _ => False)
    | _ => False)
  | .fieldAddr t p f =>
    (match fieldOff T t f with
    | some (fo, ft) => tyOk T t fun _ => tyOk T ft fun fi => must (Nat.blt 0 fi.size) (match evA st.slots p with
      | .cptr c off => put st o.dst (.cptr c (off + fo)) k
      | .ptr n off => put st o.dst (.ptr n (off + fo)) k
      | _ => False)
    | none => False)
  | .field t x f =>
    (match fieldOff T t f with
    | some (fo, ft) => (match evA st.slots x with
      | .agg l => tyOk T t fun _ => aload T ft (dropL l fo) fun v => put st o.dst v k
      | _ => False)
    | none => False)
  | .indexAddr t x i =>
    tyOk T t fun ti => (match evA st.slots i with
    | .val (.int _ i) => (match ti.d with
      | .slice e => tyOk T e fun ei => must (Nat.blt 0 ei.size) (match evA st.slots x with
        | .sl _ sz l => must (Nat.beq sz ei.size) (must (decide (0 ≤ i)) (idxK l i.toNat fun c => put st o.dst (.cptr c 0) k))
        | .slm n off len _ => must (decide (0 ≤ i)) (must (decide (i < (len : Int))) (put st o.dst (.ptr n (off + i.toNat * ei.size)) k))
        | _ => False)
      | .array m e => tyOk T e fun ei => must (Nat.blt 0 ei.size) (must (decide (0 ≤ i)) (must (decide (i < (m : Int))) (match evA st.slots x with
        | .cptr c off => put st o.dst (.cptr c (off + i.toNat * ei.size)) k
        | .ptr n off => put st o.dst (.ptr n (off + i.toNat * ei.size)) k
        | _ => False)))
      | _ => False)
    | _ => False)
  | .index t x i =>
    tyOk T t fun ti => (match evA st.slots i with
    | .val (.int _ i) => (match ti.d with
      | .string => (match evA st.slots x with
        | .val (.string s) => must (decide (0 ≤ i)) (must (decide (i < (s.size : Int))) (put st o.dst (.val (.int .u8 (byteAt s i.toNat))) k))
        | _ => False)
      | .array m e => (match evA st.slots x with
        | .agg l => must (decide (0 ≤ i)) (must (decide (i < (m : Int))) (tyOk T e fun ei => aload T e (dropL l (i.toNat * ei.size)) fun v => put st o.dst v k))
        | _ => False)
      | _ => False)
    | _ => False)
  | .extract x i =>
    (match evA st.slots x with
    | .tup l => idxK l i fun v => put st o.dst v k
    | _ => False)
  | .build t ps =>
    tyOk T t fun ti => (match ti.d with
    | .struct fs => must (zeroOk ti && allTy T fs) (buildK st.slots fs ps.toList (valsA ti.zero) fun l => put st o.dst (.agg l) k)
    | .array _ e => must (zeroOk ti) (tyOk T e fun ei => buildArrK st.slots ei.size ps.toList (valsA ti.zero) fun l => put st o.dst (.agg l) k)
    | _ => False)
  | .buildSlice t len ps =>
    tyOk T t fun ti => (match ti.d with
    | .slice e => tyOk T e fun ei => must (zeroOk ei) (must (Nat.beq ps.size len && Nat.ble (len * ei.size) 16777216) (elemsK st.slots ei.size ps.toList 0 fun l =>
        match o.dst with
        | none => False
        | some d => (match memN an.own d with
          | true => objInsK st.objs (nameOf d) (.row e ei.size l.length) fun objs => put ⟨st.slots, objs⟩ o.dst (.sl (some (nameOf d)) ei.size l) k
          | false => (match memN an.chg d with
            | true => objInsK st.objs (nameOf d) (.cells e l.flatten) fun objs => put ⟨st.slots, objs⟩ o.dst (.slm (nameOf d) 0 l.length l.length) k
            | false => put st o.dst (.sl none ei.size l) k))))
    | _ => False)
  | .alloc t =>
    tyOk T t fun ti => (match o.dst with
    | none => False
    | some d => must (zeroOk ti) (objInsK st.objs (nameOf d) (.cells t (valsA ti.zero)) fun objs => put ⟨st.slots, objs⟩ o.dst (.ptr (nameOf d) 0) k))
  | .box t x =>
    (match o.dst with
    | none => False
    | some d => (match memN an.cst d with
      | true => forceL ((evA st.slots x).cells.map AV.strip) fun c => must (okCells c) (put st o.dst (.cptr c 0) k)
      | false => forceL (evA st.slots x).cells fun c => must (allCellish c) (objInsK st.objs (nameOf d) (.cells t c) fun objs => put ⟨st.slots, objs⟩ o.dst (.ptr (nameOf d) 0) k)))
  | .nilCheck x =>
    (match evA st.slots x with
    | .ptr n off => put st o.dst (.ptr n off) k
    | .cptr c off => put st o.dst (.cptr c off) k
    | _ => False)
  | .makeFunc f first cap => forceL (first.toList.map (evA st.slots)) fun a => forceL (cap.toList.map (evA st.slots)) fun b => put st o.dst (.fn f a b) k
  | .makeMap _ none =>
    (match o.dst with
    | none => False
    | some d => objInsK st.objs (nameOf d) (.map []) fun objs => put ⟨st.slots, objs⟩ o.dst (.mapv (nameOf d)) k)
  | .slice t x lo hi none =>
    tyOk T t fun ti => (match evA st.slots x with
    | .val (.string s) => (match ti.d with
      | .string => boundK st.slots lo 0 fun l => boundK st.slots hi s.size fun h =>
          must (decide (0 ≤ l)) (must (decide (l ≤ h)) (must (decide (h ≤ (s.size : Int))) (put st o.dst (.val (.string (s.extract l.toNat h.toNat))) k)))
      | _ => False)
    | .sl _ sz xs => (match ti.d with
      | .slice e => tyOk T e fun ei => must (Nat.beq sz ei.size) (boundK st.slots lo 0 fun l => boundK st.slots hi xs.length fun h =>
          must (decide (0 ≤ l)) (must (decide (l ≤ h)) (must (decide (h ≤ (xs.length : Int))) (put st o.dst (.sl none sz ((xs.take h.toNat).drop l.toNat)) k))))
      | _ => False)
    | .ptr n off => (match ti.d with
      | .array m e => tyOk T e fun _ => (match lo, hi with
        | none, none => put st o.dst (.slm n off m m) k
        | _, _ => False)
      | _ => False)
    | _ => False)
  | .convert src dst x =>
    tyOk T src fun si => tyOk T dst fun di => (match di.d, evA st.slots x with
    | .int kd, .val (.int ks n) => (match si.d with
      | .int _ => put st o.dst (.val (.int kd (kd.wrap n))) k
      | _ => False)
    | .string, .val (.string s) => (match si.d with
      | .string => put st o.dst (.val (.string s)) k
      | _ => False)
    | .slice e, .val (.string s) => (match dOf T e with
      | .int .u8 => put st o.dst (.sl none 1 (s.data.toList.map fun c => [.val (.int .u8 c.toNat)])) k
      | _ => False)
    | .string, .sl _ _ l => (match si.d with
      | .slice e => (match dOf T e with
        | .int .u8 => ∃ bs : List Int, (l = bs.map fun b => [.val (.int .u8 b)]) ∧ put st o.dst (.val (.string (strOfNums bs))) k
        | _ => False)
      | _ => False)
    | _, _ => False)
  | .lookup t m x ok =>
    (match dOf T t with
    | .map kt e => (match dOf T kt with
      | .string => tyOk T e fun ei => (match evA st.slots m, evA st.slots x with
        | .mapv n, .val (.string s) => (match objGet st.objs n with
          | some (.map es) => zeroA ei fun z => (match ok with
            | true => put st o.dst (.tup [(mapFind es s).getD z, .val (.bool (mapFind es s).isSome)]) k
            | false => put st o.dst ((mapFind es s).getD z) k)
          | _ => False)
        | _, _ => False)
      | _ => False)
    | _ => False)
  | .mapUpdate t m x v =>
    (match dOf T t with
    | .map kt e => (match dOf T kt with
      | .string => (match evA st.slots m, evA st.slots x with
        | .mapv n, .val (.string s) => (match objGet st.objs n with
          | some (.map es) => force (evA st.slots v).strips fun v => must (noNames v) (objSetK st.objs n (.map (mapPut es s v)) fun objs => put ⟨st.slots, objs⟩ o.dst .junk k)
          | _ => False)
        | _, _ => False)
      | _ => False)
    | _ => False)
  | .call c =>
    (match c.callee with
    | .value f => (match evA st.slots f with
      | .fn (.func g) first cap => forceL (first ++ c.args.toList.map (evA st.slots) ++ cap) fun args => must (allNoNames args) (must (T.fn g)
          (ACalls P g args [] fun r os => match os with
            | [] => put st o.dst r k
            | _ => False))
      | _ => False)
    | .builtin b => (match b, c.args.toList, c.argTypes.toList with
      | .len, [x], [t] => must (lenTy (dOf T t) (evA st.slots x)) (match lenA (evA st.slots x) st with
        | some n => put st o.dst (.val (.int .i64 n)) k
        | none => False)
      | .append, [s, x], [t, t2] => (match Nat.beq t t2, o.dst with
        | true, some d => appendK T st d t (evA st.slots s) (evA st.slots x) fun v objs => put ⟨st.slots, objs⟩ o.dst v k
        | _, _ => False)
      | .delete, [m, x], [t, _] => (match dOf T t with
        | .map kt e => (match dOf T kt with
          | .string => (match evA st.slots m, evA st.slots x with
            | .mapv n, .val (.string s) => (match objGet st.objs n with
              | some (.map es) => objSetK st.objs n (.map (mapDel es s)) fun objs => put ⟨st.slots, objs⟩ o.dst .junk k
              | _ => False)
            | _, _ => False)
          | _ => False)
        | _ => False)
      | .min, [x, y], [_, _] => (match evA st.slots x, evA st.slots y with
        | .val (.int ka x), .val (.int kb y) => must (ikEq ka kb) (put st o.dst (.val (.int ka (if y < x then y else x))) k)
        | _, _ => False)
      | .max, [x, y], [_, _] => (match evA st.slots x, evA st.slots y with
        | .val (.int ka x), .val (.int kb y) => must (ikEq ka kb) (put st o.dst (.val (.int ka (if x < y then y else x))) k)
        | _, _ => False)
      | _, _, _ => False)
    | _ => False)
  | .makeInterface t x =>
    (match dOf T t with
    | .iface => False
    | .other => False
    | _ => force (evA st.slots x) fun v => put st o.dst (.iface t v) k)
  | _ => False
where
  /-- A struct's cells, the given fields laid over. -/
  buildK (s : List AV) (fs : List (Nat × TypeId)) : List (Nat × Operand) → List AV → (List AV → Prop) → Prop
    | [], l, k => k l
    | (i, x) :: ps, l, k => match fs[i]? with
      | none => False
      | some (off, t) => tyOk T t fun ti => forceL (evA s x).cells fun c => must (cellsOk c ti.size) (updK l off c fun l' => buildK s fs ps l' k)
  buildArrK (s : List AV) (size : Nat) : List (Nat × Operand) → List AV → (List AV → Prop) → Prop
    | [], l, k => k l
    | (i, x) :: ps, l, k => forceL (evA s x).cells fun c => must (cellsOk c size) (updK l (i * size) c fun l' => buildArrK s size ps l' k)
  boundK (s : List AV) (x : Option Operand) (d : Nat) (k : Int → Prop) : Prop :=
    match x with
    | none => k d
    | some x => (match evA s x with
      | .val (.int _ i) => k i
      | _ => False)

end
end Go.Abs
