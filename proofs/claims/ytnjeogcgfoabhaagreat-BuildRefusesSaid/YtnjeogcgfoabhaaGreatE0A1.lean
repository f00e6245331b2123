/- The engine, A1. -/
import Derived.Test.YtnjeogcgfoabhaaGreatProg
import Derived.WalkKit
import Derived.Laws.BytesArg
import Derived.Laws.StructEq
import Derived.Carry
import Derived.Orders
import Derived.CheckFast
import Derived.Lib.ConvBytes
import Derived.Lib.AppendStr
import Derived.RangeFuncNested
import Derived.RangeFuncLeaves
set_option linter.unusedVariables false
set_option linter.unusedSimpArgs false
namespace Go.Abs
open Go
abbrev Nm := Nat
inductive AV where
 | junk
 | val (v : Value)
 | agg (l : List AV)
 | sl (own : Option Nm) (size : Nat) (l : List (List AV))
 | cptr (cells : List AV) (off : Nat)
 | ptr (n : Nm) (off : Nat)
 | slm (n : Nm) (off len cap : Nat)
 | fn (f : Fn) (first cap : List AV)
 | iface (t : TypeId) (v : AV)
 | mapv (n : Nm)
 | tup (l : List AV)
 | slv (n : Nm) (size ver off len : Nat)
 | ptv (n : Nm) (size ver i off : Nat)
 deriving Inhabited
inductive aF where
 | cells (t : TypeId) (l : List AV)
 | row (t : TypeId) (size top : Nat)
 | map (es : List (ByteArray × AV))
 | dead
 | vec (t : TypeId) (size : Nat) (l : List (List AV)) (ver : Nat)
 | mapc (es : List (ByteArray × AV)) (ms : Array MapEntry) (clock : Nat)
 | iter (m : Nm) (ms : Array MapEntry) (clock : Nat) (seen : List Nat)
 | fns (t : TypeId) (l : List AV) (ver : Nat)
 deriving Inhabited
inductive TD where
 | other | bool | string
 | int (k : IntKind)
 | slice (e : TypeId)
 | array (n : Nat) (e : TypeId)
 | struct (fs : List (Nat × TypeId))
 | map (k e : TypeId)
 | pointer
 | iface
 | func
structure TI where
 ok : Bool
 d : TD
 agg : Bool
 size : Nat
 bytes : Nat
 zagg : Bool
 zero : List Value
instance : Inhabited TI := ⟨⟨false, .other, false, 0, 0, false, []⟩⟩
def TD.of : TypeDesc → TD
 | .bool => .bool
 | .string => .string
 | .int k => .int k
 | .slice e => .slice e
 | .array n e => .array n e
 | .struct fs => .struct (fs.toList.map fun f => (f.offset, f.type))
 | .map k e => .map k e
 | .pointer _ => .pointer
 | .interface _ => .iface
 | .func _ _ _ => .func
 | _ => .other
def qy : TypeDesc → Bool
 | .struct _ => true
 | .array _ _ => true
 | _ => false
def Lh (P : Program) (t : TypeId) : TI :=
 match P.info? t, P.underlying t with
 | some i, some d => { ok := true, d := TD.of d, agg := qy d, size := i.size, bytes := i.bytes, zagg := (match i.zero with | some (.agg _) => true | _ => false), zero := (match i.zero with | some z => z.cells.toList | none => []) }
 | _, _ => default
def r9 (P : Program) (g : FuncId) : Bool :=
 match P.funcs[g]? with
 | some fn => !(fn.name == "runtime.NumGoroutine") && fn.body.isSome
 | none => false
def gD : List Edge → Nat → Bool
 | [], _ => false
 | e :: l, j => match Nat.beq e.on j with
  | true => (match Region.binds .any e with
   | true => true
   | false => gD l j)
  | false => gD l j
def g9 (ops : Array Oper) : Bool :=
 (List.range ops.size).all fun i => (List.range i).all fun j => match ops[i]?, ops[j]? with
  | some oi, some oj => gD oi.after.toList j || (oj.apart ops oi && oi.apart ops oj)
  | _, _ => true
def kg (ops : Array Oper) : Bool := (List.range ops.size).all fun i => match ops[i]? with
 | some o => o.after.toList.all fun e => !Region.binds .any e || Nat.blt e.on i
 | none => true
def jD : Op → Bool
 | .load _ _ => false
 | .lookup _ _ _ _ => false
 | .alloc _ => false
 | .makeMap _ _ => false
 | .box _ _ => false
 | .buildSlice _ _ _ => false
 | .move _ => false
 | .assign _ => false
 | .pick _ _ _ => false
 | .binOp _ _ _ _ _ => false
 | .unOp _ _ _ => false
 | .fieldAddr _ _ _ => false
 | .field _ _ _ => false
 | .indexAddr _ _ _ => false
 | .index _ _ _ => false
 | .extract _ _ => false
 | .build _ _ => false
 | .nilCheck _ => false
 | .makeFunc _ _ _ => false
 | .slice _ _ _ _ _ => false
 | .convert _ _ _ => false
 | .makeInterface _ _ => false
 | .call c => (match c.callee with
  | .builtin b => (match b with
   | .len => false
   | .min => false
   | .max => false
   | _ => true)
  | _ => true)
 | _ => true
def o6 (ops : Array Oper) : Bool :=
 (fun b : Array Nat => (List.range ops.size).all fun i => (List.range i).all fun j => match ops[i]?, ops[j]? with
  | some oi, some oj => !(jD oi.op && jD oj.op) || (b.getD i 0).testBit j
  | _, _ => true) (CheckFast.beforeF ops)
def c8 : Code → Bool
 | .region _ ops true => g9 ops && (kg ops && o6 ops)
 | .seq a b => c8 a && c8 b
 | .block _ b => c8 b
 | .scope b => c8 b
 | .loop b => c8 b
 | .cond _ a b => c8 a && c8 b
 | .rangeFunc _ _ a b => c8 a && c8 b
 | _ => true
def Ad (fn : Func) : Bool :=
 match fn.body with
 | some c => c8 c
 | none => true
structure Tab where
 ti : TypeId → TI
 fn : FuncId → Bool
 eqs : TypeId → Bool := fun _ => false
def Ox (P : Program) (t : TypeId) : Bool :=
 match P.underlying t with
 | some (.struct fs) => !P.stoodInHeld t && (!P.eqGuardType P.depth t && fs.all fun f => f.name != "_")
 | _ => false
def Ku (P : Program) (g : FuncId) : Bool :=
 match P.funcs[g]? with
 | some fn => Ad fn
 | none => true
structure cd (P : Program) (T : Tab) : Prop where
 ti : ∀ t, (T.ti t).ok = true → T.ti t = Lh P t
 fn : ∀ g, T.fn g = true → r9 P g = true
 eqs : ∀ t, T.eqs t = true → Ox P t = true
 draws : ∀ (g : FuncId) (fn : Func), P.funcs[g]? = some fn → T.fn g = true → Ad fn = true
 mixed : P.follows .mixedOrders = true
structure Ann where
 keep : List (Nat × List Nat) := []
 cst : List Nat := []
 chg : List Nat := []
 own : List Nat := []
 pass : List Nat := []
 objc : List Nat := []
 keepRes : Bool := false
 nilr : List (Nat × List (Nat × TypeId)) := []
 frz : List Nat := []
 vec : List Nat := []
 frz2 : List (Nat × Nat) := []
 frv : List (Nat × Nat) := []
 anyo : List Nat := []
 gq : Bool := false
 pre : List (Nat × List Nat) := []
structure St where
 slots : List AV
 objs : List (Nm × aF)
inductive XK where
 | exit (id : Nat)
 | ret
 deriving DecidableEq
noncomputable def br (b : Bool) (A B : Prop) : Prop := Bool.rec (motive := fun _ => Prop) B A b
noncomputable def bU (b : Bool) (A : Prop) : Prop := Bool.rec (motive := fun _ => Prop) False A b
theorem OI (A B : Prop) : br true A B = A := rfl
theorem OJ (A B : Prop) : br false A B = B := rfl
theorem vD (A : Prop) : bU true A = A := rfl
theorem N8 (A : Prop) : bU false A = False := rfl
theorem ae {b : Bool} {A B : Prop} (h1 : b = true → A) (h2 : b = false → B) : Bool.rec (motive := fun _ => Prop) B A b := by
 cases b
 ·exact h2 rfl
 ·exact h1 rfl
theorem aK {b : Bool} {A B : Prop} (h : b = true) (h1 : A) : Bool.rec (motive := fun _ => Prop) B A b := by subst h; exact h1
theorem am {b : Bool} {A B : Prop} (h : b = false) (h1 : B) : Bool.rec (motive := fun _ => Prop) B A b := by subst h; exact h1
theorem ac {b : Bool} {A : Prop} (h : b = true) (h1 : A) : Bool.rec (motive := fun _ => Prop) False A b := by subst h; exact h1
theorem aA {b : Bool} {A : Prop} (h : bU b A) : b = true ∧ A := by
 cases b
 ·exact h.elim
 ·exact ⟨rfl, h⟩
def qA {α : Type} : List α → Nat → (α → Prop) → Prop
 | [], _, _ => False
 | a :: _, 0, k => k a
 | _ :: l, n + 1, k => qA l n k
theorem gH {α : Type} {l : List α} {i : Nat} {k : α → Prop} : qA l i k ↔ ∃ a, l[i]? = some a ∧ k a := by
 induction l generalizing i with
 | nil => simp [qA]
 | cons a l ih =>
  cases i with
  | zero => simp [qA]
  | succ i => simp [qA, ih]
theorem vO {α : Type} {l : List α} {i : Nat} {k : α → Prop} (h : i < l.length) (h1 : k l[i]) : qA l i k :=
 gH.2 ⟨_, List.getElem?_eq_getElem h, h1⟩
theorem JC {α β : Type} {l : List α} {f : α → β} {i : Nat} {k : β → Prop} (h : qA l i fun a => k (f a)) : qA (l.map f) i k := by
 obtain ⟨a, ha, h⟩ := gH.1 h;exact gH.2 ⟨f a, by simp [ha], h⟩
theorem ab {α β : Type} {l : List α} {f : α → β} {i : Nat} {k : β → Prop} (h : i < l.length) (h1 : k (f l[i])) : qA (l.map f) i k :=
 JC (vO h h1)
def iS : List AV → Nat → AV
 | [], _ => .junk
 | a :: _, 0 => a
 | _ :: l, n + 1 => iS l n
def qk : List AV → Nat → AV → (List AV → Prop) → Prop
 | [], _, _, k => k []
 | _ :: l, 0, v, k => k (v :: l)
 | a :: l, n + 1, v, k => qk l n v fun l' => k (a :: l')
def jc : List AV → Nat → AV → List AV
 | [], _, _ => []
 | _ :: l, 0, v => v :: l
 | a :: l, n + 1, v => a :: jc l n v
theorem gm {k : List AV → Prop} : ∀ {l : List AV} {n : Nat} {v : AV}, qk l n v k = k (jc l n v) := by
 intro l
 induction l generalizing k with
 | nil => intro n v; cases n <;> rfl
 | cons a l ih => intro n v; cases n with
  | zero => rfl
  | succ n => exact ih
def pg : List AV → Nat → List AV
 | l, 0 => l
 | [], _ + 1 => []
 | _ :: l, n + 1 => pg l n
def tw : List AV → Nat → (List AV → Prop) → Prop
 | _, 0, k => k []
 | [], _ + 1, _ => False
 | a :: l, n + 1, k => tw l n fun l' => k (a :: l')
theorem jH : ∀ (l : List AV) (n : Nat), pg l n = l.drop n := by
 intro l
 induction l with
 | nil => intro n; cases n <;> rfl
 | cons a l ih => intro n; cases n with
  | zero => rfl
  | succ n => exact ih n
theorem mS {k : List AV → Prop} : ∀ {l : List AV} {n : Nat}, tw l n k ↔ n ≤ l.length ∧ k (l.take n) := by
 intro l
 induction l generalizing k with
 | nil => intro n; cases n <;> simp [tw]
 | cons a l ih => intro n; cases n with
  | zero => simp [tw]
  | succ n => simp [tw, ih]
def pb (a : AV) (k : AV → Prop) : Prop :=
 match a with
 | .junk => k .junk
 | .val v => k (.val v)
 | .agg l => k (.agg l)
 | .sl o s l => k (.sl o s l)
 | .cptr c o => k (.cptr c o)
 | .ptr n o => k (.ptr n o)
 | .slm n o l c => k (.slm n o l c)
 | .fn f a b => k (.fn f a b)
 | .iface t v => k (.iface t v)
 | .mapv n => k (.mapv n)
 | .tup l => k (.tup l)
 | .slv n s r o l => k (.slv n s r o l)
 | .ptv n s l i o => k (.ptv n s l i o)
theorem iU (a : AV) (k : AV → Prop) : pb a k = k a := by cases a <;> rfl
def d8 : List AV → (List AV → Prop) → Prop
 | [], k => k []
 | a :: l, k => pb a fun a' => d8 l fun l' => k (a' :: l')
theorem co : ∀ (l : List AV) (k : List AV → Prop), d8 l k = k l := by
 intro l
 induction l with
 | nil => intro k; rfl
 | cons a l ih => intro k; simp [d8, iU, ih]
def az : List (Nm × aF) → Nm → Option aF
 | [], _ => none
 | (m, o) :: l, n => match Nat.beq m n with
  | true => some o
  | false => az l n
def dB : List (Nm × aF) → Nm → aF → (List (Nm × aF) → Prop) → Prop
 | [], _, _, _ => False
 | (m, o) :: l, n, x, k => match Nat.beq m n with
  | true => k ((m, x) :: l)
  | false => dB l n x fun l' => k ((m, o) :: l')
def xh : List (Nm × aF) → Nm → aF → (List (Nm × aF) → Prop) → Prop
 | [], n, x, k => k [(n, x)]
 | (m, o) :: l, n, x, k => match Nat.blt n m with
  | true => k ((n, x) :: (m, o) :: l)
  | false => xh l n x fun l' => k ((m, o) :: l')
def eQ (l : List (Nm × aF)) (n : Nm) (x : aF) (k : List (Nm × aF) → Prop) : Prop :=
 match az l n with
 | none => xh l n x k
 | some _ => False
def ia : List Nat → Nat → Bool
 | [], _ => false
 | a :: l, n => match Nat.beq a n with
  | true => true
  | false => ia l n
def AV.cells : AV → List AV
 | .agg l => l
 | .val v => (match v with
  | .agg cs => cs.toList.map .val
  | _ => [.val v])
 | a => [a]
def je (shallow : Bool) : AV → Bool
 | .val v => (match v with | .agg _ => false | .tuple _ => false | _ => true)
 | .sl none _ _ => true
 | .cptr _ _ => true
 | _ => false
def AV.okCell : AV → Bool
 | .fn _ a b => a.all (je true) && b.all (je true)
 | .iface _ x => je true x
 | a => je true a
def AV.strip : AV → AV
 | .sl _ s l => .sl none s l
 | a => a
def bS : List AV → Bool
 | [] => true
 | a :: l => match a.okCell with
  | true => bS l
  | false => false
def zX : IntKind → IntKind → Bool
 | .i8, .i8 => true
 | .i16, .i16 => true
 | .i32, .i32 => true
 | .i64, .i64 => true
 | .u8, .u8 => true
 | .u16, .u16 => true
 | .u32, .u32 => true
 | .u64, .u64 => true
 | _, _ => false
theorem B4 {a b : IntKind} (h : zX a b = true) : a = b := by cases a <;> cases b <;> first | rfl | cases h
def aH (op : BinOp) (k : IntKind) (x y : Int) : Int :=
 let a := BitVec.ofInt k.bits x
 let b := BitVec.ofInt k.bits y
 k.wrap (match op with
  | .and => a &&& b
  | .or => a ||| b
  | .xor => a ^^^ b
  | _ => a &&& ~~~b).toNat
def aO (x y : ByteArray) : Bool := Op.bytesLess x.toList y.toList
def VO (k : IntKind) (x : Int) : AV := .val (.int k x)
def Va (b : Bool) : AV := .val (.bool b)
def VN (s : ByteArray) : AV := .val (.string s)
def tc (op : BinOp) (k : IntKind) (x y : Int) (K : AV → Prop) : Prop :=
 match op with
 | .add => K (.val (.int k (k.wrap (x + y))))
 | .sub => K (.val (.int k (k.wrap (x - y))))
 | .mul => K (.val (.int k (k.wrap (x * y))))
 | .quo => bU (decide (y ≠ 0)) (K (.val (.int k (k.wrap (x.tdiv y)))))
 | .rem => bU (decide (y ≠ 0)) (K (.val (.int k (x.tmod y))))
 | .and => K (.val (.int k (aH .and k x y)))
 | .or => K (.val (.int k (aH .or k x y)))
 | .xor => K (.val (.int k (aH .xor k x y)))
 | .andNot => K (.val (.int k (aH .andNot k x y)))
 | .eql => K (.val (.bool (x == y)))
 | .neq => K (.val (.bool (x != y)))
 | .lss => K (.val (.bool (decide (x < y))))
 | .leq => K (.val (.bool (decide (x ≤ y))))
 | .gtr => K (.val (.bool (decide (x > y))))
 | .geq => K (.val (.bool (decide (x ≥ y))))
 | _ => False
def wu (op : BinOp) (x y : ByteArray) (K : AV → Prop) : Prop :=
 match op with
 | .add => bU (decide (x.size + y.size ≤ 9223372036854775807)) (K (.val (.string (x ++ y))))
 | .eql => K (.val (.bool (decide (x = y))))
 | .neq => K (.val (.bool (!decide (x = y))))
 | .lss => K (.val (.bool (aO x y)))
 | .leq => K (.val (.bool (aO x y || decide (x = y))))
 | .gtr => K (.val (.bool (!(aO x y || decide (x = y)))))
 | .geq => K (.val (.bool (!aO x y)))
 | _ => False
def qj (op : BinOp) (k : IntKind) (x y : Int) (K : AV → Prop) : Prop :=
 bU (decide (0 ≤ y)) (match op with
  | .shl => K (.val (.int k (k.wrap (x * 2 ^ (min y.toNat k.bits)))))
  | _ => K (.val (.int k (x.fdiv (2 ^ (min y.toNat k.bits))))))
def BR (d : TD) (a b : AV) : Option Bool :=
 match d, a, b with
 | .pointer, .ptr _ _, .val (.pointer none) => some false
 | .pointer, .cptr _ _, .val (.pointer none) => some false
 | .pointer, .val (.pointer none), .ptr _ _ => some false
 | .pointer, .val (.pointer none), .cptr _ _ => some false
 | .pointer, .val (.pointer none), .val (.pointer none) => some true
 | .iface, .iface _ _, .val .nilIface => some false
 | .iface, .val .nilIface, .iface _ _ => some false
 | .map _ _, .mapv _, .val (.map none) => some false
 | .map _ _, .val (.map none), .val (.map none) => some true
 | .slice _, .val (.slice none _ _), .val (.slice none _ _) => some true
 | .func, .fn _ _ _, .val .nilFunc => some false
 | .func, .val .nilFunc, .val .nilFunc => some true
 | _, _, _ => none
def dOf (T : Tab) (t : TypeId) : TD :=
 match (T.ti t).ok with
 | true => (T.ti t).d
 | false => .other
def rW (T : Tab) (l m : List AV) : List (Nat × TypeId) → Bool → (Bool → Prop) → Prop
 | [], acc, k => k acc
 | (o, t) :: fs, acc, k => (match dOf T t with
  | .int _ => (match iS l o, iS m o with
   | .val (.int ka x), .val (.int kb y) => (match zX ka kb with
    | true => rW T l m fs (acc && (x == y)) k
    | false => False)
   | _, _ => False)
  | .string => (match iS l o, iS m o with
   | .val (.string x), .val (.string y) => rW T l m fs (acc && decide (x = y)) k
   | _, _ => False)
  | .bool => (match iS l o, iS m o with
   | .val (.bool x), .val (.bool y) => rW T l m fs (acc && (x == y)) k
   | _, _ => False)
  | _ => False)
def It (T : Tab) (op : BinOp) (t : TypeId) (a b : AV) (K : AV → Prop) : Prop :=
 match a, b with
 | .val (.int ka x), .val (.int kb y) =>
  (match op with
  | .shl => qj .shl ka x y K
  | .shr => qj .shr ka x y K
  | _ => (match zX ka kb with
   | true => tc op ka x y K
   | false => False))
 | .val (.string x), .val (.string y) => wu op x y K
 | .val (.bool x), .val (.bool y) =>
  (match dOf T t with
  | .bool => (match op with
   | .eql => K (.val (.bool (x == y)))
   | .neq => K (.val (.bool (!(x == y))))
   | _ => False)
  | _ => False)
 | .agg l, .agg m =>
  (match T.eqs t with
  | true => (match dOf T t with
   | .struct fs => rW T l m fs true fun b => (match op with
    | .eql => K (.val (.bool b))
    | .neq => K (.val (.bool (!b)))
    | _ => False)
   | _ => False)
  | false => False)
 | a, b =>
  (match BR (dOf T t) a b with
  | some c => (match op with
   | .eql => K (.val (.bool c))
   | .neq => K (.val (.bool (!c)))
   | _ => False)
  | none => False)
def aun (op : UnOp) (a : AV) (K : AV → Prop) : Prop :=
 match op, a with
 | .not, .val (.bool b) => K (.val (.bool (!b)))
 | .neg, .val (.int k n) => K (.val (.int k (k.wrap (0 - n))))
 | .xor, .val (.int k n) => K (.val (.int k (aH .xor k (match k.signed with | true => -1 | false => k.max) n)))
 | _, _ => False
def aE (s : ByteArray) (i : Nat) : Int := if h : i < s.size then ((s[i]'h).toNat : Int) else 0
def np (T : Tab) (t : TypeId) (cells : List AV) (K : AV → Prop) : Prop :=
 match (T.ti t).ok with
 | true => (match (T.ti t).agg with
  | true => tw cells (T.ti t).size fun l => K (.agg l)
  | false => (match cells with
   | a :: _ => pb a K
   | [] => False))
 | false => False
def ni (T : Tab) (t : TypeId) (f : Nat) : Option (Nat × TypeId) :=
 match dOf T t with
 | .struct fs => fs[f]?
 | _ => none
def Qn : TD → Option TypeId
 | .slice e => some e
 | .array _ e => some e
 | _ => none
def qY (l : List Value) : List AV := l.map .val
def sA : List AV → Nat → List AV → (List AV → Prop) → Prop
 | l, _, [], k => k l
 | l, o, a :: cs, k => bU (Nat.blt o l.length) (qk l o a fun l' => sA l' (o + 1) cs k)
def evA (s : List AV) : Operand → AV
 | .tmp t => iS s t
 | .const v => .val v
 | .global _ => .junk
 | .func f => .fn (.func f) [] []
def put (st : St) (dst : Option Tmp) (v : AV) (k : St → Prop) : Prop :=
 match dst, st with
 | none, st => k st
 | some d, ⟨s, o⟩ => pb v fun v' => qk s d v' fun s' => k ⟨s', o⟩
def ak (d : Nat) : Nm := 2 * d + 64
end Go.Abs
