/- The engine, A1. -/
import Derived.Test.YtnjeogcgfoabhaaGreatProg
import Derived.WalkKit
import Derived.Laws.BytesArg
import Derived.Laws.StructEq
import Derived.Carry
import Derived.Orders
import Derived.CheckFast
import Derived.Lib.ConvBytes
import Derived.Lib.AppendStr
import Derived.RangeFuncNested
import Derived.RangeFuncLeaves
set_option linter.unusedVariables false
set_option linter.unusedSimpArgs false
namespace Go.Abs
open Go
abbrev Nm := Nat
inductive AV where
 | junk
 | val (v : Value)
 | agg (l : List AV)
 | sl (own : Option Nm) (size : Nat) (l : List (List AV))
 | cptr (cells : List AV) (off : Nat)
 | ptr (n : Nm) (off : Nat)
 | slm (n : Nm) (off len cap : Nat)
 | fn (f : Fn) (first cap : List AV)
 | iface (t : TypeId) (v : AV)
 | mapv (n : Nm)
 | tup (l : List AV)
 | slv (n : Nm) (size ver off len : Nat)
 | ptv (n : Nm) (size ver i off : Nat)
 deriving Inhabited
inductive aF where
 | cells (t : TypeId) (l : List AV)
 | row (t : TypeId) (size top : Nat)
 | map (es : List (ByteArray × AV))
 | dead
 | vec (t : TypeId) (size : Nat) (l : List (List AV)) (ver : Nat)
 | mapc (es : List (ByteArray × AV)) (ms : Array MapEntry) (clock : Nat)
 | iter (m : Nm) (ms : Array MapEntry) (clock : Nat) (seen : List Nat)
 | fns (t : TypeId) (l : List AV) (ver : Nat)
 deriving Inhabited
inductive TD where
 | other | bool | string
 | int (k : IntKind)
 | slice (e : TypeId)
 | array (n : Nat) (e : TypeId)
 | struct (fs : List (Nat × TypeId))
 | map (k e : TypeId)
 | pointer
 | iface
 | func
structure TI where
 ok : Bool
 d : TD
 agg : Bool
 size : Nat
 bytes : Nat
 zagg : Bool
 zero : List Value
instance : Inhabited TI := ⟨⟨false, .other, false, 0, 0, false, []⟩⟩
def TD.of : TypeDesc → TD
 | .bool => .bool
 | .string => .string
 | .int k => .int k
 | .slice e => .slice e
 | .array n e => .array n e
 | .struct fs => .struct (fs.toList.map fun f => (f.offset, f.type))
 | .map k e => .map k e
 | .pointer _ => .pointer
 | .interface _ => .iface
 | .func _ _ _ => .func
 | _ => .other
def qM : TypeDesc → Bool
 | .struct _ => true
 | .array _ _ => true
 | _ => false
def LE (P : Program) (t : TypeId) : TI :=
 match P.info? t, P.underlying t with
 | some i, some d => { ok := true, d := TD.of d, agg := qM d, size := i.size, bytes := i.bytes, zagg := (match i.zero with | some (.agg _) => true | _ => false), zero := (match i.zero with | some z => z.cells.toList | none => []) }
 | _, _ => default
def sD (P : Program) (g : FuncId) : Bool :=
 match P.funcs[g]? with
 | some fn => !(fn.name == "runtime.NumGoroutine") && fn.body.isSome
 | none => false
def gK : List Edge → Nat → Bool
 | [], _ => false
 | e :: l, j => match Nat.beq e.on j with
  | true => (match Region.binds .any e with
   | true => true
   | false => gK l j)
  | false => gK l j
def ii (ops : Array Oper) : Bool :=
 (List.range ops.size).all fun i => (List.range i).all fun j => match ops[i]?, ops[j]? with
  | some oi, some oj => gK oi.after.toList j || (oj.apart ops oi && oi.apart ops oj)
  | _, _ => true
def kv (ops : Array Oper) : Bool := (List.range ops.size).all fun i => match ops[i]? with
 | some o => o.after.toList.all fun e => !Region.binds .any e || Nat.blt e.on i
 | none => true
def jM : Op → Bool
 | .load _ _ => false
 | .lookup _ _ _ _ => false
 | .alloc _ => false
 | .makeMap _ _ => false
 | .box _ _ => false
 | .buildSlice _ _ _ => false
 | .move _ => false
 | .assign _ => false
 | .pick _ _ _ => false
 | .binOp _ _ _ _ _ => false
 | .unOp _ _ _ => false
 | .fieldAddr _ _ _ => false
 | .field _ _ _ => false
 | .indexAddr _ _ _ => false
 | .index _ _ _ => false
 | .extract _ _ => false
 | .build _ _ => false
 | .nilCheck _ => false
 | .makeFunc _ _ _ => false
 | .slice _ _ _ _ _ => false
 | .convert _ _ _ => false
 | .makeInterface _ _ => false
 | .call c => (match c.callee with
  | .builtin b => (match b with
   | .len => false
   | .min => false
   | .max => false
   | _ => true)
  | _ => true)
 | _ => true
def pi (ops : Array Oper) : Bool :=
 (fun b : Array Nat => (List.range ops.size).all fun i => (List.range i).all fun j => match ops[i]?, ops[j]? with
  | some oi, some oj => !(jM oi.op && jM oj.op) || (b.getD i 0).testBit j
  | _, _ => true) (CheckFast.beforeF ops)
def c9 : Code → Bool
 | .region _ ops true => ii ops && (kv ops && pi ops)
 | .seq a b => c9 a && c9 b
 | .block _ b => c9 b
 | .scope b => c9 b
 | .loop b => c9 b
 | .cond _ a b => c9 a && c9 b
 | .rangeFunc _ _ a b => c9 a && c9 b
 | _ => true
def At (fn : Func) : Bool :=
 match fn.body with
 | some c => c9 c
 | none => true
structure Tab where
 ti : TypeId → TI
 fn : FuncId → Bool
 eqs : TypeId → Bool := fun _ => false
def OR (P : Program) (t : TypeId) : Bool :=
 match P.underlying t with
 | some (.struct fs) => !P.stoodInHeld t && (!P.eqGuardType P.depth t && fs.all fun f => f.name != "_")
 | _ => false
def KV (P : Program) (g : FuncId) : Bool :=
 match P.funcs[g]? with
 | some fn => At fn
 | none => true
structure cg (P : Program) (T : Tab) : Prop where
 ti : ∀ t, (T.ti t).ok = true → T.ti t = LE P t
 fn : ∀ g, T.fn g = true → sD P g = true
 eqs : ∀ t, T.eqs t = true → OR P t = true
 draws : ∀ (g : FuncId) (fn : Func), P.funcs[g]? = some fn → T.fn g = true → At fn = true
 mixed : P.follows .mixedOrders = true
structure Ann where
 keep : List (Nat × List Nat) := []
 cst : List Nat := []
 chg : List Nat := []
 own : List Nat := []
 pass : List Nat := []
 objc : List Nat := []
 keepRes : Bool := false
 nilr : List (Nat × List (Nat × TypeId)) := []
 frz : List Nat := []
 vec : List Nat := []
 frz2 : List (Nat × Nat) := []
 frv : List (Nat × Nat) := []
 anyo : List Nat := []
 gq : Bool := false
 pre : List (Nat × List Nat) := []
structure St where
 slots : List AV
 objs : List (Nm × aF)
inductive XK where
 | exit (id : Nat)
 | ret
 deriving DecidableEq
noncomputable def br (b : Bool) (A B : Prop) : Prop := Bool.rec (motive := fun _ => Prop) B A b
noncomputable def bV (b : Bool) (A : Prop) : Prop := Bool.rec (motive := fun _ => Prop) False A b
theorem O2 (A B : Prop) : br true A B = A := rfl
theorem O3 (A B : Prop) : br false A B = B := rfl
theorem vZ (A : Prop) : bV true A = A := rfl
theorem Ou (A : Prop) : bV false A = False := rfl
theorem ae {b : Bool} {A B : Prop} (h1 : b = true → A) (h2 : b = false → B) : Bool.rec (motive := fun _ => Prop) B A b := by
 cases b
 ·exact h2 rfl
 ·exact h1 rfl
theorem aI {b : Bool} {A B : Prop} (h : b = true) (h1 : A) : Bool.rec (motive := fun _ => Prop) B A b := by subst h; exact h1
theorem am {b : Bool} {A B : Prop} (h : b = false) (h1 : B) : Bool.rec (motive := fun _ => Prop) B A b := by subst h; exact h1
theorem ac {b : Bool} {A : Prop} (h : b = true) (h1 : A) : Bool.rec (motive := fun _ => Prop) False A b := by subst h; exact h1
theorem aA {b : Bool} {A : Prop} (h : bV b A) : b = true ∧ A := by
 cases b
 ·exact h.elim
 ·exact ⟨rfl, h⟩
def qO {α : Type} : List α → Nat → (α → Prop) → Prop
 | [], _, _ => False
 | a :: _, 0, k => k a
 | _ :: l, n + 1, k => qO l n k
theorem gN {α : Type} {l : List α} {i : Nat} {k : α → Prop} : qO l i k ↔ ∃ a, l[i]? = some a ∧ k a := by
 induction l generalizing i with
 | nil => simp [qO]
 | cons a l ih =>
  cases i with
  | zero => simp [qO]
  | succ i => simp [qO, ih]
theorem wk {α : Type} {l : List α} {i : Nat} {k : α → Prop} (h : i < l.length) (h1 : k l[i]) : qO l i k :=
 gN.2 ⟨_, List.getElem?_eq_getElem h, h1⟩
theorem JY {α β : Type} {l : List α} {f : α → β} {i : Nat} {k : β → Prop} (h : qO l i fun a => k (f a)) : qO (l.map f) i k := by
 obtain ⟨a, ha, h⟩ := gN.1 h;exact gN.2 ⟨f a, by simp [ha], h⟩
theorem aa {α β : Type} {l : List α} {f : α → β} {i : Nat} {k : β → Prop} (h : i < l.length) (h1 : k (f l[i])) : qO (l.map f) i k :=
 JY (wk h h1)
def iZ : List AV → Nat → AV
 | [], _ => .junk
 | a :: _, 0 => a
 | _ :: l, n + 1 => iZ l n
def qy : List AV → Nat → AV → (List AV → Prop) → Prop
 | [], _, _, k => k []
 | _ :: l, 0, v, k => k (v :: l)
 | a :: l, n + 1, v, k => qy l n v fun l' => k (a :: l')
def ji : List AV → Nat → AV → List AV
 | [], _, _ => []
 | _ :: l, 0, v => v :: l
 | a :: l, n + 1, v => a :: ji l n v
theorem gw {k : List AV → Prop} : ∀ {l : List AV} {n : Nat} {v : AV}, qy l n v k = k (ji l n v) := by
 intro l
 induction l generalizing k with
 | nil => intro n v; cases n <;> rfl
 | cons a l ih => intro n v; cases n with
  | zero => rfl
  | succ n => exact ih
def pv : List AV → Nat → List AV
 | l, 0 => l
 | [], _ + 1 => []
 | _ :: l, n + 1 => pv l n
def tO : List AV → Nat → (List AV → Prop) → Prop
 | _, 0, k => k []
 | [], _ + 1, _ => False
 | a :: l, n + 1, k => tO l n fun l' => k (a :: l')
theorem jQ : ∀ (l : List AV) (n : Nat), pv l n = l.drop n := by
 intro l
 induction l with
 | nil => intro n; cases n <;> rfl
 | cons a l ih => intro n; cases n with
  | zero => rfl
  | succ n => exact ih n
theorem m7 {k : List AV → Prop} : ∀ {l : List AV} {n : Nat}, tO l n k ↔ n ≤ l.length ∧ k (l.take n) := by
 intro l
 induction l generalizing k with
 | nil => intro n; cases n <;> simp [tO]
 | cons a l ih => intro n; cases n with
  | zero => simp [tO]
  | succ n => simp [tO, ih]
def pn (a : AV) (k : AV → Prop) : Prop :=
 match a with
 | .junk => k .junk
 | .val v => k (.val v)
 | .agg l => k (.agg l)
 | .sl o s l => k (.sl o s l)
 | .cptr c o => k (.cptr c o)
 | .ptr n o => k (.ptr n o)
 | .slm n o l c => k (.slm n o l c)
 | .fn f a b => k (.fn f a b)
 | .iface t v => k (.iface t v)
 | .mapv n => k (.mapv n)
 | .tup l => k (.tup l)
 | .slv n s r o l => k (.slv n s r o l)
 | .ptv n s l i o => k (.ptv n s l i o)
theorem i6 (a : AV) (k : AV → Prop) : pn a k = k a := by cases a <;> rfl
def d9 : List AV → (List AV → Prop) → Prop
 | [], k => k []
 | a :: l, k => pn a fun a' => d9 l fun l' => k (a' :: l')
theorem cq : ∀ (l : List AV) (k : List AV → Prop), d9 l k = k l := by
 intro l
 induction l with
 | nil => intro k; rfl
 | cons a l ih => intro k; simp [d9, i6, ih]
def az : List (Nm × aF) → Nm → Option aF
 | [], _ => none
 | (m, o) :: l, n => match Nat.beq m n with
  | true => some o
  | false => az l n
def dC : List (Nm × aF) → Nm → aF → (List (Nm × aF) → Prop) → Prop
 | [], _, _, _ => False
 | (m, o) :: l, n, x, k => match Nat.beq m n with
  | true => k ((m, x) :: l)
  | false => dC l n x fun l' => k ((m, o) :: l')
def xC : List (Nm × aF) → Nm → aF → (List (Nm × aF) → Prop) → Prop
 | [], n, x, k => k [(n, x)]
 | (m, o) :: l, n, x, k => match Nat.blt n m with
  | true => k ((n, x) :: (m, o) :: l)
  | false => xC l n x fun l' => k ((m, o) :: l')
def eU (l : List (Nm × aF)) (n : Nm) (x : aF) (k : List (Nm × aF) → Prop) : Prop :=
 match az l n with
 | none => xC l n x k
 | some _ => False
def im : List Nat → Nat → Bool
 | [], _ => false
 | a :: l, n => match Nat.beq a n with
  | true => true
  | false => im l n
def AV.cells : AV → List AV
 | .agg l => l
 | .val v => (match v with
  | .agg cs => cs.toList.map .val
  | _ => [.val v])
 | a => [a]
def jk (shallow : Bool) : AV → Bool
 | .val v => (match v with | .agg _ => false | .tuple _ => false | _ => true)
 | .sl none _ _ => true
 | .cptr _ _ => true
 | _ => false
def AV.okCell : AV → Bool
 | .fn _ a b => a.all (jk true) && b.all (jk true)
 | .iface _ x => jk true x
 | a => jk true a
def AV.strip : AV → AV
 | .sl _ s l => .sl none s l
 | a => a
def bU : List AV → Bool
 | [] => true
 | a :: l => match a.okCell with
  | true => bU l
  | false => false
def Al : IntKind → IntKind → Bool
 | .i8, .i8 => true
 | .i16, .i16 => true
 | .i32, .i32 => true
 | .i64, .i64 => true
 | .u8, .u8 => true
 | .u16, .u16 => true
 | .u32, .u32 => true
 | .u64, .u64 => true
 | _, _ => false
theorem Cl {a b : IntKind} (h : Al a b = true) : a = b := by cases a <;> cases b <;> first | rfl | cases h
def aH (op : BinOp) (k : IntKind) (x y : Int) : Int :=
 let a := BitVec.ofInt k.bits x
 let b := BitVec.ofInt k.bits y
 k.wrap (match op with
  | .and => a &&& b
  | .or => a ||| b
  | .xor => a ^^^ b
  | _ => a &&& ~~~b).toNat
def aO (x y : ByteArray) : Bool := Op.bytesLess x.toList y.toList
def V8 (k : IntKind) (x : Int) : AV := .val (.int k x)
def Vu (b : Bool) : AV := .val (.bool b)
def V7 (s : ByteArray) : AV := .val (.string s)
def tA (op : BinOp) (k : IntKind) (x y : Int) (K : AV → Prop) : Prop :=
 match op with
 | .add => K (.val (.int k (k.wrap (x + y))))
 | .sub => K (.val (.int k (k.wrap (x - y))))
 | .mul => K (.val (.int k (k.wrap (x * y))))
 | .quo => bV (decide (y ≠ 0)) (K (.val (.int k (k.wrap (x.tdiv y)))))
 | .rem => bV (decide (y ≠ 0)) (K (.val (.int k (x.tmod y))))
 | .and => K (.val (.int k (aH .and k x y)))
 | .or => K (.val (.int k (aH .or k x y)))
 | .xor => K (.val (.int k (aH .xor k x y)))
 | .andNot => K (.val (.int k (aH .andNot k x y)))
 | .eql => K (.val (.bool (x == y)))
 | .neq => K (.val (.bool (x != y)))
 | .lss => K (.val (.bool (decide (x < y))))
 | .leq => K (.val (.bool (decide (x ≤ y))))
 | .gtr => K (.val (.bool (decide (x > y))))
 | .geq => K (.val (.bool (decide (x ≥ y))))
 | _ => False
def wV (op : BinOp) (x y : ByteArray) (K : AV → Prop) : Prop :=
 match op with
 | .add => bV (decide (x.size + y.size ≤ 9223372036854775807)) (K (.val (.string (x ++ y))))
 | .eql => K (.val (.bool (decide (x = y))))
 | .neq => K (.val (.bool (!decide (x = y))))
 | .lss => K (.val (.bool (aO x y)))
 | .leq => K (.val (.bool (aO x y || decide (x = y))))
 | .gtr => K (.val (.bool (!(aO x y || decide (x = y)))))
 | .geq => K (.val (.bool (!aO x y)))
 | _ => False
def qx (op : BinOp) (k : IntKind) (x y : Int) (K : AV → Prop) : Prop :=
 bV (decide (0 ≤ y)) (match op with
  | .shl => K (.val (.int k (k.wrap (x * 2 ^ (min y.toNat k.bits)))))
  | _ => K (.val (.int k (x.fdiv (2 ^ (min y.toNat k.bits))))))
def Ca (d : TD) (a b : AV) : Option Bool :=
 match d, a, b with
 | .pointer, .ptr _ _, .val (.pointer none) => some false
 | .pointer, .cptr _ _, .val (.pointer none) => some false
 | .pointer, .val (.pointer none), .ptr _ _ => some false
 | .pointer, .val (.pointer none), .cptr _ _ => some false
 | .pointer, .val (.pointer none), .val (.pointer none) => some true
 | .iface, .iface _ _, .val .nilIface => some false
 | .iface, .val .nilIface, .iface _ _ => some false
 | .map _ _, .mapv _, .val (.map none) => some false
 | .map _ _, .val (.map none), .val (.map none) => some true
 | .slice _, .val (.slice none _ _), .val (.slice none _ _) => some true
 | .func, .fn _ _ _, .val .nilFunc => some false
 | .func, .val .nilFunc, .val .nilFunc => some true
 | _, _, _ => none
def dOf (T : Tab) (t : TypeId) : TD :=
 match (T.ti t).ok with
 | true => (T.ti t).d
 | false => .other
def sq (T : Tab) (l m : List AV) : List (Nat × TypeId) → Bool → (Bool → Prop) → Prop
 | [], acc, k => k acc
 | (o, t) :: fs, acc, k => (match dOf T t with
  | .int _ => (match iZ l o, iZ m o with
   | .val (.int ka x), .val (.int kb y) => (match Al ka kb with
    | true => sq T l m fs (acc && (x == y)) k
    | false => False)
   | _, _ => False)
  | .string => (match iZ l o, iZ m o with
   | .val (.string x), .val (.string y) => sq T l m fs (acc && decide (x = y)) k
   | _, _ => False)
  | .bool => (match iZ l o, iZ m o with
   | .val (.bool x), .val (.bool y) => sq T l m fs (acc && (x == y)) k
   | _, _ => False)
  | _ => False)
def IR (T : Tab) (op : BinOp) (t : TypeId) (a b : AV) (K : AV → Prop) : Prop :=
 match a, b with
 | .val (.int ka x), .val (.int kb y) =>
  (match op with
  | .shl => qx .shl ka x y K
  | .shr => qx .shr ka x y K
  | _ => (match Al ka kb with
   | true => tA op ka x y K
   | false => False))
 | .val (.string x), .val (.string y) => wV op x y K
 | .val (.bool x), .val (.bool y) =>
  (match dOf T t with
  | .bool => (match op with
   | .eql => K (.val (.bool (x == y)))
   | .neq => K (.val (.bool (!(x == y))))
   | _ => False)
  | _ => False)
 | .agg l, .agg m =>
  (match T.eqs t with
  | true => (match dOf T t with
   | .struct fs => sq T l m fs true fun b => (match op with
    | .eql => K (.val (.bool b))
    | .neq => K (.val (.bool (!b)))
    | _ => False)
   | _ => False)
  | false => False)
 | a, b =>
  (match Ca (dOf T t) a b with
  | some c => (match op with
   | .eql => K (.val (.bool c))
   | .neq => K (.val (.bool (!c)))
   | _ => False)
  | none => False)
def aun (op : UnOp) (a : AV) (K : AV → Prop) : Prop :=
 match op, a with
 | .not, .val (.bool b) => K (.val (.bool (!b)))
 | .neg, .val (.int k n) => K (.val (.int k (k.wrap (0 - n))))
 | .xor, .val (.int k n) => K (.val (.int k (aH .xor k (match k.signed with | true => -1 | false => k.max) n)))
 | _, _ => False
def aE (s : ByteArray) (i : Nat) : Int := if h : i < s.size then ((s[i]'h).toNat : Int) else 0
def nB (T : Tab) (t : TypeId) (cells : List AV) (K : AV → Prop) : Prop :=
 match (T.ti t).ok with
 | true => (match (T.ti t).agg with
  | true => tO cells (T.ti t).size fun l => K (.agg l)
  | false => (match cells with
   | a :: _ => pn a K
   | [] => False))
 | false => False
def nw (T : Tab) (t : TypeId) (f : Nat) : Option (Nat × TypeId) :=
 match dOf T t with
 | .struct fs => fs[f]?
 | _ => none
def QG : TD → Option TypeId
 | .slice e => some e
 | .array _ e => some e
 | _ => none
def rv (l : List Value) : List AV := l.map .val
def sP : List AV → Nat → List AV → (List AV → Prop) → Prop
 | l, _, [], k => k l
 | l, o, a :: cs, k => bV (Nat.blt o l.length) (qy l o a fun l' => sP l' (o + 1) cs k)
def evA (s : List AV) : Operand → AV
 | .tmp t => iZ s t
 | .const v => .val v
 | .global _ => .junk
 | .func f => .fn (.func f) [] []
def put (st : St) (dst : Option Tmp) (v : AV) (k : St → Prop) : Prop :=
 match dst, st with
 | none, st => k st
 | some d, ⟨s, o⟩ => pn v fun v' => qy s d v' fun s' => k ⟨s', o⟩
def ak (d : Nat) : Nm := 2 * d + 64
end Go.Abs
