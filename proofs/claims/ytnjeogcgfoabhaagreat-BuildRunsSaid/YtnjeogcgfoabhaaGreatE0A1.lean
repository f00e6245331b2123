/- The engine, A1. -/
import Derived.Test.YtnjeogcgfoabhaaGreatProg
import Derived.WalkKit
import Derived.Laws.BytesArg
import Derived.Laws.StructEq
import Derived.Carry
import Derived.Orders
import Derived.CheckFast
import Derived.Lib.ConvBytes
import Derived.Lib.AppendStr
import Derived.RangeFuncNested
import Derived.RangeFuncLeaves
namespace Go.Abs
theorem aaa : type_of% @decide_eq_true := @decide_eq_true
theorem aab : type_of% @List.take_succ_eq_append_getElem := @List.take_succ_eq_append_getElem
theorem aac : type_of% @List.length_append := @List.length_append
theorem aad : type_of% @List.getElem?_eq_getElem := @List.getElem?_eq_getElem
theorem aae : type_of% @List.take_of_length_le := @List.take_of_length_le
theorem aaf : type_of% @List.getElem_mem := @List.getElem_mem
theorem aag : type_of% @List.length_cons := @List.length_cons
theorem aah : type_of% @Nat.eq_of_beq_eq_true := @Nat.eq_of_beq_eq_true
theorem aai : type_of% @decide_eq_false := @decide_eq_false
theorem aaj : type_of% @List.length_nil := @List.length_nil
theorem aak : type_of% @List.append_assoc := @List.append_assoc
theorem aal : type_of% @of_decide_eq_true := @of_decide_eq_true
theorem aam : type_of% @List.nil_append := @List.nil_append
theorem aan : type_of% @List.length_take := @List.length_take
theorem aao : type_of% @List.drop_eq_getElem_cons := @List.drop_eq_getElem_cons
theorem aap : type_of% @if_neg := @if_neg
theorem aaq : type_of% @Bool.and_eq_true := @Bool.and_eq_true
theorem aar : type_of% @Nat.le_refl := @Nat.le_refl
theorem aas : type_of% @List.getD_eq_getElem?_getD := @List.getD_eq_getElem?_getD
theorem aat : type_of% @of_decide_eq_false := @of_decide_eq_false
theorem aau : type_of% @List.eq_nil_of_length_eq_zero := @List.eq_nil_of_length_eq_zero
theorem aav : type_of% @List.cons_append := @List.cons_append
theorem aaw : type_of% @List.mem_cons_of_mem := @List.mem_cons_of_mem
theorem aax : type_of% @List.take_length := @List.take_length
theorem aay : type_of% @List.drop_eq_nil_of_le := @List.drop_eq_nil_of_le
theorem aaz : type_of% @if_pos := @if_pos
theorem aaA : type_of% @List.mem_singleton := @List.mem_singleton
theorem aaB : type_of% @List.take_append_of_le_length := @List.take_append_of_le_length
theorem aaC : type_of% @Int.toNat_natCast := @Int.toNat_natCast
theorem aaD : type_of% @List.mem_map_of_mem := @List.mem_map_of_mem
theorem aaE : type_of% @List.getElem?_map := @List.getElem?_map
theorem aaF : type_of% @List.map_cons := @List.map_cons
theorem aaG : type_of% @List.map_append := @List.map_append
theorem aaH : type_of% @List.getElem_append_right := @List.getElem_append_right
theorem aaI : type_of% @Bool.true_and := @Bool.true_and
theorem aaJ : type_of% @List.mem_append := @List.mem_append
theorem aaK : type_of% @Array.getElem?_eq_getElem := @Array.getElem?_eq_getElem
theorem aaL : type_of% @Array.getD_eq_getD_getElem? := @Array.getD_eq_getD_getElem?
theorem aaM : type_of% @List.getElem?_append_left := @List.getElem?_append_left
theorem aaN : type_of% @Nat.lt_or_ge := @Nat.lt_or_ge
theorem aaO : type_of% @List.mem_of_getElem? := @List.mem_of_getElem?
theorem aaP : type_of% @List.getElem?_eq_none := @List.getElem?_eq_none
theorem aaQ : type_of% @List.foldl_cons := @List.foldl_cons
theorem aaR : type_of% @List.append_nil := @List.append_nil
theorem aaS : type_of% @Nat.zero_add := @Nat.zero_add
theorem aaT : type_of% @List.getElem_append_left := @List.getElem_append_left
theorem aaU : type_of% @List.mem_of_mem_take := @List.mem_of_mem_take
theorem aaV : type_of% @List.getElem?_append_right := @List.getElem?_append_right
theorem aaW : type_of% @if_false := @if_false
theorem aaX : type_of% @Nat.lt_of_lt_of_le := @Nat.lt_of_lt_of_le
theorem aaY : type_of% @List.mem_cons := @List.mem_cons
theorem aaZ : type_of% @BitVec.eq_of_toNat_eq := @BitVec.eq_of_toNat_eq
theorem aa0 : type_of% @decide_eq_true_eq := @decide_eq_true_eq
theorem aa1 : type_of% @List.mem_cons_self := @List.mem_cons_self
theorem aa2 : type_of% @List.flatten_cons := @List.flatten_cons
theorem aa3 : type_of% @List.mem_append_left := @List.mem_append_left
theorem aa4 : type_of% @List.size_toArray := @List.size_toArray
theorem aa5 : type_of% @Option.map_eq_some_iff := @Option.map_eq_some_iff
theorem aa6 : type_of% @List.idxOf_le_length := @List.idxOf_le_length
theorem aa7 : type_of% @BitVec.getLsbD_ushiftRight := @BitVec.getLsbD_ushiftRight
theorem aa8 : type_of% @Nat.add_zero := @Nat.add_zero
theorem aa9 : type_of% @List.getElem_of_eq := @List.getElem_of_eq
theorem aba : type_of% @Nat.le_trans := @Nat.le_trans
theorem abb : type_of% @List.getElem?_take_of_lt := @List.getElem?_take_of_lt
theorem abc : type_of% @List.getElem_of_mem := @List.getElem_of_mem
theorem abd : type_of% @List.getElem?_drop := @List.getElem?_drop
theorem abe : type_of% @Int.natCast_nonneg := @Int.natCast_nonneg
theorem abf : type_of% @List.take_length_add_append := @List.take_length_add_append
theorem abg : type_of% @List.length_map := @List.length_map
theorem abh : type_of% @BitVec.eq_of_getLsbD_eq := @BitVec.eq_of_getLsbD_eq
theorem abi : type_of% @List.map_nil := @List.map_nil
theorem abj : type_of% @Bool.not_false := @Bool.not_false
theorem abk : type_of% @List.length_drop := @List.length_drop
theorem abl : type_of% @List.drop_append_of_le_length := @List.drop_append_of_le_length
theorem abm : type_of% @List.take_append_drop := @List.take_append_drop
theorem abn : type_of% @List.foldl_append := @List.foldl_append
theorem abo : type_of% @Array.replicate_zero := @Array.replicate_zero
theorem abp : type_of% @Array.replicate_succ := @Array.replicate_succ
theorem abq : type_of% @if_true := @if_true
theorem abr : type_of% @List.exists_cons_of_ne_nil := @List.exists_cons_of_ne_nil
theorem abt : type_of% @List.toList_toArray := @List.toList_toArray
theorem abu : type_of% @List.append_toArray := @List.append_toArray
theorem abv : type_of% @Bool.false_or := @Bool.false_or
theorem abw : type_of% @Nat.le_of_lt := @Nat.le_of_lt
theorem abx : type_of% @List.push_toArray := @List.push_toArray
theorem aby : type_of% @Nat.zero_le := @Nat.zero_le
theorem abz : type_of% @Nat.add_mul := @Nat.add_mul
theorem abA : type_of% @List.take_succ_cons := @List.take_succ_cons
theorem abB : type_of% @List.idxOf_lt_length_of_mem := @List.idxOf_lt_length_of_mem
theorem abC : type_of% @List.drop_of_length_le := @List.drop_of_length_le
theorem abD : type_of% @List.getElem_map := @List.getElem_map
theorem abE : type_of% @List.set_getElem_self := @List.set_getElem_self
theorem abF : type_of% @List.length_filter_le := @List.length_filter_le
theorem abG : type_of% @BitVec.getLsbD_xor := @BitVec.getLsbD_xor
theorem abH : type_of% @List.foldl_nil := @List.foldl_nil
theorem abI : type_of% @Nat.mul_le_mul_right := @Nat.mul_le_mul_right
theorem abJ : type_of% @Option.map_some := @Option.map_some
theorem abK : type_of% @List.map_map := @List.map_map
theorem abL : type_of% @List.flatten_append := @List.flatten_append
theorem abM : type_of% @Array.length_toList := @Array.length_toList
theorem abN : type_of% @Option.getD_some := @Option.getD_some
theorem abO : type_of% @Array.toList_inj := @Array.toList_inj
theorem abP : type_of% @Nat.blt_eq := @Nat.blt_eq
theorem abQ : type_of% @Bool.false_eq_true := @Bool.false_eq_true
theorem abR : type_of% @List.map_take := @List.map_take
theorem abS : type_of% @Int.fdiv_eq_ediv_of_nonneg := @Int.fdiv_eq_ediv_of_nonneg
theorem abT : type_of% @List.mem_of_mem_drop := @List.mem_of_mem_drop
end Go.Abs
set_option linter.unusedVariables false
set_option linter.unusedSimpArgs false
namespace Go.Abs
open Go
abbrev Nm := Nat
inductive AV where
 | junk
 | val (v : Value)
 | agg (l : List AV)
 | sl (own : Option Nm) (size : Nat) (l : List (List AV))
 | cptr (cells : List AV) (off : Nat)
 | ptr (n : Nm) (off : Nat)
 | slm (n : Nm) (off len cap : Nat)
 | fn (f : Fn) (first cap : List AV)
 | iface (t : TypeId) (v : AV)
 | mapv (n : Nm)
 | tup (l : List AV)
 | slv (n : Nm) (size ver off len : Nat)
 | ptv (n : Nm) (size ver i off : Nat)
 deriving Inhabited
inductive aE where
 | cells (t : TypeId) (l : List AV)
 | row (t : TypeId) (size top : Nat)
 | map (es : List (ByteArray × AV))
 | dead
 | vec (t : TypeId) (size : Nat) (l : List (List AV)) (ver : Nat)
 | mapc (es : List (ByteArray × AV)) (ms : Array MapEntry) (clock : Nat)
 | iter (m : Nm) (ms : Array MapEntry) (clock : Nat) (seen : List Nat)
 | fns (t : TypeId) (l : List AV) (ver : Nat)
 deriving Inhabited
inductive TD where
 | other | bool | string
 | int (k : IntKind)
 | slice (e : TypeId)
 | array (n : Nat) (e : TypeId)
 | struct (fs : List (Nat × TypeId))
 | map (k e : TypeId)
 | pointer
 | iface
 | func
structure TI where
 ok : Bool
 d : TD
 agg : Bool
 size : Nat
 bytes : Nat
 zagg : Bool
 zero : List Value
instance : Inhabited TI := ⟨⟨false, .other, false, 0, 0, false, []⟩⟩
def TD.of : TypeDesc → TD
 | .bool => .bool
 | .string => .string
 | .int k => .int k
 | .slice e => .slice e
 | .array n e => .array n e
 | .struct fs => .struct (fs.toList.map fun f => (f.offset, f.type))
 | .map k e => .map k e
 | .pointer _ => .pointer
 | .interface _ => .iface
 | .func _ _ _ => .func
 | _ => .other
def qJ : TypeDesc → Bool
 | .struct _ => true
 | .array _ _ => true
 | _ => false
def LE (P : Program) (t : TypeId) : TI :=
 match P.info? t, P.underlying t with
 | some i, some d => { ok := true, d := TD.of d, agg := qJ d, size := i.size, bytes := i.bytes, zagg := (match i.zero with | some (.agg _) => true | _ => false), zero := (match i.zero with | some z => z.cells.toList | none => []) }
 | _, _ => default
def su (P : Program) (g : FuncId) : Bool :=
 match P.funcs[g]? with
 | some fn => !(fn.name == "runtime.NumGoroutine") && fn.body.isSome
 | none => false
def gE : List Edge → Nat → Bool
 | [], _ => false
 | e :: l, j => match Nat.beq e.on j with
  | true => (match Region.binds .any e with
   | true => true
   | false => gE l j)
  | false => gE l j
def ia (ops : Array Oper) : Bool :=
 (List.range ops.size).all fun i => (List.range i).all fun j => match ops[i]?, ops[j]? with
  | some oi, some oj => gE oi.after.toList j || (oj.apart ops oi && oi.apart ops oj)
  | _, _ => true
def j7 (ops : Array Oper) : Bool := (List.range ops.size).all fun i => match ops[i]? with
 | some o => o.after.toList.all fun e => !Region.binds .any e || Nat.blt e.on i
 | none => true
def jB : Op → Bool
 | .load _ _ => false
 | .lookup _ _ _ _ => false
 | .alloc _ => false
 | .makeMap _ _ => false
 | .box _ _ => false
 | .buildSlice _ _ _ => false
 | .move _ => false
 | .assign _ => false
 | .pick _ _ _ => false
 | .binOp _ _ _ _ _ => false
 | .unOp _ _ _ => false
 | .fieldAddr _ _ _ => false
 | .field _ _ _ => false
 | .indexAddr _ _ _ => false
 | .index _ _ _ => false
 | .extract _ _ => false
 | .build _ _ => false
 | .nilCheck _ => false
 | .makeFunc _ _ _ => false
 | .slice _ _ _ _ _ => false
 | .convert _ _ _ => false
 | .makeInterface _ _ => false
 | .call c => (match c.callee with
  | .builtin b => (match b with
   | .len => false
   | .min => false
   | .max => false
   | _ => true)
  | _ => true)
 | _ => true
def pd (ops : Array Oper) : Bool :=
 (fun b : Array Nat => (List.range ops.size).all fun i => (List.range i).all fun j => match ops[i]?, ops[j]? with
  | some oi, some oj => !(jB oi.op && jB oj.op) || (b.getD i 0).testBit j
  | _, _ => true) (CheckFast.beforeF ops)
def cW : Code → Bool
 | .region _ ops true => ia ops && (j7 ops && pd ops)
 | .seq a b => cW a && cW b
 | .block _ b => cW b
 | .scope b => cW b
 | .loop b => cW b
 | .cond _ a b => cW a && cW b
 | .rangeFunc _ _ a b => cW a && cW b
 | _ => true
def Ao (fn : Func) : Bool :=
 match fn.body with
 | some c => cW c
 | none => true
structure Tab where
 ti : TypeId → TI
 fn : FuncId → Bool
 eqs : TypeId → Bool := fun _ => false
def OR (P : Program) (t : TypeId) : Bool :=
 match P.underlying t with
 | some (.struct fs) => !P.stoodInHeld t && (!P.eqGuardType P.depth t && fs.all fun f => f.name != "_")
 | _ => false
def KV (P : Program) (g : FuncId) : Bool :=
 match P.funcs[g]? with
 | some fn => Ao fn
 | none => true
structure cd (P : Program) (T : Tab) : Prop where
 ti : ∀ t, (T.ti t).ok = true → T.ti t = LE P t
 fn : ∀ g, T.fn g = true → su P g = true
 eqs : ∀ t, T.eqs t = true → OR P t = true
 draws : ∀ (g : FuncId) (fn : Func), P.funcs[g]? = some fn → T.fn g = true → Ao fn = true
 mixed : P.follows .mixedOrders = true
structure Ann where
 keep : List (Nat × List Nat) := []
 cst : List Nat := []
 chg : List Nat := []
 own : List Nat := []
 pass : List Nat := []
 objc : List Nat := []
 keepRes : Bool := false
 nilr : List (Nat × List (Nat × TypeId)) := []
 frz : List Nat := []
 vec : List Nat := []
 frz2 : List (Nat × Nat) := []
 frv : List (Nat × Nat) := []
 anyo : List Nat := []
 gq : Bool := false
 pre : List (Nat × List Nat) := []
structure St where
 slots : List AV
 objs : List (Nm × aE)
inductive XK where
 | exit (id : Nat)
 | ret
 deriving DecidableEq
noncomputable def br (b : Bool) (A B : Prop) : Prop := Bool.rec (motive := fun _ => Prop) B A b
noncomputable def bQ (b : Bool) (A : Prop) : Prop := Bool.rec (motive := fun _ => Prop) False A b
theorem O2 (A B : Prop) : br true A B = A := rfl
theorem O3 (A B : Prop) : br false A B = B := rfl
theorem vT (A : Prop) : bQ true A = A := rfl
theorem Ou (A : Prop) : bQ false A = False := rfl
theorem ae {b : Bool} {A B : Prop} (h1 : b = true → A) (h2 : b = false → B) : Bool.rec (motive := fun _ => Prop) B A b := by
 cases b
 ·exact h2 rfl
 ·exact h1 rfl
theorem aK {b : Bool} {A B : Prop} (h : b = true) (h1 : A) : Bool.rec (motive := fun _ => Prop) B A b := by subst h; exact h1
theorem ak {b : Bool} {A B : Prop} (h : b = false) (h1 : B) : Bool.rec (motive := fun _ => Prop) B A b := by subst h; exact h1
theorem ac {b : Bool} {A : Prop} (h : b = true) (h1 : A) : Bool.rec (motive := fun _ => Prop) False A b := by subst h; exact h1
theorem az {b : Bool} {A : Prop} (h : bQ b A) : b = true ∧ A := by
 cases b
 ·exact h.elim
 ·exact ⟨rfl, h⟩
def qL {α : Type} : List α → Nat → (α → Prop) → Prop
 | [], _, _ => False
 | a :: _, 0, k => k a
 | _ :: l, n + 1, k => qL l n k
theorem gI {α : Type} {l : List α} {i : Nat} {k : α → Prop} : qL l i k ↔ ∃ a, l[i]? = some a ∧ k a := by
 induction l generalizing i with
 | nil => simp [qL]
 | cons a l ih =>
  cases i with
  | zero => simp [qL]
  | succ i => simp [qL, ih]
theorem wd {α : Type} {l : List α} {i : Nat} {k : α → Prop} (h : i < l.length) (h1 : k l[i]) : qL l i k :=
 gI.2 ⟨_, aad h, h1⟩
theorem JY {α β : Type} {l : List α} {f : α → β} {i : Nat} {k : β → Prop} (h : qL l i fun a => k (f a)) : qL (l.map f) i k := by
 obtain ⟨a, ha, h⟩ := gI.1 h;exact gI.2 ⟨f a, by simp [ha], h⟩
theorem ab {α β : Type} {l : List α} {f : α → β} {i : Nat} {k : β → Prop} (h : i < l.length) (h1 : k (f l[i])) : qL (l.map f) i k :=
 JY (wd h h1)
def iW : List AV → Nat → AV
 | [], _ => .junk
 | a :: _, 0 => a
 | _ :: l, n + 1 => iW l n
def qv : List AV → Nat → AV → (List AV → Prop) → Prop
 | [], _, _, k => k []
 | _ :: l, 0, v, k => k (v :: l)
 | a :: l, n + 1, v, k => qv l n v fun l' => k (a :: l')
def jb : List AV → Nat → AV → List AV
 | [], _, _ => []
 | _ :: l, 0, v => v :: l
 | a :: l, n + 1, v => a :: jb l n v
theorem gm {k : List AV → Prop} : ∀ {l : List AV} {n : Nat} {v : AV}, qv l n v k = k (jb l n v) := by
 intro l
 induction l generalizing k with
 | nil => intro n v; cases n <;> rfl
 | cons a l ih => intro n v; cases n with
  | zero => rfl
  | succ n => exact ih
def pn : List AV → Nat → List AV
 | l, 0 => l
 | [], _ + 1 => []
 | _ :: l, n + 1 => pn l n
def tJ : List AV → Nat → (List AV → Prop) → Prop
 | _, 0, k => k []
 | [], _ + 1, _ => False
 | a :: l, n + 1, k => tJ l n fun l' => k (a :: l')
theorem jE : ∀ (l : List AV) (n : Nat), pn l n = l.drop n := by
 intro l
 induction l with
 | nil => intro n; cases n <;> rfl
 | cons a l ih => intro n; cases n with
  | zero => rfl
  | succ n => exact ih n
theorem mT {k : List AV → Prop} : ∀ {l : List AV} {n : Nat}, tJ l n k ↔ n ≤ l.length ∧ k (l.take n) := by
 intro l
 induction l generalizing k with
 | nil => intro n; cases n <;> simp [tJ]
 | cons a l ih => intro n; cases n with
  | zero => simp [tJ]
  | succ n => simp [tJ, ih]
def pj (a : AV) (k : AV → Prop) : Prop :=
 match a with
 | .junk => k .junk
 | .val v => k (.val v)
 | .agg l => k (.agg l)
 | .sl o s l => k (.sl o s l)
 | .cptr c o => k (.cptr c o)
 | .ptr n o => k (.ptr n o)
 | .slm n o l c => k (.slm n o l c)
 | .fn f a b => k (.fn f a b)
 | .iface t v => k (.iface t v)
 | .mapv n => k (.mapv n)
 | .tup l => k (.tup l)
 | .slv n s r o l => k (.slv n s r o l)
 | .ptv n s l i o => k (.ptv n s l i o)
theorem iY (a : AV) (k : AV → Prop) : pj a k = k a := by cases a <;> rfl
def dY : List AV → (List AV → Prop) → Prop
 | [], k => k []
 | a :: l, k => pj a fun a' => dY l fun l' => k (a' :: l')
theorem co : ∀ (l : List AV) (k : List AV → Prop), dY l k = k l := by
 intro l
 induction l with
 | nil => intro k; rfl
 | cons a l ih => intro k; simp [dY, iY, ih]
def ax : List (Nm × aE) → Nm → Option aE
 | [], _ => none
 | (m, o) :: l, n => match Nat.beq m n with
  | true => some o
  | false => ax l n
def dx : List (Nm × aE) → Nm → aE → (List (Nm × aE) → Prop) → Prop
 | [], _, _, _ => False
 | (m, o) :: l, n, x, k => match Nat.beq m n with
  | true => k ((m, x) :: l)
  | false => dx l n x fun l' => k ((m, o) :: l')
def xx : List (Nm × aE) → Nm → aE → (List (Nm × aE) → Prop) → Prop
 | [], n, x, k => k [(n, x)]
 | (m, o) :: l, n, x, k => match Nat.blt n m with
  | true => k ((n, x) :: (m, o) :: l)
  | false => xx l n x fun l' => k ((m, o) :: l')
def eK (l : List (Nm × aE)) (n : Nm) (x : aE) (k : List (Nm × aE) → Prop) : Prop :=
 match ax l n with
 | none => xx l n x k
 | some _ => False
def ig : List Nat → Nat → Bool
 | [], _ => false
 | a :: l, n => match Nat.beq a n with
  | true => true
  | false => ig l n
def AV.cells : AV → List AV
 | .agg l => l
 | .val v => (match v with
  | .agg cs => cs.toList.map .val
  | _ => [.val v])
 | a => [a]
def jd (shallow : Bool) : AV → Bool
 | .val v => (match v with | .agg _ => false | .tuple _ => false | _ => true)
 | .sl none _ _ => true
 | .cptr _ _ => true
 | _ => false
def AV.okCell : AV → Bool
 | .fn _ a b => a.all (jd true) && b.all (jd true)
 | .iface _ x => jd true x
 | a => jd true a
def AV.strip : AV → AV
 | .sl _ s l => .sl none s l
 | a => a
def bP : List AV → Bool
 | [] => true
 | a :: l => match a.okCell with
  | true => bP l
  | false => false
def Ah : IntKind → IntKind → Bool
 | .i8, .i8 => true
 | .i16, .i16 => true
 | .i32, .i32 => true
 | .i64, .i64 => true
 | .u8, .u8 => true
 | .u16, .u16 => true
 | .u32, .u32 => true
 | .u64, .u64 => true
 | _, _ => false
theorem Ci {a b : IntKind} (h : Ah a b = true) : a = b := by cases a <;> cases b <;> first | rfl | cases h
def aH (op : BinOp) (k : IntKind) (x y : Int) : Int :=
 let a := BitVec.ofInt k.bits x
 let b := BitVec.ofInt k.bits y
 k.wrap (match op with
  | .and => a &&& b
  | .or => a ||| b
  | .xor => a ^^^ b
  | _ => a &&& ~~~b).toNat
def aO (x y : ByteArray) : Bool := Op.bytesLess x.toList y.toList
def tt (op : BinOp) (k : IntKind) (x y : Int) (K : AV → Prop) : Prop :=
 match op with
 | .add => K (.val (.int k (k.wrap (x + y))))
 | .sub => K (.val (.int k (k.wrap (x - y))))
 | .mul => K (.val (.int k (k.wrap (x * y))))
 | .quo => bQ (decide (y ≠ 0)) (K (.val (.int k (k.wrap (x.tdiv y)))))
 | .rem => bQ (decide (y ≠ 0)) (K (.val (.int k (x.tmod y))))
 | .and => K (.val (.int k (aH .and k x y)))
 | .or => K (.val (.int k (aH .or k x y)))
 | .xor => K (.val (.int k (aH .xor k x y)))
 | .andNot => K (.val (.int k (aH .andNot k x y)))
 | .eql => K (.val (.bool (x == y)))
 | .neq => K (.val (.bool (x != y)))
 | .lss => K (.val (.bool (decide (x < y))))
 | .leq => K (.val (.bool (decide (x ≤ y))))
 | .gtr => K (.val (.bool (decide (x > y))))
 | .geq => K (.val (.bool (decide (x ≥ y))))
 | _ => False
def wQ (op : BinOp) (x y : ByteArray) (K : AV → Prop) : Prop :=
 match op with
 | .add => bQ (decide (x.size + y.size ≤ 9223372036854775807)) (K (.val (.string (x ++ y))))
 | .eql => K (.val (.bool (decide (x = y))))
 | .neq => K (.val (.bool (!decide (x = y))))
 | .lss => K (.val (.bool (aO x y)))
 | .leq => K (.val (.bool (aO x y || decide (x = y))))
 | .gtr => K (.val (.bool (!(aO x y || decide (x = y)))))
 | .geq => K (.val (.bool (!aO x y)))
 | _ => False
def qu (op : BinOp) (k : IntKind) (x y : Int) (K : AV → Prop) : Prop :=
 bQ (decide (0 ≤ y)) (match op with
  | .shl => K (.val (.int k (k.wrap (x * 2 ^ (min y.toNat k.bits)))))
  | _ => K (.val (.int k (x.fdiv (2 ^ (min y.toNat k.bits))))))
def B7 (d : TD) (a b : AV) : Option Bool :=
 match d, a, b with
 | .pointer, .ptr _ _, .val (.pointer none) => some false
 | .pointer, .cptr _ _, .val (.pointer none) => some false
 | .pointer, .val (.pointer none), .ptr _ _ => some false
 | .pointer, .val (.pointer none), .cptr _ _ => some false
 | .pointer, .val (.pointer none), .val (.pointer none) => some true
 | .iface, .iface _ _, .val .nilIface => some false
 | .iface, .val .nilIface, .iface _ _ => some false
 | .map _ _, .mapv _, .val (.map none) => some false
 | .map _ _, .val (.map none), .val (.map none) => some true
 | .slice _, .val (.slice none _ _), .val (.slice none _ _) => some true
 | .func, .fn _ _ _, .val .nilFunc => some false
 | .func, .val .nilFunc, .val .nilFunc => some true
 | _, _, _ => none
def dOf (T : Tab) (t : TypeId) : TD :=
 match (T.ti t).ok with
 | true => (T.ti t).d
 | false => .other
def sb (T : Tab) (l m : List AV) : List (Nat × TypeId) → Bool → (Bool → Prop) → Prop
 | [], acc, k => k acc
 | (o, t) :: fs, acc, k => (match dOf T t with
  | .int _ => (match iW l o, iW m o with
   | .val (.int ka x), .val (.int kb y) => (match Ah ka kb with
    | true => sb T l m fs (acc && (x == y)) k
    | false => False)
   | _, _ => False)
  | .string => (match iW l o, iW m o with
   | .val (.string x), .val (.string y) => sb T l m fs (acc && decide (x = y)) k
   | _, _ => False)
  | .bool => (match iW l o, iW m o with
   | .val (.bool x), .val (.bool y) => sb T l m fs (acc && (x == y)) k
   | _, _ => False)
  | _ => False)
def IQ (T : Tab) (op : BinOp) (t : TypeId) (a b : AV) (K : AV → Prop) : Prop :=
 match a, b with
 | .val (.int ka x), .val (.int kb y) =>
  (match op with
  | .shl => qu .shl ka x y K
  | .shr => qu .shr ka x y K
  | _ => (match Ah ka kb with
   | true => tt op ka x y K
   | false => False))
 | .val (.string x), .val (.string y) => wQ op x y K
 | .val (.bool x), .val (.bool y) =>
  (match dOf T t with
  | .bool => (match op with
   | .eql => K (.val (.bool (x == y)))
   | .neq => K (.val (.bool (!(x == y))))
   | _ => False)
  | _ => False)
 | .agg l, .agg m =>
  (match T.eqs t with
  | true => (match dOf T t with
   | .struct fs => sb T l m fs true fun b => (match op with
    | .eql => K (.val (.bool b))
    | .neq => K (.val (.bool (!b)))
    | _ => False)
   | _ => False)
  | false => False)
 | a, b =>
  (match B7 (dOf T t) a b with
  | some c => (match op with
   | .eql => K (.val (.bool c))
   | .neq => K (.val (.bool (!c)))
   | _ => False)
  | none => False)
def aun (op : UnOp) (a : AV) (K : AV → Prop) : Prop :=
 match op, a with
 | .not, .val (.bool b) => K (.val (.bool (!b)))
 | .neg, .val (.int k n) => K (.val (.int k (k.wrap (0 - n))))
 | .xor, .val (.int k n) => K (.val (.int k (aH .xor k (match k.signed with | true => -1 | false => k.max) n)))
 | _, _ => False
def aD (s : ByteArray) (i : Nat) : Int := if h : i < s.size then ((s[i]'h).toNat : Int) else 0
def nr (T : Tab) (t : TypeId) (cells : List AV) (K : AV → Prop) : Prop :=
 match (T.ti t).ok with
 | true => (match (T.ti t).agg with
  | true => tJ cells (T.ti t).size fun l => K (.agg l)
  | false => (match cells with
   | a :: _ => pj a K
   | [] => False))
 | false => False
def nj (T : Tab) (t : TypeId) (f : Nat) : Option (Nat × TypeId) :=
 match dOf T t with
 | .struct fs => fs[f]?
 | _ => none
def rl (l : List Value) : List AV := l.map .val
def sK : List AV → Nat → List AV → (List AV → Prop) → Prop
 | l, _, [], k => k l
 | l, o, a :: cs, k => bQ (Nat.blt o l.length) (qv l o a fun l' => sK l' (o + 1) cs k)
def evA (s : List AV) : Operand → AV
 | .tmp t => iW s t
 | .const v => .val v
 | .global _ => .junk
 | .func f => .fn (.func f) [] []
def put (st : St) (dst : Option Tmp) (v : AV) (k : St → Prop) : Prop :=
 match dst, st with
 | none, st => k st
 | some d, ⟨s, o⟩ => pj v fun v' => qv s d v' fun s' => k ⟨s', o⟩
def al (d : Nat) : Nm := 2 * d + 64
end Go.Abs
