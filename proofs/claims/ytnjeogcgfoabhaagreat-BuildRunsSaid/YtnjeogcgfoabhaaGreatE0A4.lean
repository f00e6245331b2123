/- The engine, A4. -/
import Derived.Test.YtnjeogcgfoabhaaGreatE0A3
set_option linter.unusedVariables false
set_option linter.unusedSimpArgs false
namespace Go.Abs
open Go
structure Lg (P : Program) (g : FuncId) (args : List AV) (R : AV → Prop) : Prop where
 run : ∀ (G : Gh) (w : World) (vals : List Value), (∀ b o v, G.K b o = some v → w.cell? ⟨b, o, none⟩ = some v) → aB G args vals →
  ∃ v r, (callFunc g vals.toArray).run P w = .ok (.value v) w ∧ R r ∧ Rep G r v
section
variable (P : Program) (T : Tab) (an : Ann)
def ph (ops : Array Oper) (o : Oper) (st : St) (yes no : St → Prop) : Prop :=
 match o.guard with
 | none => yes st
 | some (j, want) => (match ops[j]? with
  | none => False
  | some oj => (match oj.dst with
   | none => False
   | some d => (match iW st.slots d with
    | .val (.bool b) =>
     br b (qv st.slots d (.val (.bool true)) fun s => match want with | true => yes ⟨s, st.objs⟩ | false => no ⟨s, st.objs⟩)
        (qv st.slots d (.val (.bool false)) fun s => match want with | true => no ⟨s, st.objs⟩ | false => yes ⟨s, st.objs⟩)
    | .val (.tuple _) => no st
    | _ => False)))
def Gx (op : Op) (ev : Operand → AV) : Bool :=
 match op with
 | .convert s d x => (match ev x with
  | .slm _ _ _ _ => true
  | .sl own _ _ => (match own with
   | some _ => Nat.beq s d
   | none => false)
  | _ => false)
 | .binOp _ _ x _ _ => (match ev x with
  | .sl _ _ _ => true
  | _ => false)
 | .call c => (match c.callee with
  | .value f => (match f with
   | .func g => (match T.fn g with
    | true => false
    | false => true)
   | _ => false)
  | .builtin b => (match b with
   | .append => (match c.args.toList with
    | [_, x] => (match ev x with
     | .slm _ _ _ _ => true
     | _ => false)
    | _ => false)
   | _ => false)
  | _ => false)
 | .indexAddr _ x _ => (match ev x with
  | .slv _ sz _ _ _ => Nat.beq sz 0
  | _ => false)
 | .load _ p => (match ev p with
  | .ptv _ sz _ _ _ => Nat.beq sz 0
  | _ => false)
 | .buildSlice _ _ ps => (match ps.toList with
  | (_, x) :: _ => (match ev x with
   | .fn _ _ c => (match cH c with
    | [] => false
    | _ :: _ => true)
   | _ => false)
  | [] => false)
 | .lookup _ m _ _ => (match ev m with
  | .val _ => true
  | _ => false)
 | .range _ _ => true
 | .next _ _ => true
 | .entry _ => true
 | _ => false
def vA (d : Nat) (t : TypeId) (x : AV) (objs : List (Nm × aE)) (k : AV → List (Nm × aE) → Prop) : Prop :=
 match dOf T t with
 | .map _ _ => (match x with
  | .mapv n => (match ax objs n with
   | some (.map es) => ∀ ms clock, dx objs n (.mapc es ms clock) fun objs => eK objs (al d) (.iter n ms clock []) fun objs => k (.ptr (al d) 0) objs
   | _ => False)
  | _ => False)
 | _ => False
def zZ (it : AV) (objs : List (Nm × aE)) (k : AV → List (Nm × aE) → Prop) : Prop :=
 match it with
 | .ptr r off => (match off with
  | 0 => (match ax objs r with
   | some (.iter n ms clock seen) => (match ax objs n with
    | some (.mapc es ms' clock') => (ms' = ms ∧ clock' = clock) ∧
      ((∀ i, i < es.length → i ∈ seen) → dx objs n (.map es) fun objs => k (.tup [.val (.bool false)]) objs) ∧
      (∀ i e, es[i]? = some e → i ∉ seen → dx objs r (.iter n ms clock (i :: seen)) fun objs => k (.tup [.val (.bool true), .val (.string e.1), e.2]) objs)
    | _ => False)
   | _ => False)
  | _ => False)
 | _ => False
def ww (it : AV) (objs : List (Nm × aE)) (k : AV → List (Nm × aE) → Prop) : Prop :=
 match it with
 | .ptr r off => (match off with
  | 0 => (match ax objs r with
   | some (.iter n ms clock seen) => (match seen with
    | i :: _ => (match ax objs n with
     | some (.mapc es ms' clock') => (ms' = ms ∧ clock' = clock) ∧ qL es i fun e => k (.tup [.val (.string e.1), e.2]) objs
     | _ => False)
    | [] => False)
   | _ => False)
  | _ => False)
 | _ => False
def Kl (objs : List (Nm × aE)) (d : Nat) (t : TypeId) (s x : AV) (k : AV → List (Nm × aE) → Prop) : Prop :=
 match dOf T t with
 | .slice e => fW T e fun ei => bQ (Nat.beq ei.size 1 && ja ei) (match x with
  | .slm nx ox lx _ => (match ax objs nx with
   | some (.cells _ l) => tJ (pn l ox) lx fun m => bQ (fq m) (match s with
    | .val (.slice none 0 0) => lx * (ei.bytes + 1) ≤ 140737488355328 ∧ eK objs (al d) (.fns e m 0) fun objs => k (.slv (al d) 0 0 0 lx) objs
    | .slv n sz ver off len => (match ax objs n with
     | some (.fns te l2 ver') => bQ (Nat.beq te e && (Nat.beq sz 0 && Nat.beq off 0)) ((ver = ver' ∧ len = l2.length) ∧ (len + lx) * (ei.bytes + 1) ≤ 140737488355328 ∧
       dY (l2 ++ m) fun l3 => dx objs n (.fns e l3 (ver' + 1)) fun objs => k (.slv n 0 (ver' + 1) 0 (len + lx)) objs)
     | _ => False)
    | _ => False)
   | _ => False)
  | _ => False)
 | _ => False
def Ax (ev : Operand → AV) : List (Nat × Operand) → Nat → (List AV → Prop) → Prop
 | [], _, k => k []
 | (i, x) :: ps, n, k => match Nat.beq i n with
  | false => False
  | true => pj (ev x) fun c => match dT c with
   | false => False
   | true => Ax ev ps (n + 1) fun l => k (c :: l)
def As (objs : List (Nm × aE)) (d : Nat) (t : TypeId) (len : Nat) (ps : List (Nat × Operand)) (ev : Operand → AV) (k : AV → List (Nm × aE) → Prop) : Prop :=
 match dOf T t with
 | .slice e => fW T e fun ei => bQ (ja ei && Nat.beq ei.size 1) (bQ (Nat.beq ps.length len && Nat.ble len 16777216) (Ax ev ps 0 fun l =>
   eK objs (al d) (.cells e l) fun objs => k (.slm (al d) 0 l.length l.length) objs))
 | _ => False
def Ar (t : TypeId) (x i : AV) (k : AV → Prop) : Prop :=
 fW T t fun ti => (match ti.d with
  | .slice e => fW T e fun ei => bQ (Nat.beq ei.size 1) (match i with
   | .val (.int _ i) => (match x with
    | .slv n sz ver off len => bQ (Nat.beq sz 0 && Nat.beq off 0) (bQ (decide (0 ≤ i)) (bQ (decide (i < (len : Int))) (k (.ptv n 0 ver 0 i.toNat))))
    | _ => False)
   | _ => False)
  | _ => False)
def EO (objs : List (Nm × aE)) (t : TypeId) (p : AV) (k : AV → Prop) : Prop :=
 match p with
 | .ptv n sz ver i off => (match ax objs n with
  | some (.fns _ l ver') => bQ (Nat.beq sz 0 && Nat.beq i 0) (ver = ver' ∧ nr T t (pn l off) k)
  | _ => False)
 | _ => False
def gT (op : Op) (dst : Option Tmp) (ev : Operand → AV) (objs : List (Nm × aE)) (k : AV → List (Nm × aE) → Prop) : Prop :=
 match op with
 | .convert src dst x =>
  fW T src fun si => fW T dst fun di => (match di.d, ev x with
  | .string, .slm n off len _ => (match si.d with
   | .slice e => (match dOf T e with
    | .int .u8 => (match ax objs n with
     | some (.cells _ l) => ∃ bs : List Int, ((l.drop off).take len = bs.map fun b => .val (.int .u8 b)) ∧ bs.length = len ∧ k (.val (.string (strOfNums bs))) objs
     | _ => False)
    | _ => False)
   | _ => False)
  | .slice e, .sl own sz l => (match own with
   | some n => (match dOf T e with
    | .int .u8 => (match ax objs n with
     | some (.row _ _ top) => (match l with
      | [] => False
      | _ :: _ => bQ (Nat.beq src dst) (bQ (Nat.beq top l.length) (dx objs n .dead fun objs => k (.sl none sz l) objs)))
     | _ => False)
    | _ => False)
   | none => False)
  | _, _ => False)
 | .binOp op t x y _ =>
  (match dOf T t with
  | .slice _ => (match ev x, ev y with
   | .sl _ _ l, .val (.slice none 0 0) => (match op with
    | .eql => ∀ b : Bool, (b = true → l = []) → k (.val (.bool b)) objs
    | .neq => ∀ b : Bool, (b = true → l = []) → k (.val (.bool (!b))) objs
    | _ => False)
   | _, _ => False)
  | _ => False)
 | .call c =>
  (match c.callee with
  | .value f => (match ev f with
   | .fn (.func g) first cap => dY (q7 an dst ev c first cap) fun args => Lg P g args fun r => k r objs
   | _ => False)
  | .builtin b => (match b, c.args.toList, c.argTypes.toList, dst with
   | .append, [s, x], [t, t2], some d => bQ (Nat.beq t t2) (Kl T objs d t (ev s) (ev x) k)
   | _, _, _, _ => False)
  | _ => False)
 | .indexAddr t x i => Ar T t (ev x) (ev i) fun v => k v objs
 | .load t p => EO T objs t (ev p) fun v => k v objs
 | .buildSlice t len ps => (match dst with
  | some d => As T objs d t len ps.toList ev k
  | none => False)
 | .range t x => (match dst with
  | some d => vA T d t (ev x) objs k
  | none => False)
 | .next it s => (match s with
  | true => False
  | false => zZ (ev it) objs k)
 | .entry it => ww (ev it) objs k
 | .lookup t m x ok =>
  (match dOf T t with
  | .map kt e => (match dOf T kt with
   | .string => fW T e fun ei => (match ev m, ev x with
    | .val (.map none), .val (.string s) => xU ei fun z => (match ok with
     | true => k (.tup [z, .val (.bool false)]) objs
     | false => k z objs)
    | _, _ => False)
   | _ => False)
  | _ => False)
 | _ => False
def Gt : List (Nat × Nat) → Nat → Option Nat
 | [], _ => none
 | (a, b) :: l, n => (match Nat.beq a n with
  | true => some b
  | false => Gt l n)
def Nj (op : Op) : Option Nat :=
 match op with
 | .store _ x _ => (match x with
  | .tmp p => (match ig an.frz p with
   | true => some p
   | false => Gt an.frz2 p)
  | _ => none)
 | _ => none
def nT (p : Option Nat) (s : List AV) (ob : List (Nm × aE)) (k : St → Prop) : Prop :=
 match p with
 | none => k ⟨s, ob⟩
 | some p => (match iW s p with
  | .ptr n off => (match Nat.beq off 0 with
   | true => (match ax ob n with
    | some (.cells _ c) => dY (c.map AV.strip) fun c => bQ (bP c) (dx ob n .dead fun ob => qv s p (.cptr c 0) fun s => k ⟨s, ob⟩)
    | _ => False)
   | false => False)
  | _ => False)
def nh (p : Option Nat) (st : St) (k : St → Prop) : Prop :=
 match p with
 | none => k st
 | some p => (match iW st.slots p with
  | .slv n size ver off len => (match ax st.objs n with
   | some (.vec _ sz l ver') => bQ (Nat.beq sz size) ((ver = ver' ∧ off = 0 ∧ len = l.length) ∧ dx st.objs n .dead fun ob => qv st.slots p (.sl none size l) fun s => k ⟨s, ob⟩)
   | _ => False)
  | .sl (some n) size [] => (match ax st.objs n with
   | some (.row t sz top) => bQ (Nat.beq sz size && Nat.beq top 0) (dx st.objs n (.vec t size [] 0) fun ob => qv st.slots p (.slv n size 0 0 0) fun s => k ⟨s, ob⟩)
   | _ => False)
  | .ptr _ _ => nT (some p) st.slots st.objs k
  | .junk => k st
  | _ => False)
def Nk (o : Oper) : Option Nat :=
 match o.dst with
 | some d => Gt an.frv d
 | none => none
def oe (o : Oper) (st : St) (k : St → Prop) : Prop :=
 match Gx T o.op (evA st.slots) with
 | true => gT P T an o.op o.dst (evA st.slots) st.objs fun v objs => put ⟨st.slots, objs⟩ o.dst v k
 | false => ck P T an o st fun st => nT (Nj an o.op) st.slots st.objs k
def tv (o : Oper) (st : St) (k : St → Prop) : Prop := nh (Nk an o) st fun st => oe P T an o st k
def lK (ops : Array Oper) : List Nat → St → (St → Prop) → Prop
 | [], st, k => k st
 | i :: rest, st, k => (match ops[i]? with
  | none => False
  | some o => ph ops o st (fun st => tv P T an o st fun st => lK ops rest st k) (fun st => put st o.dst (.val undef) fun st => lK ops rest st k))
def xI (c : Cls) (quiet : Prop) (loud : Cls → Prop) : Prop :=
 match c with
 | .val [] => quiet
 | .val (n :: l) => loud (.val (n :: l))
 | .mk => loud .mk
 | .call => loud .call
 | .wr => loud .wr
def kg (c : Cls) : Cls :=
 match c with
 | .wr => .wr
 | _ => .val []
def i6 (c : Cls) (b : Bool) : Bool :=
 match c with
 | .call => b
 | _ => true
def c7 (ops : Array Oper) : List (Nat × Cls) → List Nat → St → (St → Prop) → Prop
 | _, [], st, k => k st
 | seen, i :: rest, st, k => (match ops[i]? with
  | none => False
  | some o => ph ops o st
    (fun st => xI (bH an o.op o.dst (evA st.slots)) (ck P T an o st fun st => c7 ops seen rest st k)
     fun c => bQ (lz ops i o c seen) (bQ (i6 c (eZ an o.op o.dst (evA st.slots))) (ck P T an o st fun st => c7 ops ((i, c) :: seen) rest st k)))
    (fun st => xI (kg (bH an o.op o.dst (evA st.slots))) (put st o.dst (.val undef) fun st => c7 ops seen rest st k)
     fun c => bQ (lz ops i o c seen) (put st o.dst (.val undef) fun st => c7 ops ((i, c) :: seen) rest st k)))
def opK (o : Oper) (k : Oper → Prop) : Prop := match o with | ⟨a, b, c, d, e, f⟩ => k ⟨a, b, c, d, e, f⟩
theorem zV (o : Oper) (k : Oper → Prop) : opK o k = k o := by cases o; rfl
def xop (o : Oper) (st : St) (k : St → Prop) : Prop :=
 match o, st with
 | ⟨dst, op, _, _, _, _⟩, ⟨s, ob⟩ => aQ P T an op dst (evA s) ob fun v objs => put ⟨s, objs⟩ dst v k
theorem Du (o : Oper) (st : St) (k : St → Prop) : xop P T an o st k = ck P T an o st k := by cases o; cases st; rfl
def zj (ops : Array Oper) (o : Oper) (st : St) (yes no : St → Prop) : Prop :=
 match o, st with
 | ⟨_, _, _, _, _, g⟩, ⟨s, ob⟩ => (match g with
  | none => yes ⟨s, ob⟩
  | some (j, want) => (match ops[j]? with
   | none => False
   | some oj => (match oj.dst with
    | none => False
    | some d => (match iW s d with
     | .val (.bool b) =>
      br b (qv s d (.val (.bool true)) fun s => match want with | true => yes ⟨s, ob⟩ | false => no ⟨s, ob⟩)
         (qv s d (.val (.bool false)) fun s => match want with | true => no ⟨s, ob⟩ | false => yes ⟨s, ob⟩)
     | .val (.tuple _) => no ⟨s, ob⟩
     | _ => False))))
theorem pE (ops : Array Oper) (o : Oper) (st : St) (yes no : St → Prop) : zj ops o st yes no = ph ops o st yes no := by cases o; cases st; rfl
def iT (left : List Nat) : List Edge → Bool
 | [] => true
 | e :: l => (match Region.binds .any e with
  | true => (match ig left e.on with
   | true => false
   | false => iT left l)
  | false => iT left l)
def gn (ops : Array Oper) (left : List Nat) (i : Nat) : Bool :=
 match ops[i]? with
 | none => false
 | some o => iT left o.after.toList
def eC : List Nat → Nat → List Nat
 | [], _ => []
 | j :: l, i => (match Nat.beq j i with
  | true => eC l i
  | false => j :: eC l i)
abbrev I0 := St → (St → Prop) → Prop
abbrev sH := List Nat → I0
def x5 (ops : Array Oper) (left : List Nat) (r : sH) (i : Nat) : I0 := fun st k =>
 match ops[i]? with
 | none => False
 | some o => opK o fun o => zj ops o st (fun st => xop P T an o st fun st => r (eC left i) st k) (fun st => put st o.dst (.val undef) fun st => r (eC left i) st k)
def Ko (ops : Array Oper) (left : List Nat) (r : sH) (i : Nat) (_ : List Nat) (c : I0) : I0 := fun st k =>
 match gn ops left i with
 | true => x5 P T an ops left r i st k ∧ c st k
 | false => c st k
noncomputable def sc (ops : Array Oper) (left : List Nat) (r : sH) (l : List Nat) : I0 := List.rec (motive := fun _ => I0) (fun _ _ => True) (Ko P T an ops left r) l
def IN : sH := fun left st k =>
 match left with
 | [] => k st
 | _ :: _ => False
def oX (ops : Array Oper) (s : List AV) (i : Nat) : Bool :=
 match ops[i]? with
 | none => false
 | some o => (match (match o.guard with
   | some _ => an.gq
   | none => true) with
  | false => false
  | true => (match bH an o.op o.dst (evA s) with
   | .val r => (match r with
    | [] => true
    | _ :: _ => false)
   | _ => false))
def JM (ops : Array Oper) (left : List Nat) (s : List AV) (q : Nat) (_ : List Nat) (r : Option Nat) : Option Nat :=
 match gn ops left q with
 | true => (match oX an ops s q with
  | true => some q
  | false => r)
 | false => r
noncomputable def Gm (ops : Array Oper) (left : List Nat) (s : List AV) (l : List Nat) : Option Nat := List.rec (motive := fun _ => Option Nat) none (JM an ops left s) l
noncomputable def Pj (ops : Array Oper) (_ : Nat) (r : sH) : sH := fun left st k =>
 match left with
 | [] => k st
 | i :: l => (match st with
  | ⟨s, ob⟩ => (match Gm an ops (i :: l) s (i :: l) with
   | some q => x5 P T an ops (i :: l) r q ⟨s, ob⟩ k
   | none => sc P T an ops (i :: l) r (i :: l) ⟨s, ob⟩ k))
noncomputable def wW (ops : Array Oper) (n : Nat) : sH := Nat.rec (motive := fun _ => sH) IN (Pj P T an ops) n
def Cf (keep : List Nat) : List AV → Nat → List AV
 | [], _ => []
 | a :: l, i => (match ig keep i with
  | true => a
  | false => .junk) :: Cf keep l (i + 1)
def xj (live : List Nm) : List (Nm × aE) → List (Nm × aE)
 | [] => []
 | (n, o) :: l => (match (ig live n || Nat.blt n 64) with
  | true => (n, o) :: xj live l
  | false => xj live l)
def wm : List (Nm × aE) → (List (Nm × aE) → Prop) → Prop
 | [], k => k []
 | (n, o) :: l, k => wm l fun l' => k ((n, o) :: l')
def uN (o : List (Nm × aE)) : List (Nm × aE) → Bool
 | [] => true
 | (_, x) :: l => (match n7 o (ce x) with
  | true => uN o l
  | false => false)
def oz (keep : List Nat) (st : St) (k : St → Prop) : Prop :=
 dY (Cf keep st.slots 0) fun s => wm (xj (rG st.objs 1000 (cH s) []) st.objs) fun o => bQ (n7 o (cH s)) (bQ (uN o o) (k ⟨s, o⟩))
def vl (vec : List Nat) : List (Nat × TypeId) → St → (St → Prop) → Prop
 | [], st, k => k st
 | (d, e) :: l, st, k => (match st with
  | ⟨s, ob⟩ => (match iW s d with
   | .val (.slice none 0 0) => (match ig vec d with
    | true => eK ob (al d) (.vec e (T.ti e).size [] 0) fun ob => qv s d (.slv (al d) (T.ti e).size 0 0 0) fun s => vl vec l ⟨s, ob⟩ k
    | false => eK ob (al d) (.row e (T.ti e).size 0) fun ob => qv s d (.sl (some (al d)) (T.ti e).size []) fun s => vl vec l ⟨s, ob⟩ k)
   | _ => vl vec l ⟨s, ob⟩ k))
def Ew : List (Nat × List (Nat × TypeId)) → Nat → List (Nat × TypeId)
 | [], _ => []
 | (i, l) :: ks, n => match Nat.beq i n with
  | true => l
  | false => Ew ks n
inductive aq (F : (St → Prop) → St → Prop) : St → Prop where
 | mk (X : St → Prop) (hX : ∀ s, X s → aq F s) (s : St) (h : F X s) : aq F s
theorem aq.step {F : (St → Prop) → St → Prop} {st : St} (h : F (aq F) st) : aq F st := .mk _ (fun _ h => h) st h
def fj : Code → Nat
 | .region id _ _ => id
 | .seq a _ => fj a
 | .block _ b => fj b
 | .scope b => fj b
 | .loop b => fj b
 | .cond _ a _ => fj a
 | _ => 0
def kL : List (Nat × List Nat) → Nat → List Nat
 | [], _ => []
 | (i, l) :: ks, n => match Nat.beq i n with
  | true => l
  | false => kL ks n
def FW (ro : Option Nat) : Fence := { Fence.wide with round := ro }
structure GU (P : Program) (g : FuncId) (caps : List AV) (xs : List (List AV)) : Prop where
 enter : ∀ args w, (callFunc g args).run P w = .ok (.enter g args) w
 run : ∀ (G : Gh) (w : World) (lb : List Value), (∀ b o v, G.K b o = some v → w.cell? ⟨b, o, none⟩ = some v) → aB G caps lb →
  ∃ es : List (Array Value), es.length = xs.length ∧ (∀ (i : Nat) (x : List AV) (e : Array Value), xs[i]? = some x → es[i]? = some e → aB ⟨G.K, fun _ => none⟩ x e.toList) ∧
   ∀ (l n : Nat) (J Jx : Nat → World → Prop),
    (∀ (m i : Nat) (e : Array Value) (W1 : World), es[i]? = some e → J i W1 → YieldAt (FW none) m P l e W1 fun r W' => (r = .returned (.bool true) ∧ J (i + 1) W') ∨ (r = .returned (.bool false) ∧ Jx (i + 1) W')) →
    (∀ (i : Nat) (W1 : World), J i W1 → ∀ b o v, G.K b o = some v → W1.cell? ⟨b, o, none⟩ = some v) →
    J 0 w → CallsIn (FW none) n P g (#[.func (.yield l) #[] #[]] ++ lb.toArray) w fun e W' => (∃ v, e = .returned v) ∧ (J es.length W' ∨ ∃ i, Jx i W')
def ry : List AV → List Nat → List AV → List AV
 | s, p :: ps, x :: xs => ry (jb s p x) ps xs
 | s, _, _ => s
def qB : List (Nat × List Nat) → Nat → Option (List Nat)
 | [], _ => none
 | (i, l) :: ks, n => match Nat.beq i n with
  | true => some l
  | false => qB ks n
def L5 (p : Option (List Nat)) (st : St) (k : St → Prop) : Prop :=
 match p with
 | none => k st
 | some keep => oz keep st k
def eI : Code → Bool
 | .region id _ _ => (match qB an.pre id with
  | none => true
  | some _ => false)
 | .seq a b => (match eI a with
  | true => eI b
  | false => false)
 | .cond _ a b => (match eI a with
  | true => eI b
  | false => false)
 | .block _ b => eI b
 | .scope b => eI b
 | .loop _ => false
 | .rangeFunc _ _ _ _ => false
 | _ => true
def Ej (keep : List Nat) (caps : List AV) (g : FuncId) (ps : List Nat) (round : St → (St → Prop) → (XK → St → Prop) → Prop) (st : St) (k : St → Prop) (kx : XK → St → Prop) : Prop :=
 oz keep st fun st => ∃ xs : List (List AV), GU P g caps xs ∧ (∀ x ∈ xs, x.length = ps.length) ∧ ∃ I : Nat → St → Prop, I 0 st ∧
  (∀ (i : Nat) (x : List AV) (s : St), xs[i]? = some x → I i s → round ⟨ry s.slots ps x, s.objs⟩ (fun s2 => oz keep ⟨s.slots, s2.objs⟩ (I (i + 1))) (fun e s2 => kx e ⟨s.slots, s2.objs⟩)) ∧
  ∀ s, I xs.length s → k s
structure w8 (Own : Nat → Prop) (K : Nat → Nat → Option Value) (w : World) (Own' : Nat → Prop) (K' : Nat → Nat → Option Value) (w' : World) : Prop where
 os : w'.os = w.os
 tape : w'.tape = w.tape
 output : w'.output = w.output
 size : w.heap.size ≤ w'.heap.size
 block : ∀ b, b < w.heap.size → ¬ Own b → w'.heap[b]? = w.heap[b]?
 own : ∀ b, Own' b → Own b ∨ w.heap.size ≤ b
 more : ∀ b o v, K b o = some v → K' b o = some v
 old : ∀ b o, b < w.heap.size → ¬ Own b → K' b o = K b o
 know : ∀ b o v, K' b o = some v → w'.cell? ⟨b, o, none⟩ = some v
 lies : ∀ b, Own' b → b < w'.heap.size
structure GQ (P : Program) (g : FuncId) (caps : List AV) (os : List aE) (xs : List (List AV)) : Prop where
 enter : ∀ args w, (callFunc g args).run P w = .ok (.enter g args) w
 run : ∀ (G : Gh) (w : World) (lb : List Value), WR G (bC 0 os) w → aB G caps lb →
  ∀ (l n : Nat) (J : Nat → (Nat → Prop) → (Nat → Nat → Option Value) → World → Prop) (Jx : World → Prop),
   (∀ (m i : Nat) (x : List AV) (e : Array Value) (Own : Nat → Prop) (K : Nat → Nat → Option Value) (W1 : World), xs[i]? = some x → aB ⟨K, fun _ => none⟩ x e.toList → J i Own K W1 →
    YieldAt (FW none) m P l e W1 fun r W' =>
     (r = .returned (.bool true) ∧ ∃ K', J (i + 1) Own K' W' ∧ (∀ b o v, K b o = some v → K' b o = some v) ∧ (∀ b, Own b → W'.heap[b]? = W1.heap[b]? ∧ ∀ o, K' b o = K b o) ∧ W'.os = W1.os ∧ W'.tape = W1.tape ∧ W'.output = W1.output ∧ W1.heap.size ≤ W'.heap.size) ∨
     (r = .returned (.bool false) ∧ Jx W')) →
   (∀ (i : Nat) (Own : Nat → Prop) (K : Nat → Nat → Option Value) (W : World) (Own' : Nat → Prop) (K' : Nat → Nat → Option Value) (W' : World), J i Own K W → w8 Own K W Own' K' W' → J i Own' K' W') →
   (∀ (i : Nat) (Own : Nat → Prop) (K : Nat → Nat → Option Value) (W : World), J i Own K W → ∀ b o v, K b o = some v → W.cell? ⟨b, o, none⟩ = some v) →
   J 0 (fun b => ∃ k, G.at k b) G.K w →
   CallsIn (FW none) n P g (#[.func (.yield l) #[] #[]] ++ lb.toArray) w fun e W' => (∃ v, e = .returned v) ∧ ((∃ Own K, J xs.length Own K W') ∨ Jx W')
def GJ (ns : List Nm) : List (Nm × aE) → Bool
 | [] => true
 | (n, _) :: l => (match ig ns n with
  | true => false
  | false => GJ ns l)
def zP (keep : List Nat) (caps : List AV) (g : FuncId) (ps : List Nat) (round : St → (St → Prop) → (XK → St → Prop) → Prop) (st : St) (k : St → Prop) (kx : XK → St → Prop) : Prop :=
 yA st.objs (rG st.objs 1000 (cH caps) []) fun ns os => bQ (zq (cH caps) ns) (oz keep st fun st => bQ (GJ ns st.objs) (∃ xs : List (List AV), GQ P g (nG (qK ns) caps) os xs ∧ (∀ x ∈ xs, x.length = ps.length) ∧ ∃ I : Nat → St → Prop, I 0 st ∧
  (∀ (i : Nat) (x : List AV) (s : St), xs[i]? = some x → I i s → round ⟨ry s.slots ps x, s.objs⟩ (fun s2 => oz keep ⟨s.slots, s2.objs⟩ (I (i + 1))) (fun e s2 => kx e ⟨s.slots, s2.objs⟩)) ∧
  ∀ s, I xs.length s → k s))
noncomputable def awp : Code → St → (St → Prop) → (XK → St → Prop) → Prop
 | .skip, st, k, _ => k st
 | .region id ops false, st, k, _ => L5 (qB an.pre id) st fun st => lK P T an ops (oD ops.size []) st k
 | .region id ops true, st, k, _ => (match ig an.anyo id with
  | true => wW P T an ops (ops.size + 1) (oD ops.size []) st k
  | false => c7 P T an ops [] (oD ops.size []) st k)
 | .seq a b, st, k, kx => awp a st (fun st => awp b st k kx) kx
 | .cond c a b, st, k, kx => (match evA st.slots c with
  | .val (.bool c) => br c (awp a st k kx) (awp b st k kx)
  | _ => False)
 | .block id b, st, k, kx => awp b st k fun x st => (match x with
  | .exit id' => (match Nat.beq id' id with
   | true => k st
   | false => kx x st)
  | .ret => kx x st)
 | .scope b, st, k, kx => awp b st k kx
 | .loop b, st, _, kx => oz (kL an.keep (fj b)) st fun st => vl T an.vec (Ew an.nilr (fj b)) st fun st => aq (fun X s => awp b s (fun s => oz (kL an.keep (fj b)) s X) kx) st
 | .exit id, st, _, kx => kx (.exit id) st
 | .ret, st, _, kx => kx .ret st
 | .label _, st, k, _ => k st
 | .rangeFunc g ps x b, st, k, kx => bQ (eI an x) (bQ (eI an b) (match evA st.slots g with
  | .fn (.func gf) [] caps => Ej P (kL an.keep (fj x)) caps gf ps.toList (fun s k' kx' => awp x s (fun s => awp b s k' kx') (fun _ _ => False)) st k kx
   ∨ zP P (kL an.keep (fj x)) caps gf ps.toList (fun s k' kx' => awp x s (fun s => awp b s k' kx') (fun _ _ => False)) st k kx
  | _ => False))
 | _, _, _, _ => False
def mX (s : List AV) (objs : List (Nm × aE)) : List ResultVar → (List AV → Prop) → Prop
 | [], k => k []
 | .tmp t :: rs, k => pj (iW s t) fun a => mX s objs rs fun l => k (a :: l)
 | .cell x t :: rs, k => (match iW s x with
  | .ptr n off => (match ax objs n with
   | some (.cells _ c) => nr T t (pn c off) fun v => mX s objs rs fun l => k (v :: l)
   | _ => False)
  | _ => False)
def qE (objs : List (Nm × aE)) : List Nat → List Nm
 | [] => []
 | i :: is => (match ax objs i with
  | some o => ce o ++ qE objs is
  | none => qE objs is)
def Eg (rs : List ResultVar) (k : Nat) (st : St) (R : AV → List aE → Prop) : Prop :=
 mX T st.slots st.objs rs fun l => dY (match an.keepRes with | true => l | false => l.map AV.strips) fun l =>
   yA st.objs (LX (rG st.objs 1000 (cH l ++ qE st.objs (oD k [])) (LX (oD k []) [])) []) fun ms os => bQ (rI (oD k []) ms) (bQ (zq (cH l) ms) (dY (nG (qK ms) l) fun l => match l with
   | [a] => R a os
   | l => R (.tup l) os))
def wb : Nat → List AV
 | 0 => []
 | n + 1 => .junk :: wb n
def tU : List AV → Nat → List AV
 | [], n => wb n
 | a :: l, 0 => a :: l
 | a :: l, n + 1 => a :: tU l n
noncomputable def KT (fn : Func) (args : List AV) (os : List aE) (R : AV → List aE → Prop) : Prop :=
 match fn.body with
 | some c => bQ (Nat.ble os.length 64) (awp P T an c ⟨tU args fn.ntmps, bC 0 os⟩ (fun st => Eg T an fn.results.toList os.length st R) fun x st => (match x with
  | .ret => Eg T an fn.results.toList os.length st R
  | .exit _ => False))
 | none => False
end
end Go.Abs
