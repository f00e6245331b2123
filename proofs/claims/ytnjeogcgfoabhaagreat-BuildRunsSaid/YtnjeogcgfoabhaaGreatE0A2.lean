/- The engine, A2. -/
import Derived.Test.YtnjeogcgfoabhaaGreatE0AG
set_option linter.unusedVariables false
set_option linter.unusedSimpArgs false
namespace Go.Abs
open Go
def cC : AV → Bool
 | .junk => true
 | .val _ => true
 | .sl none _ _ => true
 | .cptr _ _ => true
 | .agg l => go l
 | .tup l => go l
 | .fn _ a b => go a && go b
 | .iface _ x => jd true x
 | _ => false
where
 go : List AV → Bool
  | [] => true
  | a :: l => match a.okCell with
   | true => go l
   | false => false
inductive GO where
 | blk (b : Nat)
 | rowv (v : Value) (top : Nat)
structure Gh where
 K : Nat → Nat → Option Value
 ob : Nm → Option GO
def Dy (u : Value) (size off len : Nat) (v : Value) : Prop :=
 ∃ A L c A', u = .slice A L c ∧ off + len ≤ L ∧ L ≤ c ∧ v = .slice A' len (c - off) ∧ (off = 0 → A' = A) ∧ (len ≠ 0 → ∃ g, A = some ⟨g, 0, none⟩ ∧ A' = some ⟨g, off * size, none⟩)
mutual
def Rep (G : Gh) : AV → Value → Prop
 | .junk, _ => True
 | .val x, v => v = x
 | .agg l, v => ∃ vs : List Value, v = .agg vs.toArray ∧ aB G l vs
 | .sl own size l, v => (∃ A c, v = .slice A l.length c ∧ l.length ≤ c ∧ d7 G size A 0 l) ∧
   (match own with
   | none => True
   | some n => ∃ u top, G.ob n = some (.rowv u top) ∧ l.length ≤ top ∧ (l.length = top → v = u))
 | .cptr cells off, v => ∃ b o, v = .pointer (some ⟨b, o + off, none⟩) ∧ fv G b o cells ∧ bP cells = true
 | .ptr n off, v => ∃ b, G.ob n = some (.blk b) ∧ v = .pointer (some ⟨b, off, none⟩)
 | .slm n off len cap, v => ∃ b, G.ob n = some (.blk b) ∧ v = .slice (some ⟨b, off, none⟩) len cap
 | .fn f first cap, v => ∃ vs us : List Value, v = .func f vs.toArray us.toArray ∧ aB G first vs ∧ aB G cap us
 | .iface t x, v => ∃ u, v = .iface t u ∧ Rep G x u
 | .mapv n, v => ∃ b, G.ob n = some (.blk b) ∧ v = .map (some b)
 | .tup l, v => ∃ vs : List Value, v = .tuple vs.toArray ∧ aB G l vs
 | .slv n size ver off len, v => (∃ A c, v = .slice A len c ∧ (len ≠ 0 → ∃ b o, A = some ⟨b, o, none⟩) ∧ len ≤ c) ∧ ∃ u top, G.ob n = some (.rowv u top) ∧ ver ≤ top ∧ (ver = top → Dy u size off len v)
 | .ptv n size ver i off, v => (∃ p, v = .pointer (some p)) ∧ ∃ u top, G.ob n = some (.rowv u top) ∧ ver ≤ top ∧ (ver = top → ∃ g, u.ownBlock = some g ∧ v = .pointer (some ⟨g, i * size + off, none⟩))
def aB (G : Gh) : List AV → List Value → Prop
 | [], vs => vs = []
 | a :: l, vs => ∃ v us, vs = v :: us ∧ Rep G a v ∧ aB G l us
def fv (G : Gh) (b : Nat) : Nat → List AV → Prop
 | _, [] => True
 | o, a :: l => (∃ v, G.K b o = some v ∧ Rep G a v) ∧ fv G b (o + 1) l
def d7 (G : Gh) (size : Nat) (A : Option Addr) : Nat → List (List AV) → Prop
 | _, [] => True
 | i, e :: l => (∃ b o, A = some ⟨b, o, none⟩ ∧ e.length = size ∧ bP e = true ∧ fv G b (o + i * size) e) ∧ d7 G size A (i + 1) l
end
structure Gh.le (G G' : Gh) : Prop where
 K : ∀ b o v, G.K b o = some v → G'.K b o = some v
 blk : ∀ n b, G.ob n = some (.blk b) → G'.ob n = some (.blk b)
 row : ∀ n u t, G.ob n = some (.rowv u t) → ∃ u' t', G'.ob n = some (.rowv u' t') ∧ (t < t' ∨ (u' = u ∧ t' = t))
def fw (G : Gh) : List (ByteArray × AV) → List MapEntry → Prop
 | [], [] => True
 | e :: es, m :: ms => (m.key = .string e.1 ∧ cC e.2 = true) ∧ Rep G e.2 m.val ∧ fw G es ms
 | _, _ => False
def ky (ms : Array MapEntry) (clock : Nat) : Prop := (ms.toList.map (·.born)).Nodup ∧ ∀ e ∈ ms.toList, e.born < clock
def jM (ms : Array MapEntry) (i : Nat) : Nat := ((ms[i]?).map (·.born)).getD 0
def sG (G : Gh) (w : World) (n : Nm) : aE → Prop
 | .cells t l => ∃ b vs, G.ob n = some (.blk b) ∧ w.heap[b]? = some (.cells (List.toArray vs) t (0, 0)) ∧ aB G l vs ∧ ∀ o, G.K b o = none
 | .row t size top => ∃ u xs, G.ob n = some (.rowv u top) ∧ w.ownsRow 0 t size u top xs ∧ ∀ g, u.ownBlock = some g → ∀ o, G.K g o = xs[o]?
 | .map es => ∃ b ms clock, G.ob n = some (.blk b) ∧ w.heap[b]? = some (.map ms clock) ∧ fw G es ms.toList ∧ (∀ o, G.K b o = none) ∧ ky ms clock
 | .vec t size l ver => ∃ u xs, G.ob n = some (.rowv u ver) ∧ w.ownsRow 0 t size u l.length xs ∧ aB G l.flatten xs ∧ (∀ e ∈ l, e.length = size ∧ bP e = true) ∧ ∀ g, u.ownBlock = some g → ∀ o, G.K g o = none
 | .mapc es ms clock => ∃ b, G.ob n = some (.blk b) ∧ w.heap[b]? = some (.map ms clock) ∧ fw G es ms.toList ∧ (∀ o, G.K b o = none) ∧ ky ms clock
 | .iter m ms clock seen => ∃ b r, G.ob n = some (.blk r) ∧ G.ob m = some (.blk b) ∧ w.heap[r]? = some (.mapIter (some b) clock (seen.reverse.map (jM ms)).toArray clock) ∧ (∀ j ∈ seen, j < ms.size) ∧ ∀ o, G.K r o = none
 | .fns t l ver => ∃ u xs, G.ob n = some (.rowv u ver) ∧ w.ownsRow 0 t 1 u l.length xs ∧ aB G l xs ∧ ∀ g, u.ownBlock = some g → ∀ o, G.K g o = none
 | .dead => (∃ g, G.ob n = some g) ∧ ∀ b, (G.ob n = some (.blk b) ∨ ∃ u t, G.ob n = some (.rowv u t) ∧ u.ownBlock = some b) → b < w.heap.size
def Gh.at (G : Gh) (n : Nm) (b : Nat) : Prop := G.ob n = some (.blk b) ∨ ∃ u t, G.ob n = some (.rowv u t) ∧ u.ownBlock = some b
structure WR (G : Gh) (objs : List (Nm × aE)) (w : World) : Prop where
 know : ∀ b o v, G.K b o = some v → w.cell? ⟨b, o, none⟩ = some v
 obj : ∀ n o, ax objs n = some o → sG G w n o
 dom : ∀ n g, G.ob n = some g → ∃ o, ax objs n = some o
 apart : ∀ n m b, G.at n b → G.at m b → n = m
 glob : rh G.K
structure Ext (T : Nat → Prop) (K : Nat → Nat → Option Value) (w : World) (K' : Nat → Nat → Option Value) (w' : World) : Prop where
 os : w'.os = w.os
 tape : w'.tape = w.tape
 output : w'.output = w.output
 size : w.heap.size ≤ w'.heap.size
 block : ∀ b, b < w.heap.size → ¬ T b → w'.heap[b]? = w.heap[b]?
 knew : ∀ b o, b < w.heap.size → ¬ T b → K' b o = K b o
def bC : Nat → List aE → List (Nm × aE)
 | _, [] => []
 | i, o :: os => (i, o) :: bC (i + 1) os
def oD : Nat → List Nat → List Nat
 | 0, l => l
 | n + 1, l => oD n (n :: l)
mutual
def AV.names : AV → List Nm
 | .sl own _ _ => (match own with | some n => [n] | none => [])
 | .ptr n _ => [n]
 | .slm n _ _ _ => [n]
 | .mapv n => [n]
 | .agg l => cH l
 | .tup l => cH l
 | .fn _ a b => cH a ++ cH b
 | .iface _ x => x.names
 | .junk => []
 | .val _ => []
 | .cptr _ _ => []
 | .slv n _ _ _ _ => [n]
 | .ptv n _ _ _ _ => [n]
 termination_by structural x => x
def cH : List AV → List Nm
 | [] => []
 | a :: l => a.names ++ cH l
 termination_by structural x => x
end
def ce : aE → List Nm
 | .cells _ l => cH l
 | .iter m _ _ _ => [m]
 | .fns _ l _ => cH l
 | _ => []
def rG (objs : List (Nm × aE)) : Nat → List Nm → List Nm → List Nm
 | 0, _, seen => seen
 | _ + 1, [], seen => seen
 | f + 1, n :: work, seen => (match ig seen n with
  | true => rG objs f work seen
  | false => (match ax objs n with
   | some o => rG objs f (ce o ++ work) (n :: seen)
   | none => rG objs f work (n :: seen)))
def n7 (o : List (Nm × aE)) : List Nm → Bool
 | [] => true
 | n :: l => (match ax o n with
  | some _ => n7 o l
  | none => false)
structure ag (P : Program) (f : FuncId) (args : List AV) (os : List aE) (R : AV → List aE → Prop) : Prop where
 run : ∀ (G : Gh) (w : World) (vals : List Value), WR G (bC 0 os) w → aB G args vals →
  Calls P f vals.toArray w fun e w' => ∃ (v : Value) (r : AV) (os' : List aE) (G' : Gh), e = .returned v ∧ R r os' ∧ Rep G' r v ∧ WR G' (bC 0 os') w' ∧ G.le G' ∧
   Ext (fun b => ∃ n, G.at n b) G.K w G'.K w' ∧ (∀ n b, G'.at n b → (∃ m, G.at m b) ∨ w.heap.size ≤ b) ∧
   (∀ (i : Nat) (o : aE), os'[i]? = some o → ∀ m ∈ ce o, m < os'.length) ∧ ∀ m ∈ r.names, m < os'.length
theorem ag.mono {P : Program} {f : FuncId} {args : List AV} {os : List aE} {R R' : AV → List aE → Prop} (h : ag P f args os R) (hr : ∀ r os', R r os' → R' r os') : ag P f args os R' := ⟨fun G w vals hw ha => (h.run G w vals hw ha).mono fun e w' ⟨v, r, os', G', h1, h2, h3⟩ => ⟨v, r, os', G', h1, hr _ _ h2, h3⟩⟩
def LX : List Nat → List Nat → List Nat
 | [], l => l
 | a :: xs, l => LX xs (a :: l)
def rI : List Nat → List Nat → Bool
 | [], _ => true
 | _ :: _, [] => false
 | a :: l, b :: m => match Nat.beq a b with
  | true => rI l m
  | false => false
def zq : List Nm → List Nm → Bool
 | [], _ => true
 | n :: l, ms => match ig ms n with
  | true => zq l ms
  | false => false
def vO : List Nm → Bool
 | [] => true
 | n :: l => match ig l n with
  | true => false
  | false => vO l
def qK : List Nm → Nm → Nm
 | [], _ => 0
 | m :: ms, n => match Nat.beq m n with
  | true => 0
  | false => qK ms n + 1
mutual
def kD (r : Nm → Nm) : AV → AV
 | .ptr n o => .ptr (r n) o
 | .slm n o l c => .slm (r n) o l c
 | .mapv n => .mapv (r n)
 | .sl own s l => .sl (match own with | none => none | some n => some (r n)) s l
 | .agg l => .agg (nG r l)
 | .tup l => .tup (nG r l)
 | .fn f a b => .fn f (nG r a) (nG r b)
 | .iface t x => .iface t (kD r x)
 | .junk => .junk
 | .val v => .val v
 | .cptr c o => .cptr c o
 | .slv n s v o l => .slv (r n) s v o l
 | .ptv n s l i o => .ptv (r n) s l i o
 termination_by structural x => x
def nG (r : Nm → Nm) : List AV → List AV
 | [] => []
 | a :: l => kD r a :: nG r l
 termination_by structural x => x
end
def rD (r : Nm → Nm) : aE → aE
 | .cells t l => .cells t (nG r l)
 | .row t s n => .row t s n
 | .map es => .map es
 | .dead => .dead
 | .vec t s l v => .vec t s l v
 | .mapc es ms c => .mapc es ms c
 | .iter m ms c seen => .iter (r m) ms c seen
 | .fns t l v => .fns t (nG r l) v
def r7 (o : aE) (k : aE → Prop) : Prop :=
 match o with
 | .cells t l => dY l fun l => k (.cells t l)
 | .row t s n => k (.row t s n)
 | .map es => k (.map es)
 | .dead => k .dead
 | .vec t s l v => k (.vec t s l v)
 | .mapc es ms c => k (.mapc es ms c)
 | .iter m ms c seen => k (.iter m ms c seen)
 | .fns t l v => dY l fun l => k (.fns t l v)
theorem ij (o : aE) (k : aE → Prop) : r7 o k = k o := by cases o <;> simp [r7, co]
def nN (objs : List (Nm × aE)) (all : List Nm) : List Nm → (List aE → Prop) → Prop
 | [], k => k []
 | n :: ns, k => (match ax objs n with
  | some o => bQ (zq (ce o) all) (r7 (rD (qK all) o) fun o => nN objs all ns fun l => k (o :: l))
  | none => False)
def An : List Nat → (List Nat → Prop) → Prop
 | [], k => k []
 | a :: l, k => An l fun l' => k (a :: l')
theorem yR : ∀ (l : List Nat) (k : List Nat → Prop), An l k = k l := by
 intro l
 induction l with
 | nil => intro k; rfl
 | cons a l ih => intro k; simp [An, ih]
def yA (objs : List (Nm × aE)) (ns : List Nm) (k : List Nm → List aE → Prop) : Prop :=
 An ns fun ns => bQ (vO ns) (nN objs ns ns fun os => k ns os)
def ar (d i : Nat) : Nm := 2 * d + 200000 * (i + 1) + 65
def dI (d : Nat) : List Nm → Nat → Nat → Nm
 | [], j, i => ar d (j + i)
 | n :: _, _, 0 => n
 | _ :: ns, j, i + 1 => dI d ns j i
def lJ (r : Nm → Nm) (d : Nat) : List Nm → List aE → Nat → List (Nm × aE) → (List (Nm × aE) → Prop) → Prop
 | [], [], _, objs, k => k objs
 | _ :: _, [], _, _, _ => False
 | n :: ns, o :: os, j, objs, k => r7 (rD r o) fun o => dx objs n o fun objs => lJ r d ns os j objs k
 | [], o :: os, j, objs, k => r7 (rD r o) fun o => eK objs (ar d j) o fun objs => lJ r d [] os (j + 1) objs k
end Go.Abs
