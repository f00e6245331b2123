/- The engine, A2. -/
import Derived.Test.YtnjeogcgfoabhaaGreatE0AG
set_option linter.unusedVariables false
set_option linter.unusedSimpArgs false
namespace Go.Abs
open Go
def cE : AV → Bool
 | .junk => true
 | .val _ => true
 | .sl none _ _ => true
 | .cptr _ _ => true
 | .agg l => go l
 | .tup l => go l
 | .fn _ a b => go a && go b
 | .iface _ x => jk true x
 | _ => false
where
 go : List AV → Bool
  | [] => true
  | a :: l => match a.okCell with
   | true => go l
   | false => false
def l8 : List AV → Bool
 | [] => true
 | a :: l => match cE a with
  | true => l8 l
  | false => false
inductive GO where
 | blk (b : Nat)
 | rowv (v : Value) (top : Nat)
structure Gh where
 K : Nat → Nat → Option Value
 ob : Nm → Option GO
def DA (u : Value) (size off len : Nat) (v : Value) : Prop :=
 ∃ A L c A', u = .slice A L c ∧ off + len ≤ L ∧ L ≤ c ∧ v = .slice A' len (c - off) ∧ (off = 0 → A' = A) ∧ (len ≠ 0 → ∃ g, A = some ⟨g, 0, none⟩ ∧ A' = some ⟨g, off * size, none⟩)
mutual
def Rep (G : Gh) : AV → Value → Prop
 | .junk, _ => True
 | .val x, v => v = x
 | .agg l, v => ∃ vs : List Value, v = .agg vs.toArray ∧ aB G l vs
 | .sl own size l, v => (∃ A c, v = .slice A l.length c ∧ l.length ≤ c ∧ eh G size A 0 l) ∧
   (match own with
   | none => True
   | some n => ∃ u top, G.ob n = some (.rowv u top) ∧ l.length ≤ top ∧ (l.length = top → v = u))
 | .cptr cells off, v => ∃ b o, v = .pointer (some ⟨b, o + off, none⟩) ∧ fC G b o cells ∧ bU cells = true
 | .ptr n off, v => ∃ b, G.ob n = some (.blk b) ∧ v = .pointer (some ⟨b, off, none⟩)
 | .slm n off len cap, v => ∃ b, G.ob n = some (.blk b) ∧ v = .slice (some ⟨b, off, none⟩) len cap
 | .fn f first cap, v => ∃ vs us : List Value, v = .func f vs.toArray us.toArray ∧ aB G first vs ∧ aB G cap us
 | .iface t x, v => ∃ u, v = .iface t u ∧ Rep G x u
 | .mapv n, v => ∃ b, G.ob n = some (.blk b) ∧ v = .map (some b)
 | .tup l, v => ∃ vs : List Value, v = .tuple vs.toArray ∧ aB G l vs
 | .slv n size ver off len, v => (∃ A c, v = .slice A len c ∧ (len ≠ 0 → ∃ b o, A = some ⟨b, o, none⟩) ∧ len ≤ c) ∧ ∃ u top, G.ob n = some (.rowv u top) ∧ ver ≤ top ∧ (ver = top → DA u size off len v)
 | .ptv n size ver i off, v => (∃ p, v = .pointer (some p)) ∧ ∃ u top, G.ob n = some (.rowv u top) ∧ ver ≤ top ∧ (ver = top → ∃ g, u.ownBlock = some g ∧ v = .pointer (some ⟨g, i * size + off, none⟩))
def aB (G : Gh) : List AV → List Value → Prop
 | [], vs => vs = []
 | a :: l, vs => ∃ v us, vs = v :: us ∧ Rep G a v ∧ aB G l us
def fC (G : Gh) (b : Nat) : Nat → List AV → Prop
 | _, [] => True
 | o, a :: l => (∃ v, G.K b o = some v ∧ Rep G a v) ∧ fC G b (o + 1) l
def eh (G : Gh) (size : Nat) (A : Option Addr) : Nat → List (List AV) → Prop
 | _, [] => True
 | i, e :: l => (∃ b o, A = some ⟨b, o, none⟩ ∧ e.length = size ∧ bU e = true ∧ fC G b (o + i * size) e) ∧ eh G size A (i + 1) l
end
structure Gh.le (G G' : Gh) : Prop where
 K : ∀ b o v, G.K b o = some v → G'.K b o = some v
 blk : ∀ n b, G.ob n = some (.blk b) → G'.ob n = some (.blk b)
 row : ∀ n u t, G.ob n = some (.rowv u t) → ∃ u' t', G'.ob n = some (.rowv u' t') ∧ (t < t' ∨ (u' = u ∧ t' = t))
def fD (G : Gh) : List (ByteArray × AV) → List MapEntry → Prop
 | [], [] => True
 | e :: es, m :: ms => (m.key = .string e.1 ∧ cE e.2 = true) ∧ Rep G e.2 m.val ∧ fD G es ms
 | _, _ => False
def kQ (ms : Array MapEntry) (clock : Nat) : Prop := (ms.toList.map (·.born)).Nodup ∧ ∀ e ∈ ms.toList, e.born < clock
def j7 (ms : Array MapEntry) (i : Nat) : Nat := ((ms[i]?).map (·.born)).getD 0
def sL (G : Gh) (w : World) (n : Nm) : aF → Prop
 | .cells t l => ∃ b vs, G.ob n = some (.blk b) ∧ w.heap[b]? = some (.cells (List.toArray vs) t (0, 0)) ∧ aB G l vs ∧ ∀ o, G.K b o = none
 | .row t size top => ∃ u xs, G.ob n = some (.rowv u top) ∧ w.ownsRow 0 t size u top xs ∧ ∀ g, u.ownBlock = some g → ∀ o, G.K g o = xs[o]?
 | .map es => ∃ b ms clock, G.ob n = some (.blk b) ∧ w.heap[b]? = some (.map ms clock) ∧ fD G es ms.toList ∧ (∀ o, G.K b o = none) ∧ kQ ms clock
 | .vec t size l ver => ∃ u xs, G.ob n = some (.rowv u ver) ∧ w.ownsRow 0 t size u l.length xs ∧ aB G l.flatten xs ∧ (∀ e ∈ l, e.length = size ∧ bU e = true) ∧ ∀ g, u.ownBlock = some g → ∀ o, G.K g o = none
 | .mapc es ms clock => ∃ b, G.ob n = some (.blk b) ∧ w.heap[b]? = some (.map ms clock) ∧ fD G es ms.toList ∧ (∀ o, G.K b o = none) ∧ kQ ms clock
 | .iter m ms clock seen => ∃ b r, G.ob n = some (.blk r) ∧ G.ob m = some (.blk b) ∧ w.heap[r]? = some (.mapIter (some b) clock (seen.reverse.map (j7 ms)).toArray clock) ∧ (∀ j ∈ seen, j < ms.size) ∧ ∀ o, G.K r o = none
 | .fns t l ver => ∃ u xs, G.ob n = some (.rowv u ver) ∧ w.ownsRow 0 t 1 u l.length xs ∧ aB G l xs ∧ ∀ g, u.ownBlock = some g → ∀ o, G.K g o = none
 | .dead => (∃ g, G.ob n = some g) ∧ ∀ b, (G.ob n = some (.blk b) ∨ ∃ u t, G.ob n = some (.rowv u t) ∧ u.ownBlock = some b) → b < w.heap.size
def Gh.at (G : Gh) (n : Nm) (b : Nat) : Prop := G.ob n = some (.blk b) ∨ ∃ u t, G.ob n = some (.rowv u t) ∧ u.ownBlock = some b
structure WR (G : Gh) (objs : List (Nm × aF)) (w : World) : Prop where
 know : ∀ b o v, G.K b o = some v → w.cell? ⟨b, o, none⟩ = some v
 obj : ∀ n o, az objs n = some o → sL G w n o
 dom : ∀ n g, G.ob n = some g → ∃ o, az objs n = some o
 apart : ∀ n m b, G.at n b → G.at m b → n = m
 glob : rl G.K
structure Ext (T : Nat → Prop) (K : Nat → Nat → Option Value) (w : World) (K' : Nat → Nat → Option Value) (w' : World) : Prop where
 os : w'.os = w.os
 tape : w'.tape = w.tape
 output : w'.output = w.output
 size : w.heap.size ≤ w'.heap.size
 block : ∀ b, b < w.heap.size → ¬ T b → w'.heap[b]? = w.heap[b]?
 knew : ∀ b o, b < w.heap.size → ¬ T b → K' b o = K b o
def bE : Nat → List aF → List (Nm × aF)
 | _, [] => []
 | i, o :: os => (i, o) :: bE (i + 1) os
def oH : Nat → List Nat → List Nat
 | 0, l => l
 | n + 1, l => oH n (n :: l)
mutual
def AV.names : AV → List Nm
 | .sl own _ _ => (match own with | some n => [n] | none => [])
 | .ptr n _ => [n]
 | .slm n _ _ _ => [n]
 | .mapv n => [n]
 | .agg l => cL l
 | .tup l => cL l
 | .fn _ a b => cL a ++ cL b
 | .iface _ x => x.names
 | .junk => []
 | .val _ => []
 | .cptr _ _ => []
 | .slv n _ _ _ _ => [n]
 | .ptv n _ _ _ _ => [n]
 termination_by structural x => x
def cL : List AV → List Nm
 | [] => []
 | a :: l => a.names ++ cL l
 termination_by structural x => x
end
def ck : aF → List Nm
 | .cells _ l => cL l
 | .iter m _ _ _ => [m]
 | .fns _ l _ => cL l
 | _ => []
def rK (objs : List (Nm × aF)) : Nat → List Nm → List Nm → List Nm
 | 0, _, seen => seen
 | _ + 1, [], seen => seen
 | f + 1, n :: work, seen => (match im seen n with
  | true => rK objs f work seen
  | false => (match az objs n with
   | some o => rK objs f (ck o ++ work) (n :: seen)
   | none => rK objs f work (n :: seen)))
def og (o : List (Nm × aF)) : List Nm → Bool
 | [] => true
 | n :: l => (match az o n with
  | some _ => og o l
  | none => false)
structure ag (P : Program) (f : FuncId) (args : List AV) (os : List aF) (R : AV → List aF → Prop) : Prop where
 run : ∀ (G : Gh) (w : World) (vals : List Value), WR G (bE 0 os) w → aB G args vals →
  Calls P f vals.toArray w fun e w' => ∃ (v : Value) (r : AV) (os' : List aF) (G' : Gh), e = .returned v ∧ R r os' ∧ Rep G' r v ∧ WR G' (bE 0 os') w' ∧ G.le G' ∧
   Ext (fun b => ∃ n, G.at n b) G.K w G'.K w' ∧ (∀ n b, G'.at n b → (∃ m, G.at m b) ∨ w.heap.size ≤ b) ∧
   (∀ (i : Nat) (o : aF), os'[i]? = some o → ∀ m ∈ ck o, m < os'.length) ∧ ∀ m ∈ r.names, m < os'.length
theorem ag.mono {P : Program} {f : FuncId} {args : List AV} {os : List aF} {R R' : AV → List aF → Prop} (h : ag P f args os R) (hr : ∀ r os', R r os' → R' r os') :
  ag P f args os R' := ⟨fun G w vals hw ha => (h.run G w vals hw ha).mono fun e w' ⟨v, r, os', G', h1, h2, h3⟩ => ⟨v, r, os', G', h1, hr _ _ h2, h3⟩⟩
def LX : List Nat → List Nat → List Nat
 | [], l => l
 | a :: xs, l => LX xs (a :: l)
def rM : List Nat → List Nat → Bool
 | [], _ => true
 | _ :: _, [] => false
 | a :: l, b :: m => match Nat.beq a b with
  | true => rM l m
  | false => false
def zx : List Nm → List Nm → Bool
 | [], _ => true
 | n :: l, ms => match im ms n with
  | true => zx l ms
  | false => false
def vU : List Nm → Bool
 | [] => true
 | n :: l => match im l n with
  | true => false
  | false => vU l
def qN : List Nm → Nm → Nm
 | [], _ => 0
 | m :: ms, n => match Nat.beq m n with
  | true => 0
  | false => qN ms n + 1
mutual
def kU (r : Nm → Nm) : AV → AV
 | .ptr n o => .ptr (r n) o
 | .slm n o l c => .slm (r n) o l c
 | .mapv n => .mapv (r n)
 | .sl own s l => .sl (match own with | none => none | some n => some (r n)) s l
 | .agg l => .agg (nN r l)
 | .tup l => .tup (nN r l)
 | .fn f a b => .fn f (nN r a) (nN r b)
 | .iface t x => .iface t (kU r x)
 | .junk => .junk
 | .val v => .val v
 | .cptr c o => .cptr c o
 | .slv n s v o l => .slv (r n) s v o l
 | .ptv n s l i o => .ptv (r n) s l i o
 termination_by structural x => x
def nN (r : Nm → Nm) : List AV → List AV
 | [] => []
 | a :: l => kU r a :: nN r l
 termination_by structural x => x
end
def rH (r : Nm → Nm) : aF → aF
 | .cells t l => .cells t (nN r l)
 | .row t s n => .row t s n
 | .map es => .map es
 | .dead => .dead
 | .vec t s l v => .vec t s l v
 | .mapc es ms c => .mapc es ms c
 | .iter m ms c seen => .iter (r m) ms c seen
 | .fns t l v => .fns t (nN r l) v
def sc (o : aF) (k : aF → Prop) : Prop :=
 match o with
 | .cells t l => d9 l fun l => k (.cells t l)
 | .row t s n => k (.row t s n)
 | .map es => k (.map es)
 | .dead => k .dead
 | .vec t s l v => k (.vec t s l v)
 | .mapc es ms c => k (.mapc es ms c)
 | .iter m ms c seen => k (.iter m ms c seen)
 | .fns t l v => d9 l fun l => k (.fns t l v)
theorem iq (o : aF) (k : aF → Prop) : sc o k = k o := by cases o <;> simp [sc, cq]
def nT (objs : List (Nm × aF)) (all : List Nm) : List Nm → (List aF → Prop) → Prop
 | [], k => k []
 | n :: ns, k => (match az objs n with
  | some o => bV (zx (ck o) all) (sc (rH (qN all) o) fun o => nT objs all ns fun l => k (o :: l))
  | none => False)
def As : List Nat → (List Nat → Prop) → Prop
 | [], k => k []
 | a :: l, k => As l fun l' => k (a :: l')
theorem yW : ∀ (l : List Nat) (k : List Nat → Prop), As l k = k l := by
 intro l
 induction l with
 | nil => intro k; rfl
 | cons a l ih => intro k; simp [As, ih]
def yF (objs : List (Nm × aF)) (ns : List Nm) (k : List Nm → List aF → Prop) : Prop :=
 As ns fun ns => bV (vU ns) (nT objs ns ns fun os => k ns os)
def ax (d i : Nat) : Nm := 2 * d + 200000 * (i + 1) + 65
def dP (d : Nat) : List Nm → Nat → Nat → Nm
 | [], j, i => ax d (j + i)
 | n :: _, _, 0 => n
 | _ :: ns, j, i + 1 => dP d ns j i
def lZ (r : Nm → Nm) (d : Nat) : List Nm → List aF → Nat → List (Nm × aF) → (List (Nm × aF) → Prop) → Prop
 | [], [], _, objs, k => k objs
 | _ :: _, [], _, _, _ => False
 | n :: ns, o :: os, j, objs, k => sc (rH r o) fun o => dC objs n o fun objs => lZ r d ns os j objs k
 | [], o :: os, j, objs, k => sc (rH r o) fun o => eU objs (ax d j) o fun objs => lZ r d [] os (j + 1) objs k
end Go.Abs
