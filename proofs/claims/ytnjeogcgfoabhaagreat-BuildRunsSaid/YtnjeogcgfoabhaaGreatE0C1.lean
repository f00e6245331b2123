/- The engine, C1. -/
import Derived.Test.YtnjeogcgfoabhaaGreatE0B9
import Derived.ProofKit
import Derived.OpenShut
import Derived.ShutString
import Derived.ChangeOld
import Derived.Below
set_option linter.unusedVariables false
set_option linter.unusedSimpArgs false
namespace Go.Abs
open Go Go.RowKit Go.ChangeShapes
def mM (F : TypeId → List AV → Prop) : List TypeId → List AV → Prop
 | [], av => av = []
 | t :: ts, av => ∃ a b, av = a ++ b ∧ F t a ∧ mM F ts b
def cv (T : Tab) : Nat → TypeId → List AV → Prop
 | 0, _, _ => False
 | n + 1, t, av => (match dOf T t with
  | .bool => ∃ b, av = [.val (.bool b)]
  | .int k => ∃ x, av = [.val (.int k x)] ∧ (Lit.int k x).wf = true
  | .string => ∃ s : ByteArray, av = [.val (.string s)] ∧ s.size ≤ maxLen
  | .slice e => ∃ l : List (List AV), av = [.sl none (T.ti e).size l] ∧ l.length ≤ maxLen ∧ ∀ x ∈ l, cv T n e x
  | .struct fs => mM (cv T n) (fs.map (·.2)) av
  | .array m e => mM (cv T n) (List.replicate m e) av
  | _ => False)
def Ce (T : Tab) : List (Nat × TypeId) → Nat → Option Nat
 | [], o => some o
 | (off, t) :: fs, o => match Nat.beq off o && (T.ti t).ok with
  | true => Ce T fs (o + (T.ti t).size)
  | false => none
def iN (T : Tab) : Nat → TypeId → Bool
 | 0, _ => false
 | n + 1, t => (match dOf T t with
  | .bool => true
  | .int _ => true
  | .string => true
  | .slice e => ((T.ti e).ok && Nat.blt 0 (T.ti e).size) && iN T n e
  | .struct fs => (Ce T fs 0 == some (T.ti t).size) && fs.all fun f => iN T n f.2
  | .array m e => (T.ti e).ok && Nat.beq (m * (T.ti e).size) (T.ti t).size && iN T n e
  | _ => false)
def G0 (w : World) : Gh := ⟨fun b o => w.cell? ⟨b, o, none⟩, fun _ => none⟩
theorem Te (w : World) (hg : rh (G0 w).K) : WR (G0 w) (bC 0 []) w :=
 ⟨fun b o v h => h, fun n o e => (by cases e), fun n g e => (by cases e), fun n m b h1 h2 => (by
  rcases h1 with h1 | ⟨_, _, h1, _⟩ <;> cases h1), hg⟩
section
variable {H : Type} {enc : TypeId × Value → H} {P : Program} {T : Tab} {w : World} {base : Nat} {spare : Nat → Bool} {held : Bool}
theorem lH {i : TypeInfo} {t : TypeId} (h : P.info? t = some i) : P.cellsOf t = i.size := by simp [Program.cellsOf, h]
theorem Hz (hT : cd P T) {n : Nat} {G : Gh} : ∀ (fs : List (Nat × TypeId)) (o e : Nat) (cs : List Value), Ce T fs o = some e → cs.length = e →
  (∀ f ∈ fs, ∃ av, aB G av ((cs.drop f.1).take (T.ti f.2).size) ∧ cv T n f.2 av ∧ bP av = true) →
  o ≤ e ∧ ∃ av, aB G av (cs.drop o) ∧ mM (cv T n) (fs.map (·.2)) av ∧ bP av = true := by
 intro fs
 induction fs with
 | nil =>
  intro o e cs h hl hp;simp only [Ce, Option.some.injEq] at h;subst h;refine ⟨aar _, [], ?_, rfl, rfl⟩;rw [aay (by omega)];simp [aB]
 | cons f fs ih =>
  obtain ⟨off, t⟩ := f;intro o e cs h hl hp;simp only [Ce] at h;split at h
  ·rename_i hb;simp only [aaq] at hb;obtain rfl := aah hb.1;obtain ⟨hle, av2, h1, h2, h3⟩ := ih _ _ cs h hl (fun f hf => hp f (by simp [hf]));obtain ⟨av1, g1, g2, g3⟩ := hp (off, t) (by simp);refine ⟨by omega, av1 ++ av2, ?_, ⟨av1, av2, rfl, g2, h2⟩, ?_⟩
   ·have : cs.drop off = (cs.drop off).take (T.ti t).size ++ cs.drop (off + (T.ti t).size) := by
     rw [← List.drop_drop, abm]
    rw [this];exact g1.append h1
   ·rw [fJ] at g3 h3 ⊢;intro x hx;rcases List.mem_append.1 hx with hx | hx
    ·exact g3 x hx
    ·exact h3 x hx
  ·cases h
theorem Hp (hT : cd P T) {n : Nat} {G : Gh} {t : TypeId} (sz : Nat) : ∀ (m o : Nat) (cs : List Value), cs.length = o + m * sz →
  (∀ i, i < m → ∃ av, aB G av ((cs.drop (o + i * sz)).take sz) ∧ cv T n t av ∧ bP av = true) →
  ∃ av, aB G av (cs.drop o) ∧ mM (cv T n) (List.replicate m t) av ∧ bP av = true := by
 intro m
 induction m with
 | zero =>
  intro o cs hl hp;refine ⟨[], ?_, rfl, rfl⟩;rw [aay (by omega)];simp [aB]
 | succ m ih =>
  intro o cs hl hp;obtain ⟨av2, h1, h2, h3⟩ := ih (o + sz) cs (by rw [Nat.succ_mul] at hl; omega) (fun i hi => by
   have := hp (i + 1) (by omega);rwa [show o + (i + 1) * sz = o + sz + i * sz by rw [Nat.succ_mul]; omega] at this)
  obtain ⟨av1, g1, g2, g3⟩ := hp 0 (by omega);refine ⟨av1 ++ av2, ?_, ⟨av1, av2, rfl, g2, h2⟩, ?_⟩
  ·have : cs.drop o = (cs.drop o).take sz ++ cs.drop (o + sz) := by
    rw [← List.drop_drop, abm]
   rw [this];exact aB.append (by simpa using g1) h1
  ·rw [fJ] at g3 h3 ⊢;intro x hx;rcases List.mem_append.1 hx with hx | hx
   ·exact g3 x hx
   ·exact h3 x hx
theorem xl {b o : Nat} {av : List AV} {cs : List Value} (h : aB (G0 w) av cs) (hc : ∀ j v, cs[j]? = some v → w.cell? ⟨b, o + j, none⟩ = some v) : fv (G0 w) b o av :=
 fv.of_vals h hc
theorem DK (hT : cd P T) : ∀ (n : Nat) (t : TypeId), iN T n t = true → ∀ {fuel : Nat} {cs : List Value} {x : DataW H × List MemPlace}, DataW.trod enc P w base spare held fuel t cs = some x →
  ∃ av, aB (G0 w) av cs ∧ cv T n t av ∧ bP av = true := by
 intro n
 induction n with
 | zero => intro t h; simp [iN] at h
 | succ n ih =>
  intro t hd fuel cs x h;simp only [iN] at hd;have hne : dOf T t ≠ .other := by intro e; rw [e] at hd; simp at hd
  obtain ⟨i, d, hi, hu, hsz, _, htd, _, _⟩ := fc hT hne;simp only [cv];split at hd
  ·rename_i e;rw [htd] at e;obtain rfl := uR e;obtain ⟨b, rfl, _⟩ := DataW.trod_bool hu h;exact ⟨[.val (.bool b)], by simp [aB, Rep], ⟨b, rfl⟩, rfl⟩
  ·rename_i k e;rw [htd] at e;obtain rfl := mN e;obtain ⟨b, rfl, _, hw⟩ := DataW.trod_int hu h;exact ⟨[.val (.int k b)], by simp [aB, Rep], ⟨b, rfl, hw⟩, rfl⟩
  ·rename_i e;rw [htd] at e;obtain rfl := dP e;obtain ⟨b, rfl, _, hw⟩ := DataW.trod_string hu h;exact ⟨[.val (.string b)], by simp [aB, Rep], ⟨b, rfl, hw⟩, rfl⟩
  ·rename_i e he;rw [htd] at he;obtain rfl := dc he;simp only [aaq, abP] at hd;obtain ⟨ie, de, hie, _, hsze, _⟩ := bN hT hd.1.1;have hce : P.cellsOf e = (T.ti e).size := by rw [lH hie, hsze]
   rcases DataW.trod_slice hu h with ⟨rfl, _⟩ | ⟨a, len, cap, elems, rest, m, rfl, rfl, _, hb, hl, hc, hel, hg, _⟩
   ·refine ⟨[.sl none (T.ti e).size []], ?_, ⟨[], rfl, by simp, by simp⟩, rfl⟩;simp only [aB, Rep];exact ⟨_, _, rfl, ⟨⟨none, 0, rfl, by simp, by simp [d7]⟩, trivial⟩, rfl⟩
   ·have hsp0 : 0 < len → a.spot = none := by
     intro h0;have h1 := hg 0 h0;rw [aad (by omega)] at h1;obtain ⟨cs', h2, h3⟩ := Option.bind_eq_some_iff.1 h1;obtain ⟨_, g4, g5⟩ := World.cells?_some h2;rw [hce] at g4 g5;have := g5 0 hd.1.2;rw [aad (by rw [g4]; exact hd.1.2)] at this;have := World.cell?_spot this;simpa [Addr.add] using this
    have key : ∀ i, i < len → ∃ av : List AV, a.spot = none ∧ av.length = (T.ti e).size ∧ bP av = true ∧ fv (G0 w) a.block (a.off + i * (T.ti e).size) av ∧ cv T n e av := by
     intro i hi;have h1 := hg i hi;rw [aad (by omega)] at h1;obtain ⟨cs', h2, h3⟩ := Option.bind_eq_some_iff.1 h1;obtain ⟨av, g1, g2, g3⟩ := ih e hd.2 h3;obtain ⟨_, g4, g5⟩ := World.cells?_some h2;rw [hce] at g4 g5;have hsp : a.spot = none := hsp0 (by omega);refine ⟨av, hsp, by rw [← g1.length, g4], g3, ?_, g2⟩;refine xl g1 fun j v hj => ?_;have hj' : j < (T.ti e).size := by
      rw [← g4];exact (List.getElem?_eq_some_iff.1 hj).1
     have := g5 j hj';rw [hj] at this;rw [← this];congr 1;obtain ⟨b, o, s⟩ := a;simp only at hsp;subst hsp;simp only [Addr.add];split <;> split <;> simp_all <;> omega
    have hsp : len = 0 ∨ a.spot = none := by
     rcases Nat.eq_zero_or_pos len with h0 | h0
     ·exact .inl h0
     ·exact .inr (key 0 h0).choose_spec.1
    let l : List (List AV) := (List.range len).map fun i => if hi : i < len then (key i hi).choose else []
    have hll : l.length = len := by simp [l]
    have hget : ∀ i x, l[i]? = some x → ∃ hi : i < len, x = (key i hi).choose := by
     intro i x hx;obtain ⟨hi, rfl⟩ := List.getElem?_eq_some_iff.1 hx;have hi' : i < len := by rwa [hll] at hi
     exact ⟨hi', by simp [l, hi']⟩
    refine ⟨[.sl none (T.ti e).size l], ?_, ⟨l, rfl, by omega, ?_⟩, rfl⟩
    ·simp only [aB, Rep];refine ⟨_, _, rfl, ⟨⟨some a, cap, by rw [hll], by omega, d7.of_get fun i x hx => ?_⟩, trivial⟩, rfl⟩;obtain ⟨hi, rfl⟩ := hget i x hx;have hk := (key i hi).choose_spec;refine ⟨a.block, a.off, ?_, hk.2.1, hk.2.2.1, ?_⟩
     ·have := hk.1;obtain ⟨b, o, s⟩ := a;simp only at this ⊢;rw [this]
     ·have := hk.2.2.2.1;rwa [aaS]
    ·intro x hx;obtain ⟨i, hi, rfl⟩ := abc hx;obtain ⟨hi', e⟩ := hget i _ (aad hi);rw [e];exact (key i hi').choose_spec.2.2.2.2
  ·rename_i fs he;rw [htd] at he;obtain ⟨fa, rfl, rfl⟩ := nu he;simp only [aaq, beq_iff_eq, List.all_eq_true] at hd;obtain ⟨xs, m, rfl, _, hlen, _, hg⟩ := DataW.trod_struct hu h;rw [lH hi, ← hsz] at hlen;refine Exists.elim (Hz (n := n) (G := G0 w) hT _ 0 _ cs hd.1 hlen (fun f hf => ?_)).2 (fun av hav => ⟨av, by simpa using hav⟩)
   ·obtain ⟨j, hj, rfl⟩ := abc hf;simp only [abg, abM] at hj;have h1 := hg j fa[j] (by simp [hj]);have hdf := hd.2 _ hf;have hne : dOf T (fa[j]).type ≠ .other := by
     intro e;simp only [abD, Array.getElem_toList] at hdf
     cases n with
     | zero => simp [iN] at hdf
     | succ n => simp [iN, e] at hdf
    obtain ⟨i2, d2, hi2, _, hsz2, _⟩ := fc hT hne;rw [aad (by omega), lH hi2, ← hsz2] at h1;have hdf' : iN T n fa[j].type = true := by simpa using hdf
    simpa using ih _ hdf' h1
  ·rename_i m e he;rw [htd] at he;obtain rfl := nv he;simp only [aaq] at hd;obtain ⟨ie, de, hie, _, hsze, _⟩ := bN hT hd.1.1;have hce : P.cellsOf e = (T.ti e).size := by rw [lH hie, hsze]
   obtain ⟨xs, m', rfl, _, hlen, hxs, hg⟩ := DataW.trod_array hu h;rw [lH hi, ← hsz, ← aah hd.1.2] at hlen;rw [hce] at hg;have := Hp hT (n := n) (G := G0 w) (t := e) (T.ti e).size m 0 cs (by simpa using hlen) (fun i hi => by
    have h1 := hg i hi;rw [aad (by omega)] at h1;simpa using ih e hd.2 h1)
   simpa using this
  ·cases hd
def Arg (T : Tab) (n : Nat) (t : TypeId) (a : AV) : Prop :=
 match (T.ti t).agg with
 | true => ∃ l, a = .agg l ∧ cv T n t l
 | false => cv T n t [a]
def fO (T : Tab) (n : Nat) : List TypeId → List AV → Prop
 | [], l => l = []
 | t :: ts, l => ∃ a l', l = a :: l' ∧ Arg T n t a ∧ fO T n ts l'
theorem Jg (hT : cd P T) {n : Nat} {t : TypeId} (hd : iN T n t = true) {v : Value} {d : DataW H} {ps : List MemPlace} (h : DataW.Trod enc P w base spare held t v d ps)
  {r : Reach} {b0 : Nat} (hv : Value.okWide P w r b0 t v) : ∃ a, Rep (G0 w) a v ∧ Arg T n t a := by
 obtain ⟨fuel, h⟩ := h;obtain ⟨av, h1, h2, h3⟩ := DK hT n t hd h;have hne : dOf T t ≠ .other := by
  intro e
  cases n with
  | zero => simp [iN] at hd
  | succ n => simp [iN, e] at hd
 obtain ⟨i, d', hi, hu, hsz, _, htd, hag, _⟩ := fc hT hne;have single : (∀ l, v ≠ .agg l) → (∃ a, av = [a]) → (T.ti t).agg = false → ∃ a, Rep (G0 w) a v ∧ Arg T n t a := by
  rintro hna ⟨a, rfl⟩ hg;refine ⟨a, ?_, by unfold Arg; rw [hg]; exact h2⟩;have hc : v.cells.toList = [v] := by
   cases v <;> first | rfl | exact absurd rfl (hna _)
  rw [hc] at h1;simp only [aB] at h1;obtain ⟨v', us, e, h1, rfl⟩ := h1;simp only [List.cons.injEq, and_true] at e;subst e;exact h1
 have agg : (∃ cs, v = .agg cs) → (T.ti t).agg = true → ∃ a, Rep (G0 w) a v ∧ Arg T n t a := by
  rintro ⟨cs, rfl⟩ hg;refine ⟨.agg av, ?_, by unfold Arg; rw [hg]; exact ⟨av, rfl, h2⟩⟩;simp only [Rep];exact ⟨cs.toList, by simp, h1⟩
 cases n with
 | zero => simp [iN] at hd
 | succ n =>
  simp only [cv] at h2;simp only [iN] at hd;unfold Value.okWide at hv;rw [hu] at hv;rw [htd] at h2 hd;have na : ∀ l, Cell.okWide P w r b0 t (.agg l) → qJ d' = false → TD.of d' ≠ .other → False := by
   intro l h ha ho;unfold Cell.okWide Cell.ok at h;rw [hu] at h
   revert h
   cases d' <;> simp_all [qJ, TD.of]
  split at hd
  ·rename_i e;obtain rfl := uR e;refine single (fun l e => ?_) ?_ hag
   ·subst e; exact na l hv rfl (by simp [TD.of])
   ·obtain ⟨b, rfl⟩ := h2; exact ⟨_, rfl⟩
  ·rename_i k e;obtain rfl := mN e;refine single (fun l e => ?_) ?_ hag
   ·subst e; exact na l hv rfl (by simp [TD.of])
   ·obtain ⟨b, rfl, _⟩ := h2; exact ⟨_, rfl⟩
  ·rename_i e;obtain rfl := dP e;refine single (fun l e => ?_) ?_ hag
   ·subst e; exact na l hv rfl (by simp [TD.of])
   ·obtain ⟨b, rfl, _⟩ := h2; exact ⟨_, rfl⟩
  ·rename_i e he;obtain rfl := dc he;refine single (fun l e => ?_) ?_ hag
   ·subst e; exact na l hv rfl (by simp [TD.of])
   ·obtain ⟨l, rfl, _⟩ := h2; exact ⟨_, rfl⟩
  ·rename_i fs he;obtain ⟨fa, rfl, rfl⟩ := nu he;obtain ⟨cs, rfl, _⟩ := hv;exact agg ⟨cs, rfl⟩ hag
  ·rename_i m e he;obtain rfl := nv he;obtain ⟨cs, rfl, _⟩ := hv;exact agg ⟨cs, rfl⟩ hag
  ·cases hd
theorem zo (hT : cd P T) {n : Nat} {r : Reach} {b0 : Nat} : ∀ (ts : List TypeId) (vs : List Value) (ds : List (DataW H)) (ps : List MemPlace), (∀ t ∈ ts, iN T n t = true) → DataW.TrodAll enc P w base spare held ts vs ds ps →
  (∀ (j : Nat) t v, ts[j]? = some t → vs[j]? = some v → Value.okWide P w r b0 t v) → ∃ l, aB (G0 w) l vs ∧ fO T n ts l ∧ ds.length = ts.length := by
 intro ts
 induction ts with
 | nil =>
  intro vs ds ps _ h _;obtain ⟨rfl, rfl, rfl⟩ := trodAll_nil h;exact ⟨[], by simp [aB], rfl, rfl⟩
 | cons t ts ih =>
  intro vs ds ps hd h hv;obtain ⟨v, vs, d, ds, p, q, rfl, rfl, rfl, h0, h1⟩ := trodAll_cons h;obtain ⟨a, g1, g2⟩ := Jg hT (hd t (by simp)) h0 (hv 0 t v rfl rfl);obtain ⟨l, g3, g4, g5⟩ := ih vs ds q (fun t ht => hd t (by simp [ht])) h1 (fun j t v ht hw => hv (j + 1) t v (by simpa using ht) (by simpa using hw));exact ⟨a :: l, by simp only [aB]; exact ⟨v, vs, rfl, g1, g3⟩, ⟨a, l, rfl, g2, g4⟩, by simp [g5]⟩
theorem calls_of_acalls (hT : cd P T) {f : FuncId} {n : Nat} {r : Reach} {b0 : Nat} {ts : List TypeId} {vs : Array Value} {ds : List (DataW H)} {ps : List MemPlace} (hd : ts.all (iN T n) = true)
  (hA : DataW.TrodAll enc P w base spare held ts vs.toList ds ps) (hv : ∀ (j : Nat) t v, ts[j]? = some t → vs.toList[j]? = some v → Value.okWide P w r b0 t v)
  (h : ∀ l, fO T n ts l → ag P f l [] fun r _ => r = .val (.bool true)) (hg : rh (G0 w).K) : Calls P f vs w fun e w' => e = .returned (.bool true) ∧ Below w.heap.size w w' := by
 obtain ⟨l, h1, h2, _⟩ := zo hT ts vs.toList ds ps (fun t ht => List.all_eq_true.1 hd t ht) hA hv;have := h l h2;have := this.run (G0 w) w vs.toList (Te w hg) h1;refine (show Calls P f vs.toList.toArray w _ from this).mono ?_;rintro e w' ⟨v, r, os', G', rfl, rfl, h3, _, _, h4, _⟩;simp only [Rep] at h3;subst h3;exact ⟨rfl, ⟨h4.os, h4.tape, h4.output, h4.size, fun k hk => h4.block k hk (by rintro ⟨n, h5 | ⟨_, _, h5, _⟩⟩ <;> cases h5)⟩⟩
theorem trodAll_stay (hl : laidOutB P = true) {W W' : World} (hb : Below W.heap.size W W') : ∀ (ts : List TypeId) (vs : List Value) (ds : List (DataW H)) (ps : List MemPlace), (ts.all fun t => P.readableRec t && decide (t < P.types.size)) = true →
  DataW.TrodAll enc P W 0 (fun _ => true) true ts vs ds ps → DataW.TrodAll enc P W' 0 (fun b => decide (b < W.heap.size)) true ts vs ds ps := by
 intro ts
 induction ts with
 | nil =>
  intro vs ds ps _ h;obtain ⟨rfl, rfl, rfl⟩ := trodAll_nil h;exact trodAll_mk0
 | cons t ts ih =>
  intro vs ds ps hr h;simp only [List.all_cons, aaq, aa0] at hr;obtain ⟨v, vs, d, ds, p, q, rfl, rfl, rfl, h0, h1⟩ := trodAll_cons h;have hlt : ∀ x ∈ p, x.block < W.heap.size := by obtain ⟨m, hm⟩ := h0; exact DataW.trod_lt m _ _ _ hm
  exact ⟨p, q, Below.trod hl hr.1.1 hr.1.2 h0 hb hlt, ih vs ds q (by simpa using hr.2) h1, rfl⟩
end
end Go.Abs
