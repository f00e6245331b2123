/- The engine, BY. -/
import Derived.Test.YtnjeogcgfoabhaaGreatE0BX
import Derived.Test.YtnjeogcgfoabhaaGreatE0BI
set_option linter.unusedVariables false
set_option linter.unusedSimpArgs false
namespace Go.Abs
open Go
section
variable {P : Program} {T : Tab} {an : Ann} {ops : Array Oper} {E : dQ} {o oi : Oper}
theorem Fv {j : Nat} : ∀ {l : List Edge}, gE l j = true ↔ ∃ e ∈ l, e.on = j ∧ Region.binds .any e = true := by
 intro l
 induction l with
 | nil => simp [gE]
 | cons e l ih =>
  unfold gE
  cases hb : Nat.beq e.on j
  ·rw [gt] at hb;simp [ih, hb]
  ·have := aah hb
   cases hc : Region.binds .any e
   ·simp [ih, hc]
   ·simp [this, hc]
theorem Lh (hT : cd P T) {st : St} {G : Gh} {a : Act} {w : World} {K : St → Prop} {next : Act → World → Prop} {Q : Exit → Act → World → Prop} {i : Nat} (hi : ops[i]? = some oi) (hI : Inv E st G a w) (h : W P T an ops oi st K)
  (hn : ∀ st' G' a' w', Inv E st' G' a' w' → K st' → next a' w') {ro : Option Nat} {n : Nat} : wpOpIn (FW ro) n P ops Q i next a w := by
 unfold wpOpIn;simp only [hi];unfold W ph at h;have yes : ∀ {st : St}, Inv E st G a w → ck P T an oi st K → oi.wpIn (FW ro) n P a w next Q := fun hI h => Gn (qj h) (vM hT hI h hn);have no : ∀ {st : St}, Inv E st G a w → put st oi.dst (.val undef) K → (∀ f, oi.about P w a.eval = some f → (FW ro).fn f) ∧ next (a.put oi.dst undef) w := fun hI h => ⟨fun _ _ => trivial, jW hI (by simp only [Rep]) h hn⟩;split at h
 ·rename_i hg;have : Region.wanted oi (yielded ops a.tmps) = true := by simp [Region.wanted, hg]
  simp only [this, abq];exact yes hI h
 ·rename_i j want hg;split at h
  ·exact h.elim
  ·rename_i oj hoj;split at h
   ·exact h.elim
   ·rename_i d hd;split at h
    ·rename_i b hb;obtain ⟨h1, h2⟩ := hI.seen hb;have hy : yielded ops a.tmps j = some b := by simp [yielded, hoj, hd, h1]
     have hw : Region.wanted oi (yielded ops a.tmps) = (some b == some want) := by simp [Region.wanted, hg, hy]
     rw [hw]
     cases b <;> simp only [O2, O3, gm] at h <;> cases want
     ·simp; exact yes h2 h
     ·simp; exact no h2 h
     ·simp; exact no h2 h
     ·simp; exact yes h2 h
    ·rename_i x hb;have h1 := hI.seenT hb;have hy : yielded ops a.tmps j = none := by simp [yielded, hoj, hd, h1]
     have hw : Region.wanted oi (yielded ops a.tmps) = false := by simp [Region.wanted, hg, hy]
     rw [hw];simp;exact no hI h
    ·exact h.elim
def B9 (acc : Array Nat) (o : Oper) : Nat := o.after.foldl (fun s e => if Region.binds .any e then s ||| 2 ^ e.on ||| acc.getD e.on 0 else s) 0
theorem HM {acc : Array Nat} {o : Oper} {j : Nat} (h : (B9 acc o).testBit j = true) : ∃ e ∈ o.after, Region.binds .any e = true ∧ (e.on = j ∨ (acc.getD e.on 0).testBit j = true) := by
 have key : ∀ (l : List Edge) (s : Nat), (l.foldl (fun s e => if Region.binds .any e then s ||| 2 ^ e.on ||| acc.getD e.on 0 else s) s).testBit j = true → s.testBit j = true ∨ ∃ e ∈ l, Region.binds .any e = true ∧ (e.on = j ∨ (acc.getD e.on 0).testBit j = true) := by
  intro l
  induction l with
  | nil => intro s h; exact .inl h
  | cons e l ih =>
   intro s h;rw [aaQ] at h;rcases ih _ h with h | ⟨e', h1, h2⟩
   ·by_cases hb : Region.binds .any e = true
    ·rw [aaz hb] at h;simp only [Nat.testBit_or, Bool.or_eq_true, Nat.testBit_two_pow, aa0] at h;rcases h with (h | h) | h
     ·exact .inl h
     ·exact .inr ⟨e, by simp, hb, .inl h⟩
     ·exact .inr ⟨e, by simp, hb, .inr h⟩
    ·rw [aap hb] at h;exact .inl h
   ·exact .inr ⟨e', by simp [h1], h2⟩
 unfold B9 at h;rw [← Array.foldl_toList] at h;rcases key _ _ h with h | ⟨e, h1, h2⟩
 ·simp at h
 ·exact ⟨e, by simpa using h1, h2⟩
theorem Fj : ∀ (l : List Oper) (acc : Array Nat), ∃ r : Array Nat, l.foldl (fun acc o => acc.push (B9 acc o)) acc = r ∧ r.size = acc.size + l.length ∧ (∀ i, i < acc.size → r[i]? = acc[i]?) ∧
  ∀ i o, l[i]? = some o → ∃ pre : Array Nat, pre.size = acc.size + i ∧ (∀ m, m < pre.size → pre[m]? = r[m]?) ∧ r[acc.size + i]? = some (B9 pre o) := by
 intro l
 induction l with
 | nil => intro acc; exact ⟨acc, rfl, by simp, fun _ _ => rfl, fun i o h => by simp at h⟩
 | cons o l ih =>
  intro acc;obtain ⟨r, h1, h2, h3, h4⟩ := ih (acc.push (B9 acc o));refine ⟨r, h1, by simp at h2 ⊢; omega, fun i hi => ?_, fun i x hx => ?_⟩
  ·rw [h3 i (by simp; omega), Array.getElem?_push_lt hi, aaK hi]
  ·cases i with
   | zero =>
    simp at hx; subst hx;refine ⟨acc, by simp, fun m hm => ?_, ?_⟩
    ·rw [h3 m (by simp; omega), Array.getElem?_push_lt hm, aaK hm]
    ·rw [aa8, h3 acc.size (by simp)];simp
   | succ i =>
    obtain ⟨pre, g1, g2, g3⟩ := h4 i x (by simpa using hx);refine ⟨pre, by simp at g1; omega, g2, ?_⟩;rw [← g3];congr 1;simp; omega
theorem Fk {i j : Nat} (hi : ops[i]? = some o) (h : ((Region.before ops).getD i 0).testBit j = true) : ∃ e ∈ o.after, Region.binds .any e = true ∧ (e.on = j ∨ ((Region.before ops).getD e.on 0).testBit j = true) := by
 obtain ⟨r, h1, h2, h3, h4⟩ := Fj ops.toList #[];have hb : Region.before ops = r := by
  rw [← h1];unfold Region.before;rw [← Array.foldl_toList];rfl
 rw [hb] at h ⊢;obtain ⟨pre, g1, g2, g3⟩ := h4 i o (by simpa using hi);simp only [Array.size_empty, aaS] at g1 g3;rw [aaL, g3] at h;obtain ⟨e, e1, e2, e3⟩ := HM h;refine ⟨e, e1, e2, e3.imp id fun e3 => ?_⟩;rcases aaN e.on pre.size with hlt | hge
 ·rw [aaL, g2 _ hlt] at e3;rw [aaL]; exact e3
 ·rw [aaL, Array.getElem?_eq_none hge] at e3;simp at e3
def leftOf (n : Nat) (listed : Array Bool) : List Nat := (List.range n).filter fun i => !listed.getD i true
theorem mG (n : Nat) (listed : Array Bool) : (leftOf n listed).Pairwise (· < ·) := List.Pairwise.filter _ List.pairwise_lt_range
theorem ez {n : Nat} {listed : Array Bool} {i : Nat} : i ∈ leftOf n listed ↔ i < n ∧ listed.getD i true = false := by simp [leftOf]
theorem v7 {n : Nat} {listed : Array Bool} {i : Nat} {A B : List Nat} (hs : listed.size = n) (h : leftOf n listed = A ++ i :: B) : leftOf n (listed.setIfInBounds i true) = A ++ B := by
 have hi : i < n := (ez.1 (by rw [h]; simp)).1;have e : leftOf n (listed.setIfInBounds i true) = (leftOf n listed).filter fun j => decide (j ≠ i) := by
  unfold leftOf;rw [List.filter_filter];apply List.filter_congr;intro j hj;by_cases hji : j = i
  ·subst hji;simp [hs, hi]
  ·rw [getD_set_ne true (Ne.symm hji)];simp [hji]
 rw [e, h];have hp := mG n listed;rw [h, List.pairwise_append] at hp;obtain ⟨h1, h2, h3⟩ := hp;have hA : ∀ x ∈ A, x ≠ i := fun x hx => Nat.ne_of_lt (h3 x hx i (by simp));have hB : ∀ x ∈ B, x ≠ i := fun x hx => by
  have := (List.pairwise_cons.1 h2).1 x hx;exact fun e => by omega
 rw [List.filter_append, List.filter_cons];simp only [ne_eq, not_true, decide_false, abQ, aaW];rw [List.filter_eq_self.2 (fun x hx => by simpa using hA x hx), List.filter_eq_self.2 (fun x hx => by simpa using hB x hx)]
def A7 (ops : Array Oper) (listed : Array Bool) : Prop := ∀ (x : Nat) (ox : Oper), ops[x]? = some ox → listed.getD x true = true → ∀ e ∈ ox.after, Region.binds .any e = true → listed.getD e.on false = true
theorem xJ (hE : j7 ops = true) {listed : Array Bool} (hs : listed.size = ops.size) (hcl : A7 ops listed) : ∀ (i : Nat) (oi : Oper), ops[i]? = some oi → (∀ e ∈ oi.after, Region.binds .any e = true → listed.getD e.on false = true) →
  ∀ j, ((Region.before ops).getD i 0).testBit j = true → listed.getD j false = true := by
 intro i
 induction i using Nat.strongRecOn with
 | _ i ih =>
  intro oi hi hall j hj;obtain ⟨e, e1, e2, e3⟩ := Fk hi hj;rcases e3 with rfl | e3
  ·exact hall e e1 e2
  ·have hlt : i < ops.size := (Array.getElem?_eq_some_iff.1 hi).1;have h1 := List.all_eq_true.1 hE i (List.mem_range.2 hlt);rw [hi] at h1;have h2 := List.all_eq_true.1 h1 e (by simpa using e1);simp only [e2, Bool.not_true, abv, abP] at h2;have hl := hall e e1 e2;have h5 : e.on < listed.size := by omega
   have hl' : listed.getD e.on true = true := by
    simp only [aaL, aaK h5, abN] at hl ⊢;exact hl
   have ho : ops[e.on]? = some ops[e.on] := aaK (by omega);exact ih e.on h2 _ ho (hcl e.on _ ho hl') j e3
theorem KW {p : Nat → Bool} : ∀ {l : List Edge}, KX p l = true → ∃ e ∈ l, Region.binds .any e = true ∧ p e.on = true := by
 intro l
 induction l with
 | nil => intro h; cases h
 | cons e l ih =>
  intro h;unfold KX at h;split at h
  ·rename_i hb;split at h
   ·rename_i hp;exact ⟨e, by simp, hb, hp⟩
   ·obtain ⟨e', h1, h2⟩ := ih h;exact ⟨e', by simp [h1], h2⟩
  ·obtain ⟨e', h1, h2⟩ := ih h;exact ⟨e', by simp [h1], h2⟩
theorem C0 {listed : Array Bool} (hcl : A7 ops listed) {j : Nat} : ∀ (f i : Nat) (oi : Oper), ops[i]? = some oi → (∀ e ∈ oi.after, Region.binds .any e = true → listed.getD e.on false = true) → KN ops j f i = true → listed.getD j false = true := by
 intro f
 induction f with
 | zero => intro i oi _ _ h; cases h
 | succ f ih =>
  intro i oi hi hall h;unfold KN at h;rw [hi] at h;obtain ⟨e, e1, e2, e3⟩ := KW h;have hl := hall e (by simpa using e1) e2;split at e3
  ·rename_i hb;rw [← aah hb]; exact hl
  ·split at e3
   ·cases e3
   ·cases ho : ops[e.on]? with
    | none =>
     cases f with
     | zero => cases e3
     | succ f => unfold KN at e3; rw [ho] at e3; cases e3
    | some ox =>
     have hl' : listed.getD e.on true = true := by
      simp only [aaL] at hl ⊢
      cases hx : listed[e.on]? with
      | none => rw [hx] at hl; simp at hl
      | some v => rw [hx] at hl; simpa using hl
     exact ih e.on ox ho (hcl e.on ox ho hl') e3
theorem vZ (hE : j7 ops = true) : ∀ (listed : Array Bool), listed.size = ops.size → Region.ready .any ops listed = [] → leftOf ops.size listed = [] := by
 intro listed hs hr
 cases hl : leftOf ops.size listed with
 | nil => rfl
 | cons j R =>
  exfalso;have hj := ez.1 (show j ∈ leftOf ops.size listed by rw [hl]; simp);have hsort := mG ops.size listed;rw [hl, List.pairwise_cons] at hsort;have hready : j ∈ Region.ready .any ops listed := by
   refine mem_ready.2 ⟨hj.2, ops[j], aaK hj.1, fun e he hb => ?_⟩;have h1 := List.all_eq_true.1 hE j (List.mem_range.2 hj.1);rw [aaK hj.1] at h1;have h2 := List.all_eq_true.1 h1 e (by simpa using he);simp only [hb, Bool.not_true, abv, abP] at h2;have h3 : ¬ e.on ∈ leftOf ops.size listed := fun hm => by
    rw [hl] at hm;rcases List.mem_cons.1 hm with e1 | hm
    ·omega
    ·have := hsort.1 _ hm; omega
   have h4 : ¬ listed.getD e.on true = false := fun h => h3 (ez.2 ⟨by omega, h⟩);have h5 : e.on < listed.size := by omega
   simp only [aaL, aaK h5, abN] at h4 ⊢
   cases hv : listed[e.on] <;> simp_all
  rw [hr] at hready
  cases hready
theorem Kp {ro : Option Nat} {n : Nat} (hT : cd P T) (hD : ia ops = true) (hE : j7 ops = true) (hL : pd ops = true) {k : St → Prop} {Q : Exit → Act → World → Prop} (hn : ∀ st' G' a' w', Inv E st' G' a' w' → k st' → Q .normal a' w') : ∀ (fuel : Nat) (listed : Array Bool) {st : St} {G : Gh} {a : Act} {w : World}, listed.size = ops.size → A7 ops listed → (leftOf ops.size listed).length ≤ fuel → Inv E st G a w → c7 P T an ops [] (leftOf ops.size listed) st k → wpAnyIn (FW ro) n P .any ops Q fuel listed a w := by
 -- where nothing may come up, nothing is left
 have empty := vZ (ops := ops) hE;intro fuel
 induction fuel with
 | zero =>
  intro listed st G a w hs hcl hlen hI h;have hl : leftOf ops.size listed = [] := List.length_eq_zero_iff.1 (by omega);rw [hl] at h;refine ⟨?_, hn _ _ _ _ hI h⟩;apply List.eq_nil_iff_forall_not_mem.2;intro i hi;obtain ⟨h1, oi, h2, h3⟩ := mem_ready.1 hi;have : i ∈ leftOf ops.size listed := ez.2 ⟨(Array.getElem?_eq_some_iff.1 h2).1, h1⟩;rw [hl] at this
  cases this
 | succ fuel ih =>
  intro listed st G a w hs hcl hlen hI h;refine ⟨fun hr => ?_, fun i hi => ?_⟩
  ·rw [empty listed hs hr] at h;exact hn _ _ _ _ hI h
  ·obtain ⟨h1, oi, h2, h3⟩ := mem_ready.1 hi;have hlt : i < ops.size := (Array.getElem?_eq_some_iff.1 h2).1;have hmem : i ∈ leftOf ops.size listed := ez.2 ⟨hlt, h1⟩;obtain ⟨A, B, hAB⟩ := List.append_of_mem hmem;have hset := v7 hs hAB;rw [hAB] at h;obtain ⟨s, objs⟩ := st;have hp := mG ops.size listed;rw [hAB, List.pairwise_append] at hp;have hA : ∀ x ∈ A, ∀ ox, ops[x]? = some ox → (gE oi.after.toList x = false ∧ C7 ops i x = false) ∧ Ap ops ox oi ∧ (jB oi.op && jB ox.op) = false := by
    intro x hx ox hox;have hxi : x < i := hp.2.2 x hx i (by simp);have hna : gE oi.after.toList x = false := by
     cases hb : gE oi.after.toList x with
     | false => rfl
     | true =>
      obtain ⟨e, he, rfl, hbi⟩ := Fv.1 hb;have h4 := h3 e (by simpa using he) hbi;have hx' := (ez.1 (show e.on ∈ leftOf ops.size listed by rw [hAB]; simp [hx])).2;have h5 : e.on < listed.size := by omega
      simp only [aaL, aaK h5, abN] at h4 hx';rw [h4] at hx'; cases hx'
    have hnb : C7 ops i x = false := by
     cases hb : C7 ops i x with
     | false => rfl
     | true =>
      have h6 := C0 hcl 4 i oi h2 h3 hb;have hx' := (ez.1 (show x ∈ leftOf ops.size listed by rw [hAB]; simp [hx])).2;have h7 : x < listed.size := by omega
      simp only [aaL, aaK h7, abN] at h6 hx';rw [h6] at hx'; cases hx'
    refine ⟨⟨hna, hnb⟩, ?_⟩;have h4 := List.all_eq_true.1 (List.all_eq_true.1 hD i (List.mem_range.2 hlt)) x (List.mem_range.2 hxi);rw [h2, hox] at h4;simp only [hna, abv, aaq] at h4;refine ⟨Oper.apart_spec h4.1, ?_⟩;have h5 := List.all_eq_true.1 (List.all_eq_true.1 hL i (List.mem_range.2 hlt)) x (List.mem_range.2 hxi);rw [h2, hox, CheckFast.beforeF_eq] at h5
    cases hcl' : (jB oi.op && jB ox.op) with
    | false => rfl
    | true =>
     simp only [hcl', Bool.not_true, abv] at h5;have h6 := xJ hE hs hcl i oi h2 h3 x h5;have hx' := (ez.1 (show x ∈ leftOf ops.size listed by rw [hAB]; simp [hx])).2;have h7 : x < listed.size := by omega
     simp only [aaL, aaK h7, abN] at h6 hx';rw [h6] at hx'; cases hx'
   have h6 := TK hT h2 hA ⟨G, a, w, hI⟩ h;refine Lh hT h2 hI h6 fun st' G' a' w' hI' h' => ?_;have hcl2 : A7 ops (listed.setIfInBounds i true) := by
    intro x ox hox hx e he hb;by_cases hxi : x = i
    ·subst hxi;rw [h2] at hox
     cases hox;exact getD_set_true (h3 e he hb)
    ·rw [getD_set_ne true (Ne.symm hxi)] at hx;exact getD_set_true (hcl x ox hox hx e he hb)
   refine ih (listed.setIfInBounds i true) (by simpa using hs) hcl2 ?_ hI' (by rw [hset]; exact h');rw [hset];rw [hAB] at hlen;simp at hlen ⊢;omega
theorem Inv.drew {st : St} {G : Gh} {a : Act} {w : World} (h : Inv E st G a w) : Inv E st G a { w with drawn := w.drawn + 1 } :=
 ⟨h.slots, h.defers, ⟨h.wr.know, fun n o ho => by
  have := h.wr.obj n o ho
  cases o <;> exact this, h.wr.dom, h.wr.apart, h.wr.glob⟩, h.le, ⟨h.ext.os, h.ext.tape, h.ext.output, h.ext.size, h.ext.block, h.ext.knew⟩, h.newb⟩
theorem nQ (n : Nat) : leftOf n (Array.replicate n false) = List.range n := by
 unfold leftOf;rw [List.filter_eq_self];intro i hi;have : i < n := List.mem_range.1 hi;simp [aaL, this]
theorem tb (l : List Nat) (i : Nat) : eC l i = l.filter fun j => !(Nat.beq j i) := by
 induction l with
 | nil => rfl
 | cons j l ih =>
  unfold eC
  cases h : Nat.beq j i <;> simp [h, ih]
theorem EV {n i : Nat} {listed : Array Bool} (hs : listed.size = n) : eC (leftOf n listed) i = leftOf n (listed.setIfInBounds i true) := by
 rw [tb];unfold leftOf;rw [List.filter_filter];refine List.filter_congr fun j hj => ?_;have hjn : j < n := List.mem_range.1 hj;by_cases e : j = i
 ·subst e;have h1 : (listed.setIfInBounds j true).getD j true = true := by
   rw [aaL, Array.getElem?_setIfInBounds];simp;split <;> simp_all
  rw [h1];simp
 ·have hb : Nat.beq j i = false := by
   cases hc : Nat.beq j i
   ·rfl
   ·exact absurd (aah hc) e
  rw [hb, getD_set_ne true (Ne.symm e)];simp
theorem B4 {left : List Nat} : ∀ {l : List Edge}, (∀ e ∈ l, Region.binds .any e = true → e.on ∉ left) → iT left l = true := by
 intro l
 induction l with
 | nil => intro h; rfl
 | cons e l ih =>
  intro h;unfold iT
  cases hb : Region.binds .any e with
  | false => exact ih fun x hx => h x (aaw _ hx)
  | true =>
   have h1 := h e aa1 hb
   cases hm : ig left e.on with
   | true => exact absurd (ko.1 hm) h1
   | false => exact ih fun x hx => h x (aaw _ hx)
noncomputable def Cm (P : Program) (T : Tab) (an : Ann) (ops : Array Oper) (_ : Nat) (r : sH) : sH := fun left st k =>
 match left with
 | [] => k st
 | i :: l => sc P T an ops (i :: l) r (i :: l) st k
noncomputable def iE (P : Program) (T : Tab) (an : Ann) (ops : Array Oper) (n : Nat) : sH := Nat.rec (motive := fun _ => sH) IN (Cm P T an ops) n
theorem lc {left : List Nat} {r : sH} {st : St} {k : St → Prop} : ∀ {l : List Nat}, sc P T an ops left r l st k ↔ ∀ i ∈ l, gn ops left i = true → x5 P T an ops left r i st k := by
 intro l
 induction l with
 | nil => exact ⟨fun _ i h => (nomatch h), fun _ => trivial⟩
 | cons j l ih =>
  have e : sc P T an ops left r (j :: l) st k = Ko P T an ops left r j l (sc P T an ops left r l) st k := rfl;rw [e];unfold Ko
  cases hj : gn ops left j with
  | true =>
   simp only;rw [ih];constructor
   ·rintro ⟨h1, h2⟩ i hi hr;rcases List.mem_cons.1 hi with e | hi
    ·subst e; exact h1
    ·exact h2 i hi hr
   ·intro h;exact ⟨h j aa1 hj, fun i hi hr => h i (aaw _ hi) hr⟩
  | false =>
   simp only;rw [ih];constructor
   ·intro h i hi hr;rcases List.mem_cons.1 hi with e | hi
    ·subst e; rw [hj] at hr; cases hr
    ·exact h i hi hr
   ·intro h i hi hr;exact h i (aaw _ hi) hr
theorem jT {left : List Nat} {r : sH} {st : St} {k : St → Prop} {i : Nat} {oi : Oper} (hi : ops[i]? = some oi) : x5 P T an ops left r i st k ↔ W P T an ops oi st fun st => r (eC left i) st k := by
 unfold x5;rw [hi];simp only [zV, pE, Du];rfl
theorem lB {l : List Nat} {i j : Nat} : j ∈ eC l i ↔ j ∈ l ∧ j ≠ i := by
 rw [tb, List.mem_filter];refine and_congr Iff.rfl ?_;constructor
 ·intro h e;subst e;simp at h
 ·intro h
  cases hc : Nat.beq j i
  ·rfl
  ·exact absurd (aah hc) h
theorem CB (l : List Nat) (i j : Nat) : eC (eC l i) j = eC (eC l j) i := by
 simp only [tb, List.filter_filter];exact List.filter_congr fun x _ => Bool.and_comm _ _
theorem xt {left left' : List Nat} (h : ∀ i ∈ left', i ∈ left) : ∀ {l : List Edge}, iT left l = true → iT left' l = true := by
 intro l
 induction l with
 | nil => intro _; rfl
 | cons e l ih =>
  intro h1;unfold iT at h1 ⊢
  cases hb : Region.binds .any e with
  | false => rw [hb] at h1; exact ih h1
  | true =>
   rw [hb] at h1
   cases hm : ig left e.on with
   | true => rw [hm] at h1; cases h1
   | false =>
    rw [hm] at h1;have : ig left' e.on = false := by
     cases hm' : ig left' e.on with
     | false => rfl
     | true => rw [ko.2 (h _ (ko.1 hm'))] at hm; cases hm
    simp only [this];exact ih h1
theorem vy {left left' : List Nat} (h : ∀ i ∈ left', i ∈ left) {i : Nat} (hr : gn ops left i = true) : gn ops left' i = true := by
 unfold gn at hr ⊢
 cases ho : ops[i]? with
 | none => rw [ho] at hr; cases hr
 | some o => rw [ho] at hr; exact xt h hr
theorem pb {left : List Nat} {j : Nat} (hj : j ∈ left) : ∀ {l : List Edge}, iT left l = true → gE l j = false := by
 intro l
 induction l with
 | nil => intro _; rfl
 | cons e l ih =>
  intro h;unfold iT at h;unfold gE
  cases hb : Region.binds .any e with
  | false =>
   rw [hb] at h
   cases he : Nat.beq e.on j
   ·exact ih h
   ·exact ih h
  | true =>
   rw [hb] at h
   cases hm : ig left e.on with
   | true => rw [hm] at h; cases h
   | false =>
    rw [hm] at h
    cases he : Nat.beq e.on j with
    | false => exact ih h
    | true =>
     rw [aah he, ko.2 hj] at hm
     cases hm
theorem BQ (hD : ia ops = true) {left : List Nat} {i j : Nat} {oi oj : Oper} (hi : ops[i]? = some oi) (hj : ops[j]? = some oj) (hil : i ∈ left) (hjl : j ∈ left) (hri : gn ops left i = true) (hrj : gn ops left j = true) (hne : i ≠ j) : Ap ops oi oj := by
 have nai : gE oi.after.toList j = false := by
  unfold gn at hri;rw [hi] at hri;exact pb hjl hri
 have naj : gE oj.after.toList i = false := by
  unfold gn at hrj;rw [hj] at hrj;exact pb hil hrj
 have hli := (Array.getElem?_eq_some_iff.1 hi).1;have hlj := (Array.getElem?_eq_some_iff.1 hj).1;rcases Nat.lt_or_gt_of_ne hne with h | h
 ·have h4 := List.all_eq_true.1 (List.all_eq_true.1 hD j (List.mem_range.2 hlj)) i (List.mem_range.2 h);rw [hi, hj] at h4;simp only [naj, abv, aaq] at h4;exact Oper.apart_spec h4.1
 ·have h4 := List.all_eq_true.1 (List.all_eq_true.1 hD i (List.mem_range.2 hli)) j (List.mem_range.2 h);rw [hi, hj] at h4;simp only [nai, abv, aaq] at h4;exact Oper.apart_spec h4.2
theorem yw {s : List AV} {q : Nat} {oq : Oper} (hq : ops[q]? = some oq) (h : oX an ops s q = true) : kcls an ops oq s = .val [] := by
 unfold oX at h;rw [hq] at h;simp only at h;split at h
 ·cases h
 ·split at h
  ·rename_i r hc;split at h
   ·unfold kcls;rw [hc];split <;> rfl
   ·cases h
  ·cases h
theorem JG {s s' : List AV} {q : Nat} {oq : Oper} (hq : ops[q]? = some oq) (ha : bS ops oq s s') (h : oX an ops s q = true) : oX an ops s' q = true := by
 unfold oX at h ⊢;rw [hq] at h ⊢;simp only at h ⊢;rw [ug ha.ev];exact h
theorem Ek {oq oj : Oper} {s : List AV} {objs : List (Nm × aE)} {K : St → Prop} (hk : kcls an ops oq s = .val []) (hap : Ap ops oq oj) (h : W P T an ops oq ⟨s, objs⟩ fun st => W P T an ops oj st K) : W P T an ops oj ⟨s, objs⟩ fun st => bS ops oq s st.slots ∧ W P T an ops oq st K := by
 obtain ⟨p1, p2, p3⟩ := hap;obtain ⟨_, v, hv⟩ := zh hk h;have h5 := (hv s objs _ (bS.refl s) (fun m hm => by cases hm)).1 h;rw [uQ p1 p2] at h5;refine iO (kh h5) ?_;rintro ⟨s2, objs2⟩ ⟨g1, v2, g2⟩;simp only at g1 g2;have haa : bS ops oq s s2 := by rw [g2]; exact bS.app p3
 exact ⟨haa, (hv s2 objs2 _ haa (fun m hm => by cases hm)).2 g1⟩
theorem xy (hD : ia ops = true) {q : Nat} {oq : Oper} (hq : ops[q]? = some oq) {k : St → Prop} : ∀ (n : Nat) (left : List Nat) (s : List AV) (objs : List (Nm × aE)), q ∈ left → gn ops left q = true → oX an ops s q = true →
  W P T an ops oq ⟨s, objs⟩ (fun st => iE P T an ops n (eC left q) st k) → iE P T an ops (n + 1) left ⟨s, objs⟩ k := by
 intro n
 induction n with
 | zero =>
  intro left s objs hql hqr hqq h;have hk := yw hq hqq
  cases left with
  | nil => cases hql
  | cons i l =>
   show sc P T an ops (i :: l) (iE P T an ops 0) (i :: l) ⟨s, objs⟩ k;refine lc.2 fun j hj hr => ?_;obtain ⟨oj, hoj⟩ : ∃ oj, ops[j]? = some oj := by
    unfold gn at hr
    cases ho : ops[j]? with
    | none => rw [ho] at hr; cases hr
    | some o => exact ⟨o, rfl⟩
   by_cases hjq : j = q
   ·subst hjq;rw [hq] at hoj; cases hoj;exact (jT hq).2 h
   ·exfalso;obtain ⟨_, v, hv⟩ := zh hk h;have h5 := (hv s objs _ (bS.refl s) (fun m hm => by cases hm)).1 h;have hm : j ∈ eC (i :: l) q := lB.2 ⟨hj, hjq⟩;have h5 : IN (eC (i :: l) q) ⟨gJ oq.dst v s, objs⟩ k := h5;unfold IN at h5
    cases hl : eC (i :: l) q with
    | nil => rw [hl] at hm; cases hm
    | cons x y => rw [hl] at h5; exact h5
 | succ n ih =>
  intro left s objs hql hqr hqq h;have hk := yw hq hqq
  cases left with
  | nil => cases hql
  | cons i l =>
   show sc P T an ops (i :: l) (iE P T an ops (n + 1)) (i :: l) ⟨s, objs⟩ k;refine lc.2 fun j hj hr => ?_;obtain ⟨oj, hoj⟩ : ∃ oj, ops[j]? = some oj := by
    unfold gn at hr
    cases ho : ops[j]? with
    | none => rw [ho] at hr; cases hr
    | some o => exact ⟨o, rfl⟩
   by_cases hjq : j = q
   ·subst hjq;rw [hq] at hoj; cases hoj;exact (jT hq).2 h
   ·refine (jT hoj).2 ?_;have hsub : ∀ x ∈ eC (i :: l) q, x ∈ i :: l := fun x hx => (lB.1 hx).1;have hsub2 : ∀ x ∈ eC (i :: l) j, x ∈ i :: l := fun x hx => (lB.1 hx).1;have h2 : W P T an ops oq ⟨s, objs⟩ fun st => W P T an ops oj st fun st => iE P T an ops n (eC (eC (i :: l) q) j) st k := by
     refine iO h fun st h => ?_;have hm : j ∈ eC (i :: l) q := lB.2 ⟨hj, hjq⟩;have h : Cm P T an ops n (iE P T an ops n) (eC (i :: l) q) st k := h;unfold Cm at h
     cases hl : eC (i :: l) q with
     | nil => rw [hl] at hm; cases hm
     | cons x y =>
      rw [hl] at h;simp only at h;rw [← hl] at h ⊢;exact (jT hoj).1 (lc.1 h j hm (vy hsub hr))
    have h3 := Ek hk (BQ hD hq hoj hql hj hqr hr (Ne.symm hjq)) h2;refine iO h3 ?_;rintro ⟨s2, objs2⟩ ⟨ha, h4⟩;rw [CB] at h4;exact ih (eC (i :: l) j) s2 objs2 (lB.2 ⟨hql, Ne.symm hjq⟩) (vy hsub2 hqr) (JG hq ha hqq) h4
theorem Em {left : List Nat} {s : List AV} {q : Nat} : ∀ {l : List Nat}, Gm an ops left s l = some q → q ∈ l ∧ gn ops left q = true ∧ oX an ops s q = true := by
 intro l
 induction l with
 | nil => intro h; cases h
 | cons j l ih =>
  intro h;have h : JM an ops left s j l (Gm an ops left s l) = some q := h;unfold JM at h;split at h
  ·rename_i h1;split at h
   ·rename_i h2
    cases h;exact ⟨aa1, h1, h2⟩
   ·obtain ⟨a, b⟩ := ih h;exact ⟨aaw _ a, b⟩
  ·obtain ⟨a, b⟩ := ih h;exact ⟨aaw _ a, b⟩
theorem Cl (hD : ia ops = true) {k : St → Prop} : ∀ (n : Nat) (left : List Nat) (st : St), wW P T an ops n left st k → iE P T an ops n left st k := by
 intro n
 induction n with
 | zero => intro left st h; exact h
 | succ n ih =>
  intro left st h;obtain ⟨s, objs⟩ := st;have h : Pj P T an ops n (wW P T an ops n) left ⟨s, objs⟩ k := h;unfold Pj at h
  cases left with
  | nil => exact h
  | cons i l =>
   simp only at h
   cases hp : Gm an ops (i :: l) s (i :: l) with
   | some q =>
    rw [hp] at h;simp only at h;obtain ⟨a, b, c⟩ := Em hp;obtain ⟨oq, hoq⟩ : ∃ oq, ops[q]? = some oq := by
     unfold gn at b
     cases ho : ops[q]? with
     | none => rw [ho] at b; cases b
     | some o => exact ⟨o, rfl⟩
    refine xy hD hoq n (i :: l) s objs a b c ?_;exact iO ((jT hoq).1 h) fun st h => ih _ st h
   | none =>
    rw [hp] at h;simp only at h;show sc P T an ops (i :: l) (iE P T an ops n) (i :: l) ⟨s, objs⟩ k;refine lc.2 fun j hj hr => ?_;obtain ⟨oj, hoj⟩ : ∃ oj, ops[j]? = some oj := by
     unfold gn at hr
     cases ho : ops[j]? with
     | none => rw [ho] at hr; cases hr
     | some o => exact ⟨o, rfl⟩
    exact (jT hoj).2 (iO ((jT hoj).1 (lc.1 h j hj hr)) fun st h => ih _ st h)
theorem EZ {ro : Option Nat} {n : Nat} (hT : cd P T) (hE : j7 ops = true) {k : St → Prop} {Q : Exit → Act → World → Prop} (hn : ∀ st' G' a' w', Inv E st' G' a' w' → k st' → Q .normal a' w') : ∀ (fuel m : Nat) (listed : Array Bool) {st : St} {G : Gh} {a : Act} {w : World}, listed.size = ops.size → (leftOf ops.size listed).length ≤ fuel → Inv E st G a w → iE P T an ops m (leftOf ops.size listed) st k → wpAnyIn (FW ro) n P .any ops Q fuel listed a w := by
 have nil_k : ∀ (m : Nat) {st : St}, iE P T an ops m [] st k → k st := by
  intro m st h
  cases m with
  | zero => exact h
  | succ m => exact h
 intro fuel
 induction fuel with
 | zero =>
  intro m listed st G a w hs hlen hI h;have hl : leftOf ops.size listed = [] := List.length_eq_zero_iff.1 (by omega);rw [hl] at h;refine ⟨?_, hn _ _ _ _ hI (nil_k m h)⟩;apply List.eq_nil_iff_forall_not_mem.2;intro i hi;obtain ⟨h1, oi, h2, h3⟩ := mem_ready.1 hi;have : i ∈ leftOf ops.size listed := ez.2 ⟨(Array.getElem?_eq_some_iff.1 h2).1, h1⟩;rw [hl] at this
  cases this
 | succ fuel ih =>
  intro m listed st G a w hs hlen hI h;refine ⟨fun hr => ?_, fun i hi => ?_⟩
  ·rw [vZ hE listed hs hr] at h;exact hn _ _ _ _ hI (nil_k m h)
  ·obtain ⟨h1, oi, h2, h3⟩ := mem_ready.1 hi;have hlt : i < ops.size := (Array.getElem?_eq_some_iff.1 h2).1;have hmem : i ∈ leftOf ops.size listed := ez.2 ⟨hlt, h1⟩;have hrdy : gn ops (leftOf ops.size listed) i = true := by
    unfold gn;rw [h2];refine B4 fun e he hb hm => ?_;have h4 := h3 e (by simpa using he) hb;have hx' := (ez.1 hm).2;have h5 : e.on < listed.size := by have := (ez.1 hm).1; omega
    simp only [aaL, aaK h5, abN] at h4 hx';rw [h4] at hx'; cases hx'
   obtain ⟨A, B, hAB⟩ := List.append_of_mem hmem;have hset := v7 hs hAB;have hera := EV (i := i) hs
   cases m with
   | zero =>
    exfalso;have h : IN (leftOf ops.size listed) st k := h;unfold IN at h
    cases hl : leftOf ops.size listed with
    | nil => rw [hl] at hmem; cases hmem
    | cons x l => rw [hl] at h; exact h
   | succ m =>
    have h : Cm P T an ops m (iE P T an ops m) (leftOf ops.size listed) st k := h;have h : sc P T an ops (leftOf ops.size listed) (iE P T an ops m) (leftOf ops.size listed) st k := by
     unfold Cm at h
     cases hl : leftOf ops.size listed with
     | nil => rw [hl] at hmem; cases hmem
     | cons x l => rw [hl] at h; exact h
    have h6 := lc.1 h i hmem hrdy;unfold x5 at h6;rw [h2] at h6;simp only [zV, pE, Du] at h6;rw [hera] at h6;refine Lh hT h2 hI (K := fun st => iE P T an ops m (leftOf ops.size (listed.setIfInBounds i true)) st k) h6 fun st' G' a' w' hI' h' => ?_;refine ih m (listed.setIfInBounds i true) (by simpa using hs) ?_ hI' h';rw [hset];rw [hAB] at hlen;simp at hlen ⊢;omega
theorem EY {ro : Option Nat} {n : Nat} (hT : cd P T) (hD : ia ops = true) (hE : j7 ops = true) (hL : pd ops = true) {id : Nat} {st : St} {G : Gh} {a : Act} {w : World} {k : St → Prop} {Q : Exit → Act → World → Prop} (hI : Inv E st G a w) (h : c7 P T an ops [] (oD ops.size []) st k)
  (hn : ∀ st' G' a' w', Inv E st' G' a' w' → k st' → Q .normal a' w') : (Code.region id ops true).wpIn (FW ro) n P Q a w := by
 rw [rm] at h;exact wpIn_region_any hT.mixed (Kp hT hD hE hL hn ops.size _ (by simp) (fun x ox hox hx => by
  have : x < ops.size := (Array.getElem?_eq_some_iff.1 hox).1;simp [aaL, this] at hx) (by rw [nQ]; simp) hI.drew (by rw [nQ]; exact h))
theorem CA {ro : Option Nat} {n : Nat} (hT : cd P T) (hD : ia ops = true) (hE : j7 ops = true) {id : Nat} {st : St} {G : Gh} {a : Act} {w : World} {k : St → Prop} {Q : Exit → Act → World → Prop} (hI : Inv E st G a w) {m : Nat} (h : wW P T an ops m (oD ops.size []) st k)
  (hn : ∀ st' G' a' w', Inv E st' G' a' w' → k st' → Q .normal a' w') : (Code.region id ops true).wpIn (FW ro) n P Q a w := by
 have h := Cl hD _ _ _ h;rw [rm] at h;exact wpIn_region_any hT.mixed (EZ hT hE hn ops.size m _ (by simp) (by rw [nQ]; simp) hI.drew (by rw [nQ]; exact h))
end
end Go.Abs
