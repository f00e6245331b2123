/- The engine, part 18j: regions that draw their order are sound. -/
import Derived.Test.YthgjcmfbfigpbaaDoorBX
import Derived.Test.YthgjcmfbfigpbaaDoorBI
set_option linter.unusedVariables false
set_option linter.unusedSimpArgs false
namespace Go.Abs
open Go

section
variable {P : Program} {T : Tab} {an : Ann} {ops : Array Oper} {E : Entry} {o oi : Oper}

theorem afterN_iff {j : Nat} : ∀ {l : List Edge}, afterN l j = true ↔ ∃ e ∈ l, e.on = j ∧ Region.binds .any e = true := by
  intro l
  induction l with
  | nil => simp [afterN]
  | cons e l ih =>
    unfold afterN
    cases hb : Nat.beq e.on j
    · rw [nbeq_false] at hb
      simp [ih, hb]
    · have := Nat.eq_of_beq_eq_true hb
      cases hc : Region.binds .any e
      · simp [ih, hc]
      · simp [this, hc]

theorem W_wpOp (hT : TabOk P T) {st : St} {G : Gh} {a : Act} {w : World} {K : St → Prop} {next : Act → World → Prop} {Q : Exit → Act → World → Prop} {i : Nat} (hi : ops[i]? = some oi) (hI : Inv E st G a w) (h : W P T an ops oi st K)
    (hn : ∀ st' G' a' w', Inv E st' G' a' w' → K st' → next a' w') {ro : Option Nat} {n : Nat} : wpOpIn (FW ro) n P ops Q i next a w := by
  unfold wpOpIn
  simp only [hi]
  unfold W guardK at h
  have yes : ∀ {st : St}, Inv E st G a w → awpOp P T an oi st K → oi.wpIn (FW ro) n P a w next Q := fun hI h => oper_in (awpOp_nodefer h) (op_sound hT hI h hn)
  have no : ∀ {st : St}, Inv E st G a w → put st oi.dst (.val undef) K → (∀ f, oi.about P w a.eval = some f → (FW ro).fn f) ∧ next (a.put oi.dst undef) w := fun hI h => ⟨fun _ _ => trivial, put_sound hI (by simp only [Rep]) h hn⟩
  split at h
  · rename_i hg
    have : Region.wanted oi (yielded ops a.tmps) = true := by simp [Region.wanted, hg]
    simp only [this, if_true]
    exact yes hI h
  · rename_i j want hg
    split at h
    · exact h.elim
    · rename_i oj hoj
      split at h
      · exact h.elim
      · rename_i d hd
        split at h
        · rename_i b hb
          obtain ⟨h1, h2⟩ := hI.seen hb
          have hy : yielded ops a.tmps j = some b := by simp [yielded, hoj, hd, h1]
          have hw : Region.wanted oi (yielded ops a.tmps) = (some b == some want) := by simp [Region.wanted, hg, hy]
          rw [hw]
          cases b <;> simp only [br_t, br_f, setK_eq] at h <;> cases want
          · simp; exact yes h2 h
          · simp; exact no h2 h
          · simp; exact no h2 h
          · simp; exact yes h2 h
        · rename_i x hb
          have h1 := hI.seenT hb
          have hy : yielded ops a.tmps j = none := by simp [yielded, hoj, hd, h1]
          have hw : Region.wanted oi (yielded ops a.tmps) = false := by simp [Region.wanted, hg, hy]
          rw [hw]
          simp
          exact no hI h
        · exact h.elim

/-! ### the order of loud operations -/
def maskF (acc : Array Nat) (o : Oper) : Nat := o.after.foldl (fun s e => if Region.binds .any e then s ||| 2 ^ e.on ||| acc.getD e.on 0 else s) 0

theorem maskF_bit {acc : Array Nat} {o : Oper} {j : Nat} (h : (maskF acc o).testBit j = true) : ∃ e ∈ o.after, Region.binds .any e = true ∧ (e.on = j ∨ (acc.getD e.on 0).testBit j = true) := by
  have key : ∀ (l : List Edge) (s : Nat), (l.foldl (fun s e => if Region.binds .any e then s ||| 2 ^ e.on ||| acc.getD e.on 0 else s) s).testBit j = true → s.testBit j = true ∨ ∃ e ∈ l, Region.binds .any e = true ∧ (e.on = j ∨ (acc.getD e.on 0).testBit j = true) := by
    intro l
    induction l with
    | nil => intro s h; exact .inl h
    | cons e l ih =>
      intro s h
      rw [List.foldl_cons] at h
      rcases ih _ h with h | ⟨e', h1, h2⟩
      · by_cases hb : Region.binds .any e = true
        · rw [if_pos hb] at h
          simp only [Nat.testBit_or, Bool.or_eq_true, Nat.testBit_two_pow, decide_eq_true_eq] at h
          rcases h with (h | h) | h
          · exact .inl h
          · exact .inr ⟨e, by simp, hb, .inl h⟩
          · exact .inr ⟨e, by simp, hb, .inr h⟩
        · rw [if_neg hb] at h
          exact .inl h
      · exact .inr ⟨e', by simp [h1], h2⟩
  unfold maskF at h
  rw [← Array.foldl_toList] at h
  rcases key _ _ h with h | ⟨e, h1, h2⟩
  · simp at h
  · exact ⟨e, by simpa using h1, h2⟩

theorem before_get : ∀ (l : List Oper) (acc : Array Nat), ∃ r : Array Nat, l.foldl (fun acc o => acc.push (maskF acc o)) acc = r ∧ r.size = acc.size + l.length ∧ (∀ i, i < acc.size → r[i]? = acc[i]?) ∧
    ∀ i o, l[i]? = some o → ∃ pre : Array Nat, pre.size = acc.size + i ∧ (∀ m, m < pre.size → pre[m]? = r[m]?) ∧ r[acc.size + i]? = some (maskF pre o) := by
  intro l
  induction l with
  | nil => intro acc; exact ⟨acc, rfl, by simp, fun _ _ => rfl, fun i o h => by simp at h⟩
  | cons o l ih =>
    intro acc
    obtain ⟨r, h1, h2, h3, h4⟩ := ih (acc.push (maskF acc o))
    refine ⟨r, h1, by simp at h2 ⊢; omega, fun i hi => ?_, fun i x hx => ?_⟩
    · rw [h3 i (by simp; omega), Array.getElem?_push_lt hi, Array.getElem?_eq_getElem hi]
    · cases i with
      | zero =>
        simp at hx; subst hx
        refine ⟨acc, by simp, fun m hm => ?_, ?_⟩
        · rw [h3 m (by simp; omega), Array.getElem?_push_lt hm, Array.getElem?_eq_getElem hm]
        · rw [Nat.add_zero, h3 acc.size (by simp)]
          simp
      | succ i =>
        obtain ⟨pre, g1, g2, g3⟩ := h4 i x (by simpa using hx)
        refine ⟨pre, by simp at g1; omega, g2, ?_⟩
        rw [← g3]
        congr 1
        simp; omega

theorem before_bit {i j : Nat} (hi : ops[i]? = some o) (h : ((Region.before ops).getD i 0).testBit j = true) : ∃ e ∈ o.after, Region.binds .any e = true ∧ (e.on = j ∨ ((Region.before ops).getD e.on 0).testBit j = true) := by
  obtain ⟨r, h1, h2, h3, h4⟩ := before_get ops.toList #[]
  have hb : Region.before ops = r := by
    rw [← h1]
    unfold Region.before
    rw [← Array.foldl_toList]
    rfl
  rw [hb] at h ⊢
  obtain ⟨pre, g1, g2, g3⟩ := h4 i o (by simpa using hi)
  simp only [Array.size_empty, Nat.zero_add] at g1 g3
  rw [Array.getD_eq_getD_getElem?, g3] at h
  obtain ⟨e, e1, e2, e3⟩ := maskF_bit h
  refine ⟨e, e1, e2, e3.imp id fun e3 => ?_⟩
  rcases Nat.lt_or_ge e.on pre.size with hlt | hge
  · rw [Array.getD_eq_getD_getElem?, g2 _ hlt] at e3
    rw [Array.getD_eq_getD_getElem?]; exact e3
  · rw [Array.getD_eq_getD_getElem?, Array.getElem?_eq_none hge] at e3
    simp at e3

/-- What has not come up yet. -/
def leftOf (n : Nat) (listed : Array Bool) : List Nat := (List.range n).filter fun i => !listed.getD i true

theorem leftOf_sorted (n : Nat) (listed : Array Bool) : (leftOf n listed).Pairwise (· < ·) := List.Pairwise.filter _ List.pairwise_lt_range
theorem mem_leftOf {n : Nat} {listed : Array Bool} {i : Nat} : i ∈ leftOf n listed ↔ i < n ∧ listed.getD i true = false := by simp [leftOf]
theorem leftOf_set {n : Nat} {listed : Array Bool} {i : Nat} {A B : List Nat} (hs : listed.size = n) (h : leftOf n listed = A ++ i :: B) : leftOf n (listed.setIfInBounds i true) = A ++ B := by
  have hi : i < n := (mem_leftOf.1 (by rw [h]; simp)).1
  have e : leftOf n (listed.setIfInBounds i true) = (leftOf n listed).filter fun j => decide (j ≠ i) := by
    unfold leftOf
    rw [List.filter_filter]
    apply List.filter_congr
    intro j hj
    by_cases hji : j = i
    · subst hji
      simp [hs, hi]
    · rw [getD_set_ne true (Ne.symm hji)]
      simp [hji]
  rw [e, h]
  have hp := leftOf_sorted n listed
  rw [h, List.pairwise_append] at hp
  obtain ⟨h1, h2, h3⟩ := hp
  have hA : ∀ x ∈ A, x ≠ i := fun x hx => Nat.ne_of_lt (h3 x hx i (by simp))
  have hB : ∀ x ∈ B, x ≠ i := fun x hx => by
    have := (List.pairwise_cons.1 h2).1 x hx
    exact fun e => by omega
  rw [List.filter_append, List.filter_cons]
  simp only [ne_eq, not_true, decide_false, Bool.false_eq_true, if_false]
  rw [List.filter_eq_self.2 (fun x hx => by simpa using hA x hx), List.filter_eq_self.2 (fun x hx => by simpa using hB x hx)]

/-- What has come up, and all that it waited for. -/
def Closed (ops : Array Oper) (listed : Array Bool) : Prop := ∀ (x : Nat) (ox : Oper), ops[x]? = some ox → listed.getD x true = true → ∀ e ∈ ox.after, Region.binds .any e = true → listed.getD e.on false = true

theorem closed_before (hE : edgesBack ops = true) {listed : Array Bool} (hs : listed.size = ops.size) (hcl : Closed ops listed) : ∀ (i : Nat) (oi : Oper), ops[i]? = some oi → (∀ e ∈ oi.after, Region.binds .any e = true → listed.getD e.on false = true) →
    ∀ j, ((Region.before ops).getD i 0).testBit j = true → listed.getD j false = true := by
  intro i
  induction i using Nat.strongRecOn with
  | _ i ih =>
    intro oi hi hall j hj
    obtain ⟨e, e1, e2, e3⟩ := before_bit hi hj
    rcases e3 with rfl | e3
    · exact hall e e1 e2
    · have hlt : i < ops.size := (Array.getElem?_eq_some_iff.1 hi).1
      have h1 := List.all_eq_true.1 hE i (List.mem_range.2 hlt)
      rw [hi] at h1
      have h2 := List.all_eq_true.1 h1 e (by simpa using e1)
      simp only [e2, Bool.not_true, Bool.false_or, Nat.blt_eq] at h2
      have hl := hall e e1 e2
      have h5 : e.on < listed.size := by omega
      have hl' : listed.getD e.on true = true := by
        simp only [Array.getD_eq_getD_getElem?, Array.getElem?_eq_getElem h5, Option.getD_some] at hl ⊢
        exact hl
      have ho : ops[e.on]? = some ops[e.on] := Array.getElem?_eq_getElem (by omega)
      exact ih e.on h2 _ ho (hcl e.on _ ho hl') j e3

theorem anyE_iff {p : Nat → Bool} : ∀ {l : List Edge}, anyE p l = true → ∃ e ∈ l, Region.binds .any e = true ∧ p e.on = true := by
  intro l
  induction l with
  | nil => intro h; cases h
  | cons e l ih =>
    intro h
    unfold anyE at h
    split at h
    · rename_i hb
      split at h
      · rename_i hp
        exact ⟨e, by simp, hb, hp⟩
      · obtain ⟨e', h1, h2⟩ := ih h
        exact ⟨e', by simp [h1], h2⟩
    · obtain ⟨e', h1, h2⟩ := ih h
      exact ⟨e', by simp [h1], h2⟩
theorem closed_befR {listed : Array Bool} (hcl : Closed ops listed) {j : Nat} : ∀ (f i : Nat) (oi : Oper), ops[i]? = some oi → (∀ e ∈ oi.after, Region.binds .any e = true → listed.getD e.on false = true) → befR ops j f i = true → listed.getD j false = true := by
  intro f
  induction f with
  | zero => intro i oi _ _ h; cases h
  | succ f ih =>
    intro i oi hi hall h
    unfold befR at h
    rw [hi] at h
    obtain ⟨e, e1, e2, e3⟩ := anyE_iff h
    have hl := hall e (by simpa using e1) e2
    split at e3
    · rename_i hb
      rw [← Nat.eq_of_beq_eq_true hb]; exact hl
    · split at e3
      · cases e3
      · cases ho : ops[e.on]? with
        | none =>
          cases f with
          | zero => cases e3
          | succ f => unfold befR at e3; rw [ho] at e3; cases e3
        | some ox =>
          have hl' : listed.getD e.on true = true := by
            simp only [Array.getD_eq_getD_getElem?] at hl ⊢
            cases hx : listed[e.on]? with
            | none => rw [hx] at hl; simp at hl
            | some v => rw [hx] at hl; simpa using hl
          exact ih e.on ox ho (hcl e.on ox ho hl') e3

theorem draw_any {ro : Option Nat} {n : Nat} (hT : TabOk P T) (hD : regionApart ops = true) (hE : edgesBack ops = true) (hL : loudOrdered ops = true) {k : St → Prop} {Q : Exit → Act → World → Prop} (hn : ∀ st' G' a' w', Inv E st' G' a' w' → k st' → Q .normal a' w') :
    ∀ (fuel : Nat) (listed : Array Bool) {st : St} {G : Gh} {a : Act} {w : World}, listed.size = ops.size → Closed ops listed → (leftOf ops.size listed).length ≤ fuel → Inv E st G a w → awpDraw P T an ops [] (leftOf ops.size listed) st k → wpAnyIn (FW ro) n P .any ops Q fuel listed a w := by
  -- where nothing may come up, nothing is left
  have empty : ∀ (listed : Array Bool), listed.size = ops.size → Region.ready .any ops listed = [] → leftOf ops.size listed = [] := by
    intro listed hs hr
    cases hl : leftOf ops.size listed with
    | nil => rfl
    | cons j R =>
      exfalso
      have hj := mem_leftOf.1 (show j ∈ leftOf ops.size listed by rw [hl]; simp)
      have hsort := leftOf_sorted ops.size listed
      rw [hl, List.pairwise_cons] at hsort
      have hready : j ∈ Region.ready .any ops listed := by
        refine mem_ready.2 ⟨hj.2, ops[j], Array.getElem?_eq_getElem hj.1, fun e he hb => ?_⟩
        have h1 := List.all_eq_true.1 hE j (List.mem_range.2 hj.1)
        rw [Array.getElem?_eq_getElem hj.1] at h1
        have h2 := List.all_eq_true.1 h1 e (by simpa using he)
        simp only [hb, Bool.not_true, Bool.false_or, Nat.blt_eq] at h2
        have h3 : ¬ e.on ∈ leftOf ops.size listed := fun hm => by
          rw [hl] at hm
          rcases List.mem_cons.1 hm with e1 | hm
          · omega
          · have := hsort.1 _ hm; omega
        have h4 : ¬ listed.getD e.on true = false := fun h => h3 (mem_leftOf.2 ⟨by omega, h⟩)
        have h5 : e.on < listed.size := by omega
        simp only [Array.getD_eq_getD_getElem?, Array.getElem?_eq_getElem h5, Option.getD_some] at h4 ⊢
        cases hv : listed[e.on] <;> simp_all
      rw [hr] at hready
      cases hready
  intro fuel
  induction fuel with
  | zero =>
    intro listed st G a w hs hcl hlen hI h
    have hl : leftOf ops.size listed = [] := List.length_eq_zero_iff.1 (by omega)
    rw [hl] at h
    refine ⟨?_, hn _ _ _ _ hI h⟩
    apply List.eq_nil_iff_forall_not_mem.2
    intro i hi
    obtain ⟨h1, oi, h2, h3⟩ := mem_ready.1 hi
    have : i ∈ leftOf ops.size listed := mem_leftOf.2 ⟨(Array.getElem?_eq_some_iff.1 h2).1, h1⟩
    rw [hl] at this
    cases this
  | succ fuel ih =>
    intro listed st G a w hs hcl hlen hI h
    refine ⟨fun hr => ?_, fun i hi => ?_⟩
    · rw [empty listed hs hr] at h
      exact hn _ _ _ _ hI h
    · obtain ⟨h1, oi, h2, h3⟩ := mem_ready.1 hi
      have hlt : i < ops.size := (Array.getElem?_eq_some_iff.1 h2).1
      have hmem : i ∈ leftOf ops.size listed := mem_leftOf.2 ⟨hlt, h1⟩
      obtain ⟨A, B, hAB⟩ := List.append_of_mem hmem
      have hset := leftOf_set hs hAB
      rw [hAB] at h
      obtain ⟨s, objs⟩ := st
      have hp := leftOf_sorted ops.size listed
      rw [hAB, List.pairwise_append] at hp
      have hA : ∀ x ∈ A, ∀ ox, ops[x]? = some ox → (afterN oi.after.toList x = false ∧ befT ops i x = false) ∧ Ap ops ox oi ∧ (loudOp oi.op && loudOp ox.op) = false := by
        intro x hx ox hox
        have hxi : x < i := hp.2.2 x hx i (by simp)
        have hna : afterN oi.after.toList x = false := by
          cases hb : afterN oi.after.toList x with
          | false => rfl
          | true =>
            obtain ⟨e, he, rfl, hbi⟩ := afterN_iff.1 hb
            have h4 := h3 e (by simpa using he) hbi
            have hx' := (mem_leftOf.1 (show e.on ∈ leftOf ops.size listed by rw [hAB]; simp [hx])).2
            have h5 : e.on < listed.size := by omega
            simp only [Array.getD_eq_getD_getElem?, Array.getElem?_eq_getElem h5, Option.getD_some] at h4 hx'
            rw [h4] at hx'; cases hx'
        have hnb : befT ops i x = false := by
          cases hb : befT ops i x with
          | false => rfl
          | true =>
            have h6 := closed_befR hcl 4 i oi h2 h3 hb
            have hx' := (mem_leftOf.1 (show x ∈ leftOf ops.size listed by rw [hAB]; simp [hx])).2
            have h7 : x < listed.size := by omega
            simp only [Array.getD_eq_getD_getElem?, Array.getElem?_eq_getElem h7, Option.getD_some] at h6 hx'
            rw [h6] at hx'; cases hx'
        refine ⟨⟨hna, hnb⟩, ?_⟩
        have h4 := List.all_eq_true.1 (List.all_eq_true.1 hD i (List.mem_range.2 hlt)) x (List.mem_range.2 hxi)
        rw [h2, hox] at h4
        simp only [hna, Bool.false_or, Bool.and_eq_true] at h4
        refine ⟨Oper.apart_spec h4.1, ?_⟩
        have h5 := List.all_eq_true.1 (List.all_eq_true.1 hL i (List.mem_range.2 hlt)) x (List.mem_range.2 hxi)
        rw [h2, hox, CheckFast.beforeF_eq] at h5
        cases hcl' : (loudOp oi.op && loudOp ox.op) with
        | false => rfl
        | true =>
          simp only [hcl', Bool.not_true, Bool.false_or] at h5
          have h6 := closed_before hE hs hcl i oi h2 h3 x h5
          have hx' := (mem_leftOf.1 (show x ∈ leftOf ops.size listed by rw [hAB]; simp [hx])).2
          have h7 : x < listed.size := by omega
          simp only [Array.getD_eq_getD_getElem?, Array.getElem?_eq_getElem h7, Option.getD_some] at h6 hx'
          rw [h6] at hx'; cases hx'
      have h6 := pull hT h2 hA ⟨G, a, w, hI⟩ h
      refine W_wpOp hT h2 hI h6 fun st' G' a' w' hI' h' => ?_
      have hcl2 : Closed ops (listed.setIfInBounds i true) := by
        intro x ox hox hx e he hb
        by_cases hxi : x = i
        · subst hxi
          rw [h2] at hox
          cases hox
          exact getD_set_true (h3 e he hb)
        · rw [getD_set_ne true (Ne.symm hxi)] at hx
          exact getD_set_true (hcl x ox hox hx e he hb)
      refine ih (listed.setIfInBounds i true) (by simpa using hs) hcl2 ?_ hI' (by rw [hset]; exact h')
      rw [hset]
      rw [hAB] at hlen
      simp at hlen ⊢
      omega

theorem Inv.drew {st : St} {G : Gh} {a : Act} {w : World} (h : Inv E st G a w) : Inv E st G a { w with drawn := w.drawn + 1 } :=
  ⟨h.slots, h.defers, ⟨h.wr.know, fun n o ho => by
    have := h.wr.obj n o ho
    cases o <;> exact this, h.wr.dom, h.wr.apart, h.wr.glob⟩, h.le, ⟨h.ext.os, h.ext.tape, h.ext.output, h.ext.size, h.ext.block, h.ext.knew⟩, h.newb⟩

theorem leftOf_all (n : Nat) : leftOf n (Array.replicate n false) = List.range n := by
  unfold leftOf
  rw [List.filter_eq_self]
  intro i hi
  have : i < n := List.mem_range.1 hi
  simp [Array.getD_eq_getD_getElem?, this]

theorem draw_sound {ro : Option Nat} {n : Nat} (hT : TabOk P T) (hD : regionApart ops = true) (hE : edgesBack ops = true) (hL : loudOrdered ops = true) {id : Nat} {st : St} {G : Gh} {a : Act} {w : World} {k : St → Prop} {Q : Exit → Act → World → Prop} (hI : Inv E st G a w) (h : awpDraw P T an ops [] (upto ops.size []) st k)
    (hn : ∀ st' G' a' w', Inv E st' G' a' w' → k st' → Q .normal a' w') : (Code.region id ops true).wpIn (FW ro) n P Q a w := by
  rw [upto_eq] at h
  exact wpIn_region_any hT.mixed (draw_any hT hD hE hL hn ops.size _ (by simp) (fun x ox hox hx => by
    have : x < ops.size := (Array.getElem?_eq_some_iff.1 hox).1
    simp [Array.getD_eq_getD_getElem?, this] at hx) (by rw [leftOf_all]; simp) hI.drew (by rw [leftOf_all]; exact h))
end
end Go.Abs
