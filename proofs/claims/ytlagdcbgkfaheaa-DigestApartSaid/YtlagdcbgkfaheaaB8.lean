/- The engine, part 17: regions, code, functions: the theorem. -/
import Derived.Test.YtlagdcbgkfaheaaB7
set_option linter.unusedVariables false
set_option linter.unusedSimpArgs false
namespace Go.Abs
open Go

section
variable {P : Program} {T : Tab} {an : Ann} {E : Entry} {st : St} {G : Gh} {a : Act} {w : World}

theorem upto_eq (n : Nat) : upto n [] = List.range n := by
  have : ∀ n l, upto n l = List.range n ++ l := by
    intro n
    induction n with
    | zero => intro l; simp [upto]
    | succ n ih => intro l; simp [upto, ih, List.range_succ]
  simpa using this n []

/-- A slot that is seen to hold a bool. -/
theorem Inv.seen (h : Inv E st G a w) {d : Nat} {b : Bool} (hd : getL st.slots d = .val (.bool b)) : a.tmps[d]? = some (.bool b) ∧ Inv E ⟨setL st.slots d (.val (.bool b)), st.objs⟩ G a w := by
  have hlt : d < st.slots.length := by
    rcases Nat.lt_or_ge d st.slots.length with h | h
    · exact h
    · rw [getL_eq, List.getD_eq_getElem?_getD, List.getElem?_eq_none h] at hd; simp at hd
  obtain ⟨v, h1, h2⟩ := h.slots.get (List.getElem?_eq_getElem hlt)
  have he : st.slots[d] = .val (.bool b) := by
    rw [getL_eq, List.getD_eq_getElem?_getD, List.getElem?_eq_getElem hlt] at hd
    exact hd
  rw [he] at h2
  simp only [Rep] at h2
  subst h2
  refine ⟨by simpa using h1, ⟨?_, h.defers, h.wr, h.le, h.ext, h.newb⟩⟩
  have : setL st.slots d (.val (.bool b)) = st.slots := by rw [setL_eq, ← he, List.set_getElem_self]
  rw [this]; exact h.slots

theorem ops_sound (hT : TabOk P T) (ops : Array Oper) {k : St → Prop} {Q : Exit → Act → World → Prop} (hn : ∀ st' G' a' w', Inv E st' G' a' w' → k st' → Q .normal a' w') :
    ∀ (l : List Nat) {st : St} {G : Gh} {a : Act} {w : World}, Inv E st G a w → awpOps P T an ops l st k → wpOps P ops Q l a w := by
  intro l
  induction l with
  | nil => intro st G a w hI h; exact hn _ _ _ _ hI h
  | cons i l ih =>
    intro st G a w hI h
    unfold awpOps at h
    unfold wpOps
    split at h
    · exact h.elim
    · rename_i o ho
      simp only [ho]
      unfold guardK at h
      have yes : ∀ {st : St}, Inv E st G a w → awpOp P T an o st (fun st => awpOps P T an ops l st k) → o.wp P a w (wpOps P ops Q l) Q := fun hI h => op_sound hT hI h fun st' G' a' w' hI' h' => ih hI' h'
      have no : ∀ {st : St}, Inv E st G a w → put st o.dst .junk (fun st => awpOps P T an ops l st k) → wpOps P ops Q l (a.put o.dst undef) w := fun hI h => put_sound hI (by simp only [Rep]) h fun st' G' a' w' hI' h' => ih hI' h'
      split at h
      · rename_i hg
        have : Region.wanted o (yielded ops a.tmps) = true := by simp [Region.wanted, hg]
        simp only [this, if_true]
        exact .inl (yes hI h)
      · rename_i j want hg
        split at h
        · exact h.elim
        · rename_i oj hoj
          split at h
          · exact h.elim
          · rename_i d hd
            split at h
            · rename_i b hb
              obtain ⟨h1, h2⟩ := hI.seen hb
              have hy : yielded ops a.tmps j = some b := by simp [yielded, hoj, hd, h1]
              have hw : Region.wanted o (yielded ops a.tmps) = (some b == some want) := by simp [Region.wanted, hg, hy]
              rw [hw]
              cases b <;> simp only [br, setK_eq] at h <;> cases want
              · simp; exact .inl (yes h2 h)
              · simp; exact no h2 h
              · simp; exact no h2 h
              · simp; exact .inl (yes h2 h)
            · exact h.elim

mutual
theorem Rep.restrict {G G' : Gh} (hK : G'.K = G.K) : ∀ (a : AV) (v : Value), (∀ n ∈ a.names, G'.ob n = G.ob n) → Rep G a v → Rep G' a v
  | .junk, v, _, _ => by simp [Rep]
  | .val x, v, _, e => by simpa [Rep] using e
  | .agg l, v, n, e => by
    simp only [Rep] at e ⊢
    obtain ⟨vs, rfl, e⟩ := e
    exact ⟨vs, rfl, RepL.restrict hK l vs (by simpa [AV.names] using n) e⟩
  | .sl own size l, v, n, e => by
    simp only [Rep] at e ⊢
    obtain ⟨⟨A, c, rfl, hc, e⟩, ho⟩ := e
    refine ⟨⟨A, c, rfl, hc, RepE.nameless (fun b o v e => by rw [hK]; exact e) size A l 0 e⟩, ?_⟩
    cases own with
    | none => trivial
    | some m =>
      obtain ⟨u, top, e1, e2⟩ := ho
      exact ⟨u, top, by rw [n m (by simp [AV.names])]; exact e1, e2⟩
  | .cptr cells off, v, _, e => by
    simp only [Rep] at e ⊢
    obtain ⟨b, o, rfl, e, hk⟩ := e
    exact ⟨b, o, rfl, RepC.nameless (fun b o v e => by rw [hK]; exact e) b cells o hk e, hk⟩
  | .ptr m off, v, n, e => by
    simp only [Rep] at e ⊢
    obtain ⟨b, e, rfl⟩ := e
    exact ⟨b, by rw [n m (by simp [AV.names])]; exact e, rfl⟩
  | .slm m off len cap, v, n, e => by
    simp only [Rep] at e ⊢
    obtain ⟨b, e, rfl⟩ := e
    exact ⟨b, by rw [n m (by simp [AV.names])]; exact e, rfl⟩
  | .fn f first cap, v, n, e => by
    simp only [Rep] at e ⊢
    obtain ⟨vs, us, rfl, e1, e2⟩ := e
    simp only [AV.names, List.mem_append] at n
    exact ⟨vs, us, rfl, RepL.restrict hK first vs (fun m hm => n m (.inl hm)) e1, RepL.restrict hK cap us (fun m hm => n m (.inr hm)) e2⟩
  | .iface t x, v, n, e => by
    simp only [Rep] at e ⊢
    obtain ⟨u, rfl, e⟩ := e
    exact ⟨u, rfl, Rep.restrict hK x u (by simpa [AV.names] using n) e⟩
  | .mapv m, v, n, e => by
    simp only [Rep] at e ⊢
    obtain ⟨b, e, rfl⟩ := e
    exact ⟨b, by rw [n m (by simp [AV.names])]; exact e, rfl⟩
  | .tup l, v, n, e => by
    simp only [Rep] at e ⊢
    obtain ⟨vs, rfl, e⟩ := e
    exact ⟨vs, rfl, RepL.restrict hK l vs (by simpa [AV.names] using n) e⟩
theorem RepL.restrict {G G' : Gh} (hK : G'.K = G.K) : ∀ (l : List AV) (vs : List Value), (∀ n ∈ namesL l, G'.ob n = G.ob n) → RepL G l vs → RepL G' l vs
  | [], vs, _, e => by simpa [RepL] using e
  | a :: l, vs, n, e => by
    simp only [RepL] at e ⊢
    simp only [namesL, List.mem_append] at n
    obtain ⟨v, us, rfl, e1, e2⟩ := e
    exact ⟨v, us, rfl, Rep.restrict hK a v (fun m hm => n m (.inl hm)) e1, RepL.restrict hK l us (fun m hm => n m (.inr hm)) e2⟩
end

theorem closedN_iff {o : List (Nm × AObj)} {l : List Nm} : closedN o l = true ↔ ∀ n ∈ l, ∃ x, objGet o n = some x := by
  induction l with
  | nil => simp [closedN]
  | cons n l ih =>
    cases h : objGet o n
    · simp [closedN, h]
    · simp [closedN, h, ih]
theorem closedO_get {o : List (Nm × AObj)} : ∀ {l : List (Nm × AObj)}, closedO o l = true → ∀ {n x}, objGet l n = some x → ∀ m ∈ objNames x, ∃ y, objGet o m = some y := by
  intro l
  induction l with
  | nil => intro _ n x h; cases h
  | cons p l ih =>
    obtain ⟨m, y⟩ := p
    intro h n x hx
    unfold closedO at h
    split at h
    · rename_i hc
      unfold objGet at hx
      split at hx
      · cases hx; exact closedN_iff.1 hc
      · exact ih h hx
    · cases h
theorem sift_live {live : List Nm} : ∀ {l : List (Nm × AObj)} {n : Nm} {x : AObj}, objGet (sift live l) n = some x → (memN live n || Nat.blt n 64) = true := by
  intro l
  induction l with
  | nil => intro n x h; cases h
  | cons p l ih =>
    obtain ⟨m, y⟩ := p
    intro n x h
    unfold sift at h
    split at h
    · rename_i hl
      unfold objGet at h
      split at h
      · rename_i hb
        have e := Nat.eq_of_beq_eq_true hb
        subst e
        exact hl
      · exact ih h
    · exact ih h
theorem sift_get {live : List Nm} : ∀ {l : List (Nm × AObj)} {n : Nm} {x : AObj}, objGet (sift live l) n = some x → objGet l n = some x := by
  intro l
  induction l with
  | nil => intro n x h; cases h
  | cons p l ih =>
    obtain ⟨m, y⟩ := p
    intro n x h
    unfold sift at h
    split at h
    · unfold objGet at h ⊢
      cases hb : Nat.beq m n
      · rw [hb] at h; exact ih h
      · rw [hb] at h; exact h
    · rename_i hl
      have h1 := ih h
      have h2 := sift_live h
      unfold objGet
      cases hb : Nat.beq m n
      · exact h1
      · have e := Nat.eq_of_beq_eq_true hb
        subst e
        rw [hl] at h2; cases h2
theorem sift_small {live : List Nm} : ∀ {l : List (Nm × AObj)} {n : Nm} {x : AObj}, n < 64 → objGet l n = some x → objGet (sift live l) n = some x := by
  intro l
  induction l with
  | nil => intro n x _ h; cases h
  | cons p l ih =>
    obtain ⟨m, y⟩ := p
    intro n x hn h
    unfold objGet at h
    unfold sift
    split
    · unfold objGet
      cases hb : Nat.beq m n
      · rw [hb] at h; exact ih hn h
      · rw [hb] at h; exact h
    · rename_i hl
      cases hb : Nat.beq m n
      · rw [hb] at h; exact ih hn h
      · have e := Nat.eq_of_beq_eq_true hb
        subst e
        exfalso
        have : Nat.blt m 64 = true := by simpa [Nat.blt_eq] using hn
        simp [this] at hl
theorem forceO_eq : ∀ (l : List (Nm × AObj)) (k : List (Nm × AObj) → Prop), forceO l k = k l := by
  intro l
  induction l with
  | nil => intro k; rfl
  | cons a l ih => obtain ⟨n, o⟩ := a; intro k; simp [forceO, ih]
theorem keepL_rep {keep : List Nat} : ∀ {l : List AV} {i : Nat} {vs : List Value}, RepL G l vs → RepL G (keepL keep l i) vs := by
  intro l
  induction l with
  | nil => intro i vs h; exact h
  | cons a l ih =>
    intro i vs h
    simp only [RepL] at h
    obtain ⟨v, us, rfl, h1, h2⟩ := h
    simp only [keepL, RepL]
    refine ⟨v, us, rfl, ?_, ih h2⟩
    split
    · exact h1
    · simp only [Rep]

/-- A state, some of its slots and objects forgotten. -/
theorem norm_sound {keep : List Nat} {k : St → Prop} (hE : ∀ n g, E.G.ob n = some g → n < 64) (hI : Inv E st G a w) (h : normK keep st k) : ∃ st' G', Inv E st' G' a w ∧ k st' := by
  unfold normK at h
  rw [forceL_eq, forceO_eq] at h
  obtain ⟨hc, h⟩ := must_elim h
  obtain ⟨ho, h⟩ := must_elim h
  generalize hs : keepL keep st.slots 0 = s at h hc ho
  generalize hob : sift (reach st.objs 1000 (namesL s) []) st.objs = ob at h hc ho
  have hcl := closedN_iff.1 hc
  let G' : Gh := ⟨G.K, fun n => match objGet ob n with | some _ => G.ob n | none => none⟩
  have hsame : ∀ n, (∃ x, objGet ob n = some x) → G'.ob n = G.ob n := by
    rintro n ⟨x, hx⟩
    simp [G', hx]
  have hback : ∀ {n g}, G'.ob n = some g → G.ob n = some g ∧ ∃ x, objGet ob n = some x := by
    intro n g hg
    simp only [G'] at hg
    split at hg
    · rename_i x hx; exact ⟨hg, x, hx⟩
    · cases hg
  have hat : ∀ {n b}, G'.at n b → G.at n b := by
    rintro n b (h1 | ⟨u, t, h1, h2⟩)
    · exact .inl (hback h1).1
    · exact .inr ⟨u, t, (hback h1).1, h2⟩
  have hslots : RepL G' s a.tmps.toList := RepL.restrict (G := G) (G' := G') rfl _ _ (fun n hn => hsame n (hcl n hn)) (by rw [← hs]; exact keepL_rep hI.slots)
  refine ⟨⟨s, ob⟩, G', ⟨hslots, hI.defers, ⟨hI.wr.know, ?_, fun n g hg => (hback hg).2, fun n m b h1 h2 => hI.wr.apart n m b (hat h1) (hat h2)⟩, ?_, ⟨hI.ext.os, hI.ext.tape, hI.ext.output, hI.ext.size, hI.ext.block, hI.ext.knew⟩, fun n b hb => hI.newb n b (hat hb)⟩, h⟩
  · intro n x hx
    have hx' : objGet st.objs n = some x := by rw [← hob] at hx; exact sift_get hx
    have hr := hI.wr.obj n x hx'
    have hn : G'.ob n = G.ob n := hsame n ⟨x, hx⟩
    have hnames : ∀ m ∈ objNames x, G'.ob m = G.ob m := fun m hm => hsame m (closedO_get ho hx m hm)
    cases x with
    | cells t l =>
      obtain ⟨b, vs, e1, e2, e3, e4⟩ := hr
      exact ⟨b, vs, by rw [hn]; exact e1, e2, RepL.restrict (G := G) (G' := G') rfl _ _ hnames e3, e4⟩
    | row t size top =>
      obtain ⟨u, xs, e1, e2, e3⟩ := hr
      exact ⟨u, xs, by rw [hn]; exact e1, e2, e3⟩
    | map es =>
      obtain ⟨b, ms, cl, e1, e2, e3, e4⟩ := hr
      refine ⟨b, ms, cl, by rw [hn]; exact e1, e2, ?_, e4⟩
      have : ∀ {es : List (ByteArray × AV)} {ms : List MapEntry}, MapR G es ms → MapR G' es ms := by
        intro es
        induction es with
        | nil => intro ms h; cases ms with
          | nil => trivial
          | cons m ms => exact h.elim
        | cons e es ih => intro ms h; cases ms with
          | nil => exact h.elim
          | cons m ms => exact ⟨h.1, Rep.nameless (G := G) (G' := G') (fun _ _ _ e => e) _ _ h.1.2 h.2.1, ih h.2.2⟩
      exact this e3
  · have hle := hI.le
    have small : ∀ {n g}, E.G.ob n = some g → G'.ob n = G.ob n := by
      intro n g hg
      have hn := hE n g hg
      have : ∃ g', G.ob n = some g' := by
        cases g with
        | blk b => exact ⟨_, hle.blk n b hg⟩
        | rowv u t => obtain ⟨u', t', h1, _⟩ := hle.row n u t hg; exact ⟨_, h1⟩
      obtain ⟨g', hg'⟩ := this
      obtain ⟨x, hx⟩ := hI.wr.dom n g' hg'
      exact hsame n ⟨x, by rw [← hob]; exact sift_small hn hx⟩
    exact ⟨hle.K, fun n b hb => by rw [small hb]; exact hle.blk n b hb, fun n u t hb => by rw [small hb]; exact hle.row n u t hb⟩

/-- A loop from its round's head on. -/
def wpL (P : Program) (c : Code) (Q : Exit → Act → World → Prop) (a : Act) (w : World) : Prop :=
  ∀ (b : Frame) (k : List Item) (cs : List Frame), ∃ e a' w', Q e a' w' ∧ Arrives P (lone (b.at a (.code c :: .inLoop c :: k)) cs w) b k cs e a' w'
theorem wpL_step {c : Code} {Q : Exit → Act → World → Prop} (h : c.wp P (Exit.then (wpL P c Q) Q) a w) : wpL P c Q a w := by
  intro b k cs
  obtain ⟨e, a₁, w₁, hq, harr⟩ := h b (.inLoop c :: k) cs
  cases e with
  | normal =>
    obtain ⟨e₂, a₂, w₂, hq₂, harr₂⟩ := hq b k cs
    exact ⟨e₂, a₂, w₂, hq₂, .of_steps (Steps.trans harr (.one step_inLoop)) harr₂⟩
  | exit id => exact ⟨_, a₁, w₁, hq, .pass (x := .inLoop c) rfl (fun _ _ => .inl (by simp)) harr⟩
  | goto l => exact ⟨_, a₁, w₁, hq, .pass (x := .inLoop c) rfl (fun _ _ => .inl (by simp)) harr⟩
  | ret => exact ⟨_, a₁, w₁, hq, .pass (x := .inLoop c) rfl (fun _ _ => .inl (by simp)) harr⟩
  | panic ch => exact ⟨_, a₁, w₁, hq, .pass (x := .inLoop c) rfl (fun _ _ => .inl (by simp)) harr⟩
  | outgrown => exact ⟨_, a₁, w₁, hq, .pass (x := .inLoop c) rfl (fun _ _ => .inl (by simp)) harr⟩
theorem wp_of_wpL {c : Code} {Q : Exit → Act → World → Prop} (h : wpL P c Q a w) : (Code.loop c).wp P Q a w := by
  intro b k cs
  obtain ⟨e, a', w', hq, harr⟩ := h b k cs
  exact ⟨e, a', w', hq, .of_steps (.one step_loop) harr⟩

def XK.toExit : XK → Exit
  | .exit id => .exit id
  | .ret => .ret

theorem awp_sound (hT : TabOk P T) (hE : ∀ n g, E.G.ob n = some g → n < 64) : ∀ (c : Code) {k : St → Prop} {kx : XK → St → Prop} {Q : Exit → Act → World → Prop} {st : St} {G : Gh} {a : Act} {w : World}, Inv E st G a w → awp P T an c st k kx →
    (∀ st' G' a' w', Inv E st' G' a' w' → k st' → Q .normal a' w') → (∀ x st' G' a' w', Inv E st' G' a' w' → kx x st' → Q x.toExit a' w') → c.wp P Q a w
  | .skip, k, kx, Q, st, G, a, w, hI, h, hn, hx => wp_skip (hn _ _ _ _ hI h)
  | .region id ops draw, k, kx, Q, st, G, a, w, hI, h, hn, hx => by
    cases draw with
    | true => exact h.elim
    | false =>
      unfold awp at h
      rw [upto_eq] at h
      exact wp_region (ops_sound hT ops hn _ hI h)
  | .seq x y, k, kx, Q, st, G, a, w, hI, h, hn, hx => by
    unfold awp at h
    refine wp_seq (awp_sound hT hE x hI h (fun st' G' a' w' hI' h' => ?_) fun e st' G' a' w' hI' h' => ?_)
    · exact awp_sound hT hE y hI' h' hn hx
    · cases e <;> exact hx _ _ _ _ _ hI' h'
  | .cond c x y, k, kx, Q, st, G, a, w, hI, h, hn, hx => by
    unfold awp at h
    have hc := hI.eval c
    split at h
    · rename_i b he
      rw [he] at hc
      simp only [Rep] at hc
      refine wp_cond hc ?_
      cases b
      · exact awp_sound hT hE y hI h hn hx
      · exact awp_sound hT hE x hI h hn hx
    · exact h.elim
  | .block id c, k, kx, Q, st, G, a, w, hI, h, hn, hx => by
    unfold awp at h
    refine wp_block (awp_sound hT hE c hI h (fun st' G' a' w' hI' h' => hn _ _ _ _ hI' h') fun e st' G' a' w' hI' h' => ?_)
    cases e with
    | exit id' =>
      simp only at h'
      split at h'
      · rename_i hb
        have e := Nat.eq_of_beq_eq_true hb
        subst e
        simp only [XK.toExit, Exit.inBlock, if_true]
        exact hn _ _ _ _ hI' h'
      · rename_i hb
        rw [nbeq_false] at hb
        simp only [XK.toExit, Exit.inBlock, hb, if_false]
        exact hx (.exit id') _ _ _ _ hI' h'
    | ret => exact hx .ret _ _ _ _ hI' h'
  | .loop c, k, kx, Q, st, G, a, w, hI, h, hn, hx => by
    unfold awp at h
    obtain ⟨st', G', hI', h'⟩ := norm_sound hE hI h
    refine wp_of_wpL ?_
    clear hI h
    induction h' generalizing G' a w with
    | mk X hX s hF ih =>
      refine wpL_step (awp_sound hT hE c hI' hF (fun st2 G2 a2 w2 hI2 h2 => ?_) fun e st2 G2 a2 w2 hI2 h2 => ?_)
      · obtain ⟨st3, G3, hI3, h3⟩ := norm_sound hE hI2 h2
        exact ih st3 h3 _ _ _ hI3
      · cases e <;> exact hx _ _ _ _ _ hI2 h2
  | .exit id, k, kx, Q, st, G, a, w, hI, h, hn, hx => wp_exit (hx (.exit id) _ _ _ _ hI h)
  | .ret, k, kx, Q, st, G, a, w, hI, h, hn, hx => wp_ret (hx .ret _ _ _ _ hI h)
  | .label l, k, kx, Q, st, G, a, w, hI, h, hn, hx => wp_label (hn _ _ _ _ hI h)
  | .rangeFunc .., k, kx, Q, st, G, a, w, hI, h, hn, hx => h.elim
  | .scope .., k, kx, Q, st, G, a, w, hI, h, hn, hx => h.elim
  | .goto .., k, kx, Q, st, G, a, w, hI, h, hn, hx => h.elim
  | .refuse .., k, kx, Q, st, G, a, w, hI, h, hn, hx => h.elim

theorem padTo_eq (l : List AV) : ∀ n, padTo l n = l ++ junks (n - l.length) := by
  induction l with
  | nil => intro n; simp [padTo]
  | cons x l ih => intro n; cases n with
    | zero => simp [padTo, junks]
    | succ n => simp [padTo, ih]
theorem junks_rep (G : Gh) (n : Nat) : RepL G (junks n) (List.replicate n undef) := by
  induction n with
  | zero => simp [junks, RepL]
  | succ n ih => simp only [junks, List.replicate_succ, RepL]; exact ⟨_, _, rfl, by simp only [Rep], ih⟩

theorem retSlots_sound (hI : Inv E st G a w) : ∀ {rs : List ResultVar} {l : List AV}, retSlots st.slots rs = some l →
    ∃ vs : List Value, RepL G l vs ∧ (rs.mapM fun r => (match r with
      | .tmp t => pure (a.tmps.getD t undef)
      | .cell x t => do loadVar t (← asAddr (a.tmps.getD x undef)) : Sem Value)).run P w = .ok vs w := by
  intro rs
  induction rs with
  | nil => intro l h; cases h; exact ⟨[], by simp [RepL], by simp⟩
  | cons r rs ih =>
    intro l h
    cases r with
    | cell x t => cases h
    | tmp t =>
      simp only [retSlots, Option.map_eq_some_iff] at h
      obtain ⟨l', h1, rfl⟩ := h
      obtain ⟨vs, h2, h3⟩ := ih h1
      refine ⟨a.tmps.getD t undef :: vs, by simp only [RepL]; exact ⟨_, _, rfl, hI.eval (.tmp t), h2⟩, ?_⟩
      simp only [List.mapM_cons, Sem.run_bind, Sem.run_pure, Result.andThen_ok, h3]

theorem strips_rep {l : List AV} {vs : List Value} (h : RepL G l vs) : RepL G (l.map AV.strips) vs := by
  induction l generalizing vs with
  | nil => exact h
  | cons a l ih =>
    simp only [RepL] at h
    obtain ⟨v, us, rfl, h1, h2⟩ := h
    simp only [List.map_cons, RepL]
    exact ⟨v, us, rfl, noNames_strips h1, ih h2⟩

/-- What comes back of a call without objects. -/
def Back (E : Entry) (R : AV → List AObj → Prop) (e : Ending) (w' : World) : Prop :=
  ∃ v r os' G', e = .returned v ∧ R r os' ∧ Rep G' r v ∧ WR G' (numbered 0 os') w' ∧ E.G.le G' ∧ Ext (fun b => ∃ n, E.G.at n b) E.G.K E.w G'.K w'

theorem ret_sound {fn : Func} {R : AV → List AObj → Prop} (hE0 : ∀ n, E.G.ob n = none) (hET : ∀ b, E.T b ↔ ∃ n, E.G.at n b) (hI : Inv E st G a w) (h : retK fn.results.toList st R) :
    a.defers = [] ∧ ∃ v, (results fn a.tmps).run P w = .ok v w ∧ Back E R (.returned v) w := by
  refine ⟨hI.defers, ?_⟩
  unfold retK at h
  split at h
  · rename_i l hl
    rw [forceL_eq] at h
    obtain ⟨hnn, h⟩ := must_elim h
    obtain ⟨vs, h1, h2⟩ := retSlots_sound (P := P) hI hl
    have h3 := strips_rep h1
    let G1 : Gh := ⟨G.K, fun _ => none⟩
    have hall := allNoNames_iff.1 hnn
    have h4 : RepL G1 (l.map AV.strips) vs := by
      have : ∀ {l : List AV} {vs : List Value}, (∀ a ∈ l, noNames a = true) → RepL G l vs → RepL G1 l vs := by
        intro l
        induction l with
        | nil => intro vs _ h; exact h
        | cons x l ih =>
          intro vs hnn h
          simp only [RepL] at h ⊢
          obtain ⟨v, us, rfl, h1, h2⟩ := h
          exact ⟨v, us, rfl, Rep.nameless (G := G) (G' := G1) (fun _ _ _ e => e) x v (hnn x (by simp)) h1, ih (fun y hy => hnn y (by simp [hy])) h2⟩
      exact this hall h3
    have hres : (results fn a.tmps).run P w = .ok (if h : vs.toArray.size = 1 then vs.toArray[0] else .tuple vs.toArray) w := by
      unfold results
      rw [Array.mapM_eq_mapM_toList]
      simp only [Sem.run_bind, Sem.run_map]
      erw [h2]
      rfl
    have hback : ∀ {r : AV} {v : Value}, Rep G1 r v → R r [] → Back E R (.returned v) w := fun hr hR =>
      ⟨_, _, [], G1, rfl, hR, hr, ⟨hI.wr.know, fun n o e => (by cases e), fun n g e => (by cases e), fun n m b h1 h2 => (by
        rcases h1 with h1 | ⟨_, _, h1, _⟩
        · cases h1
        · cases h1)⟩, ⟨hI.le.K, fun n b e => (by rw [hE0 n] at e; cases e), fun n u t e => (by rw [hE0 n] at e; cases e)⟩,
        ⟨hI.ext.os, hI.ext.tape, hI.ext.output, hI.ext.size, fun b hb hT => hI.ext.block b hb (fun h => hT ((hET b).1 h)), fun b o hb hT => hI.ext.knew b o hb (fun h => hT ((hET b).1 h))⟩⟩
    refine ⟨_, hres, ?_⟩
    split at h
    · rename_i r hr
      rw [hr] at h4
      simp only [RepL] at h4
      obtain ⟨v, us, rfl, h5, rfl⟩ := h4
      exact hback (by simpa using h5) h
    · rename_i hr
      have hlen : vs.length = (l.map AV.strips).length := h4.length
      have : ¬ vs.toArray.size = 1 := by
        intro e
        have e : (l.map AV.strips).length = 1 := by rw [← hlen]; simpa using e
        match hm : l.map AV.strips, e with
        | [r], _ => exact hr r hm
      simp only [this, dif_neg, not_false_eq_true]
      exact hback (by simp only [Rep]; exact ⟨vs, rfl, h4⟩) h
  · exact h.elim

theorem acalls_of_awp {f : FuncId} {fn : Func} {args : List AV} {R : AV → List AObj → Prop} (hT : TabOk P T) (hf : P.funcs[f]? = some fn) (h : awpFn P T an fn args R) : ACalls P f args [] R := by
  unfold ACalls
  intro G w vals hW hA
  have hob : ∀ n, G.ob n = none := fun n => by
    cases e : G.ob n with
    | none => rfl
    | some g => obtain ⟨o', ho'⟩ := hW.dom n g e; cases ho'
  unfold awpFn at h
  split at h
  · rename_i c hc
    let E : Entry := ⟨G, w, fun b => ∃ n, G.at n b⟩
    have hI : Inv E ⟨padTo args fn.ntmps, []⟩ G { tmps := vals.toArray ++ Array.replicate (fn.ntmps - vals.toArray.size) undef, defers := [] } w := by
      refine ⟨?_, rfl, hW, Gh.le.refl _, ⟨rfl, rfl, rfl, Nat.le_refl _, fun _ _ _ => rfl, fun _ _ _ _ => rfl⟩, fun n b hb => .inl ⟨n, hb⟩⟩
      have hl := hA.length
      simp only [padTo_eq, Array.toList_append, List.toList_toArray, Array.toList_replicate, List.size_toArray, hl]
      exact hA.append (junks_rep G _)
    refine calls_of_wp (c := c) hf hc (awp_sound hT (fun n g e => (by have e : G.ob n = some g := e; rw [hob n] at e; cases e)) c hI h (fun st' G' a' w' hI' h' => ?_) fun x st' G' a' w' hI' h' => ?_)
    · exact ret_sound hob (fun b => Iff.rfl) hI' h'
    · cases x with
      | ret => exact ret_sound hob (fun b => Iff.rfl) hI' h'
      | exit id => exact h'.elim
  · exact h.elim
end
end Go.Abs
