/- The engine, part 17: regions, code, functions: the theorem. -/
import Derived.Test.YtlagdcbgkfaheaaBY
import Derived.Test.YtlagdcbgkfaheaaBW
set_option linter.unusedVariables false
set_option linter.unusedSimpArgs false
namespace Go.Abs
open Go

section
variable {P : Program} {T : Tab} {an : Ann} {E : Entry} {st : St} {G : Gh} {a : Act} {w : World}

theorem ops_sound (hT : TabOk P T) (ops : Array Oper) {k : St → Prop} {Q : Exit → Act → World → Prop} (hn : ∀ st' G' a' w', Inv E st' G' a' w' → k st' → Q .normal a' w') :
    ∀ (l : List Nat) {st : St} {G : Gh} {a : Act} {w : World}, Inv E st G a w → awpOps P T an ops l st k → wpOps P ops Q l a w := by
  intro l
  induction l with
  | nil => intro st G a w hI h; exact hn _ _ _ _ hI h
  | cons i l ih =>
    intro st G a w hI h
    unfold awpOps at h
    unfold wpOps
    split at h
    · exact h.elim
    · rename_i o ho
      simp only [ho]
      unfold guardK at h
      have yes : ∀ {st : St}, Inv E st G a w → awpOpX P T an o st (fun st => awpOps P T an ops l st k) → o.wp P a w (wpOps P ops Q l) Q := fun hI h => opX_sound hT hI h fun st' G' a' w' hI' h' => ih hI' h'
      have no : ∀ {st : St}, Inv E st G a w → put st o.dst (.val undef) (fun st => awpOps P T an ops l st k) → wpOps P ops Q l (a.put o.dst undef) w := fun hI h => put_sound hI (by simp only [Rep]) h fun st' G' a' w' hI' h' => ih hI' h'
      split at h
      · rename_i hg
        have : Region.wanted o (yielded ops a.tmps) = true := by simp [Region.wanted, hg]
        simp only [this, if_true]
        exact .inl (yes hI h)
      · rename_i j want hg
        split at h
        · exact h.elim
        · rename_i oj hoj
          split at h
          · exact h.elim
          · rename_i d hd
            split at h
            · rename_i b hb
              obtain ⟨h1, h2⟩ := hI.seen hb
              have hy : yielded ops a.tmps j = some b := by simp [yielded, hoj, hd, h1]
              have hw : Region.wanted o (yielded ops a.tmps) = (some b == some want) := by simp [Region.wanted, hg, hy]
              rw [hw]
              cases b <;> simp only [br_t, br_f, setK_eq] at h <;> cases want
              · simp; exact .inl (yes h2 h)
              · simp; exact no h2 h
              · simp; exact no h2 h
              · simp; exact .inl (yes h2 h)
            · rename_i x hb
              have h1 := hI.seenT hb
              have hy : yielded ops a.tmps j = none := by simp [yielded, hoj, hd, h1]
              have hw : Region.wanted o (yielded ops a.tmps) = false := by simp [Region.wanted, hg, hy]
              rw [hw]
              simp
              exact no hI h
            · exact h.elim

mutual
theorem Rep.restrict {G G' : Gh} (hK : G'.K = G.K) : ∀ (a : AV) (v : Value), (∀ n ∈ a.names, G'.ob n = G.ob n) → Rep G a v → Rep G' a v
  | .junk, v, _, _ => by simp [Rep]
  | .val x, v, _, e => by simpa [Rep] using e
  | .agg l, v, n, e => by
    simp only [Rep] at e ⊢
    obtain ⟨vs, rfl, e⟩ := e
    exact ⟨vs, rfl, RepL.restrict hK l vs (by simpa [AV.names] using n) e⟩
  | .sl own size l, v, n, e => by
    simp only [Rep] at e ⊢
    obtain ⟨⟨A, c, rfl, hc, e⟩, ho⟩ := e
    refine ⟨⟨A, c, rfl, hc, RepE.nameless (fun b o v e => by rw [hK]; exact e) size A l 0 e⟩, ?_⟩
    cases own with
    | none => trivial
    | some m =>
      obtain ⟨u, top, e1, e2⟩ := ho
      exact ⟨u, top, by rw [n m (by simp [AV.names])]; exact e1, e2⟩
  | .cptr cells off, v, _, e => by
    simp only [Rep] at e ⊢
    obtain ⟨b, o, rfl, e, hk⟩ := e
    exact ⟨b, o, rfl, RepC.nameless (fun b o v e => by rw [hK]; exact e) b cells o hk e, hk⟩
  | .ptr m off, v, n, e => by
    simp only [Rep] at e ⊢
    obtain ⟨b, e, rfl⟩ := e
    exact ⟨b, by rw [n m (by simp [AV.names])]; exact e, rfl⟩
  | .slm m off len cap, v, n, e => by
    simp only [Rep] at e ⊢
    obtain ⟨b, e, rfl⟩ := e
    exact ⟨b, by rw [n m (by simp [AV.names])]; exact e, rfl⟩
  | .fn f first cap, v, n, e => by
    simp only [Rep] at e ⊢
    obtain ⟨vs, us, rfl, e1, e2⟩ := e
    simp only [AV.names, List.mem_append] at n
    exact ⟨vs, us, rfl, RepL.restrict hK first vs (fun m hm => n m (.inl hm)) e1, RepL.restrict hK cap us (fun m hm => n m (.inr hm)) e2⟩
  | .iface t x, v, n, e => by
    simp only [Rep] at e ⊢
    obtain ⟨u, rfl, e⟩ := e
    exact ⟨u, rfl, Rep.restrict hK x u (by simpa [AV.names] using n) e⟩
  | .mapv m, v, n, e => by
    simp only [Rep] at e ⊢
    obtain ⟨b, e, rfl⟩ := e
    exact ⟨b, by rw [n m (by simp [AV.names])]; exact e, rfl⟩
  | .tup l, v, n, e => by
    simp only [Rep] at e ⊢
    obtain ⟨vs, rfl, e⟩ := e
    exact ⟨vs, rfl, RepL.restrict hK l vs (by simpa [AV.names] using n) e⟩
theorem RepL.restrict {G G' : Gh} (hK : G'.K = G.K) : ∀ (l : List AV) (vs : List Value), (∀ n ∈ namesL l, G'.ob n = G.ob n) → RepL G l vs → RepL G' l vs
  | [], vs, _, e => by simpa [RepL] using e
  | a :: l, vs, n, e => by
    simp only [RepL] at e ⊢
    simp only [namesL, List.mem_append] at n
    obtain ⟨v, us, rfl, e1, e2⟩ := e
    exact ⟨v, us, rfl, Rep.restrict hK a v (fun m hm => n m (.inl hm)) e1, RepL.restrict hK l us (fun m hm => n m (.inr hm)) e2⟩
end

theorem closedN_iff {o : List (Nm × AObj)} {l : List Nm} : closedN o l = true ↔ ∀ n ∈ l, ∃ x, objGet o n = some x := by
  induction l with
  | nil => simp [closedN]
  | cons n l ih =>
    cases h : objGet o n
    · simp [closedN, h]
    · simp [closedN, h, ih]
theorem closedO_get {o : List (Nm × AObj)} : ∀ {l : List (Nm × AObj)}, closedO o l = true → ∀ {n x}, objGet l n = some x → ∀ m ∈ objNames x, ∃ y, objGet o m = some y := by
  intro l
  induction l with
  | nil => intro _ n x h; cases h
  | cons p l ih =>
    obtain ⟨m, y⟩ := p
    intro h n x hx
    unfold closedO at h
    split at h
    · rename_i hc
      unfold objGet at hx
      split at hx
      · cases hx; exact closedN_iff.1 hc
      · exact ih h hx
    · cases h
theorem sift_live {live : List Nm} : ∀ {l : List (Nm × AObj)} {n : Nm} {x : AObj}, objGet (sift live l) n = some x → (memN live n || Nat.blt n 64) = true := by
  intro l
  induction l with
  | nil => intro n x h; cases h
  | cons p l ih =>
    obtain ⟨m, y⟩ := p
    intro n x h
    unfold sift at h
    split at h
    · rename_i hl
      unfold objGet at h
      split at h
      · rename_i hb
        have e := Nat.eq_of_beq_eq_true hb
        subst e
        exact hl
      · exact ih h
    · exact ih h
theorem sift_get {live : List Nm} : ∀ {l : List (Nm × AObj)} {n : Nm} {x : AObj}, objGet (sift live l) n = some x → objGet l n = some x := by
  intro l
  induction l with
  | nil => intro n x h; cases h
  | cons p l ih =>
    obtain ⟨m, y⟩ := p
    intro n x h
    unfold sift at h
    split at h
    · unfold objGet at h ⊢
      cases hb : Nat.beq m n
      · rw [hb] at h; exact ih h
      · rw [hb] at h; exact h
    · rename_i hl
      have h1 := ih h
      have h2 := sift_live h
      unfold objGet
      cases hb : Nat.beq m n
      · exact h1
      · have e := Nat.eq_of_beq_eq_true hb
        subst e
        rw [hl] at h2; cases h2
theorem sift_small {live : List Nm} : ∀ {l : List (Nm × AObj)} {n : Nm} {x : AObj}, n < 64 → objGet l n = some x → objGet (sift live l) n = some x := by
  intro l
  induction l with
  | nil => intro n x _ h; cases h
  | cons p l ih =>
    obtain ⟨m, y⟩ := p
    intro n x hn h
    unfold objGet at h
    unfold sift
    split
    · unfold objGet
      cases hb : Nat.beq m n
      · rw [hb] at h; exact ih hn h
      · rw [hb] at h; exact h
    · rename_i hl
      cases hb : Nat.beq m n
      · rw [hb] at h; exact ih hn h
      · have e := Nat.eq_of_beq_eq_true hb
        subst e
        exfalso
        have : Nat.blt m 64 = true := by simpa [Nat.blt_eq] using hn
        simp [this] at hl
theorem forceO_eq : ∀ (l : List (Nm × AObj)) (k : List (Nm × AObj) → Prop), forceO l k = k l := by
  intro l
  induction l with
  | nil => intro k; rfl
  | cons a l ih => obtain ⟨n, o⟩ := a; intro k; simp [forceO, ih]
theorem keepL_rep {keep : List Nat} : ∀ {l : List AV} {i : Nat} {vs : List Value}, RepL G l vs → RepL G (keepL keep l i) vs := by
  intro l
  induction l with
  | nil => intro i vs h; exact h
  | cons a l ih =>
    intro i vs h
    simp only [RepL] at h
    obtain ⟨v, us, rfl, h1, h2⟩ := h
    simp only [keepL, RepL]
    refine ⟨v, us, rfl, ?_, ih h2⟩
    split
    · exact h1
    · simp only [Rep]

/-- A state, some of its slots and objects forgotten. -/
theorem norm_sound {keep : List Nat} {k : St → Prop} (hE : ∀ n g, E.G.ob n = some g → n < 64) (hI : Inv E st G a w) (h : normK keep st k) : ∃ st' G', Inv E st' G' a w ∧ k st' := by
  unfold normK at h
  rw [forceL_eq, forceO_eq] at h
  obtain ⟨hc, h⟩ := must_elim h
  obtain ⟨ho, h⟩ := must_elim h
  generalize hs : keepL keep st.slots 0 = s at h hc ho
  generalize hob : sift (reach st.objs 1000 (namesL s) []) st.objs = ob at h hc ho
  have hcl := closedN_iff.1 hc
  let G' : Gh := ⟨G.K, fun n => match objGet ob n with | some _ => G.ob n | none => none⟩
  have hsame : ∀ n, (∃ x, objGet ob n = some x) → G'.ob n = G.ob n := by
    rintro n ⟨x, hx⟩
    simp [G', hx]
  have hback : ∀ {n g}, G'.ob n = some g → G.ob n = some g ∧ ∃ x, objGet ob n = some x := by
    intro n g hg
    simp only [G'] at hg
    split at hg
    · rename_i x hx; exact ⟨hg, x, hx⟩
    · cases hg
  have hat : ∀ {n b}, G'.at n b → G.at n b := by
    rintro n b (h1 | ⟨u, t, h1, h2⟩)
    · exact .inl (hback h1).1
    · exact .inr ⟨u, t, (hback h1).1, h2⟩
  have hslots : RepL G' s a.tmps.toList := RepL.restrict (G := G) (G' := G') rfl _ _ (fun n hn => hsame n (hcl n hn)) (by rw [← hs]; exact keepL_rep hI.slots)
  refine ⟨⟨s, ob⟩, G', ⟨hslots, hI.defers, ⟨hI.wr.know, ?_, fun n g hg => (hback hg).2, fun n m b h1 h2 => hI.wr.apart n m b (hat h1) (hat h2)⟩, ?_, ⟨hI.ext.os, hI.ext.tape, hI.ext.output, hI.ext.size, hI.ext.block, hI.ext.knew⟩, fun n b hb => hI.newb n b (hat hb)⟩, h⟩
  · intro n x hx
    have hx' : objGet st.objs n = some x := by rw [← hob] at hx; exact sift_get hx
    have hr := hI.wr.obj n x hx'
    have hn : G'.ob n = G.ob n := hsame n ⟨x, hx⟩
    have hnames : ∀ m ∈ objNames x, G'.ob m = G.ob m := fun m hm => hsame m (closedO_get ho hx m hm)
    cases x with
    | cells t l =>
      obtain ⟨b, vs, e1, e2, e3, e4⟩ := hr
      exact ⟨b, vs, by rw [hn]; exact e1, e2, RepL.restrict (G := G) (G' := G') rfl _ _ hnames e3, e4⟩
    | row t size top =>
      obtain ⟨u, xs, e1, e2, e3⟩ := hr
      exact ⟨u, xs, by rw [hn]; exact e1, e2, e3⟩
    | map es =>
      obtain ⟨b, ms, cl, e1, e2, e3, e4⟩ := hr
      refine ⟨b, ms, cl, by rw [hn]; exact e1, e2, ?_, e4⟩
      have : ∀ {es : List (ByteArray × AV)} {ms : List MapEntry}, MapR G es ms → MapR G' es ms := by
        intro es
        induction es with
        | nil => intro ms h; cases ms with
          | nil => trivial
          | cons m ms => exact h.elim
        | cons e es ih => intro ms h; cases ms with
          | nil => exact h.elim
          | cons m ms => exact ⟨h.1, Rep.nameless (G := G) (G' := G') (fun _ _ _ e => e) _ _ h.1.2 h.2.1, ih h.2.2⟩
      exact this e3
    | dead =>
      obtain ⟨⟨g, hg⟩, h2⟩ := hr
      exact ⟨⟨g, by rw [hn]; exact hg⟩, fun b hb => h2 b (by rw [hn] at hb; exact hb)⟩
  · have hle := hI.le
    have small : ∀ {n g}, E.G.ob n = some g → G'.ob n = G.ob n := by
      intro n g hg
      have hn := hE n g hg
      have : ∃ g', G.ob n = some g' := by
        cases g with
        | blk b => exact ⟨_, hle.blk n b hg⟩
        | rowv u t => obtain ⟨u', t', h1, _⟩ := hle.row n u t hg; exact ⟨_, h1⟩
      obtain ⟨g', hg'⟩ := this
      obtain ⟨x, hx⟩ := hI.wr.dom n g' hg'
      exact hsame n ⟨x, by rw [← hob]; exact sift_small hn hx⟩
    exact ⟨hle.K, fun n b hb => by rw [small hb]; exact hle.blk n b hb, fun n u t hb => by rw [small hb]; exact hle.row n u t hb⟩

/-- A loop from its round's head on. -/
def wpL (P : Program) (c : Code) (Q : Exit → Act → World → Prop) (a : Act) (w : World) : Prop :=
  ∀ (b : Frame) (k : List Item) (cs : List Frame), ∃ e a' w', Q e a' w' ∧ Arrives P (lone (b.at a (.code c :: .inLoop c :: k)) cs w) b k cs e a' w'
theorem wpL_step {c : Code} {Q : Exit → Act → World → Prop} (h : c.wp P (Exit.then (wpL P c Q) Q) a w) : wpL P c Q a w := by
  intro b k cs
  obtain ⟨e, a₁, w₁, hq, harr⟩ := h b (.inLoop c :: k) cs
  cases e with
  | normal =>
    obtain ⟨e₂, a₂, w₂, hq₂, harr₂⟩ := hq b k cs
    exact ⟨e₂, a₂, w₂, hq₂, .of_steps (Steps.trans harr (.one step_inLoop)) harr₂⟩
  | exit id => exact ⟨_, a₁, w₁, hq, .pass (x := .inLoop c) rfl (fun _ _ => .inl (by simp)) harr⟩
  | goto l => exact ⟨_, a₁, w₁, hq, .pass (x := .inLoop c) rfl (fun _ _ => .inl (by simp)) harr⟩
  | ret => exact ⟨_, a₁, w₁, hq, .pass (x := .inLoop c) rfl (fun _ _ => .inl (by simp)) harr⟩
  | panic ch => exact ⟨_, a₁, w₁, hq, .pass (x := .inLoop c) rfl (fun _ _ => .inl (by simp)) harr⟩
  | outgrown => exact ⟨_, a₁, w₁, hq, .pass (x := .inLoop c) rfl (fun _ _ => .inl (by simp)) harr⟩
theorem wp_of_wpL {c : Code} {Q : Exit → Act → World → Prop} (h : wpL P c Q a w) : (Code.loop c).wp P Q a w := by
  intro b k cs
  obtain ⟨e, a', w', hq, harr⟩ := h b k cs
  exact ⟨e, a', w', hq, .of_steps (.one step_loop) harr⟩

def XK.toExit : XK → Exit
  | .exit id => .exit id
  | .ret => .ret

theorem awp_sound (hT : TabOk P T) (hE : ∀ n g, E.G.ob n = some g → n < 64) : ∀ (c : Code) {k : St → Prop} {kx : XK → St → Prop} {Q : Exit → Act → World → Prop} {st : St} {G : Gh} {a : Act} {w : World}, drawsApart c = true → Inv E st G a w → awp P T an c st k kx →
    (∀ st' G' a' w', Inv E st' G' a' w' → k st' → Q .normal a' w') → (∀ x st' G' a' w', Inv E st' G' a' w' → kx x st' → Q x.toExit a' w') → c.wp P Q a w
  | .skip, k, kx, Q, st, G, a, w, hd, hI, h, hn, hx => wp_skip (hn _ _ _ _ hI h)
  | .region id ops draw, k, kx, Q, st, G, a, w, hd, hI, h, hn, hx => by
    cases draw with
    | true =>
      unfold awp at h
      simp only [drawsApart, Bool.and_eq_true] at hd
      exact draw_sound hT hd.1 hd.2.1 hd.2.2 hI h hn
    | false =>
      unfold awp at h
      rw [upto_eq] at h
      exact wp_region (ops_sound hT ops hn _ hI h)
  | .seq x y, k, kx, Q, st, G, a, w, hd, hI, h, hn, hx => by
    unfold awp at h
    simp only [drawsApart, Bool.and_eq_true] at hd
    refine wp_seq (awp_sound hT hE x hd.1 hI h (fun st' G' a' w' hI' h' => ?_) fun e st' G' a' w' hI' h' => ?_)
    · exact awp_sound hT hE y hd.2 hI' h' hn hx
    · cases e <;> exact hx _ _ _ _ _ hI' h'
  | .cond c x y, k, kx, Q, st, G, a, w, hd, hI, h, hn, hx => by
    unfold awp at h
    have hc := hI.eval c
    split at h
    · rename_i b he
      rw [he] at hc
      simp only [Rep] at hc
      simp only [drawsApart, Bool.and_eq_true] at hd
      refine wp_cond hc ?_
      cases b
      · exact awp_sound hT hE y hd.2 hI h hn hx
      · exact awp_sound hT hE x hd.1 hI h hn hx
    · exact h.elim
  | .block id c, k, kx, Q, st, G, a, w, hd, hI, h, hn, hx => by
    unfold awp at h
    refine wp_block (awp_sound hT hE c hd hI h (fun st' G' a' w' hI' h' => hn _ _ _ _ hI' h') fun e st' G' a' w' hI' h' => ?_)
    cases e with
    | exit id' =>
      simp only at h'
      split at h'
      · rename_i hb
        have e := Nat.eq_of_beq_eq_true hb
        subst e
        simp only [XK.toExit, Exit.inBlock, if_true]
        exact hn _ _ _ _ hI' h'
      · rename_i hb
        rw [nbeq_false] at hb
        simp only [XK.toExit, Exit.inBlock, hb, if_false]
        exact hx (.exit id') _ _ _ _ hI' h'
    | ret => exact hx .ret _ _ _ _ hI' h'
  | .loop c, k, kx, Q, st, G, a, w, hd, hI, h, hn, hx => by
    unfold awp at h
    obtain ⟨st1, G1, hI1, h1⟩ := norm_sound hE hI h
    obtain ⟨st', G', hI', h'⟩ := rows_sound hI1 h1
    refine wp_of_wpL ?_
    clear hI h hI1 h1
    induction h' generalizing G' a w with
    | mk X hX s hF ih =>
      refine wpL_step (awp_sound hT hE c hd hI' hF (fun st2 G2 a2 w2 hI2 h2 => ?_) fun e st2 G2 a2 w2 hI2 h2 => ?_)
      · obtain ⟨st3, G3, hI3, h3⟩ := norm_sound hE hI2 h2
        exact ih st3 h3 _ _ _ hI3
      · cases e <;> exact hx _ _ _ _ _ hI2 h2
  | .exit id, k, kx, Q, st, G, a, w, hd, hI, h, hn, hx => wp_exit (hx (.exit id) _ _ _ _ hI h)
  | .ret, k, kx, Q, st, G, a, w, hd, hI, h, hn, hx => wp_ret (hx .ret _ _ _ _ hI h)
  | .label l, k, kx, Q, st, G, a, w, hd, hI, h, hn, hx => wp_label (hn _ _ _ _ hI h)
  | .rangeFunc .., k, kx, Q, st, G, a, w, hd, hI, h, hn, hx => h.elim
  | .scope .., k, kx, Q, st, G, a, w, hd, hI, h, hn, hx => h.elim
  | .goto .., k, kx, Q, st, G, a, w, hd, hI, h, hn, hx => h.elim
  | .refuse .., k, kx, Q, st, G, a, w, hd, hI, h, hn, hx => h.elim

theorem padTo_eq (l : List AV) : ∀ n, padTo l n = l ++ junks (n - l.length) := by
  induction l with
  | nil => intro n; simp [padTo]
  | cons x l ih => intro n; cases n with
    | zero => simp [padTo, junks]
    | succ n => simp [padTo, ih]
theorem junks_rep (G : Gh) (n : Nat) : RepL G (junks n) (List.replicate n undef) := by
  induction n with
  | zero => simp [junks, RepL]
  | succ n ih => simp only [junks, List.replicate_succ, RepL]; exact ⟨_, _, rfl, by simp only [Rep], ih⟩

theorem retSlots_sound (hT : TabOk P T) (hI : Inv E st G a w) : ∀ {rs : List ResultVar} {k : List AV → Prop}, retSlots T st.slots st.objs rs k →
    ∃ (l : List AV) (vs : List Value), k l ∧ RepL G l vs ∧ (rs.mapM fun r => (match r with
      | .tmp t => pure (a.tmps.getD t undef)
      | .cell x t => do loadVar t (← asAddr (a.tmps.getD x undef)) : Sem Value)).run P w = .ok vs w := by
  intro rs
  induction rs with
  | nil => intro k h; exact ⟨[], [], h, by simp [RepL], by simp⟩
  | cons r rs ih =>
    intro k h
    cases r with
    | cell x t =>
      unfold retSlots at h
      have hp := hI.eval (.tmp x)
      split at h
      · rename_i n off he
        split at h
        · rename_i t' c ho
          have he' : evA st.slots (.tmp x) = .ptr n off := he
          rw [he'] at hp
          simp only [Rep] at hp
          obtain ⟨b, hb, hpe⟩ := hp
          obtain ⟨b', vs, e1, e2, e3, e4⟩ := hI.obj_cells ho
          rw [hb] at e1
          cases e1
          rw [dropL_eq] at h
          obtain ⟨v, y, h3, h4, h5⟩ := aload_sound (w := w) hT h (e3.drop off) b off (fun j v hj => by
            rw [cell_row e2]
            rwa [List.getElem?_drop] at hj)
          obtain ⟨l, us, g1, g2, g3⟩ := ih h3
          refine ⟨v :: l, y :: us, g1, by simp only [RepL]; exact ⟨_, _, rfl, h4, g2⟩, ?_⟩
          have hpe' : a.tmps.getD x undef = .pointer (some ⟨b, off, none⟩) := hpe
          have hpa : asAddr (a.tmps.getD x undef) = pure ⟨b, off, none⟩ := by rw [hpe']; rfl
          simp only [List.mapM_cons, Sem.run_bind, Sem.run_pure, Result.andThen_ok, g3, hpa, h5]
        · exact h.elim
      · exact h.elim
    | tmp t =>
      unfold retSlots at h
      rw [force_eq] at h
      obtain ⟨l', us, h1, h2, h3⟩ := ih h
      refine ⟨getL st.slots t :: l', a.tmps.getD t undef :: us, h1, by simp only [RepL]; exact ⟨_, _, rfl, hI.eval (.tmp t), h2⟩, ?_⟩
      simp only [List.mapM_cons, Sem.run_bind, Sem.run_pure, Result.andThen_ok, h3]

/-- What comes back of a call. -/
def Back (E : Entry) (R : AV → List AObj → Prop) (e : Ending) (w' : World) : Prop :=
  ∃ (v : Value) (r : AV) (os' : List AObj) (G' : Gh), e = .returned v ∧ R r os' ∧ Rep G' r v ∧ WR G' (numbered 0 os') w' ∧ E.G.le G' ∧ Ext (fun b => ∃ n, E.G.at n b) E.G.K E.w G'.K w' ∧
    (∀ n b, G'.at n b → (∃ m, E.G.at m b) ∨ E.w.heap.size ≤ b) ∧ (∀ (i : Nat) (o : AObj), os'[i]? = some o → ∀ m ∈ objNames o, m < os'.length) ∧ ∀ m ∈ r.names, m < os'.length

theorem prefixN_get : ∀ {l ms : List Nat}, prefixN l ms = true → ∀ {i n : Nat}, l[i]? = some n → ms[i]? = some n := by
  intro l
  induction l with
  | nil => intro ms _ i n h; simp at h
  | cons a l ih =>
    intro ms h i n hi
    cases ms with
    | nil => simp [prefixN] at h
    | cons b ms =>
      unfold prefixN at h
      split at h
      · rename_i hb
        have := Nat.eq_of_beq_eq_true hb
        subst this
        cases i with
        | zero => simpa using hi
        | succ i => simp at hi ⊢; exact ih h hi
      · cases h

theorem ren_small {ms : List Nm} {l : List AV} (hnd : ms.Nodup) (hsub : ∀ n ∈ namesL l, n ∈ ms) : ∀ m ∈ namesL (renL (idxN ms) l), m < ms.length := by
  intro m hm
  rw [names_renL] at hm
  obtain ⟨n, hn, rfl⟩ := List.mem_map.1 hm
  exact (List.getElem?_eq_some_iff.1 (idxN_mem hnd (hsub n hn))).1

theorem ret_sound (hT : TabOk P T) {fn : Func} {R : AV → List AObj → Prop} {k : Nat} (hE0 : ∀ n g, E.G.ob n = some g → n < k) (hET : ∀ b, E.T b ↔ ∃ n, E.G.at n b) (hI : Inv E st G a w) (h : retK T an fn.results.toList k st R) :
    a.defers = [] ∧ ∃ v, (results fn a.tmps).run P w = .ok v w ∧ Back E R (.returned v) w := by
  refine ⟨hI.defers, ?_⟩
  unfold retK at h
  · obtain ⟨l, vs, h, h1, h2⟩ := retSlots_sound hT hI h
    rw [forceL_eq] at h
    have h3 : RepL G (match an.keepRes with | true => l | false => l.map AV.strips) vs := by
      split
      · exact h1
      · exact strips_rep h1
    obtain ⟨os, h, hnd, hlen, hlive, hWR, hcl⟩ := partK_elim h hI.wr
    obtain ⟨hpre, h⟩ := must_elim h
    obtain ⟨hsub, h⟩ := must_elim h
    rw [forceL_eq] at h
    rw [subN_iff] at hsub
    have hRL := RepL.rename (G := G) (G' := G.part _) (fun _ _ _ e => e) _ _ (fun n hn => Gh.part_idx hnd (hsub n hn)) h3
    have hnames := ren_small hnd hsub
    rw [← hlen] at hnames
    have hres : (results fn a.tmps).run P w = .ok (if h : vs.toArray.size = 1 then vs.toArray[0] else .tuple vs.toArray) w := by
      unfold results
      rw [Array.mapM_eq_mapM_toList]
      simp only [Sem.run_bind, Sem.run_map]
      erw [h2]
      rfl
    have hback : ∀ {r : AV} {v : Value}, Rep (G.part _) r v → (∀ m ∈ r.names, m < os.length) → R r os → Back E R (.returned v) w := fun {r v} hr hnm hR => by
      refine ⟨v, r, os, G.part _, rfl, hR, hr, hWR, ⟨hI.le.K, fun n b e => ?_, fun n u t e => ?_⟩,
        ⟨hI.ext.os, hI.ext.tape, hI.ext.output, hI.ext.size, fun b hb hT => hI.ext.block b hb (fun h => hT ((hET b).1 h)), fun b o hb hT => hI.ext.knew b o hb (fun h => hT ((hET b).1 h))⟩, fun i b hi => ?_, hcl, hnm⟩
      · have hlt := hE0 n _ e
        have := prefixN_get hpre (i := n) (n := n) (by rw [upto_eq]; simp [hlt])
        simp only [Gh.part]
        erw [this]
        exact hI.le.blk n b e
      · have hlt := hE0 n _ e
        have := prefixN_get hpre (i := n) (n := n) (by rw [upto_eq]; simp [hlt])
        simp only [Gh.part]
        erw [this]
        exact hI.le.row n u t e
      · obtain ⟨n, _, hn⟩ := Gh.part_at hi
        rcases hI.newb n b hn with h | h
        · exact .inl ((hET b).1 h)
        · exact .inr h
    refine ⟨_, hres, ?_⟩
    split at h
    · rename_i r hr
      rw [hr] at hRL hnames
      simp only [RepL] at hRL
      obtain ⟨v, us, rfl, h5, rfl⟩ := hRL
      exact hback (by simpa using h5) (fun m hm => hnames m (by simpa [namesL] using hm)) h
    · rename_i hr
      have hlen' := hRL.length
      have : ¬ vs.toArray.size = 1 := by
        intro e
        have e : vs.length = 1 := by simpa using e
        rw [hlen'] at e
        obtain ⟨r, e⟩ := List.length_eq_one_iff.1 e
        exact hr r e
      simp only [this, dif_neg, not_false_eq_true]
      exact hback (by simp only [Rep]; exact ⟨vs, rfl, hRL⟩) (by simpa [AV.names] using hnames) h

theorem acalls_of_awp {f : FuncId} {fn : Func} {args : List AV} {os : List AObj} {R : AV → List AObj → Prop} (hT : TabOk P T) (hf : P.funcs[f]? = some fn) (h : awpFn P T an fn args os R) : ACalls P f args os R := by
  refine ⟨?_⟩
  intro G w vals hW hA
  unfold awpFn at h
  split at h
  · rename_i c hc
    obtain ⟨h64, h⟩ := must_elim h
    have h64 : os.length ≤ 64 := Nat.le_of_ble_eq_true h64
    have hk : ∀ n g, G.ob n = some g → n < os.length := fun n g e => by
      obtain ⟨o, ho⟩ := hW.dom n g e
      rw [objGet_numbered0] at ho
      exact (List.getElem?_eq_some_iff.1 ho).1
    let E : Entry := ⟨G, w, fun b => ∃ n, G.at n b⟩
    have hI : Inv E ⟨padTo args fn.ntmps, numbered 0 os⟩ G { tmps := vals.toArray ++ Array.replicate (fn.ntmps - vals.toArray.size) undef, defers := [] } w := by
      refine ⟨?_, rfl, hW, Gh.le.refl _, ⟨rfl, rfl, rfl, Nat.le_refl _, fun _ _ _ => rfl, fun _ _ _ _ => rfl⟩, fun n b hb => .inl ⟨n, hb⟩⟩
      have hl := hA.length
      simp only [padTo_eq, Array.toList_append, List.toList_toArray, Array.toList_replicate, List.size_toArray, hl]
      exact hA.append (junks_rep G _)
    have hdr : drawsApart c = true := by
      have := hT.draws f fn hf
      unfold fnApart at this
      rw [hc] at this
      exact this
    refine calls_of_wp (c := c) hf hc (awp_sound hT (fun n g e => Nat.lt_of_lt_of_le (hk n g e) h64) c hdr hI h (fun st' G' a' w' hI' h' => ?_) fun x st' G' a' w' hI' h' => ?_)
    · exact ret_sound hT hk (fun b => Iff.rfl) hI' h'
    · cases x with
      | ret => exact ret_sound hT hk (fun b => Iff.rfl) hI' h'
      | exit id => exact h'.elim
  · exact h.elim
end
end Go.Abs
