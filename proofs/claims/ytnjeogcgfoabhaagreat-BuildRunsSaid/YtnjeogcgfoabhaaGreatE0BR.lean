/- The engine, BR. -/
import Derived.Test.YtnjeogcgfoabhaaGreatE0BQ
set_option linter.unusedVariables false
set_option linter.unusedSimpArgs false
namespace Go.Abs
open Go
section
variable {P : Program} {T : Tab} {an : Ann}
theorem EA {ev ev' : Operand → AV} {l : List Operand} (h : ∀ x ∈ l, ev x = ev' x) : l.map ev = l.map ev' := List.map_congr_left h
theorem AL {ev ev' : Operand → AV} {fs : List (Nat × TypeId)} : ∀ {ps : List (Nat × Operand)} {l : List AV} {k : List AV → Prop}, (∀ p ∈ ps, ev p.2 = ev' p.2) → aQ.buildK T ev fs ps l k = aQ.buildK T ev' fs ps l k := by
 intro ps
 induction ps with
 | nil => intro l k _; rfl
 | cons p ps ih =>
  obtain ⟨i, x⟩ := p;intro l k h;unfold aQ.buildK;rw [h (i, x) (by simp)];simp only [ih (fun p hp => h p (by simp [hp]))]
theorem uC {ev ev' : Operand → AV} {size : Nat} : ∀ {ps : List (Nat × Operand)} {l : List AV} {k : List AV → Prop}, (∀ p ∈ ps, ev p.2 = ev' p.2) → aQ.buildArrK ev size ps l k = aQ.buildArrK ev' size ps l k := by
 intro ps
 induction ps with
 | nil => intro l k _; rfl
 | cons p ps ih =>
  obtain ⟨i, x⟩ := p;intro l k h;unfold aQ.buildArrK;rw [h (i, x) (by simp)];simp only [ih (fun p hp => h p (by simp [hp]))]
theorem Av {ev ev' : Operand → AV} {size : Nat} : ∀ {ps : List (Nat × Operand)} {n : Nat} {k : List (List AV) → Prop}, (∀ p ∈ ps, ev p.2 = ev' p.2) → nX ev size ps n k = nX ev' size ps n k := by
 intro ps
 induction ps with
 | nil => intro l k _; rfl
 | cons p ps ih =>
  obtain ⟨i, x⟩ := p;intro l k h;unfold nX;rw [h (i, x) (by simp)];simp only [ih (fun p hp => h p (by simp [hp]))]
theorem jL {ev ev' : Operand → AV} {x : Option Operand} {d : Nat} {k : Int → Prop} (h : ∀ y, x = some y → ev y = ev' y) : aQ.boundK ev x d k = aQ.boundK ev' x d k := by
 cases x with
 | none => rfl
 | some y => simp only [aQ.boundK, h y rfl]
theorem sA {ev ev' : Operand → AV} {dst : Option Tmp} {c : Call} {first cap : List AV} (h : ∀ x ∈ c.args.toList, ev x = ev' x) : q7 an dst ev c first cap = q7 an dst ev' c first cap := by
 unfold q7;rw [EA h]
theorem mj {op : Op} {dst : Option Tmp} {ev ev' : Operand → AV} {objs : List (Nm × aE)} {k : AV → List (Nm × aE) → Prop} (h : ∀ x ∈ op.operands.toList, ev x = ev' x) : aQ P T an op dst ev objs k = aQ P T an op dst ev' objs k := by
 cases op with
 | move x => simp only [aQ, h x (by simp [Op.operands])]
 | assign x => simp only [aQ, h x (by simp [Op.operands])]
 | pick c a b => simp only [aQ, h c (by simp [Op.operands]), h a (by simp [Op.operands]), h b (by simp [Op.operands])]
 | binOp op t x y yt => simp only [aQ, h x (by simp [Op.operands]), h y (by simp [Op.operands])]
 | unOp op t x => simp only [aQ, h x (by simp [Op.operands])]
 | load t x => simp only [aQ, h x (by simp [Op.operands])]
 | store t x y => simp only [aQ, h x (by simp [Op.operands]), h y (by simp [Op.operands])]
 | fieldAddr t x f => simp only [aQ, h x (by simp [Op.operands])]
 | field t x f => simp only [aQ, h x (by simp [Op.operands])]
 | indexAddr t x y => simp only [aQ, h x (by simp [Op.operands]), h y (by simp [Op.operands])]
 | index t x y => simp only [aQ, h x (by simp [Op.operands]), h y (by simp [Op.operands])]
 | extract x i => simp only [aQ, h x (by simp [Op.operands])]
 | build t ps =>
  have h' : ∀ p ∈ ps.toList, ev p.2 = ev' p.2 := fun p hp => h p.2 (by simp only [Op.operands, abt]; exact aaD hp);simp only [aQ, AL h', uC h']
 | buildSlice t n ps =>
  have h' : ∀ p ∈ ps.toList, ev p.2 = ev' p.2 := fun p hp => h p.2 (by simp only [Op.operands, abt]; exact aaD hp);simp only [aQ, Av h']
 | alloc t => rfl
 | box t x => simp only [aQ, h x (by simp [Op.operands])]
 | nilCheck x => simp only [aQ, h x (by simp [Op.operands])]
 | makeFunc f a b =>
  have h1 : ∀ x ∈ a.toList, ev x = ev' x := fun x hx => h x (by simp only [Op.operands, Array.toList_append]; exact aa3 _ hx);have h2 : ∀ x ∈ b.toList, ev x = ev' x := fun x hx => h x (by simp only [Op.operands, Array.toList_append]; exact List.mem_append_right _ hx);simp only [aQ, EA h1, EA h2]
 | makeMap t r => cases r <;> rfl
 | slice t x lo hi mx =>
  cases mx with
  | some mx =>
   cases hi with
   | none => rfl
   | some hi =>
    have e1 : ∀ {d : Nat} {k : Int → Prop}, aQ.boundK ev lo d k = aQ.boundK ev' lo d k := jL fun y hy => h y (by subst hy; simp [Op.operands]);have e2 : ∀ {d : Nat} {k : Int → Prop}, aQ.boundK ev (some hi) d k = aQ.boundK ev' (some hi) d k := jL fun y hy => h y (by cases hy; simp [Op.operands]);have e3 : ∀ {d : Nat} {k : Int → Prop}, aQ.boundK ev (some mx) d k = aQ.boundK ev' (some mx) d k := jL fun y hy => h y (by cases hy; simp [Op.operands]);simp only [aQ, h x (by simp [Op.operands]), e1, e2, e3]
  | none =>
   have e1 : ∀ {d : Nat} {k : Int → Prop}, aQ.boundK ev lo d k = aQ.boundK ev' lo d k := jL fun y hy => h y (by subst hy; simp [Op.operands]);have e2 : ∀ {d : Nat} {k : Int → Prop}, aQ.boundK ev hi d k = aQ.boundK ev' hi d k := jL fun y hy => h y (by subst hy; simp [Op.operands]);simp only [aQ, h x (by simp [Op.operands]), e1, e2]
 | convert s d x => simp only [aQ, h x (by simp [Op.operands])]
 | lookup t x y ok => simp only [aQ, h x (by simp [Op.operands]), h y (by simp [Op.operands])]
 | mapUpdate t x y z => simp only [aQ, h x (by simp [Op.operands]), h y (by simp [Op.operands]), h z (by simp [Op.operands])]
 | call c =>
  have ha : ∀ x ∈ c.args.toList, ev x = ev' x := fun x hx => h x (by simp only [Op.operands, Call.operands]; cases c.callee <;> simp at hx ⊢ <;> simp [hx]);simp only [aQ]
  cases hcal : c.callee with
  | value f =>
   have hf := h f (by simp [Op.operands, Call.operands, hcal]);simp only [hf, sA ha]
  | invoke _ _ => rfl
  | builtin b =>
   simp only;split
   ·rename_i hx _; rw [ha _ (by rw [hx]; simp)]
   ·rename_i hx _; rw [ha _ (by rw [hx]; simp), ha _ (by rw [hx]; simp)]
   ·rename_i hx _; rw [ha _ (by rw [hx]; simp), ha _ (by rw [hx]; simp)]
   ·rename_i hx _; rw [ha _ (by rw [hx]; simp), ha _ (by rw [hx]; simp)]
   ·rename_i hx _; rw [ha _ (by rw [hx]; simp), ha _ (by rw [hx]; simp)]
   ·rfl
 | makeInterface t x => simp only [aQ, h x (by simp [Op.operands])]
 | _ => rfl
theorem ug {op : Op} {dst : Option Tmp} {ev ev' : Operand → AV} (h : ∀ x ∈ op.operands.toList, ev x = ev' x) : bH an op dst ev = bH an op dst ev' := by
 cases op with
 | load t x => simp only [bH, h x (by simp [Op.operands])]
 | lookup t x y ok => simp only [bH, h x (by simp [Op.operands])]
 | convert s d x => simp only [bH, h x (by simp [Op.operands])]
 | call c =>
  have ha : ∀ x ∈ c.args.toList, ev x = ev' x := fun x hx => h x (by simp only [Op.operands, Call.operands]; cases c.callee <;> simp at hx ⊢ <;> simp [hx]);simp only [bH]
  cases hcal : c.callee with
  | value f => rfl
  | invoke _ _ => rfl
  | builtin b =>
   simp only;split
   ·split
    ·rename_i hx; rw [ha _ (by rw [hx]; simp)]
    ·rfl
   ·rfl
   ·rfl
   ·rfl
 | _ => rfl
theorem wI {op : Op} {dst : Option Tmp} {ev : Operand → AV} (h : bH an op dst ev = .wr) (ev' : Operand → AV) : bH an op dst ev' = .wr := by
 cases op with
 | load t x => simp only [bH] at h; split at h <;> cases h
 | lookup t x y ok => simp only [bH] at h; split at h <;> cases h
 | convert s d x => simp only [bH] at h; split at h <;> cases h
 | call c =>
  simp only [bH] at h ⊢;split at h
  ·exact h
  ·split at h
   ·split at h
    ·split at h <;> cases h
    ·cases h
   ·cases h
   ·cases h
   ·rfl
  ·rfl
 | _ => exact h
theorem Ja {op : Op} {dst : Option Tmp} {ev : Operand → AV} {r : List Nm} (hc : bH an op dst ev = .val r) {objs objs2 : List (Nm × aE)} (hr : ∀ m ∈ r, ax objs2 m = ax objs m) (k : AV → List (Nm × aE) → Prop) : aQ P T an op dst ev objs2 k ↔ aQ P T an op dst ev objs fun v _ => k v objs2 := by
 cases op with
 | load t x =>
  simp only [aQ, bH] at hc ⊢;split at hc
  ·simp only [Cls.val.injEq] at hc;subst hc;rename_i n off he;simp only [he, hr n (by simp)]
  ·simp only [Cls.val.injEq] at hc;subst hc;rename_i n size ver i off he;simp only [he, hr n (by simp)]
  ·rename_i hne hne2;split <;> try exact Iff.rfl
   ·rename_i n off he;exact absurd he (hne n off)
   ·rename_i n size ver i off he;exact absurd he (hne2 n size ver i off)
 | lookup t m x ok =>
  simp only [aQ, bH] at hc ⊢;split at hc
  ·simp only [Cls.val.injEq] at hc;subst hc;rename_i n he;simp only [he];generalize ev x = B
   cases B <;> try exact Iff.rfl
   rename_i v
   cases v <;> try exact Iff.rfl
   simp only [hr n (by simp)]
  ·rename_i hne;split <;> try exact Iff.rfl
   split <;> try exact Iff.rfl
   unfold fW;split <;> try exact Iff.rfl
   split <;> try exact Iff.rfl
   rename_i n s he _;exact absurd he (hne n)
 | convert s d x =>
  simp only [aQ, bH] at hc ⊢;split at hc
  ·simp only [Cls.val.injEq] at hc;subst hc;rename_i n size ver off len he;rw [he];unfold fW;split <;> try exact Iff.rfl
   split <;> try exact Iff.rfl
   dsimp only;generalize (T.ti d).d = D
   cases D <;> try exact Iff.rfl
   simp only [hr n (by simp)]
  ·rename_i hne;unfold fW;split <;> try exact Iff.rfl
   split <;> try exact Iff.rfl
   dsimp only;generalize (T.ti d).d = D;generalize he : ev x = A
   cases D <;> cases A <;> try exact Iff.rfl
   all_goals first | exact (hne _ _ _ _ _ he).elim | (rename_i v; cases v <;> exact Iff.rfl)
 | box t x =>
  simp only [aQ, bH] at hc ⊢;split at hc
  ·split at hc
   ·rename_i hm; simp only [hm]
   ·cases hc
  ·cases hc
 | buildSlice t n ps =>
  simp only [aQ, bH] at hc ⊢;split at hc
  ·split at hc
   ·cases hc
   ·split at hc
    ·cases hc
    ·rename_i h1 _ h2; simp only [h1, h2]
  ·cases hc
 | call c =>
  simp only [aQ, bH] at hc ⊢;split at hc
  ·split at hc
   ·split at hc <;> cases hc
   ·cases hc
  ·rename_i b hcal
   try simp only
   split at hc
   ·split at hc
    ·rename_i x hx;split
     ·rename_i hx' _;rw [hx] at hx'
      cases hx';split at hc
      ·simp only [Cls.val.injEq] at hc;subst hc;rename_i m he;simp only [he, xw, hr m (by simp)]
      ·rename_i hne;have : xw (ev x) objs2 = xw (ev x) objs := by
        unfold xw;split <;> try rfl
        rename_i m he;exact absurd he (hne m)
       rw [this]
     all_goals first | exact Iff.rfl | (rename_i hb _ _; cases hb)
    ·rename_i hne;split <;> first | exact Iff.rfl | simp_all
   ·split <;> first | exact Iff.rfl | simp_all
   ·split <;> first | exact Iff.rfl | simp_all
   ·cases hc
  ·cases hc
 | alloc t => simp [bH] at hc
 | makeMap t r => simp [bH] at hc
 | store _ _ _ => simp [bH] at hc
 | mapUpdate _ _ _ _ => simp [bH] at hc
 | slice t x lo hi mx => cases mx <;> cases hi <;> exact Iff.rfl
 | _ => exact Iff.rfl
end
end Go.Abs
