/- The engine, part 18d: what an operation hangs on. -/
import Derived.Test.YtpkocgpcdddleaaGreatBQ
set_option linter.unusedVariables false
set_option linter.unusedSimpArgs false
namespace Go.Abs
open Go

section
variable {P : Program} {T : Tab} {an : Ann}

theorem map_ev {ev ev' : Operand → AV} {l : List Operand} (h : ∀ x ∈ l, ev x = ev' x) : l.map ev = l.map ev' := List.map_congr_left h

theorem buildK_congr {ev ev' : Operand → AV} {fs : List (Nat × TypeId)} : ∀ {ps : List (Nat × Operand)} {l : List AV} {k : List AV → Prop}, (∀ p ∈ ps, ev p.2 = ev' p.2) → genOp.buildK T ev fs ps l k = genOp.buildK T ev' fs ps l k := by
 intro ps
 induction ps with
 | nil => intro l k _; rfl
 | cons p ps ih =>
  obtain ⟨i, x⟩ := p
  intro l k h
  unfold genOp.buildK
  rw [h (i, x) (by simp)]
  simp only [ih (fun p hp => h p (by simp [hp]))]
theorem buildArrK_congr {ev ev' : Operand → AV} {size : Nat} : ∀ {ps : List (Nat × Operand)} {l : List AV} {k : List AV → Prop}, (∀ p ∈ ps, ev p.2 = ev' p.2) → genOp.buildArrK ev size ps l k = genOp.buildArrK ev' size ps l k := by
 intro ps
 induction ps with
 | nil => intro l k _; rfl
 | cons p ps ih =>
  obtain ⟨i, x⟩ := p
  intro l k h
  unfold genOp.buildArrK
  rw [h (i, x) (by simp)]
  simp only [ih (fun p hp => h p (by simp [hp]))]
theorem elemsK_congr {ev ev' : Operand → AV} {size : Nat} : ∀ {ps : List (Nat × Operand)} {n : Nat} {k : List (List AV) → Prop}, (∀ p ∈ ps, ev p.2 = ev' p.2) → elemsK ev size ps n k = elemsK ev' size ps n k := by
 intro ps
 induction ps with
 | nil => intro l k _; rfl
 | cons p ps ih =>
  obtain ⟨i, x⟩ := p
  intro l k h
  unfold elemsK
  rw [h (i, x) (by simp)]
  simp only [ih (fun p hp => h p (by simp [hp]))]
theorem boundK_congr {ev ev' : Operand → AV} {x : Option Operand} {d : Nat} {k : Int → Prop} (h : ∀ y, x = some y → ev y = ev' y) : genOp.boundK ev x d k = genOp.boundK ev' x d k := by
 cases x with
 | none => rfl
 | some y => simp only [genOp.boundK, h y rfl]
theorem argsOf_congr {ev ev' : Operand → AV} {dst : Option Tmp} {c : Call} {first cap : List AV} (h : ∀ x ∈ c.args.toList, ev x = ev' x) : argsOf an dst ev c first cap = argsOf an dst ev' c first cap := by
 unfold argsOf
 rw [map_ev h]

theorem genOp_congr {op : Op} {dst : Option Tmp} {ev ev' : Operand → AV} {objs : List (Nm × AObj)} {k : AV → List (Nm × AObj) → Prop} (h : ∀ x ∈ op.operands.toList, ev x = ev' x) :
  genOp P T an op dst ev objs k = genOp P T an op dst ev' objs k := by
 cases op with
 | move x => simp only [genOp, h x (by simp [Op.operands])]
 | assign x => simp only [genOp, h x (by simp [Op.operands])]
 | pick c a b => simp only [genOp, h c (by simp [Op.operands]), h a (by simp [Op.operands]), h b (by simp [Op.operands])]
 | binOp op t x y yt => simp only [genOp, h x (by simp [Op.operands]), h y (by simp [Op.operands])]
 | unOp op t x => simp only [genOp, h x (by simp [Op.operands])]
 | load t x => simp only [genOp, h x (by simp [Op.operands])]
 | store t x y => simp only [genOp, h x (by simp [Op.operands]), h y (by simp [Op.operands])]
 | fieldAddr t x f => simp only [genOp, h x (by simp [Op.operands])]
 | field t x f => simp only [genOp, h x (by simp [Op.operands])]
 | indexAddr t x y => simp only [genOp, h x (by simp [Op.operands]), h y (by simp [Op.operands])]
 | index t x y => simp only [genOp, h x (by simp [Op.operands]), h y (by simp [Op.operands])]
 | extract x i => simp only [genOp, h x (by simp [Op.operands])]
 | build t ps =>
  have h' : ∀ p ∈ ps.toList, ev p.2 = ev' p.2 := fun p hp => h p.2 (by simp only [Op.operands, List.toList_toArray]; exact List.mem_map_of_mem hp)
  simp only [genOp, buildK_congr h', buildArrK_congr h']
 | buildSlice t n ps =>
  have h' : ∀ p ∈ ps.toList, ev p.2 = ev' p.2 := fun p hp => h p.2 (by simp only [Op.operands, List.toList_toArray]; exact List.mem_map_of_mem hp)
  simp only [genOp, elemsK_congr h']
 | alloc t => rfl
 | box t x => simp only [genOp, h x (by simp [Op.operands])]
 | nilCheck x => simp only [genOp, h x (by simp [Op.operands])]
 | makeFunc f a b =>
  have h1 : ∀ x ∈ a.toList, ev x = ev' x := fun x hx => h x (by simp only [Op.operands, Array.toList_append]; exact List.mem_append_left _ hx)
  have h2 : ∀ x ∈ b.toList, ev x = ev' x := fun x hx => h x (by simp only [Op.operands, Array.toList_append]; exact List.mem_append_right _ hx)
  simp only [genOp, map_ev h1, map_ev h2]
 | makeMap t r => cases r <;> rfl
 | slice t x lo hi mx =>
  cases mx with
  | some mx =>
   cases hi with
   | none => rfl
   | some hi =>
    have e1 : ∀ {d : Nat} {k : Int → Prop}, genOp.boundK ev lo d k = genOp.boundK ev' lo d k := boundK_congr fun y hy => h y (by subst hy; simp [Op.operands])
    have e2 : ∀ {d : Nat} {k : Int → Prop}, genOp.boundK ev (some hi) d k = genOp.boundK ev' (some hi) d k := boundK_congr fun y hy => h y (by cases hy; simp [Op.operands])
    have e3 : ∀ {d : Nat} {k : Int → Prop}, genOp.boundK ev (some mx) d k = genOp.boundK ev' (some mx) d k := boundK_congr fun y hy => h y (by cases hy; simp [Op.operands])
    simp only [genOp, h x (by simp [Op.operands]), e1, e2, e3]
  | none =>
   have e1 : ∀ {d : Nat} {k : Int → Prop}, genOp.boundK ev lo d k = genOp.boundK ev' lo d k := boundK_congr fun y hy => h y (by subst hy; simp [Op.operands])
   have e2 : ∀ {d : Nat} {k : Int → Prop}, genOp.boundK ev hi d k = genOp.boundK ev' hi d k := boundK_congr fun y hy => h y (by subst hy; simp [Op.operands])
   simp only [genOp, h x (by simp [Op.operands]), e1, e2]
 | convert s d x => simp only [genOp, h x (by simp [Op.operands])]
 | lookup t x y ok => simp only [genOp, h x (by simp [Op.operands]), h y (by simp [Op.operands])]
 | mapUpdate t x y z => simp only [genOp, h x (by simp [Op.operands]), h y (by simp [Op.operands]), h z (by simp [Op.operands])]
 | call c =>
  have ha : ∀ x ∈ c.args.toList, ev x = ev' x := fun x hx => h x (by simp only [Op.operands, Call.operands]; cases c.callee <;> simp at hx ⊢ <;> simp [hx])
  simp only [genOp]
  cases hcal : c.callee with
  | value f =>
   have hf := h f (by simp [Op.operands, Call.operands, hcal])
   simp only [hf, argsOf_congr ha]
  | invoke _ _ => rfl
  | builtin b =>
   simp only
   split
   ·rename_i hx _; rw [ha _ (by rw [hx]; simp)]
   ·rename_i hx _; rw [ha _ (by rw [hx]; simp), ha _ (by rw [hx]; simp)]
   ·rename_i hx _; rw [ha _ (by rw [hx]; simp), ha _ (by rw [hx]; simp)]
   ·rename_i hx _; rw [ha _ (by rw [hx]; simp), ha _ (by rw [hx]; simp)]
   ·rename_i hx _; rw [ha _ (by rw [hx]; simp), ha _ (by rw [hx]; simp)]
   ·rfl
 | makeInterface t x => simp only [genOp, h x (by simp [Op.operands])]
 | _ => rfl

theorem clsOf_congr {op : Op} {dst : Option Tmp} {ev ev' : Operand → AV} (h : ∀ x ∈ op.operands.toList, ev x = ev' x) : clsOf an op dst ev = clsOf an op dst ev' := by
 cases op with
 | load t x => simp only [clsOf, h x (by simp [Op.operands])]
 | lookup t x y ok => simp only [clsOf, h x (by simp [Op.operands])]
 | convert s d x => simp only [clsOf, h x (by simp [Op.operands])]
 | call c =>
  have ha : ∀ x ∈ c.args.toList, ev x = ev' x := fun x hx => h x (by simp only [Op.operands, Call.operands]; cases c.callee <;> simp at hx ⊢ <;> simp [hx])
  simp only [clsOf]
  cases hcal : c.callee with
  | value f => rfl
  | invoke _ _ => rfl
  | builtin b =>
   simp only
   split
   ·split
    ·rename_i hx; rw [ha _ (by rw [hx]; simp)]
    ·rfl
   ·rfl
   ·rfl
   ·rfl
 | _ => rfl

theorem clsOf_wr {op : Op} {dst : Option Tmp} {ev : Operand → AV} (h : clsOf an op dst ev = .wr) (ev' : Operand → AV) : clsOf an op dst ev' = .wr := by
 cases op with
 | load t x => simp only [clsOf] at h; split at h <;> cases h
 | lookup t x y ok => simp only [clsOf] at h; split at h <;> cases h
 | convert s d x => simp only [clsOf] at h; split at h <;> cases h
 | call c =>
  simp only [clsOf] at h ⊢
  split at h
  ·exact h
  ·split at h
   ·split at h
    ·split at h <;> cases h
    ·cases h
   ·cases h
   ·cases h
   ·rfl
  ·rfl
 | _ => exact h

theorem val_objs {op : Op} {dst : Option Tmp} {ev : Operand → AV} {r : List Nm} (hc : clsOf an op dst ev = .val r) {objs objs2 : List (Nm × AObj)} (hr : ∀ m ∈ r, objGet objs2 m = objGet objs m) (k : AV → List (Nm × AObj) → Prop) :
  genOp P T an op dst ev objs2 k ↔ genOp P T an op dst ev objs fun v _ => k v objs2 := by
 cases op with
 | load t x =>
  simp only [genOp, clsOf] at hc ⊢
  split at hc
  ·simp only [Cls.val.injEq] at hc
   subst hc
   rename_i n off he
   simp only [he, hr n (by simp)]
  ·simp only [Cls.val.injEq] at hc
   subst hc
   rename_i n size ver i off he
   simp only [he, hr n (by simp)]
  ·rename_i hne hne2
   split <;> try exact Iff.rfl
   ·rename_i n off he
    exact absurd he (hne n off)
   ·rename_i n size ver i off he
    exact absurd he (hne2 n size ver i off)
 | lookup t m x ok =>
  simp only [genOp, clsOf] at hc ⊢
  split at hc
  ·simp only [Cls.val.injEq] at hc
   subst hc
   rename_i n he
   simp only [he]
   generalize ev x = B
   cases B <;> try exact Iff.rfl
   rename_i v
   cases v <;> try exact Iff.rfl
   simp only [hr n (by simp)]
  ·rename_i hne
   split <;> try exact Iff.rfl
   split <;> try exact Iff.rfl
   unfold tyOk
   split <;> try exact Iff.rfl
   split <;> try exact Iff.rfl
   rename_i n s he _
   exact absurd he (hne n)
 | convert s d x =>
  simp only [genOp, clsOf] at hc ⊢
  split at hc
  ·simp only [Cls.val.injEq] at hc
   subst hc
   rename_i n size ver off len he
   rw [he]
   unfold tyOk
   split <;> try exact Iff.rfl
   split <;> try exact Iff.rfl
   dsimp only
   generalize (T.ti d).d = D
   cases D <;> try exact Iff.rfl
   simp only [hr n (by simp)]
  ·rename_i hne
   unfold tyOk
   split <;> try exact Iff.rfl
   split <;> try exact Iff.rfl
   dsimp only
   generalize (T.ti d).d = D
   generalize he : ev x = A
   cases D <;> cases A <;> try exact Iff.rfl
   all_goals first | exact (hne _ _ _ _ _ he).elim | (rename_i v; cases v <;> exact Iff.rfl)
 | box t x =>
  simp only [genOp, clsOf] at hc ⊢
  split at hc
  ·split at hc
   ·rename_i hm; simp only [hm]
   ·cases hc
  ·cases hc
 | buildSlice t n ps =>
  simp only [genOp, clsOf] at hc ⊢
  split at hc
  ·split at hc
   ·cases hc
   ·split at hc
    ·cases hc
    ·rename_i h1 _ h2; simp only [h1, h2]
  ·cases hc
 | call c =>
  simp only [genOp, clsOf] at hc ⊢
  split at hc
  ·split at hc
   ·split at hc <;> cases hc
   ·cases hc
  ·rename_i b hcal
   try simp only
   split at hc
   ·split at hc
    ·rename_i x hx
     split
     ·rename_i hx' _
      rw [hx] at hx'
      cases hx'
      split at hc
      ·simp only [Cls.val.injEq] at hc
       subst hc
       rename_i m he
       simp only [he, lenA, hr m (by simp)]
      ·rename_i hne
       have : lenA (ev x) objs2 = lenA (ev x) objs := by
        unfold lenA
        split <;> try rfl
        rename_i m he
        exact absurd he (hne m)
       rw [this]
     all_goals first | exact Iff.rfl | (rename_i hb _ _; cases hb)
    ·rename_i hne
     split <;> first | exact Iff.rfl | simp_all
   ·split <;> first | exact Iff.rfl | simp_all
   ·split <;> first | exact Iff.rfl | simp_all
   ·cases hc
  ·cases hc
 | alloc t => simp [clsOf] at hc
 | makeMap t r => simp [clsOf] at hc
 | store _ _ _ => simp [clsOf] at hc
 | mapUpdate _ _ _ _ => simp [clsOf] at hc
 | slice t x lo hi mx => cases mx <;> cases hi <;> exact Iff.rfl
 | _ => exact Iff.rfl
end
end Go.Abs
