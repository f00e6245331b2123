/- The engine, part 18b: an operation that is no call has one outcome. -/
import Derived.Test.YtpkocgpcdddleaaGreatB7
set_option linter.unusedVariables false
set_option linter.unusedSimpArgs false
namespace Go.Abs
open Go

def Det {α : Type} (F : (α → Prop) → Prop) : Prop := ∀ K, F K → ∃ a, ∀ K', F K' ↔ K' a

section
variable {α β : Type}
theorem det_ret (a : α) : Det fun K : α → Prop => K a := fun K h => ⟨a, fun K' => Iff.rfl⟩
theorem det_false : Det fun K : α → Prop => False := fun K h => h.elim
theorem det_must {F : (α → Prop) → Prop} {b : Bool} (h : Det F) : Det fun K => must b (F K) := by
 intro K hK
 obtain ⟨hb, hK⟩ := must_elim hK
 subst hb
 exact h K hK
theorem det_br {F H : (α → Prop) → Prop} {b : Bool} (h : Det F) (h' : Det H) : Det fun K => br b (F K) (H K) := by
 cases b
 ·exact h'
 ·exact h
theorem det_bind {F : (α → Prop) → Prop} {H : α → (β → Prop) → Prop} (h : Det F) (h' : ∀ a, Det (H a)) : Det fun K => F fun a => H a K := by
 intro K hK
 obtain ⟨a, ha⟩ := h _ hK
 obtain ⟨b, hb⟩ := h' a K ((ha _).1 hK)
 exact ⟨b, fun K' => (ha _).trans (hb K')⟩
theorem det_and {F : (α → Prop) → Prop} {c : Prop} (h : Det F) : Det fun K => c ∧ F K := by
 rintro K ⟨hc, hK⟩
 obtain ⟨a, ha⟩ := h K hK
 exact ⟨a, fun K' => (and_iff_right hc).trans (ha K')⟩
theorem det_of_eq {F H : (α → Prop) → Prop} (e : ∀ K, F K ↔ H K) (h : Det H) : Det F := by
 have : F = H := funext fun K => propext (e K)
 rw [this]; exact h
theorem det_idxK (l : List α) (i : Nat) : Det fun K => idxK l i K := by
 induction l generalizing i with
 | nil => cases i <;> exact det_false
 | cons a l ih => cases i with
  | zero => exact det_ret a
  | succ i => exact ih i
end

theorem det_force (a : AV) : Det fun K => force a K := det_of_eq (fun K => by rw [force_eq]) (det_ret a)
theorem det_forceL (l : List AV) : Det fun K => forceL l K := det_of_eq (fun K => by rw [forceL_eq]) (det_ret l)
theorem det_takeK (l : List AV) (n : Nat) : Det fun K => takeK l n K := det_of_eq (fun K => takeK_iff) (det_and (det_ret _))
theorem det_setK (l : List AV) (n : Nat) (v : AV) : Det fun K => setK l n v K := det_of_eq (fun K => by rw [setK_eq]) (det_ret _)
theorem det_updK : ∀ (cs l : List AV) (o : Nat), Det fun K => updK l o cs K := by
 intro cs
 induction cs with
 | nil => intro l o; exact show Det fun K => K l from det_ret l
 | cons c cs ih => intro l o; exact show Det fun K => must (Nat.blt o l.length) (setK l o c fun l' => updK l' (o + 1) cs K) from det_must (det_bind (det_setK l o c) fun l' => ih l' (o + 1))
theorem det_insK (n : Nm) (x : AObj) : ∀ (l : List (Nm × AObj)), Det fun K => insK l n x K := by
 intro l
 induction l with
 | nil => exact det_ret _
 | cons y l ih =>
  obtain ⟨m, o⟩ := y
  cases hb : Nat.blt n m
  ·exact det_of_eq (H := fun K => insK l n x fun l' => K ((m, o) :: l')) (fun K => by simp only [insK, hb]) (det_bind ih fun l' => det_ret _)
  ·exact det_of_eq (H := fun K => K ((n, x) :: (m, o) :: l)) (fun K => by simp only [insK, hb]) (det_ret _)
theorem det_objInsK (l : List (Nm × AObj)) (n : Nm) (x : AObj) : Det fun K => objInsK l n x K := by
 unfold objInsK
 cases objGet l n
 ·exact det_insK n x l
 ·exact det_false
theorem det_objSetK (n : Nm) (x : AObj) : ∀ (l : List (Nm × AObj)), Det fun K => objSetK l n x K := by
 intro l
 induction l with
 | nil => exact det_false
 | cons y l ih =>
  obtain ⟨m, o⟩ := y
  cases hb : Nat.beq m n
  ·exact det_of_eq (H := fun K => objSetK l n x fun l' => K ((m, o) :: l')) (fun K => by simp only [objSetK, hb]) (det_bind ih fun l' => det_ret _)
  ·exact det_of_eq (H := fun K => K ((m, x) :: l)) (fun K => by simp only [objSetK, hb]) (det_ret _)

section
variable {P : Program} {T : Tab} {an : Ann}

theorem det_tyOk {α : Type} {t : TypeId} {F : TI → (α → Prop) → Prop} (h : ∀ i, Det (F i)) : Det fun K => tyOk T t fun i => F i K := by
 unfold tyOk
 cases (T.ti t).ok
 ·exact det_false
 ·exact h _
theorem det_aload (t : TypeId) (l : List AV) : Det fun K => aload T t l K := by
 unfold aload
 cases (T.ti t).ok
 ·exact det_false
 ·cases (T.ti t).agg
  ·cases l with
   | nil => exact det_false
   | cons a l => exact det_force a
  ·exact det_bind (det_takeK _ _) fun l => det_ret _
theorem det_zeroA (ti : TI) : Det fun K => zeroA ti K := by
 unfold zeroA
 refine det_must ?_
 cases ti.zagg
 ·cases ti.zero with
  | nil => exact det_false
  | cons v l => cases l with
   | nil => exact det_ret _
   | cons _ _ => exact det_false
 ·exact det_ret _
theorem det_binInt (op : BinOp) (k : IntKind) (x y : Int) : Det fun K => binInt op k x y K := by
 cases op <;> simp only [binInt] <;> first | exact det_ret _ | exact det_false | exact det_must (det_ret _)
theorem det_binStr (op : BinOp) (x y : ByteArray) : Det fun K => binStr op x y K := by
 cases op <;> simp only [binStr] <;> first | exact det_ret _ | exact det_false | exact det_must (det_ret _)
theorem det_shiftK (op : BinOp) (k : IntKind) (x y : Int) : Det fun K => shiftK op k x y K := by
 unfold shiftK
 refine det_must ?_
 cases op <;> exact det_ret _
theorem det_nil (op : BinOp) (o : Option Bool) : Det fun K : AV → Prop => (match o with
  | some c => (match op with
   | .eql => K (.val (.bool c))
   | .neq => K (.val (.bool (!c)))
   | _ => False)
  | none => False) := by
 cases o with
 | none => exact det_false
 | some c => cases op <;> first | exact det_ret _ | exact det_false
theorem det_boolEq (op : BinOp) (d : TD) (x y : Bool) : Det fun K : AV → Prop => (match d with
  | .bool => (match op with
   | .eql => K (.val (.bool (x == y)))
   | .neq => K (.val (.bool (!(x == y))))
   | _ => False)
  | _ => False) := by
 cases d <;> first | exact det_false | (cases op <;> first | exact det_ret _ | exact det_false)
theorem det_intOp (op : BinOp) (ka kb : IntKind) (x y : Int) : Det fun K : AV → Prop => (match op with
  | .shl => shiftK .shl ka x y K
  | .shr => shiftK .shr ka x y K
  | _ => (match ikEq ka kb with
   | true => binInt op ka x y K
   | false => False)) := by
 cases op <;> first | exact det_shiftK _ _ _ _ | (cases ikEq ka kb <;> first | exact det_false | exact det_binInt _ _ _ _)
theorem det_eqFs (l m : List AV) : ∀ (fs : List (Nat × TypeId)) (acc : Bool), Det fun K : Bool → Prop => eqFs T l m fs acc K := by
 intro fs
 induction fs with
 | nil => intro acc K h; exact ⟨acc, fun K' => Iff.rfl⟩
 | cons f fs ih =>
  obtain ⟨o, t⟩ := f
  intro acc K h
  unfold eqFs at h
  split at h
  ·rename_i hd
   split at h
   ·rename_i g1 g2
    split at h
    ·rename_i hk
     obtain ⟨b, hb⟩ := ih _ K h
     exact ⟨b, fun K' => by rw [← hb K']; simp only [eqFs, hd, g1, g2, hk]⟩
    ·exact h.elim
   ·exact h.elim
  ·rename_i hd
   split at h
   ·rename_i g1 g2
    obtain ⟨b, hb⟩ := ih _ K h
    exact ⟨b, fun K' => by rw [← hb K']; simp only [eqFs, hd, g1, g2]⟩
   ·exact h.elim
  ·rename_i hd
   split at h
   ·rename_i g1 g2
    obtain ⟨b, hb⟩ := ih _ K h
    exact ⟨b, fun K' => by rw [← hb K']; simp only [eqFs, hd, g1, g2]⟩
   ·exact h.elim
  ·exact h.elim
theorem det_aggEq (op : BinOp) (t : TypeId) (l m : List AV) : Det fun K : AV → Prop => (match T.eqs t with
  | true => (match dOf T t with
   | .struct fs => eqFs T l m fs true fun b => (match op with
    | .eql => K (.val (.bool b))
    | .neq => K (.val (.bool (!b)))
    | _ => False)
   | _ => False)
  | false => False) := by
 cases T.eqs t
 ·exact det_false
 ·cases dOf T t <;> first | exact det_false | skip
  rename_i fs
  exact det_bind (det_eqFs l m fs true) fun b => by cases op <;> first | exact det_ret _ | exact det_false
theorem det_abin (op : BinOp) (t : TypeId) (a b : AV) : Det fun K => abin T op t a b K := by
 intro K h
 have h0 := h
 unfold abin at h
 split at h
 ·exact det_intOp _ _ _ _ _ K h
 ·exact det_binStr _ _ _ K h
 ·exact det_boolEq _ _ _ _ K h
 ·exact det_aggEq _ _ _ _ K h
 ·rename_i h1 h2 h3 h4
  obtain ⟨v, hv⟩ := det_nil op (nilEq (dOf T t) a b) K h
  refine ⟨v, fun K' => ?_⟩
  rw [← hv K']
  unfold abin
  split
  ·exact absurd rfl (h1 _ _ _ _ rfl)
  ·exact absurd rfl (h2 _ _ rfl)
  ·exact absurd rfl (h3 _ _ rfl)
  ·exact absurd rfl (h4 _ _ rfl)
  ·exact Iff.rfl
theorem det_aun (op : UnOp) (a : AV) : Det fun K => aun op a K := by
 intro K h
 unfold aun at h
 split at h
 ·exact ⟨_, fun K' => Iff.rfl⟩
 ·exact ⟨_, fun K' => Iff.rfl⟩
 ·exact ⟨_, fun K' => Iff.rfl⟩
 ·exact h.elim
end
end Go.Abs
