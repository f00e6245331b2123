/- The engine, BP. -/
import Derived.Test.YtnjeogcgfoabhaaGreatE0B7
set_option linter.unusedVariables false
set_option linter.unusedSimpArgs false
namespace Go.Abs
open Go
def Det {α : Type} (F : (α → Prop) → Prop) : Prop := ∀ K, F K → ∃ a, ∀ K', F K' ↔ K' a
section
variable {α β : Type}
theorem aU (a : α) : Det fun K : α → Prop => K a := fun K h => ⟨a, fun K' => Iff.rfl⟩
theorem aj : Det fun K : α → Prop => False := fun K h => h.elim
theorem a8 {F : (α → Prop) → Prop} {b : Bool} (h : Det F) : Det fun K => bU b (F K) := by
 intro K hK;obtain ⟨hb, hK⟩ := aA hK;subst hb;exact h K hK
theorem Oz {F H : (α → Prop) → Prop} {b : Bool} (h : Det F) (h' : Det H) : Det fun K => br b (F K) (H K) := by
 cases b
 ·exact h'
 ·exact h
theorem aW {F : (α → Prop) → Prop} {H : α → (β → Prop) → Prop} (h : Det F) (h' : ∀ a, Det (H a)) : Det fun K => F fun a => H a K := by
 intro K hK;obtain ⟨a, ha⟩ := h _ hK;obtain ⟨b, hb⟩ := h' a K ((ha _).1 hK);exact ⟨b, fun K' => (ha _).trans (hb K')⟩
theorem jM {F : (α → Prop) → Prop} {c : Prop} (h : Det F) : Det fun K => c ∧ F K := by
 rintro K ⟨hc, hK⟩;obtain ⟨a, ha⟩ := h K hK;exact ⟨a, fun K' => (and_iff_right hc).trans (ha K')⟩
theorem jq {F H : (α → Prop) → Prop} (e : ∀ K, F K ↔ H K) (h : Det H) : Det F := by
 have : F = H := funext fun K => propext (e K);rw [this]; exact h
theorem rZ (l : List α) (i : Nat) : Det fun K => qA l i K := by
 induction l generalizing i with
 | nil => cases i <;> exact aj
 | cons a l ih => cases i with
  | zero => exact aU a
  | succ i => exact ih i
end
theorem sX (a : AV) : Det fun K => pb a K := jq (fun K => by rw [iU]) (aU a)
theorem gy (l : List AV) : Det fun K => d8 l K := jq (fun K => by rw [co]) (aU l)
theorem HR (l : List AV) (n : Nat) : Det fun K => tw l n K := jq (fun K => mS) (jM (aU _))
theorem J6 (l : List AV) (n : Nat) (v : AV) : Det fun K => qk l n v K := jq (fun K => by rw [gm]) (aU _)
theorem rY : ∀ (cs l : List AV) (o : Nat), Det fun K => sA l o cs K := by
 intro cs
 induction cs with
 | nil => intro l o; exact show Det fun K => K l from aU l
 | cons c cs ih => intro l o; exact show Det fun K => bU (Nat.blt o l.length) (qk l o c fun l' => sA l' (o + 1) cs K) from a8 (aW (J6 l o c) fun l' => ih l' (o + 1))
theorem J7 (n : Nm) (x : aF) : ∀ (l : List (Nm × aF)), Det fun K => xh l n x K := by
 intro l
 induction l with
 | nil => exact aU _
 | cons y l ih =>
  obtain ⟨m, o⟩ := y
  cases hb : Nat.blt n m
  ·exact jq (H := fun K => xh l n x fun l' => K ((m, o) :: l')) (fun K => by simp only [xh, hb]) (aW ih fun l' => aU _)
  ·exact jq (H := fun K => K ((n, x) :: (m, o) :: l)) (fun K => by simp only [xh, hb]) (aU _)
theorem ii (l : List (Nm × aF)) (n : Nm) (x : aF) : Det fun K => eQ l n x K := by
 unfold eQ
 cases az l n
 ·exact J7 n x l
 ·exact aj
theorem gj (n : Nm) (x : aF) : ∀ (l : List (Nm × aF)), Det fun K => dB l n x K := by
 intro l
 induction l with
 | nil => exact aj
 | cons y l ih =>
  obtain ⟨m, o⟩ := y
  cases hb : Nat.beq m n
  ·exact jq (H := fun K => dB l n x fun l' => K ((m, o) :: l')) (fun K => by simp only [dB, hb]) (aW ih fun l' => aU _)
  ·exact jq (H := fun K => K ((m, x) :: l)) (fun K => by simp only [dB, hb]) (aU _)
section
variable {P : Program} {T : Tab} {an : Ann}
theorem cF {α : Type} {t : TypeId} {F : TI → (α → Prop) → Prop} (h : ∀ i, Det (F i)) : Det fun K => fY T t fun i => F i K := by
 unfold fY
 cases (T.ti t).ok
 ·exact aj
 ·exact h _
theorem nj (t : TypeId) (l : List AV) : Det fun K => np T t l K := by
 unfold np
 cases (T.ti t).ok
 ·exact aj
 ·cases (T.ti t).agg
  ·cases l with
   | nil => exact aj
   | cons a l => exact sX a
  ·exact aW (HR _ _) fun l => aU _
theorem HQ (ti : TI) : Det fun K => xI ti K := by
 unfold xI;refine a8 ?_
 cases ti.zagg
 ·cases ti.zero with
  | nil => exact aj
  | cons v l => cases l with
   | nil => exact aU _
   | cons _ _ => exact aj
 ·exact aU _
theorem EV (op : BinOp) (k : IntKind) (x y : Int) : Det fun K => tc op k x y K := by
 cases op <;> simp only [tc] <;> first | exact aU _ | exact aj | exact a8 (aU _)
theorem EU (op : BinOp) (x y : ByteArray) : Det fun K => wu op x y K := by
 cases op <;> simp only [wu] <;> first | exact aU _ | exact aj | exact a8 (aU _)
theorem ER (op : BinOp) (k : IntKind) (x y : Int) : Det fun K => qj op k x y K := by
 unfold qj;refine a8 ?_
 cases op <;> exact aU _
theorem Mb (op : BinOp) (o : Option Bool) : Det fun K : AV → Prop => (match o with
  | some c => (match op with
   | .eql => K (.val (.bool c))
   | .neq => K (.val (.bool (!c)))
   | _ => False)
  | none => False) := by
 cases o with
 | none => exact aj
 | some c => cases op <;> first | exact aU _ | exact aj
theorem ET (op : BinOp) (d : TD) (x y : Bool) : Det fun K : AV → Prop => (match d with
  | .bool => (match op with
   | .eql => K (.val (.bool (x == y)))
   | .neq => K (.val (.bool (!(x == y))))
   | _ => False)
  | _ => False) := by
 cases d <;> first | exact aj | (cases op <;> first | exact aU _ | exact aj)
theorem HS (op : BinOp) (ka kb : IntKind) (x y : Int) : Det fun K : AV → Prop => (match op with
  | .shl => qj .shl ka x y K
  | .shr => qj .shr ka x y K
  | _ => (match zX ka kb with
   | true => tc op ka x y K
   | false => False)) := by
 cases op <;> first | exact ER _ _ _ _ | (cases zX ka kb <;> first | exact aj | exact EV _ _ _ _)
theorem J8 (l m : List AV) : ∀ (fs : List (Nat × TypeId)) (acc : Bool), Det fun K : Bool → Prop => rW T l m fs acc K := by
 intro fs
 induction fs with
 | nil => intro acc K h; exact ⟨acc, fun K' => Iff.rfl⟩
 | cons f fs ih =>
  obtain ⟨o, t⟩ := f;intro acc K h;unfold rW at h;split at h
  ·rename_i hd;split at h
   ·rename_i g1 g2;split at h
    ·rename_i hk;obtain ⟨b, hb⟩ := ih _ K h;exact ⟨b, fun K' => by rw [← hb K']; simp only [rW, hd, g1, g2, hk]⟩
    ·exact h.elim
   ·exact h.elim
  ·rename_i hd;split at h
   ·rename_i g1 g2;obtain ⟨b, hb⟩ := ih _ K h;exact ⟨b, fun K' => by rw [← hb K']; simp only [rW, hd, g1, g2]⟩
   ·exact h.elim
  ·rename_i hd;split at h
   ·rename_i g1 g2;obtain ⟨b, hb⟩ := ih _ K h;exact ⟨b, fun K' => by rw [← hb K']; simp only [rW, hd, g1, g2]⟩
   ·exact h.elim
  ·exact h.elim
theorem HT (op : BinOp) (t : TypeId) (l m : List AV) : Det fun K : AV → Prop => (match T.eqs t with
  | true => (match dOf T t with
   | .struct fs => rW T l m fs true fun b => (match op with
    | .eql => K (.val (.bool b))
    | .neq => K (.val (.bool (!b)))
    | _ => False)
   | _ => False)
  | false => False) := by
 cases T.eqs t
 ·exact aj
 ·cases dOf T t <;> first | exact aj | skip
  rename_i fs;exact aW (J8 l m fs true) fun b => by cases op <;> first | exact aU _ | exact aj
theorem J9 (op : BinOp) (t : TypeId) (a b : AV) : Det fun K => It T op t a b K := by
 intro K h;have h0 := h;unfold It at h;split at h
 ·exact HS _ _ _ _ _ K h
 ·exact EU _ _ _ K h
 ·exact ET _ _ _ _ K h
 ·exact HT _ _ _ _ K h
 ·rename_i h1 h2 h3 h4;obtain ⟨v, hv⟩ := Mb op (BR (dOf T t) a b) K h;refine ⟨v, fun K' => ?_⟩;rw [← hv K'];unfold It;split
  ·exact absurd rfl (h1 _ _ _ _ rfl)
  ·exact absurd rfl (h2 _ _ rfl)
  ·exact absurd rfl (h3 _ _ rfl)
  ·exact absurd rfl (h4 _ _ rfl)
  ·exact Iff.rfl
theorem Mc (op : UnOp) (a : AV) : Det fun K => aun op a K := by
 intro K h;unfold aun at h;split at h
 ·exact ⟨_, fun K' => Iff.rfl⟩
 ·exact ⟨_, fun K' => Iff.rfl⟩
 ·exact ⟨_, fun K' => Iff.rfl⟩
 ·exact h.elim
end
end Go.Abs
