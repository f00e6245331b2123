/- The engine, BP. -/
import Derived.Test.YtnjeogcgfoabhaaGreatE0B7
set_option linter.unusedVariables false
set_option linter.unusedSimpArgs false
namespace Go.Abs
open Go
def Det {α : Type} (F : (α → Prop) → Prop) : Prop := ∀ K, F K → ∃ a, ∀ K', F K' ↔ K' a
section
variable {α β : Type}
theorem aU (a : α) : Det fun K : α → Prop => K a := fun K h => ⟨a, fun K' => Iff.rfl⟩
theorem aj : Det fun K : α → Prop => False := fun K h => h.elim
theorem aZ {F : (α → Prop) → Prop} {b : Bool} (h : Det F) : Det fun K => bQ b (F K) := by
 intro K hK;obtain ⟨hb, hK⟩ := az hK;subst hb;exact h K hK
theorem OT {F H : (α → Prop) → Prop} {b : Bool} (h : Det F) (h' : Det H) : Det fun K => br b (F K) (H K) := by
 cases b
 ·exact h'
 ·exact h
theorem aX {F : (α → Prop) → Prop} {H : α → (β → Prop) → Prop} (h : Det F) (h' : ∀ a, Det (H a)) : Det fun K => F fun a => H a K := by
 intro K hK;obtain ⟨a, ha⟩ := h _ hK;obtain ⟨b, hb⟩ := h' a K ((ha _).1 hK);exact ⟨b, fun K' => (ha _).trans (hb K')⟩
theorem jG {F : (α → Prop) → Prop} {c : Prop} (h : Det F) : Det fun K => c ∧ F K := by
 rintro K ⟨hc, hK⟩;obtain ⟨a, ha⟩ := h K hK;exact ⟨a, fun K' => (and_iff_right hc).trans (ha K')⟩
theorem jo {F H : (α → Prop) → Prop} (e : ∀ K, F K ↔ H K) (h : Det H) : Det F := by
 have : F = H := funext fun K => propext (e K);rw [this]; exact h
theorem sm (l : List α) (i : Nat) : Det fun K => qL l i K := by
 induction l generalizing i with
 | nil => cases i <;> exact aj
 | cons a l ih => cases i with
  | zero => exact aU a
  | succ i => exact ih i
end
theorem th (a : AV) : Det fun K => pj a K := jo (fun K => by rw [iY]) (aU a)
theorem gz (l : List AV) : Det fun K => dY l K := jo (fun K => by rw [co]) (aU l)
theorem Ip (l : List AV) (n : Nat) : Det fun K => tJ l n K := jo (fun K => mT) (jG (aU _))
theorem Ks (l : List AV) (n : Nat) (v : AV) : Det fun K => qv l n v K := jo (fun K => by rw [gm]) (aU _)
theorem sj : ∀ (cs l : List AV) (o : Nat), Det fun K => sK l o cs K := by
 intro cs
 induction cs with
 | nil => intro l o; exact show Det fun K => K l from aU l
 | cons c cs ih => intro l o; exact show Det fun K => bQ (Nat.blt o l.length) (qv l o c fun l' => sK l' (o + 1) cs K) from aZ (aX (Ks l o c) fun l' => ih l' (o + 1))
theorem Kt (n : Nm) (x : aE) : ∀ (l : List (Nm × aE)), Det fun K => xx l n x K := by
 intro l
 induction l with
 | nil => exact aU _
 | cons y l ih =>
  obtain ⟨m, o⟩ := y
  cases hb : Nat.blt n m
  ·exact jo (H := fun K => xx l n x fun l' => K ((m, o) :: l')) (fun K => by simp only [xx, hb]) (aX ih fun l' => aU _)
  ·exact jo (H := fun K => K ((n, x) :: (m, o) :: l)) (fun K => by simp only [xx, hb]) (aU _)
theorem ip (l : List (Nm × aE)) (n : Nm) (x : aE) : Det fun K => eK l n x K := by
 unfold eK
 cases ax l n
 ·exact Kt n x l
 ·exact aj
theorem gh (n : Nm) (x : aE) : ∀ (l : List (Nm × aE)), Det fun K => dx l n x K := by
 intro l
 induction l with
 | nil => exact aj
 | cons y l ih =>
  obtain ⟨m, o⟩ := y
  cases hb : Nat.beq m n
  ·exact jo (H := fun K => dx l n x fun l' => K ((m, o) :: l')) (fun K => by simp only [dx, hb]) (aX ih fun l' => aU _)
  ·exact jo (H := fun K => K ((m, x) :: l)) (fun K => by simp only [dx, hb]) (aU _)
section
variable {P : Program} {T : Tab} {an : Ann}
theorem cE {α : Type} {t : TypeId} {F : TI → (α → Prop) → Prop} (h : ∀ i, Det (F i)) : Det fun K => fW T t fun i => F i K := by
 unfold fW
 cases (T.ti t).ok
 ·exact aj
 ·exact h _
theorem nl (t : TypeId) (l : List AV) : Det fun K => nr T t l K := by
 unfold nr
 cases (T.ti t).ok
 ·exact aj
 ·cases (T.ti t).agg
  ·cases l with
   | nil => exact aj
   | cons a l => exact th a
  ·exact aX (Ip _ _) fun l => aU _
theorem Io (ti : TI) : Det fun K => xU ti K := by
 unfold xU;refine aZ ?_
 cases ti.zagg
 ·cases ti.zero with
  | nil => exact aj
  | cons v l => cases l with
   | nil => exact aU _
   | cons _ _ => exact aj
 ·exact aU _
theorem Fa (op : BinOp) (k : IntKind) (x y : Int) : Det fun K => tt op k x y K := by
 cases op <;> simp only [tt] <;> first | exact aU _ | exact aj | exact aZ (aU _)
theorem E9 (op : BinOp) (x y : ByteArray) : Det fun K => wQ op x y K := by
 cases op <;> simp only [wQ] <;> first | exact aU _ | exact aj | exact aZ (aU _)
theorem E6 (op : BinOp) (k : IntKind) (x y : Int) : Det fun K => qu op k x y K := by
 unfold qu;refine aZ ?_
 cases op <;> exact aU _
theorem Mv (op : BinOp) (o : Option Bool) : Det fun K : AV → Prop => (match o with
  | some c => (match op with
   | .eql => K (.val (.bool c))
   | .neq => K (.val (.bool (!c)))
   | _ => False)
  | none => False) := by
 cases o with
 | none => exact aj
 | some c => cases op <;> first | exact aU _ | exact aj
theorem E8 (op : BinOp) (d : TD) (x y : Bool) : Det fun K : AV → Prop => (match d with
  | .bool => (match op with
   | .eql => K (.val (.bool (x == y)))
   | .neq => K (.val (.bool (!(x == y))))
   | _ => False)
  | _ => False) := by
 cases d <;> first | exact aj | (cases op <;> first | exact aU _ | exact aj)
theorem Iq (op : BinOp) (ka kb : IntKind) (x y : Int) : Det fun K : AV → Prop => (match op with
  | .shl => qu .shl ka x y K
  | .shr => qu .shr ka x y K
  | _ => (match Ah ka kb with
   | true => tt op ka x y K
   | false => False)) := by
 cases op <;> first | exact E6 _ _ _ _ | (cases Ah ka kb <;> first | exact aj | exact Fa _ _ _ _)
theorem Ku (l m : List AV) : ∀ (fs : List (Nat × TypeId)) (acc : Bool), Det fun K : Bool → Prop => sb T l m fs acc K := by
 intro fs
 induction fs with
 | nil => intro acc K h; exact ⟨acc, fun K' => Iff.rfl⟩
 | cons f fs ih =>
  obtain ⟨o, t⟩ := f;intro acc K h;unfold sb at h;split at h
  ·rename_i hd;split at h
   ·rename_i g1 g2;split at h
    ·rename_i hk;obtain ⟨b, hb⟩ := ih _ K h;exact ⟨b, fun K' => by rw [← hb K']; simp only [sb, hd, g1, g2, hk]⟩
    ·exact h.elim
   ·exact h.elim
  ·rename_i hd;split at h
   ·rename_i g1 g2;obtain ⟨b, hb⟩ := ih _ K h;exact ⟨b, fun K' => by rw [← hb K']; simp only [sb, hd, g1, g2]⟩
   ·exact h.elim
  ·rename_i hd;split at h
   ·rename_i g1 g2;obtain ⟨b, hb⟩ := ih _ K h;exact ⟨b, fun K' => by rw [← hb K']; simp only [sb, hd, g1, g2]⟩
   ·exact h.elim
  ·exact h.elim
theorem Ir (op : BinOp) (t : TypeId) (l m : List AV) : Det fun K : AV → Prop => (match T.eqs t with
  | true => (match dOf T t with
   | .struct fs => sb T l m fs true fun b => (match op with
    | .eql => K (.val (.bool b))
    | .neq => K (.val (.bool (!b)))
    | _ => False)
   | _ => False)
  | false => False) := by
 cases T.eqs t
 ·exact aj
 ·cases dOf T t <;> first | exact aj | skip
  rename_i fs;exact aX (Ku l m fs true) fun b => by cases op <;> first | exact aU _ | exact aj
theorem Kv (op : BinOp) (t : TypeId) (a b : AV) : Det fun K => IQ T op t a b K := by
 intro K h;have h0 := h;unfold IQ at h;split at h
 ·exact Iq _ _ _ _ _ K h
 ·exact E9 _ _ _ K h
 ·exact E8 _ _ _ _ K h
 ·exact Ir _ _ _ _ K h
 ·rename_i h1 h2 h3 h4;obtain ⟨v, hv⟩ := Mv op (B7 (dOf T t) a b) K h;refine ⟨v, fun K' => ?_⟩;rw [← hv K'];unfold IQ;split
  ·exact absurd rfl (h1 _ _ _ _ rfl)
  ·exact absurd rfl (h2 _ _ rfl)
  ·exact absurd rfl (h3 _ _ rfl)
  ·exact absurd rfl (h4 _ _ rfl)
  ·exact Iff.rfl
theorem Mw (op : UnOp) (a : AV) : Det fun K => aun op a K := by
 intro K h;unfold aun at h;split at h
 ·exact ⟨_, fun K' => Iff.rfl⟩
 ·exact ⟨_, fun K' => Iff.rfl⟩
 ·exact ⟨_, fun K' => Iff.rfl⟩
 ·exact h.elim
end
end Go.Abs
