/- Several texts of this claim, one behind the other: HB, P1, N9, P2, P3, P4, P5, P6, P7, P8, NC, NA, P9, PA. -/
import Derived.Test.YteholccmcgbelaaGreatYStoreKept1
import Derived.Test.YteholccmcgbelaaGreatBA

section
/- Whether a record may be (record.May); its move to another version (migrate). -/
set_option maxRecDepth 100000
set_option maxHeartbeats 1000000
set_option linter.unusedVariables false
set_option linter.unusedSimpArgs false
namespace Go.Abs
open Go Go.Proofs Dig
attribute [local irreducible] ibits byteAt strLt firstIdx

def depsGo (v : Int) : List Dp → List B → Bool
  | [], _ => true
  | d :: ds, seen => nameOk d.name && (decide (d.name ∉ seen) && (!(d.order && decide (v < 3)) && depsGo v ds (seen ++ [d.name])))
def depsP (v : Int) (r : Rc) : Bool := depsGo v r.deps [r.target] && decide (r.deps.length ≤ 16)
theorem depsR_calls (v : Int) (r : Rc) (hd : r.deps.length < 100000) {R} (h : ∀ p, p = depsP v r → R (.val (.bool p)) []) : ACalls Tryz.prog 117 [vi v, .agg r.enc] [] R := by
  refine acalls_of_xwp (an := an117) tab_ok Tryz.func117 ?_
  have hsl := dpsA_length r.deps
  have no : depsGo v r.deps [r.target] = false → R (.val (.bool false)) [] := fun e => h false (by rw [depsP, e]; rfl)
  (conv => whnf)
  refine New_calls r.target [] (by simp) fun m hm => ?_
  have hm : m = [r.target] := by rw [hm]; simp [tblN, tblP]
  subst hm
  (conv => whnf)
  refine LoopP.ind2 (fun (i : Nat) (seen : List B) => [(17, vi i)]) (fun i seen => [(freshN 13 0, tblO (freshN 13 1) (freshN 13 2) seen), (freshN 13 1, tblR seen), (freshN 13 2, tblM seen)])
    (fun i _ => r.deps.length - i) (fun i seen => i ≤ r.deps.length ∧ seen.length ≤ i + 1 ∧ depsGo v (r.deps.drop i) seen = depsGo v r.deps [r.target]) 0 [r.target] rfl ⟨by omega, by simp, by simp⟩ ?_
  rintro i seen ⟨h0, hsn, hD⟩ IH
  (conv => whnf)
  refine br_intro (fun hc => ?_) (fun hc => ?_)
  · have hc := lt_of_decE hsl hc
    rw [List.drop_eq_getElem_cons hc, depsGo] at hD
    (conv => whnf); (repeat ((with_reducible refine must_intro ?_ ?_); exact decide_eq_true (by omega); (conv => whnf)))
    refine idxK_map_intro (show (i : Int).toNat < r.deps.length by simpa using hc) ?_
    rw [show r.deps[(i : Int).toNat]'(by simpa using hc) = r.deps[i] from by congr 1]
    generalize r.deps[i] = d at hD ⊢
    (conv => whnf)
    by_cases hm : d.name ∈ seen
    · have hbad : depsGo v r.deps [r.target] = false := by rw [← hD]; simp [hm]
      refine ID_old seen d.name hm fun j => ?_
      (conv => whnf)
      refine Name_calls d.name ?_
      (conv => whnf)
      refine br_intro (fun hq => ?_) (fun hq => ?_)
      · (conv => whnf)
        exact no hbad
      · (conv => whnf)
        exact no hbad
    · refine ID_more seen d.name (by omega) hm fun j => ?_
      (conv => whnf)
      refine Name_calls d.name ?_
      (conv => whnf)
      refine br_intro (fun hq => ?_) (fun hq => ?_)
      · have hq : nameOk d.name = false := by simpa using hq
        (conv => whnf)
        exact no (by rw [← hD, hq]; rfl)
      · have hq : nameOk d.name = true := by simpa using hq
        rw [hq, decide_eq_true hm, Bool.true_and, Bool.true_and] at hD
        (conv => whnf)
        refine br_intro (fun ho => ?_) (fun ho => ?_)
        · rw [ho, Bool.true_and] at hD
          (conv => whnf)
          refine br_intro (fun hv => ?_) (fun hv => ?_)
          · rw [hv] at hD
            (conv => whnf)
            exact no (by rw [← hD]; rfl)
          · rw [hv] at hD
            (conv => whnf)
            rw [i64_nat (by omega)]
            exact IH (i + 1) (seen ++ [d.name]) ⟨by omega, by simp; omega, by rw [← hD]; simp⟩ (by omega)
        · rw [ho] at hD
          (conv => whnf)
          rw [i64_nat (by omega)]
          exact IH (i + 1) (seen ++ [d.name]) ⟨by omega, by simp; omega, by rw [← hD]; simp⟩ (by omega)
  · have hc := ge_of_decE hsl hc
    rw [List.drop_eq_nil_of_le hc, depsGo] at hD
    (conv => whnf)
    rw [hsl]
    refine h _ ?_
    rw [depsP, ← hD, Bool.true_and]
    exact decide_eq_decide.2 (by omega)

def earlyP (v : Int) (r : Rc) : Bool := (decide (v < 2) && decide (r.wen ≠ 0)) || (decide (v < 3) && decide (r.tag ≠ []))
def goneR (r : Rc) : Rc := ⟨2, r.target, 0, [], 0, 0, []⟩
def mayP (v : Int) (r : Rc) : Bool :=
  if (decide (v < 1) || decide (3 < v) || !nameOk r.target) = true then false
  else if r.kind = 1 then !earlyP v r && (decide (r.tag.length ≤ 64) && depsP v r)
  else if r.kind = 2 then decide (r = goneR r) else false
theorem nilB : ofB [] = { data := #[] } := rfl
theorem May_calls (v : Int) (r : Rc) (hd : r.deps.length < 100000) {R} (h : ∀ p, p = mayP v r → R (.val (.bool p)) []) : ACalls Tryz.prog 80 [vi v, .agg r.enc] [] R := by
  refine acalls_of_xwp (an := an80) tab_ok Tryz.func80 ?_
  have hst := size_ofB r.tag
  (conv => whnf)
  refine br_intro (fun g1 => ?_) (fun g1 => ?_)
  · (conv => whnf)
    exact h false (by rw [mayP, if_pos (by rw [g1]; rfl)])
  (conv => whnf)
  refine br_intro (fun g2 => ?_) (fun g2 => ?_)
  · have g2 : 3 < v := by simpa using g2
    (conv => whnf)
    exact h false (by rw [mayP, if_pos (by rw [g1, decide_eq_true g2]; rfl)])
  have g2 : ¬ 3 < v := by simpa using g2
  (conv => whnf)
  refine Name_calls r.target ?_
  (conv => whnf)
  refine br_intro (fun g3 => ?_) (fun g3 => ?_)
  · (conv => whnf)
    exact h false (by rw [mayP, if_pos (by rw [g3]; simp)])
  have hm : mayP v r = if r.kind = 1 then !earlyP v r && (decide (r.tag.length ≤ 64) && depsP v r) else if r.kind = 2 then decide (r = goneR r) else false := by
    rw [mayP, if_neg (by rw [g1, decide_eq_false g2, g3]; simp)]
  (conv => whnf)
  refine br_intro (fun k1 => ?_) (fun k1 => ?_)
  · have k1 : r.kind = 1 := by simpa using k1
    rw [if_pos k1] at hm
    have wz : ((r.wen.toNat : Int) != 0) = decide (r.wen ≠ 0) := by
      by_cases e : r.wen = 0
      · simp [e]
      · have : r.wen.toNat ≠ 0 := fun x => e (BitVec.eq_of_toNat_eq (by simpa using x))
        rw [decide_eq_true e]; simp; omega
    (conv => whnf)
    refine br_intro (fun e1 => ?_) (fun e1 => ?_)
    · (conv => whnf)
      refine br_intro (fun e2 => ?_) (fun e2 => ?_)
      · rw [wz] at e2
        (conv => whnf)
        exact h false (by rw [hm, earlyP, e1, e2]; rfl)
      · rw [wz] at e2
        have e3 : decide (v < 3) = true := by simp at e1 ⊢; omega
        (conv => whnf)
        refine br_true e3 ?_
        (conv => whnf)
        refine br_intro (fun e4 => ?_) (fun e4 => ?_)
        · have e4 : r.tag = [] := by simpa [← nilB, ofB_eq] using e4
          have e4 : decide (r.tag ≠ []) = false := by rw [e4]; rfl
          have he : earlyP v r = false := by rw [earlyP, e2, e4]; simp
          (conv => whnf)
          refine br_intro (fun q => ?_) (fun q => ?_)
          · have q : r.tag.length ≤ 64 := by have q := of_decide_eq_true q; omega
            (conv => whnf)
            refine depsR_calls v r hd fun p hp => ?_
            (conv => whnf)
            exact h p (by rw [hm, he, decide_eq_true q, hp]; rfl)
          · have q : ¬ r.tag.length ≤ 64 := by have q := of_decide_eq_false q; omega
            (conv => whnf)
            exact h false (by rw [hm, decide_eq_false q]; simp)
        · have e4 : r.tag ≠ [] := by simpa [← nilB, ofB_eq] using e4
          have e4 : decide (r.tag ≠ []) = true := decide_eq_true e4
          (conv => whnf)
          exact h false (by rw [hm, earlyP, e3, e4]; simp)
    · (conv => whnf)
      refine br_intro (fun e3 => ?_) (fun e3 => ?_)
      · (conv => whnf)
        refine br_intro (fun e4 => ?_) (fun e4 => ?_)
        · have e4 : r.tag = [] := by simpa [← nilB, ofB_eq] using e4
          have e4 : decide (r.tag ≠ []) = false := by rw [e4]; rfl
          have he : earlyP v r = false := by rw [earlyP, e1, e4]; simp
          (conv => whnf)
          refine br_intro (fun q => ?_) (fun q => ?_)
          · have q : r.tag.length ≤ 64 := by have q := of_decide_eq_true q; omega
            (conv => whnf)
            refine depsR_calls v r hd fun p hp => ?_
            (conv => whnf)
            exact h p (by rw [hm, he, decide_eq_true q, hp]; rfl)
          · have q : ¬ r.tag.length ≤ 64 := by have q := of_decide_eq_false q; omega
            (conv => whnf)
            exact h false (by rw [hm, decide_eq_false q]; simp)
        · have e4 : r.tag ≠ [] := by simpa [← nilB, ofB_eq] using e4
          have e4 : decide (r.tag ≠ []) = true := decide_eq_true e4
          (conv => whnf)
          exact h false (by rw [hm, earlyP, e3, e4]; simp)
      · have he : earlyP v r = false := by rw [earlyP, e1, e3]; simp
        (conv => whnf)
        refine br_intro (fun q => ?_) (fun q => ?_)
        · have q : r.tag.length ≤ 64 := by have q := of_decide_eq_true q; omega
          (conv => whnf)
          refine depsR_calls v r hd fun p hp => ?_
          (conv => whnf)
          exact h p (by rw [hm, he, decide_eq_true q, hp]; rfl)
        · have q : ¬ r.tag.length ≤ 64 := by have q := of_decide_eq_false q; omega
          (conv => whnf)
          exact h false (by rw [hm, decide_eq_false q]; simp)
  · have k1 : ¬ r.kind = 1 := by simpa using k1
    rw [if_neg k1] at hm
    (conv => whnf)
    refine br_intro (fun k2 => ?_) (fun k2 => ?_)
    · have k2 : r.kind = 2 := by simpa using k2
      rw [if_pos k2] at hm
      (conv => whnf)
      refine ACalls.args ?_ (SameR_calls r (goneR r) (by omega) fun p hp => ?_)
      · exact leL.cons (.refl _) (leL.cons (le_agg (le_rec2 2 r.target 0 0 0 [])) leL.nil)
      (conv => whnf)
      exact h p (by rw [hp, hm])
    · have k2 : ¬ r.kind = 2 := by simpa using k2
      rw [if_neg k2] at hm
      (conv => whnf)
      exact h false hm.symm
end Go.Abs
end

section
/- The schema's payloads, and a journal's bytes, as plain data. -/
set_option maxRecDepth 100000
set_option linter.unusedVariables false
set_option linter.unusedSimpArgs false
namespace Go.Abs
open Go Go.Proofs Dig

/-! ### tables -/
theorem tblP_mem {l : List B} {s x : B} : x ∈ tblP l s ↔ x ∈ l ∨ x = s := by
  unfold tblP
  split
  · rename_i h
    exact ⟨.inl, fun h1 => h1.elim id fun e => e ▸ h⟩
  · simp
theorem tblP_nodup {l : List B} (h : l.Nodup) (s : B) : (tblP l s).Nodup := by
  unfold tblP
  split
  · exact h
  · rename_i h1
    rw [List.nodup_append]
    exact ⟨h, by simp, fun a ha b hb => by simp at hb; subst hb; exact fun e => h1 (e ▸ ha)⟩
theorem addAll_mem : ∀ (m t : List B) {x : B}, x ∈ m.foldl tblP t ↔ x ∈ t ∨ x ∈ m := by
  intro m
  induction m with
  | nil => intro t x; simp
  | cons a m ih => intro t x; rw [List.foldl_cons, ih, tblP_mem]; simp [or_assoc]
theorem addAll_nodup : ∀ (m t : List B), t.Nodup → (m.foldl tblP t).Nodup := by
  intro m
  induction m with
  | nil => intro t h; exact h
  | cons a m ih => intro t h; exact ih _ (tblP_nodup h a)
/-- Those that are not there, each once. -/
def newsP : List B → List B → List B
  | _, [] => []
  | t, s :: l => if s ∈ t then newsP t l else s :: newsP (t ++ [s]) l
theorem addAll_news : ∀ (m t : List B), m.foldl tblP t = t ++ newsP t m := by
  intro m
  induction m with
  | nil => intro t; simp [newsP]
  | cons a m ih =>
    intro t
    rw [List.foldl_cons, ih, newsP]
    unfold tblP
    by_cases h : a ∈ t
    · rw [if_pos h, if_pos h]
    · rw [if_neg h, if_neg h]; simp
theorem news_addAll : ∀ (m t : List B), (newsP t m).foldl tblP t = m.foldl tblP t := by
  intro m
  induction m with
  | nil => intro t; rfl
  | cons a m ih =>
    intro t
    rw [newsP, List.foldl_cons]
    by_cases h : a ∈ t
    · rw [if_pos h, ih, tblP_some h]
    · rw [if_neg h, List.foldl_cons, tblP_none h, ih]
theorem news_self : ∀ (m t : List B), (t ++ m).Nodup → newsP t m = m := by
  intro m
  induction m with
  | nil => intro t h; rfl
  | cons a m ih =>
    intro t h
    have h1 : a ∉ t := fun e => by
      rw [List.nodup_append] at h
      exact h.2.2 a e a (by simp) rfl
    rw [newsP, if_neg h1, ih (t ++ [a]) (by rw [List.append_assoc]; exact h)]
theorem tblN_self {l : List B} (h : l.Nodup) : tblN l = l := by
  unfold tblN
  rw [addAll_news, news_self l [] (by simpa using h)]
  rfl
theorem tblN_mem {l : List B} {x : B} : x ∈ tblN l ↔ x ∈ l := by unfold tblN; rw [addAll_mem]; simp
theorem news_sub : ∀ (m t : List B), ∀ x ∈ newsP t m, x ∈ m := by
  intro m
  induction m with
  | nil => intro t x h; exact h
  | cons a m ih =>
    intro t x h
    rw [newsP] at h
    split at h
    · exact List.mem_cons_of_mem _ (ih _ _ h)
    · rcases List.mem_cons.1 h with h | h
      · rw [h]; exact List.mem_cons_self
      · exact List.mem_cons_of_mem _ (ih _ _ h)
theorem news_len : ∀ (m t : List B), (newsP t m).length ≤ m.length := by
  intro m
  induction m with
  | nil => intro t; exact Nat.le_refl _
  | cons a m ih =>
    intro t
    rw [newsP]
    split
    · have := ih t; simp; omega
    · have := ih (t ++ [a]); simp; omega

/-! ### payloads -/
def textW (v : Int) (t : List B) (s : B) : B := if v = 1 then blobP s else vrn (t.idxOf s)
def depN (t : List B) (d : Dp) : Nat := 2 * t.idxOf d.name + (if d.order then 1 else 0)
def depW (v : Int) (t : List B) (d : Dp) : B := (if v < 3 then textW v t d.name else vrn (depN t d)) ++ vrn d.hash.toNat
def depsW (v : Int) (t : List B) (l : List Dp) : B := (l.map (depW v t)).flatten
def tagW (t : List B) (s : B) : B := vrn (if s = [] then 0 else t.idxOf s + 1)
def endW (v : Int) (t : List B) (r : Rc) : B := vrn r.out.toNat ++ ((if 2 ≤ v then vrn r.wen.toNat else []) ++ (if 3 ≤ v then tagW t r.tag else []))
def lastW (v : Int) (t : List B) (r : Rc) : B :=
  if r.kind = 2 then 2 :: textW v t r.target
  else 1 :: (textW v t r.target ++ vrn r.rule.toNat ++ vrn r.deps.length ++ depsW v t r.deps ++ endW v t r)
def textsR (r : Rc) : List B := r.target :: (r.deps.map (·.name) ++ (if r.tag = [] then [] else [r.tag]))
def namesR (r : Rc) : List B := tblN (textsR r)
def addT (v : Int) (t : List B) (r : Rc) : List B := if v = 1 then t else (namesR r).foldl tblP t
def defP (s : B) : B := 0 :: s
def defsP (v : Int) (t : List B) (r : Rc) : List B := if v = 1 then [] else (newsP t (namesR r)).map defP
def payP (v : Int) (t : List B) (r : Rc) : List B := defsP v t r ++ [lastW v (addT v t r) r]
def paysP (v : Int) : List B → List Rc → List B
  | _, [] => []
  | t, r :: l => payP v t r ++ paysP v (addT v t r) l
def tblL (v : Int) (t : List B) (l : List Rc) : List B := l.foldl (addT v) t
def lettersB (v : Int) : B := [84, 80, 72, UInt8.ofNat v.toNat]
def headP (v : Int) : B := sealF (lettersB v)
def fileP (v : Int) (l : List Rc) : B := headP v ++ framesP (paysP v [] l)

theorem paysP_append (v : Int) : ∀ (l m : List Rc) (t : List B), paysP v t (l ++ m) = paysP v t l ++ paysP v (tblL v t l) m := by
  intro l
  induction l with
  | nil => intro m t; rfl
  | cons a l ih => intro m t; simp only [List.cons_append, paysP, ih, List.append_assoc]; rfl
theorem framesP_append (l m : List B) : framesP (l ++ m) = framesP l ++ framesP m := by
  unfold framesP
  rw [List.map_append, List.flatten_append]
theorem addT_one (t : List B) (r : Rc) : addT 1 t r = t := by simp [addT]
theorem addT_more {v : Int} (h : v ≠ 1) (t : List B) (r : Rc) : addT v t r = (namesR r).foldl tblP t := by simp [addT, h]
theorem addT_nodup (v : Int) {t : List B} (h : t.Nodup) (r : Rc) : (addT v t r).Nodup := by
  unfold addT
  split
  · exact h
  · exact addAll_nodup _ _ h
theorem tblL_nodup (v : Int) : ∀ (l : List Rc) {t : List B}, t.Nodup → (tblL v t l).Nodup := by
  intro l
  induction l with
  | nil => intro t h; exact h
  | cons a l ih => intro t h; exact ih (addT_nodup v h a)
theorem tblL_one : ∀ (l : List Rc) (t : List B), tblL 1 t l = t := by
  intro l
  induction l with
  | nil => intro t; rfl
  | cons a l ih => intro t; show tblL 1 (addT 1 t a) l = t; rw [addT_one, ih]
theorem namesR_ne (r : Rc) : namesR r ≠ [] := by
  intro e
  have : r.target ∈ namesR r := tblN_mem.2 (by simp [textsR])
  rw [e] at this
  cases this
theorem addT_mem {v : Int} (h : v ≠ 1) (t : List B) (r : Rc) {x : B} (hx : x ∈ textsR r) : x ∈ addT v t r := by
  rw [addT_more h, addAll_mem]
  exact .inr (tblN_mem.2 hx)
theorem addT_ne {v : Int} (h : v ≠ 1) (t : List B) (r : Rc) : addT v t r ≠ [] := by
  intro e
  have := addT_mem h t r (x := r.target) (by simp [textsR])
  rw [e] at this
  cases this

/-! ### how long -/
theorem tblP_len (l : List B) (s : B) : (tblP l s).length ≤ l.length + 1 := by
  unfold tblP
  split <;> simp
theorem addAll_len : ∀ (m t : List B), (m.foldl tblP t).length ≤ t.length + m.length := by
  intro m
  induction m with
  | nil => intro t; simp
  | cons a m ih => intro t; have := ih (tblP t a); have := tblP_len t a; simp only [List.foldl_cons, List.length_cons]; omega
theorem textsR_len (r : Rc) : (textsR r).length ≤ r.deps.length + 2 := by
  unfold textsR
  split <;> simp
theorem namesR_len (r : Rc) : (namesR r).length ≤ r.deps.length + 2 := by
  have h1 := addAll_len (textsR r) []
  have h2 := textsR_len r
  unfold namesR tblN
  simp only [List.length_nil] at h1
  omega
theorem addT_len (v : Int) (t : List B) (r : Rc) : (addT v t r).length ≤ t.length + r.deps.length + 2 := by
  unfold addT
  split
  · omega
  · have h1 := addAll_len (namesR r) t
    have h2 := namesR_len r
    omega
/-- A record that may be there. -/
structure MayR (v : Int) (r : Rc) : Prop where
  lo : 1 ≤ v
  hi : v ≤ 3
  t1 : 1 ≤ r.target.length
  t2 : r.target.length ≤ 64
  deps : r.deps.length ≤ 16
  tag : r.tag.length ≤ 64
  names : ∀ d ∈ r.deps, 1 ≤ d.name.length ∧ d.name.length ≤ 64
  kind : r.kind = 1 ∨ r = goneR r
  wen : v = 1 → r.wen = 0
  tag3 : v < 3 → r.tag = []
  order : v < 3 → ∀ d ∈ r.deps, d.order = false
theorem depsGo_ok (v : Int) : ∀ (l : List Dp) (seen : List B), depsGo v l seen = true → ∀ d ∈ l, (1 ≤ d.name.length ∧ d.name.length ≤ 64) ∧ (v < 3 → d.order = false) := by
  intro l
  induction l with
  | nil => intro seen h d hd; cases hd
  | cons a l ih =>
    intro seen h d hd
    simp only [depsGo, nameOk, Bool.and_eq_true, decide_eq_true_eq, Bool.not_eq_true', Bool.and_eq_false_iff, decide_eq_false_iff_not] at h
    rcases List.mem_cons.1 hd with rfl | hd
    · exact ⟨h.1, fun hv => h.2.2.1.elim id fun e => absurd hv e⟩
    · exact ih _ h.2.2.2 d hd
theorem may_all {v : Int} {r : Rc} (h : mayP v r = true) : MayR v r := by
  unfold mayP at h
  split at h
  · cases h
  · rename_i h0
    simp only [Bool.or_eq_true, decide_eq_true_eq, Bool.not_eq_true', not_or, nameOk, Bool.and_eq_false_iff, decide_eq_false_iff_not] at h0
    obtain ⟨⟨h1, h2⟩, h3⟩ := h0
    have hv1 : 1 ≤ v := by omega
    have hv2 : v ≤ 3 := by omega
    have ht1 : 1 ≤ r.target.length := by
      exact Classical.not_not.1 h3.1
    have ht2 : r.target.length ≤ 64 := by
      exact Classical.not_not.1 h3.2
    split at h
    · rename_i hk
      simp only [Bool.and_eq_true, Bool.not_eq_true', decide_eq_true_eq, depsP, earlyP, Bool.or_eq_false_iff, Bool.and_eq_false_iff, decide_eq_false_iff_not] at h
      obtain ⟨⟨e1, e2⟩, e3, e4, e5⟩ := h
      have hd := depsGo_ok v _ _ e4
      refine ⟨hv1, hv2, ht1, ht2, e5, e3, fun d hd' => (hd d hd').1, .inl hk, fun hv => ?_, fun hv => ?_, fun hv d hd' => (hd d hd').2 hv⟩
      · refine Classical.byContradiction fun e => e1.elim (fun e' => e' (by omega)) fun e' => e' e
      · refine Classical.byContradiction fun e => e2.elim (fun e' => e' hv) fun e' => e' e
    · split at h
      · have hg := of_decide_eq_true h
        have q1 : r.deps = [] := by rw [hg]; rfl
        have q2 : r.tag = [] := by rw [hg]; rfl
        have q3 : r.wen = 0 := by rw [hg]; rfl
        exact ⟨hv1, hv2, ht1, ht2, (by rw [q1]; simp), (by rw [q2]; simp), (by rw [q1]; simp), .inr hg, fun _ => q3, fun _ => q2, (by rw [q1]; simp)⟩
      · cases h
theorem textsR_lens {v : Int} {r : Rc} (h : MayR v r) : ∀ s ∈ textsR r, 1 ≤ s.length ∧ s.length ≤ 64 := by
  intro s hs
  unfold textsR at hs
  rcases List.mem_cons.1 hs with rfl | hs
  · exact ⟨h.t1, h.t2⟩
  rcases List.mem_append.1 hs with hs | hs
  · obtain ⟨d, hd, rfl⟩ := List.mem_map.1 hs
    exact h.names d hd
  · split at hs
    · cases hs
    · rename_i e
      rw [List.mem_singleton.1 hs]
      refine ⟨?_, h.tag⟩
      cases ht : r.tag with
      | nil => exact absurd ht e
      | cons a l => simp
theorem vrn_one {n : Nat} (h : n < 128) : (vrn n).length = 1 := by rw [vrn_small h]; rfl
theorem blobP_len {s : B} (h : s.length ≤ 64) : (blobP s).length ≤ 65 := by
  unfold blobP
  rw [List.length_append, vrn_one (by omega)]
  omega
theorem textW_len {v : Int} {t : List B} {s : B} (h : s.length ≤ 64) (ht : t.length < 1000000) : (textW v t s).length ≤ 65 := by
  unfold textW
  split
  · exact blobP_len h
  · have h1 := List.idxOf_le_length (a := s) (l := t)
    have := vrn_u64 (n := t.idxOf s) (by omega)
    omega
theorem u64_vrn (x : U) : (vrn x.toNat).length ≤ 10 := vrn_u64 (by have := x.isLt; omega)
theorem depW_len {v : Int} {t : List B} {d : Dp} (h : d.name.length ≤ 64) (ht : t.length < 1000000) : (depW v t d).length ≤ 75 := by
  unfold depW
  have h1 := u64_vrn d.hash
  have h3 := List.idxOf_le_length (a := d.name) (l := t)
  have h4 : (vrn (depN t d)).length ≤ 10 := vrn_u64 (by unfold depN; split <;> omega)
  rw [List.length_append]
  split
  · have h2 := textW_len (v := v) h ht
    omega
  · omega
theorem depsW_len {v : Int} {t : List B} (ht : t.length < 1000000) : ∀ {l : List Dp}, (∀ d ∈ l, d.name.length ≤ 64) → (depsW v t l).length ≤ 75 * l.length := by
  intro l
  induction l with
  | nil => intro h; simp [depsW]
  | cons a l ih =>
    intro h
    have h1 := depW_len (v := v) (t := t) (h a List.mem_cons_self) ht
    have h2 := ih fun d hd => h d (List.mem_cons_of_mem _ hd)
    unfold depsW at h2 ⊢
    rw [List.map_cons, List.flatten_cons, List.length_append, List.length_cons]
    omega
theorem endW_len {v : Int} {t : List B} {r : Rc} (ht : t.length < 1000000) : (endW v t r).length ≤ 30 := by
  unfold endW
  have h1 := u64_vrn r.out
  have h2 := u64_vrn r.wen
  have h3 : (tagW t r.tag).length ≤ 10 := by
    unfold tagW
    have h3 := List.idxOf_le_length (a := r.tag) (l := t)
    exact vrn_u64 (by split <;> omega)
  rw [List.length_append, List.length_append]
  split <;> split <;> simp <;> omega
theorem lastW_len {v : Int} {t : List B} {r : Rc} (h : MayR v r) (ht : t.length < 1000000) : 1 ≤ (lastW v t r).length ∧ (lastW v t r).length ≤ 1400 := by
  unfold lastW
  have h1 := textW_len (v := v) (t := t) h.t2 ht
  have h2 := u64_vrn r.rule
  have h3 : (vrn r.deps.length).length ≤ 10 := vrn_u64 (by have := h.deps; omega)
  have h4 := depsW_len (v := v) (t := t) (l := r.deps) ht fun d hd => (h.names d hd).2
  have h5 := endW_len (v := v) (t := t) (r := r) ht
  have h6 := h.deps
  split
  · simp; omega
  · simp only [List.length_cons, List.length_append]; omega
theorem payP_lens {v : Int} {t : List B} {r : Rc} (h : MayR v r) (ht : t.length < 900000) : ∀ p ∈ payP v t r, 1 ≤ p.length ∧ p.length ≤ 2048 := by
  intro p hp
  unfold payP at hp
  rcases List.mem_append.1 hp with hp | hp
  · unfold defsP at hp
    split at hp
    · cases hp
    · obtain ⟨s, hs, rfl⟩ := List.mem_map.1 hp
      have := textsR_lens h s (tblN_mem.1 (news_sub _ _ s hs))
      simp [defP]; omega
  · rw [List.mem_singleton.1 hp]
    have h1 := addT_len v t r
    have h2 := h.deps
    have := lastW_len (t := addT v t r) h (by omega)
    omega
theorem frameP_len {p : B} (h : p.length ≤ 2048) : (frameP p).length ≤ p.length + 14 := by
  unfold frameP sealF blobP
  have := vrn_u64 (n := p.length) (by omega)
  simp only [List.length_append, w4_length]
  omega
theorem framesP_len : ∀ {l : List B} {k : Nat}, (∀ p ∈ l, p.length ≤ k) → k ≤ 2048 → (framesP l).length ≤ l.length * (k + 14) := by
  intro l
  induction l with
  | nil => intro k h hk; simp [framesP]
  | cons a l ih =>
    intro k h hk
    have h1 := h a List.mem_cons_self
    have h2 := frameP_len (p := a) (by omega)
    have h3 := ih (k := k) (fun p hp => h p (List.mem_cons_of_mem _ hp)) hk
    unfold framesP at h3 ⊢
    rw [List.map_cons, List.flatten_cons, List.length_append, List.length_cons, Nat.succ_mul]
    omega
/-- A record's frames. -/
theorem payP_frames {v : Int} {t : List B} {r : Rc} (h : MayR v r) (ht : t.length < 900000) : (framesP (payP v t r)).length ≤ 3000 := by
  have h1 := addT_len v t r
  have h2 := h.deps
  have h3 := lastW_len (t := addT v t r) h (by omega)
  have h4 := frameP_len (p := lastW v (addT v t r) r) (by omega)
  have h5 : (framesP (defsP v t r)).length ≤ 18 * (65 + 14) := by
    have e1 : (defsP v t r).length ≤ 18 := by
      unfold defsP
      split
      · simp
      · have := news_len (namesR r) t
        have := namesR_len r
        rw [List.length_map]; omega
    have e2 : ∀ p ∈ defsP v t r, p.length ≤ 65 := by
      intro p hp
      unfold defsP at hp
      split at hp
      · cases hp
      · obtain ⟨s, hs, rfl⟩ := List.mem_map.1 hp
        have := textsR_lens h s (tblN_mem.1 (news_sub _ _ s hs))
        simp [defP]; omega
    exact Nat.le_trans (framesP_len e2 (by omega)) (Nat.mul_le_mul_right _ e1)
  unfold payP
  rw [framesP_snoc, List.length_append]
  omega
theorem tblL_len {v : Int} : ∀ {l : List Rc} {t : List B}, (∀ r ∈ l, MayR v r) → (tblL v t l).length ≤ t.length + 18 * l.length := by
  intro l
  induction l with
  | nil => intro t h; simp [tblL]
  | cons a l ih =>
    intro t h
    have h1 := ih (t := addT v t a) fun r hr => h r (List.mem_cons_of_mem _ hr)
    have h2 := addT_len v t a
    have h3 := (h a List.mem_cons_self).deps
    unfold tblL at h1 ⊢
    rw [List.foldl_cons, List.length_cons]
    omega
theorem paysP_frames {v : Int} : ∀ {l : List Rc} {t : List B}, (∀ r ∈ l, MayR v r) → t.length + 18 * l.length < 900000 → (framesP (paysP v t l)).length ≤ 3000 * l.length := by
  intro l
  induction l with
  | nil => intro t h ht; simp [paysP, framesP]
  | cons a l ih =>
    intro t h ht
    have h1 := addT_len v t a
    have h2 := (h a List.mem_cons_self).deps
    rw [List.length_cons] at ht
    have h3 := ih (t := addT v t a) (fun r hr => h r (List.mem_cons_of_mem _ hr)) (by omega)
    have h4 := payP_frames (t := t) (h a List.mem_cons_self) (by omega)
    rw [paysP, framesP_append, List.length_append, List.length_cons]
    omega
theorem paysP_lens {v : Int} : ∀ {l : List Rc} {t : List B}, (∀ r ∈ l, MayR v r) → t.length + 18 * l.length < 900000 → ∀ p ∈ paysP v t l, 1 ≤ p.length ∧ p.length ≤ 2048 := by
  intro l
  induction l with
  | nil => intro t h ht p hp; cases hp
  | cons a l ih =>
    intro t h ht p hp
    have h1 := addT_len v t a
    have h2 := (h a List.mem_cons_self).deps
    rw [List.length_cons] at ht
    rw [paysP] at hp
    rcases List.mem_append.1 hp with hp | hp
    · exact payP_lens (h a List.mem_cons_self) (by omega) p hp
    · exact ih (t := addT v t a) (fun r hr => h r (List.mem_cons_of_mem _ hr)) (by omega) p hp
end Go.Abs
end

section
/- Tables of texts: where a text stands, which text it is, copies; a record's names. -/
set_option maxRecDepth 100000
set_option maxHeartbeats 2000000
set_option linter.unusedVariables false
set_option linter.unusedSimpArgs false
namespace Go.Abs
open Go Go.Proofs Dig
attribute [local irreducible] ibits byteAt strLt firstIdx

theorem mapFind_idx {s : B} : ∀ {l : List B} (i : Nat), s ∈ l → mapFind (tblFrom l i) (ofB s) = some (vi ((i + l.idxOf s : Nat) : Int)) := by
  intro l
  induction l with
  | nil => intro i h; cases h
  | cons a l ih =>
    intro i h
    simp only [tblFrom, mapFind]
    by_cases e : a = s
    · subst e; rw [if_pos rfl, List.idxOf_cons_self]; rfl
    · have hx : (a :: l).idxOf s = l.idxOf s + 1 := by
        rw [List.idxOf_cons, show (a == s) = false from beq_eq_false_iff_ne.2 e]
        rfl
      rw [if_neg (fun e' => e (ofB_inj e')), ih (i + 1) ((List.mem_cons.1 h).elim (fun x => absurd x.symm e) id), hx]
      congr 3
      omega
theorem tFind_calls (l : List B) (s : B) (hs : s ∈ l) (hl : l.length < 1000000) {R} (h : R (.tup [.val (.int .u64 ((l.idxOf s : Nat) : Int)), .val (.bool true)]) [tblO 1 2 l, tblR l, tblM l]) :
    ACalls Tryz.prog 215 [.ptr 0 0, vs s] [tblO 1 2 l, tblR l, tblM l] R := by
  refine acalls_of_xwp (an := an215) tab_ok Tryz.func215 ?_
  have hj := mapFind_idx 0 hs
  rw [Nat.zero_add] at hj
  have hi := List.idxOf_le_length (a := s) (l := l)
  have ew : IntKind.u64.wrap ((l.idxOf s : Nat) : Int) = ((l.idxOf s : Nat) : Int) := by
    show ((l.idxOf s : Nat) : Int) % 18446744073709551616 = _
    omega
  (conv => whnf)
  rw [hj]
  (conv => whnf)
  rw [ew]
  exact h
theorem tText_calls (l : List B) (i : Nat) (hi : i < l.length) (hl : l.length < 1000000) {R} (h : R (.tup [vs l[i], .val (.bool true)]) [tblO 1 2 l, tblR l, tblM l]) :
    ACalls Tryz.prog 182 [.ptr 0 0, .val (.int .u64 (i : Int))] [tblO 1 2 l, tblR l, tblM l] R := by
  refine acalls_of_xwp (an := an182) tab_ok Tryz.func182 ?_
  have hsl := strs_length l
  have ew : IntKind.u64.wrap (((strs l).length : Nat) : Int) = ((l.length : Nat) : Int) := by
    rw [hsl]
    show ((l.length : Nat) : Int) % 18446744073709551616 = _
    omega
  (conv => whnf)
  refine br_false (by rw [ew]; exact decide_eq_false (by omega)) ?_
  (conv => whnf); (repeat ((with_reducible refine must_intro ?_ ?_); exact decide_eq_true (by omega); (conv => whnf)))
  refine idxK_map_intro (show (i : Int).toNat < l.length by simpa using hi) ?_
  rw [show l[(i : Int).toNat]'(by simpa using hi) = l[i] from by congr 1]
  (conv => whnf)
  exact h
theorem tCopy_nil {R} (h : R (.ptr 1 0) [tblF, tblF]) : ACalls Tryz.prog 192 [.ptr 0 0] [tblF] R := by
  refine acalls_of_xwp (an := an192) tab_ok Tryz.func192 ?_
  (conv => whnf)
  refine New_nil ?_
  (conv => whnf)
  exact h
theorem tCopy_calls (l : List B) (h0 : l ≠ []) (hn : l.Nodup) (hl : l.length < 100000) {R} (h : R (.ptr 3 0) [tblO 1 2 l, tblR l, tblM l, tblO 4 5 l, tblR l, tblM l]) :
    ACalls Tryz.prog 192 [.ptr 0 0] [tblO 1 2 l, tblR l, tblM l] R := by
  refine acalls_of_xwp (an := an192) tab_ok Tryz.func192 ?_
  have hs := tblN_self hn
  obtain ⟨a, m, rfl⟩ := List.exists_cons_of_ne_nil h0
  (conv => whnf)
  refine New_calls a m (by simp at hl; omega) fun q hq => ?_
  rw [hs] at hq
  subst hq
  (conv => whnf)
  exact h

theorem textsR_take (r : Rc) (i : Nat) (hi : i < r.deps.length) : (r.target :: (r.deps.take i).map (·.name)) ++ [r.deps[i].name] = r.target :: (r.deps.take (i + 1)).map (·.name) := by
  rw [List.take_succ_eq_append_getElem hi, List.map_append]
  rfl
theorem strs_take {l : List B} {i : Nat} (hi : i < l.length) : strs (l.take i) ++ [[vs l[i]]] = strs (l.take (i + 1)) := by
  rw [List.take_succ_eq_append_getElem hi, strs_append]
  rfl
theorem rNames_calls (r : Rc) (hd : r.deps.length < 50000) {R} (h : R (.sl none 1 (strs (namesR r))) []) : ACalls Tryz.prog 155 [.agg r.enc] [] R := by
  refine acalls_of_xwp (an := an155) tab_ok Tryz.func155 ?_
  have hsl := dpsA_length r.deps
  have hml := namesR_len r
  have hN : namesR r = tblN (textsR r) := rfl
  generalize namesR r = m at h hml hN
  (conv => whnf)
  refine LoopP.ind1 (fun (i : Nat) => [(3, .sl (some (nameOf 13)) 1 (strs (r.target :: (r.deps.take i).map (·.name)))), (17, vi i)]) (fun i => [(nameOf 13, .row 9 1 (i + 1))]) (fun i => r.deps.length - i) (fun i => i ≤ r.deps.length) 0 rfl (by omega) ?_
  rintro i h0 IH
  have hnl : (strs (r.target :: (r.deps.take i).map (·.name))).length = i + 1 := by rw [strs_length]; simp; omega
  (conv => whnf)
  refine br_intro (fun hc => ?_) (fun hc => ?_)
  · have hc := lt_of_decE hsl hc
    have IH := IH (i + 1) hc (by omega)
    have e1 : strs (r.target :: (r.deps.take i).map (·.name)) ++ [[vs r.deps[i].name]] = strs (r.target :: (r.deps.take (i + 1)).map (·.name)) := by rw [← textsR_take r i hc, strs_append]; rfl
    rw [← e1] at IH
    (conv => whnf); (repeat ((with_reducible refine must_intro ?_ ?_); exact decide_eq_true (by omega); (conv => whnf)))
    refine idxK_map_intro (show (i : Int).toNat < r.deps.length by simpa using hc) ?_
    rw [show r.deps[(i : Int).toNat]'(by simpa using hc) = r.deps[i] from by congr 1]
    generalize r.deps[i] = d at IH e1 ⊢
    (conv => whnf)
    refine ⟨hnl.symm, by rw [hnl, bytes_str]; simp; omega, ?_⟩
    (conv => whnf)
    rw [i64_nat (by omega), hnl]
    exact IH
  · have hc := ge_of_decE hsl hc
    have e : i = r.deps.length := by omega
    subst e
    rw [List.take_length] at hnl ⊢
    have hdl : (r.deps.map (·.name)).length = r.deps.length := by simp
    (conv => whnf)
    refine br_intro (fun g => ?_) (fun g => ?_)
    · have g : r.tag ≠ [] := by
        have g : (!decide (ofB r.tag = ofB [])) = true := g
        intro e
        rw [e] at g
        simp at g
      have hT : textsR r = r.target :: (r.deps.map (·.name) ++ [r.tag]) := by simp [textsR, g]
      have e1 : strs (r.target :: r.deps.map (·.name)) ++ [[vs r.tag]] = strs (r.target :: (r.deps.map (·.name) ++ [r.tag])) := by
        rw [← List.cons_append, strs_append]; rfl
      (conv => whnf)
      refine ⟨hnl.symm, by rw [hnl, bytes_str]; simp; omega, ?_⟩
      (conv => whnf)
      refine (show ACalls Tryz.prog 120 [.sl none 1 (strs (r.target :: r.deps.map (·.name)) ++ [[vs r.tag]])] [] _ from ?_)
      rw [e1]
      refine New_calls r.target _ (by simp; omega) fun q hq => ?_
      rw [← hT, ← hN] at hq
      rw [hq]
      clear hq
      (conv => whnf)
      refine Len_old m ?_
      (conv => whnf)
      have hml2 := strs_length m
      refine LoopP.ind1 (fun (i : Nat) => [(7, .sl (some (nameOf 7)) 1 (strs (m.take i))), (39, vi i)]) (fun i => [(nameOf 7, .row 9 1 i), (freshN 36 0, tblO (freshN 36 1) (freshN 36 2) m), (freshN 36 1, tblR m), (freshN 36 2, tblM m)]) (fun i => m.length - i) (fun i => i ≤ m.length) 0 rfl (by omega) ?_
      rintro i h0 IH
      have htl : (strs (m.take i)).length = i := by rw [strs_length, List.length_take]; omega
      (conv => whnf)
      refine br_intro (fun hc => ?_) (fun hc => ?_)
      · have hc := lt_of_dec hc
        have ew : IntKind.u64.wrap (i : Int) = (i : Int) := by
          show (i : Int) % 18446744073709551616 = _
          omega
        have IH := IH (i + 1) hc (by omega)
        rw [← strs_take hc] at IH
        (conv => whnf)
        rw [ew]
        refine tText_calls m i hc (by omega) ?_
        (conv => whnf)
        refine ⟨htl.symm, by rw [htl, bytes_str]; simp; omega, ?_⟩
        (conv => whnf)
        rw [i64_nat (by omega), htl]
        exact IH
      · have hc := ge_of_dec hc
        have e : i = m.length := by omega
        subst e
        rw [List.take_length]
        (conv => whnf)
        exact h
    · have g : r.tag = [] := by
        have g : (!decide (ofB r.tag = ofB [])) = false := g
        have g : ofB r.tag = ofB [] := by simpa using g
        exact ofB_inj g
      have hT : textsR r = r.target :: r.deps.map (·.name) := by simp [textsR, g]
      (conv => whnf)
      refine New_calls r.target _ (by omega) fun q hq => ?_
      rw [← hT, ← hN] at hq
      rw [hq]
      clear hq
      (conv => whnf)
      refine Len_old m ?_
      (conv => whnf)
      have hml2 := strs_length m
      refine LoopP.ind1 (fun (i : Nat) => [(7, .sl (some (nameOf 7)) 1 (strs (m.take i))), (39, vi i)]) (fun i => [(nameOf 7, .row 9 1 i), (freshN 36 0, tblO (freshN 36 1) (freshN 36 2) m), (freshN 36 1, tblR m), (freshN 36 2, tblM m)]) (fun i => m.length - i) (fun i => i ≤ m.length) 0 rfl (by omega) ?_
      rintro i h0 IH
      have htl : (strs (m.take i)).length = i := by rw [strs_length, List.length_take]; omega
      (conv => whnf)
      refine br_intro (fun hc => ?_) (fun hc => ?_)
      · have hc := lt_of_dec hc
        have ew : IntKind.u64.wrap (i : Int) = (i : Int) := by
          show (i : Int) % 18446744073709551616 = _
          omega
        have IH := IH (i + 1) hc (by omega)
        rw [← strs_take hc] at IH
        (conv => whnf)
        rw [ew]
        refine tText_calls m i hc (by omega) ?_
        (conv => whnf)
        refine ⟨htl.symm, by rw [htl, bytes_str]; simp; omega, ?_⟩
        (conv => whnf)
        rw [i64_nat (by omega), htl]
        exact IH
      · have hc := ge_of_dec hc
        have e : i = m.length := by omega
        subst e
        rw [List.take_length]
        (conv => whnf)
        exact h
end Go.Abs
end

section
/- schema's writer: numbers, texts, deps, tags. -/
set_option maxRecDepth 100000
set_option maxHeartbeats 2000000
set_option linter.unusedVariables false
set_option linter.unusedSimpArgs false
namespace Go.Abs
open Go Go.Proofs Dig
attribute [local irreducible] ibits byteAt strLt firstIdx

/-- A writer. -/
def wO (b : B) (t : AV) : AObj := .cells 231 [.sl none 1 (byteEls b), t]
abbrev un (n : Nat) : AV := .val (.int .u64 (n : Int))
theorem number_F (b : B) (n : Nat) (hn : n < 18446744073709551616) (hb : b.length < 10000000) {R} (h : R (.tup []) [wO (b ++ vrn n) (.ptr 1 0), tblF]) :
    ACalls Tryz.prog 185 [.ptr 0 0, un n] [wO b (.ptr 1 0), tblF] R := by
  refine acalls_of_xwp (an := an185) tab_ok Tryz.func185 ?_
  (conv => whnf)
  refine vPutN_calls b n hn hb ?_
  (conv => whnf)
  exact h
theorem number_O (b : B) (l : List B) (n : Nat) (hn : n < 18446744073709551616) (hb : b.length < 10000000) {R} (h : R (.tup []) [wO (b ++ vrn n) (.ptr 1 0), tblO 2 3 l, tblR l, tblM l]) :
    ACalls Tryz.prog 185 [.ptr 0 0, un n] [wO b (.ptr 1 0), tblO 2 3 l, tblR l, tblM l] R := by
  refine acalls_of_xwp (an := an185) tab_ok Tryz.func185 ?_
  (conv => whnf)
  refine vPutN_calls b n hn hb ?_
  (conv => whnf)
  exact h
theorem blob_F (b s : B) (hb : b.length < 1000000) (hs : s.length < 10000000) {R} (h : R (.tup []) [wO (b ++ blobP s) (.ptr 1 0), tblF]) :
    ACalls Tryz.prog 184 [.ptr 0 0, vs s] [wO b (.ptr 1 0), tblF] R := by
  refine acalls_of_xwp (an := an184) tab_ok Tryz.func184 ?_
  (conv => whnf)
  refine bPut_calls b s hb hs ?_
  (conv => whnf)
  exact h
theorem known_O (b : B) (l : List B) (s : B) (hs : s ∈ l) (hl : l.length < 1000000) (hb : b.length < 10000000) {R} (h : R (.tup []) [wO (b ++ vrn (l.idxOf s)) (.ptr 1 0), tblO 2 3 l, tblR l, tblM l]) :
    ACalls Tryz.prog 183 [.ptr 0 0, vs s] [wO b (.ptr 1 0), tblO 2 3 l, tblR l, tblM l] R := by
  refine acalls_of_xwp (an := an183) tab_ok Tryz.func183 ?_
  have hi := List.idxOf_le_length (a := s) (l := l)
  (conv => whnf)
  refine tFind_calls l s hs hl ?_
  (conv => whnf)
  refine number_O b l (l.idxOf s) (by omega) hb ?_
  (conv => whnf)
  exact h
theorem tag_O (b : B) (l : List B) (s : B) (hs : s ≠ [] → s ∈ l) (hl : l.length < 1000000) (hb : b.length < 10000000) {R} (h : R (.tup []) [wO (b ++ tagW l s) (.ptr 1 0), tblO 2 3 l, tblR l, tblM l]) :
    ACalls Tryz.prog 187 [.ptr 0 0, vs s] [wO b (.ptr 1 0), tblO 2 3 l, tblR l, tblM l] R := by
  refine acalls_of_xwp (an := an187) tab_ok Tryz.func187 ?_
  have hi := List.idxOf_le_length (a := s) (l := l)
  (conv => whnf)
  refine br_intro (fun g => ?_) (fun g => ?_)
  · have g : s = [] := by
      have g : ofB s = ofB [] := of_decide_eq_true g
      exact ofB_inj g
    rw [show tagW l s = vrn 0 by simp [tagW, g]] at h
    (conv => whnf)
    refine number_O b l 0 (by omega) hb ?_
    (conv => whnf)
    exact h
  · have g : s ≠ [] := by
      have g : ¬ ofB s = ofB [] := of_decide_eq_false g
      exact fun e => g (by rw [e])
    rw [show tagW l s = vrn (l.idxOf s + 1) by simp [tagW, g]] at h
    have ew : IntKind.u64.wrap (((l.idxOf s : Nat) : Int) + 1) = ((l.idxOf s + 1 : Nat) : Int) := by
      show (((l.idxOf s : Nat) : Int) + 1) % 18446744073709551616 = _
      omega
    (conv => whnf)
    refine tFind_calls l s (hs g) hl ?_
    (conv => whnf)
    rw [ew]
    refine number_O b l (l.idxOf s + 1) (by omega) hb ?_
    (conv => whnf)
    exact h
/-- A dep, in the versions 1 and 2: by the text's closure. -/
theorem dep_1 (b : B) (d : Dp) (hb : b.length < 1000000) (hs : d.name.length < 10000000) {R} (h : R (.tup []) [wO (b ++ blobP d.name) (.ptr 1 0), tblF]) :
    ACalls Tryz.prog 186 [.ptr 0 0, vi 1, .agg d.enc, .fn (.func 184) [.ptr 0 0] []] [wO b (.ptr 1 0), tblF] R := by
  refine acalls_of_xwp (an := an186) tab_ok Tryz.func186 ?_
  (conv => whnf)
  refine blob_F b d.name hb hs ?_
  (conv => whnf)
  exact h
theorem dep_2 (b : B) (l : List B) (d : Dp) (hs : d.name ∈ l) (hl : l.length < 1000000) (hb : b.length < 1000000) {R} (h : R (.tup []) [wO (b ++ vrn (l.idxOf d.name)) (.ptr 1 0), tblO 2 3 l, tblR l, tblM l]) :
    ACalls Tryz.prog 186 [.ptr 0 0, vi 2, .agg d.enc, .fn (.func 183) [.ptr 0 0] []] [wO b (.ptr 1 0), tblO 2 3 l, tblR l, tblM l] R := by
  refine acalls_of_xwp (an := an186) tab_ok Tryz.func186 ?_
  (conv => whnf)
  refine known_O b l d.name hs hl (by omega) ?_
  (conv => whnf)
  exact h
theorem dep_3 (b : B) (l : List B) (d : Dp) (hs : d.name ∈ l) (hl : l.length < 1000000) (hb : b.length < 1000000) {R} (h : R (.tup []) [wO (b ++ vrn (depN l d)) (.ptr 1 0), tblO 2 3 l, tblR l, tblM l]) :
    ACalls Tryz.prog 186 [.ptr 0 0, vi 3, .agg d.enc, .fn (.func 183) [.ptr 0 0] []] [wO b (.ptr 1 0), tblO 2 3 l, tblR l, tblM l] R := by
  refine acalls_of_xwp (an := an186) tab_ok Tryz.func186 ?_
  have hi := List.idxOf_le_length (a := d.name) (l := l)
  have ew : IntKind.u64.wrap (((l.idxOf d.name : Nat) : Int) * 2) = ((2 * l.idxOf d.name : Nat) : Int) := by
    show (((l.idxOf d.name : Nat) : Int) * 2) % 18446744073709551616 = _
    omega
  have ew2 : IntKind.u64.wrap (((2 * l.idxOf d.name : Nat) : Int) + 1) = ((2 * l.idxOf d.name + 1 : Nat) : Int) := by
    show (((2 * l.idxOf d.name : Nat) : Int) + 1) % 18446744073709551616 = _
    omega
  (conv => whnf)
  refine tFind_calls l d.name hs hl ?_
  (conv => whnf)
  rw [ew]
  refine br_intro (fun g => ?_) (fun g => ?_)
  · rw [show depN l d = 2 * l.idxOf d.name + 1 by simp [depN, g]] at h
    (conv => whnf)
    rw [ew2]
    refine number_O b l (2 * l.idxOf d.name + 1) (by omega) (by omega) ?_
    (conv => whnf)
    exact h
  · rw [show depN l d = 2 * l.idxOf d.name by simp [depN, g]] at h
    (conv => whnf)
    refine number_O b l (2 * l.idxOf d.name) (by omega) (by omega) ?_
    (conv => whnf)
    exact h
end Go.Abs
end

section
/- schema's writer: a record's last payload. -/
set_option maxRecDepth 100000
set_option maxHeartbeats 4000000
set_option linter.unusedVariables false
set_option linter.unusedSimpArgs false
namespace Go.Abs
open Go Go.Proofs Dig
attribute [local irreducible] ibits byteAt strLt firstIdx

def wN (t : AV) : AObj := .cells 231 [.val (.slice none 0 0), t]
theorem depsW_snoc {v : Int} {t : List B} {l : List Dp} {i : Nat} (hi : i < l.length) : depsW v t (l.take (i + 1)) = depsW v t (l.take i) ++ depW v t l[i] := by
  unfold depsW
  rw [List.take_succ_eq_append_getElem hi, List.map_append, List.flatten_append]
  simp
theorem depsW_take {v : Int} {t : List B} {r : Rc} (hm : MayR v r) (ht : t.length < 1000000) (i : Nat) : (depsW v t (r.deps.take i)).length ≤ 1200 := by
  have h1 := depsW_len (v := v) (t := t) (l := r.deps.take i) ht fun d hd => (hm.names d (List.mem_of_mem_take hd)).2
  have h2 := hm.deps
  rw [List.length_take] at h1
  omega
/-- What stands ahead of the deps. -/
def frontW (v : Int) (t : List B) (r : Rc) : B := 1 :: (textW v t r.target ++ vrn r.rule.toNat ++ vrn r.deps.length)
theorem frontW_len {v : Int} {t : List B} {r : Rc} (hm : MayR v r) (ht : t.length < 1000000) : (frontW v t r).length ≤ 90 := by
  unfold frontW
  have h1 := textW_len (v := v) (t := t) hm.t2 ht
  have h2 := u64_vrn r.rule
  have h3 : (vrn r.deps.length).length ≤ 10 := vrn_u64 (by have := hm.deps; omega)
  simp only [List.length_cons, List.length_append]
  omega
theorem lastW_trace {v : Int} {t : List B} {r : Rc} (hk : r.kind = 1) : lastW v t r = frontW v t r ++ depsW v t r.deps ++ endW v t r := by
  unfold lastW frontW
  rw [if_neg (by rw [hk]; decide)]
  simp
theorem lastW_gone {v : Int} {t : List B} {r : Rc} (hk : r.kind = 2) : lastW v t r = 2 :: textW v t r.target := by
  unfold lastW
  rw [if_pos hk]
theorem len_u64 {r : Rc} (h : r.deps.length ≤ 16) : IntKind.u64.wrap (((dpsA r.deps).length : Nat) : Int) = ((r.deps.length : Nat) : Int) := by
  rw [dpsA_length]
  show ((r.deps.length : Nat) : Int) % 18446744073709551616 = _
  omega
theorem goneR_kind {r : Rc} (h : r = goneR r) : r.kind = 2 := by rw [h]; rfl

theorem last_1 (r : Rc) (hm : MayR 1 r) {R} (h : R (.sl none 1 (byteEls (lastW 1 [] r))) [wO (lastW 1 [] r) (.ptr 1 0), tblF]) :
    ACalls Tryz.prog 156 [.ptr 0 0, vi 1, .agg r.enc] [wN (.ptr 1 0), tblF] R := by
  have hk := hm.kind.imp id goneR_kind
  have ht : ([] : List B).length < 1000000 := by simp
  have hF := frontW_len (v := 1) (t := []) hm ht
  have hD := depsW_take (v := 1) (t := []) hm ht
  have hsl := dpsA_length r.deps
  have hlu := len_u64 hm.deps
  have hd16 := hm.deps
  have hbl := blobP_len hm.t2
  have h2 := u64_vrn r.rule
  have ho := u64_vrn r.out
  have htx : textW 1 [] r.target = blobP r.target := by simp [textW]
  have hnm := hm.names
  have ht2 := hm.t2
  refine acalls_of_xwp (an := an156) tab_ok Tryz.func156 ?_
  rcases hk with hk | hk
  · have e1 := lastW_trace (v := 1) (t := []) hk
    have eF : frontW 1 [] r = [1] ++ blobP r.target ++ vrn r.rule.toNat ++ vrn r.deps.length := by unfold frontW; rw [htx]; simp
    have eE : endW 1 [] r = vrn r.out.toNat := by simp [endW]
    rw [e1, eE] at h
    obtain ⟨k, tg, ru, ds, ou, we, ta⟩ := r
    dsimp only at hk hF hD hsl hlu hd16 hbl h2 ho hnm ht2 h htx eF
    subst hk
    (conv => whnf)
    refine blob_F [1] tg (by simp) (by omega) ?_
    (conv => whnf)
    refine number_F ([1] ++ blobP tg) ru.toNat ru.isLt (by simp; omega) ?_
    (conv => whnf)
    rw [hlu]
    refine number_F ([1] ++ blobP tg ++ vrn ru.toNat) ds.length (by omega) (by simp at h2 ⊢; omega) ?_
    rw [← eF]
    generalize frontW 1 [] (Rc.mk 1 tg ru ds ou we ta) = F at h hF eF ⊢
    (conv => whnf)
    refine LoopP.ind2 (fun (i : Nat) (b : B) => [(47, vi i)]) (fun i b => [(0, wO b (.ptr 1 0)), (1, tblF)]) (fun i _ => ds.length - i) (fun i b => i ≤ ds.length ∧ b = F ++ depsW 1 [] (ds.take i)) 0 F rfl ⟨by omega, by simp [depsW]⟩ ?_
    rintro i X ⟨h0, hX⟩ IH
    have hDi : X.length ≤ 1300 := by have := hD i; rw [hX, List.length_append]; omega
    (conv => whnf)
    refine br_intro (fun hc => ?_) (fun hc => ?_)
    · have hc := lt_of_decE hsl hc
      have hn := hnm ds[i] (List.getElem_mem hc)
      have eS : X ++ blobP ds[i].name ++ vrn ds[i].hash.toNat = F ++ depsW 1 [] (ds.take (i + 1)) := by
        rw [depsW_snoc hc, hX]
        simp [depW, textW]
      have IH := IH (i + 1) _ ⟨hc, eS⟩ (by omega)
      have hbl2 := blobP_len hn.2
      (conv => whnf); (repeat ((with_reducible refine must_intro ?_ ?_); exact decide_eq_true (by omega); (conv => whnf)))
      refine idxK_map_intro (show (i : Int).toNat < ds.length by simpa using hc) ?_
      rw [show ds[(i : Int).toNat]'(by simpa using hc) = ds[i] from by congr 1]
      generalize ds[i] = d at IH hn hbl2 eS ⊢
      clear hX eS
      (conv => whnf)
      refine dep_1 X d (by omega) (by omega) ?_
      (conv => whnf)
      refine number_F (X ++ blobP d.name) d.hash.toNat d.hash.isLt (by rw [List.length_append]; omega) ?_
      (conv => whnf)
      rw [i64_nat (by omega)]
      exact IH
    · have hc := ge_of_decE hsl hc
      have e : i = ds.length := by omega
      subst e
      rw [List.take_length] at hX
      rw [← hX] at h
      clear hX
      (conv => whnf)
      refine number_F X ou.toNat ou.isLt (by omega) ?_
      (conv => whnf)
      exact h
  · have e1 := lastW_gone (v := 1) (t := []) hk
    rw [e1, htx] at h
    obtain ⟨k, tg, ru, ds, ou, we, ta⟩ := r
    dsimp only at hk hbl ht2 h
    subst hk
    (conv => whnf)
    refine blob_F [2] tg (by simp) (by omega) ?_
    (conv => whnf)
    exact h
theorem last_2 (r : Rc) (l : List B) (hm : MayR 2 r) (hl : l.length < 100000) (ht : r.target ∈ l) (hds : ∀ d ∈ r.deps, d.name ∈ l) (htg : r.tag ≠ [] → r.tag ∈ l) {R} (h : R (.sl none 1 (byteEls (lastW 2 l r))) [wO (lastW 2 l r) (.ptr 1 0), tblO 2 3 l, tblR l, tblM l]) :
    ACalls Tryz.prog 156 [.ptr 0 0, vi 2, .agg r.enc] [wN (.ptr 1 0), tblO 2 3 l, tblR l, tblM l] R := by
  have hk := hm.kind.imp id goneR_kind
  have hF := frontW_len (v := 2) (t := l) hm (by omega)
  have hD := depsW_take (v := 2) (t := l) hm (by omega)
  have hsl := dpsA_length r.deps
  have hlu := len_u64 hm.deps
  have hd16 := hm.deps
  have hbl : (vrn (l.idxOf r.target)).length ≤ 10 := vrn_u64 (by have := List.idxOf_le_length (a := r.target) (l := l); omega)
  have h2 := u64_vrn r.rule
  have ho := u64_vrn r.out
  have hw := u64_vrn r.wen
  have htx : textW 2 l r.target = vrn (l.idxOf r.target) := by simp [textW]
  have hnm := hm.names
  have ht2 := hm.t2
  refine acalls_of_xwp (an := an156) tab_ok Tryz.func156 ?_
  rcases hk with hk | hk
  · have e1 := lastW_trace (v := 2) (t := l) hk
    have eF : frontW 2 l r = [1] ++ vrn (l.idxOf r.target) ++ vrn r.rule.toNat ++ vrn r.deps.length := by unfold frontW; rw [htx]; simp
    have eE : endW 2 l r = vrn r.out.toNat ++ vrn r.wen.toNat := by simp [endW]
    rw [e1, eE] at h
    obtain ⟨k, tg, ru, ds, ou, we, ta⟩ := r
    dsimp only at hk hF hD hsl hlu hd16 hbl h2 ho hw hnm ht2 h htx eF ht hds htg
    subst hk
    (conv => whnf)
    refine known_O [1] l tg ht (by omega) (by simp) ?_
    (conv => whnf)
    refine number_O ([1] ++ vrn (l.idxOf tg)) l ru.toNat ru.isLt (by simp; omega) ?_
    (conv => whnf)
    rw [hlu]
    refine number_O ([1] ++ vrn (l.idxOf tg) ++ vrn ru.toNat) l ds.length (by omega) (by simp at h2 ⊢; omega) ?_
    rw [← eF]
    generalize frontW 2 l (Rc.mk 1 tg ru ds ou we ta) = F at h hF eF ⊢
    (conv => whnf)
    refine LoopP.ind2 (fun (i : Nat) (b : B) => [(47, vi i)]) (fun i b => [(0, wO b (.ptr 1 0)), (1, tblO 2 3 l), (2, tblR l), (3, tblM l)]) (fun i _ => ds.length - i) (fun i b => i ≤ ds.length ∧ b = F ++ depsW 2 l (ds.take i)) 0 F rfl ⟨by omega, by simp [depsW]⟩ ?_
    rintro i X ⟨h0, hX⟩ IH
    have hDi : X.length ≤ 1300 := by have := hD i; rw [hX, List.length_append]; omega
    (conv => whnf)
    refine br_intro (fun hc => ?_) (fun hc => ?_)
    · have hc := lt_of_decE hsl hc
      have hn := hnm ds[i] (List.getElem_mem hc)
      have hin := hds ds[i] (List.getElem_mem hc)
      have hdl : (vrn (l.idxOf ds[i].name)).length ≤ 10 := vrn_u64 (by have := List.idxOf_le_length (a := ds[i].name) (l := l); omega)
      have eS : X ++ vrn (l.idxOf ds[i].name) ++ vrn ds[i].hash.toNat = F ++ depsW 2 l (ds.take (i + 1)) := by
        rw [depsW_snoc hc, hX]
        simp [depW, textW]
      have IH := IH (i + 1) _ ⟨hc, eS⟩ (by omega)
      (conv => whnf); (repeat ((with_reducible refine must_intro ?_ ?_); exact decide_eq_true (by omega); (conv => whnf)))
      refine idxK_map_intro (show (i : Int).toNat < ds.length by simpa using hc) ?_
      rw [show ds[(i : Int).toNat]'(by simpa using hc) = ds[i] from by congr 1]
      generalize ds[i] = d at IH hn hin hdl eS ⊢
      clear hX eS
      (conv => whnf)
      refine dep_2 X l d hin (by omega) (by omega) ?_
      (conv => whnf)
      refine number_O (X ++ vrn (l.idxOf d.name)) l d.hash.toNat d.hash.isLt (by rw [List.length_append]; omega) ?_
      (conv => whnf)
      rw [i64_nat (by omega)]
      exact IH
    · have hc := ge_of_decE hsl hc
      have e : i = ds.length := by omega
      subst e
      rw [List.take_length] at hX
      rw [← hX] at h
      clear hX
      simp only [← List.append_assoc] at h
      (conv => whnf)
      refine number_O X l ou.toNat ou.isLt (by omega) ?_
      (conv => whnf)
      refine number_O (X ++ vrn ou.toNat) l we.toNat we.isLt (by rw [List.length_append]; omega) ?_
      (conv => whnf)
      exact h
  · have e1 := lastW_gone (v := 2) (t := l) hk
    rw [e1, htx] at h
    obtain ⟨k, tg, ru, ds, ou, we, ta⟩ := r
    dsimp only at hk hbl ht2 h ht
    subst hk
    (conv => whnf)
    refine known_O [2] l tg ht (by omega) (by simp) ?_
    (conv => whnf)
    exact h
theorem last_3 (r : Rc) (l : List B) (hm : MayR 3 r) (hl : l.length < 100000) (ht : r.target ∈ l) (hds : ∀ d ∈ r.deps, d.name ∈ l) (htg : r.tag ≠ [] → r.tag ∈ l) {R} (h : R (.sl none 1 (byteEls (lastW 3 l r))) [wO (lastW 3 l r) (.ptr 1 0), tblO 2 3 l, tblR l, tblM l]) :
    ACalls Tryz.prog 156 [.ptr 0 0, vi 3, .agg r.enc] [wN (.ptr 1 0), tblO 2 3 l, tblR l, tblM l] R := by
  have hk := hm.kind.imp id goneR_kind
  have hF := frontW_len (v := 3) (t := l) hm (by omega)
  have hD := depsW_take (v := 3) (t := l) hm (by omega)
  have hsl := dpsA_length r.deps
  have hlu := len_u64 hm.deps
  have hd16 := hm.deps
  have hbl : (vrn (l.idxOf r.target)).length ≤ 10 := vrn_u64 (by have := List.idxOf_le_length (a := r.target) (l := l); omega)
  have h2 := u64_vrn r.rule
  have ho := u64_vrn r.out
  have hw := u64_vrn r.wen
  have htx : textW 3 l r.target = vrn (l.idxOf r.target) := by simp [textW]
  have hnm := hm.names
  have ht2 := hm.t2
  refine acalls_of_xwp (an := an156) tab_ok Tryz.func156 ?_
  rcases hk with hk | hk
  · have e1 := lastW_trace (v := 3) (t := l) hk
    have eF : frontW 3 l r = [1] ++ vrn (l.idxOf r.target) ++ vrn r.rule.toNat ++ vrn r.deps.length := by unfold frontW; rw [htx]; simp
    have eE : endW 3 l r = vrn r.out.toNat ++ vrn r.wen.toNat ++ tagW l r.tag := by simp [endW]
    rw [e1, eE] at h
    obtain ⟨k, tg, ru, ds, ou, we, ta⟩ := r
    dsimp only at hk hF hD hsl hlu hd16 hbl h2 ho hw hnm ht2 h htx eF ht hds htg
    subst hk
    (conv => whnf)
    refine known_O [1] l tg ht (by omega) (by simp) ?_
    (conv => whnf)
    refine number_O ([1] ++ vrn (l.idxOf tg)) l ru.toNat ru.isLt (by simp; omega) ?_
    (conv => whnf)
    rw [hlu]
    refine number_O ([1] ++ vrn (l.idxOf tg) ++ vrn ru.toNat) l ds.length (by omega) (by simp at h2 ⊢; omega) ?_
    rw [← eF]
    generalize frontW 3 l (Rc.mk 1 tg ru ds ou we ta) = F at h hF eF ⊢
    (conv => whnf)
    refine LoopP.ind2 (fun (i : Nat) (b : B) => [(47, vi i)]) (fun i b => [(0, wO b (.ptr 1 0)), (1, tblO 2 3 l), (2, tblR l), (3, tblM l)]) (fun i _ => ds.length - i) (fun i b => i ≤ ds.length ∧ b = F ++ depsW 3 l (ds.take i)) 0 F rfl ⟨by omega, by simp [depsW]⟩ ?_
    rintro i X ⟨h0, hX⟩ IH
    have hDi : X.length ≤ 1300 := by have := hD i; rw [hX, List.length_append]; omega
    (conv => whnf)
    refine br_intro (fun hc => ?_) (fun hc => ?_)
    · have hc := lt_of_decE hsl hc
      have hn := hnm ds[i] (List.getElem_mem hc)
      have hin := hds ds[i] (List.getElem_mem hc)
      have hdl : (vrn (depN l ds[i])).length ≤ 10 := vrn_u64 (by have := List.idxOf_le_length (a := ds[i].name) (l := l); unfold depN; split <;> omega)
      have eS : X ++ vrn (depN l ds[i]) ++ vrn ds[i].hash.toNat = F ++ depsW 3 l (ds.take (i + 1)) := by
        rw [depsW_snoc hc, hX]
        simp [depW, textW]
      have IH := IH (i + 1) _ ⟨hc, eS⟩ (by omega)
      (conv => whnf); (repeat ((with_reducible refine must_intro ?_ ?_); exact decide_eq_true (by omega); (conv => whnf)))
      refine idxK_map_intro (show (i : Int).toNat < ds.length by simpa using hc) ?_
      rw [show ds[(i : Int).toNat]'(by simpa using hc) = ds[i] from by congr 1]
      generalize ds[i] = d at IH hn hin hdl eS ⊢
      clear hX eS
      (conv => whnf)
      refine dep_3 X l d hin (by omega) (by omega) ?_
      (conv => whnf)
      refine number_O (X ++ vrn (depN l d)) l d.hash.toNat d.hash.isLt (by rw [List.length_append]; omega) ?_
      (conv => whnf)
      rw [i64_nat (by omega)]
      exact IH
    · have hc := ge_of_decE hsl hc
      have e : i = ds.length := by omega
      subst e
      rw [List.take_length] at hX
      rw [← hX] at h
      clear hX
      simp only [← List.append_assoc] at h
      (conv => whnf)
      refine number_O X l ou.toNat ou.isLt (by omega) ?_
      (conv => whnf)
      refine number_O (X ++ vrn ou.toNat) l we.toNat we.isLt (by rw [List.length_append]; omega) ?_
      (conv => whnf)
      refine tag_O (X ++ vrn ou.toNat ++ vrn we.toNat) l ta htg (by omega) (by rw [List.length_append, List.length_append]; omega) ?_
      (conv => whnf)
      exact h
  · have e1 := lastW_gone (v := 3) (t := l) hk
    rw [e1, htx] at h
    obtain ⟨k, tg, ru, ds, ou, we, ta⟩ := r
    dsimp only at hk hbl ht2 h ht
    subst hk
    (conv => whnf)
    refine known_O [2] l tg ht (by omega) (by simp) ?_
    (conv => whnf)
    exact h
end Go.Abs
end

section
/- schema.Put. -/
set_option maxRecDepth 100000
set_option maxHeartbeats 4000000
set_option linter.unusedVariables false
set_option linter.unusedSimpArgs false
namespace Go.Abs
open Go Go.Proofs Dig
attribute [local irreducible] ibits byteAt strLt firstIdx

def rowsB (l : List B) : List (List AV) := l.map fun p => [.sl none 1 (byteEls p)]
theorem rowsB_length (l : List B) : (rowsB l).length = l.length := by simp [rowsB]
theorem rowsB_append (l m : List B) : rowsB (l ++ m) = rowsB l ++ rowsB m := by simp [rowsB]
theorem bytes_bytes : (tab.ti 82).bytes = 24 := rfl
theorem def_els (s : B) : [[AV.val (.int .u8 0)]] ++ byteEls s = byteEls (defP s) := rfl
theorem byteA_ofB (s : B) : byteA (ofB s) = byteEls s := by
  unfold byteA byteEls
  rw [show (ofB s).data.toList = s from bs_ofB s]
theorem skn_1 {R} (h : R (.val (.bool true)) []) : ACalls Tryz.prog 154 [vi 1] [] R := by
  refine acalls_of_xwp (an := an154) tab_ok Tryz.func154 ?_
  (conv => whnf)
  exact h
theorem skn_2 {R} (h : R (.val (.bool true)) []) : ACalls Tryz.prog 154 [vi 2] [] R := by
  refine acalls_of_xwp (an := an154) tab_ok Tryz.func154 ?_
  (conv => whnf)
  exact h
theorem skn_3 {R} (h : R (.val (.bool true)) []) : ACalls Tryz.prog 154 [vi 3] [] R := by
  refine acalls_of_xwp (an := an154) tab_ok Tryz.func154 ?_
  (conv => whnf)
  exact h
theorem sPut_1 (r : Rc) (hm : mayP 1 r = true) {R} (h : R (.tup [.sl none 1 (rowsB (payP 1 [] r)), vi 0]) [tblF]) : ACalls Tryz.prog 121 [vi 1, .ptr 0 0, .agg r.enc] [tblF] R := by
  have hM := may_all hm
  have e : payP 1 [] r = [lastW 1 [] r] := by simp [payP, defsP, addT]
  rw [e] at h
  have hd := hM.deps
  refine acalls_of_xwp (an := an121) tab_ok Tryz.func121 ?_
  (conv => whnf)
  refine skn_1 ?_
  (conv => whnf)
  refine May_calls 1 r (by omega) fun p hp => ?_
  rw [hm] at hp
  subst hp
  (conv => whnf)
  refine last_1 r hM ?_
  (conv => whnf)
  refine ⟨(by rw [bytes_bytes]; decide : 1 * ((tab.ti 82).bytes + 1) ≤ 140737488355328), ?_⟩
  (conv => whnf)
  exact h
theorem sNo_1F (r : Rc) (hd : r.deps.length < 100000) (hm : mayP 1 r = false) {R} (h : R (.tup [.val (.slice none 0 0), vi 1]) [tblF]) : ACalls Tryz.prog 121 [vi 1, .ptr 0 0, .agg r.enc] [tblF] R := by
  refine acalls_of_xwp (an := an121) tab_ok Tryz.func121 ?_
  (conv => whnf)
  refine skn_1 ?_
  (conv => whnf)
  refine May_calls 1 r hd fun p hp => ?_
  rw [hm] at hp
  subst hp
  (conv => whnf)
  exact h
theorem sNo_2F (r : Rc) (hd : r.deps.length < 100000) (hm : mayP 2 r = false) {R} (h : R (.tup [.val (.slice none 0 0), vi 1]) [tblF]) : ACalls Tryz.prog 121 [vi 2, .ptr 0 0, .agg r.enc] [tblF] R := by
  refine acalls_of_xwp (an := an121) tab_ok Tryz.func121 ?_
  (conv => whnf)
  refine skn_2 ?_
  (conv => whnf)
  refine May_calls 2 r hd fun p hp => ?_
  rw [hm] at hp
  subst hp
  (conv => whnf)
  exact h
theorem sNo_3F (r : Rc) (hd : r.deps.length < 100000) (hm : mayP 3 r = false) {R} (h : R (.tup [.val (.slice none 0 0), vi 1]) [tblF]) : ACalls Tryz.prog 121 [vi 3, .ptr 0 0, .agg r.enc] [tblF] R := by
  refine acalls_of_xwp (an := an121) tab_ok Tryz.func121 ?_
  (conv => whnf)
  refine skn_3 ?_
  (conv => whnf)
  refine May_calls 3 r hd fun p hp => ?_
  rw [hm] at hp
  subst hp
  (conv => whnf)
  exact h
theorem sNo_2O (r : Rc) (l : List B) (hd : r.deps.length < 100000) (hm : mayP 2 r = false) {R} (h : R (.tup [.val (.slice none 0 0), vi 1]) [tblO 1 2 l, tblR l, tblM l]) : ACalls Tryz.prog 121 [vi 2, .ptr 0 0, .agg r.enc] [tblO 1 2 l, tblR l, tblM l] R := by
  refine acalls_of_xwp (an := an121) tab_ok Tryz.func121 ?_
  (conv => whnf)
  refine skn_2 ?_
  (conv => whnf)
  refine May_calls 2 r hd fun p hp => ?_
  rw [hm] at hp
  subst hp
  (conv => whnf)
  exact h
theorem sNo_3O (r : Rc) (l : List B) (hd : r.deps.length < 100000) (hm : mayP 3 r = false) {R} (h : R (.tup [.val (.slice none 0 0), vi 1]) [tblO 1 2 l, tblR l, tblM l]) : ACalls Tryz.prog 121 [vi 3, .ptr 0 0, .agg r.enc] [tblO 1 2 l, tblR l, tblM l] R := by
  refine acalls_of_xwp (an := an121) tab_ok Tryz.func121 ?_
  (conv => whnf)
  refine skn_3 ?_
  (conv => whnf)
  refine May_calls 3 r hd fun p hp => ?_
  rw [hm] at hp
  subst hp
  (conv => whnf)
  exact h
theorem sPut_2O (r : Rc) (l : List B) (hl : l.length < 90000) (hm : mayP 2 r = true) {R} (h : R (.tup [.sl none 1 (rowsB (payP 2 l r)), vi 0]) [tblO 1 2 (addT 2 l r), tblR (addT 2 l r), tblM (addT 2 l r)]) : ACalls Tryz.prog 121 [vi 2, .ptr 0 0, .agg r.enc] [tblO 1 2 l, tblR l, tblM l] R := by
  have hM := may_all hm
  have hd := hM.deps
  have hml := namesR_len r
  have hT1 := addT_mem (v := 2) (by decide) l r (x := r.target) (by simp [textsR])
  have hT2 : ∀ d ∈ r.deps, d.name ∈ addT 2 l r := fun d hd => addT_mem (by decide) l r (List.mem_cons_of_mem _ (List.mem_append_left _ (List.mem_map_of_mem hd)))
  have hT3 : r.tag ≠ [] → r.tag ∈ addT 2 l r := fun e => addT_mem (by decide) l r (by simp [textsR, e])
  have hTl := addT_len 2 l r
  have eA : addT 2 l r = (namesR r).foldl tblP l := addT_more (by decide) l r
  have eP : payP 2 l r = (newsP l (namesR r)).map defP ++ [lastW 2 (addT 2 l r) r] := by simp [payP, defsP]
  rw [eP] at h
  have hne := namesR_ne r
  have h64 : ∀ s ∈ namesR r, s.length ≤ 64 := fun s hs => (textsR_lens hM s (tblN_mem.1 hs)).2
  generalize hmr : namesR r = m at h hml eA eP hne h64
  generalize addT 2 l r = T at h hT1 hT2 hT3 hTl eA eP
  refine acalls_of_xwp (an := an121) tab_ok Tryz.func121 ?_
  have hsl := strs_length m
  (conv => whnf)
  refine skn_2 ?_
  (conv => whnf)
  refine May_calls 2 r (by omega) fun p hp => ?_
  rw [hm] at hp
  subst hp
  (conv => whnf)
  refine rNames_calls r (by omega) ?_
  rw [hmr]
  (conv => whnf)
  refine LoopP.ind3 (fun (i : Nat) (t o : List B) => [(8, .sl (some (nameOf 8)) 1 (rowsB o)), (30, vi i)]) (fun i t o => [(0, tblO 1 2 t), (1, tblR t), (2, tblM t), (nameOf 8, .row 82 1 o.length)]) (fun i _ _ => m.length - i) (fun i t o => i ≤ m.length ∧ 0 ≤ i ∧ o ++ (newsP t (m.drop i)).map defP = (newsP l m).map defP ∧ (m.drop i).foldl tblP t = m.foldl tblP l ∧ o.length ≤ i ∧ t.length ≤ l.length + i) 0 l [] rfl ⟨by omega, by omega, by simp, by simp, by simp, by omega⟩ ?_
  rintro i t o ⟨h0, hi1, ho1, ho2, hl1, hl2⟩ IH
  have hol : o.length ≤ 60 := by omega
  have hrl := rowsB_length o
  (conv => whnf)
  refine br_intro (fun hc => ?_) (fun hc => ?_)
  · have hc := lt_of_decE hsl hc
    have IH0 := IH (i + 1)
    clear IH
    rw [List.drop_eq_getElem_cons hc] at ho1 ho2
    rw [newsP] at ho1
    rw [List.foldl_cons] at ho2
    (conv => whnf); (repeat ((with_reducible refine must_intro ?_ ?_); exact decide_eq_true (by omega); (conv => whnf)))
    refine idxK_map_intro (show (i : Int).toNat < m.length by simpa using hc) ?_
    rw [show m[(i : Int).toNat]'(by simpa using hc) = m[i] from by congr 1]
    have h64s := h64 m[i] (List.getElem_mem hc)
    generalize m[i] = s at ho1 ho2 h64s ⊢
    have eB := byteA_ofB s
    have hsl2 := bel_length s
    by_cases hs : s ∈ t
    · have IH := IH0 t o ⟨by omega, by omega, by rw [if_pos hs] at ho1; exact ho1, by rw [tblP_some hs] at ho2; exact ho2, by omega, by omega⟩ (by omega)
      (conv => whnf)
      refine ID_old t s hs fun j => ?_
      (conv => whnf)
      rw [i64_nat (by omega)]
      exact IH
    · have IH := IH0 (t ++ [s]) (o ++ [defP s]) ⟨by omega, by omega, by rw [if_neg hs] at ho1; rw [← ho1]; simp, by rw [tblP_none hs] at ho2; exact ho2, by simp; omega, by simp; omega⟩ (by omega)
      rw [rowsB_append] at IH
      (conv => whnf)
      refine ID_more t s (by omega) hs fun j => ?_
      (conv => whnf)
      refine ⟨rfl, by rw [bel_bytes]; rw [eB]; simp only [List.length_append, hsl2, List.length_cons, List.length_nil]; omega, ?_⟩
      rw [eB, def_els]
      (conv => whnf)
      refine ⟨hrl.symm, by rw [hrl, bytes_bytes]; simp; omega, ?_⟩
      (conv => whnf)
      rw [i64_nat (by omega), hrl]
      rw [show (o ++ [defP s]).length = o.length + 1 by simp] at IH
      exact IH
  · have hc := ge_of_decE hsl hc
    have e : i = m.length := by omega
    subst e
    rw [List.drop_length] at ho1 ho2
    rw [show newsP t [] = [] from rfl, List.map_nil, List.append_nil] at ho1
    rw [List.foldl_nil] at ho2
    rw [← eA] at ho2
    subst ho2
    rw [← ho1, rowsB_append] at h
    (conv => whnf)
    refine last_2 r t hM (by omega) hT1 hT2 hT3 ?_
    (conv => whnf)
    refine ⟨hrl.symm, by rw [hrl, bytes_bytes]; simp; omega, ?_⟩
    (conv => whnf)
    exact h
theorem sPut_2F (r : Rc) (hm : mayP 2 r = true) {R} (h : R (.tup [.sl none 1 (rowsB (payP 2 [] r)), vi 0]) [tblO 1 2 (addT 2 [] r), tblR (addT 2 [] r), tblM (addT 2 [] r)]) : ACalls Tryz.prog 121 [vi 2, .ptr 0 0, .agg r.enc] [tblF] R := by
  have hM := may_all hm
  have hd := hM.deps
  have hml := namesR_len r
  have hT1 := addT_mem (v := 2) (by decide) [] r (x := r.target) (by simp [textsR])
  have hT2 : ∀ d ∈ r.deps, d.name ∈ addT 2 [] r := fun d hd => addT_mem (by decide) [] r (List.mem_cons_of_mem _ (List.mem_append_left _ (List.mem_map_of_mem hd)))
  have hT3 : r.tag ≠ [] → r.tag ∈ addT 2 [] r := fun e => addT_mem (by decide) [] r (by simp [textsR, e])
  have hTl := addT_len 2 [] r
  have eA : addT 2 [] r = (namesR r).foldl tblP [] := addT_more (by decide) [] r
  have eP : payP 2 [] r = (newsP [] (namesR r)).map defP ++ [lastW 2 (addT 2 [] r) r] := by simp [payP, defsP]
  rw [eP] at h
  have hne := namesR_ne r
  have h64 : ∀ s ∈ namesR r, s.length ≤ 64 := fun s hs => (textsR_lens hM s (tblN_mem.1 hs)).2
  generalize hmr : namesR r = m at h hml eA eP hne h64
  generalize addT 2 [] r = T at h hT1 hT2 hT3 hTl eA eP
  refine acalls_of_xwp (an := an121) tab_ok Tryz.func121 ?_
  have hsl := strs_length m
  (conv => whnf)
  refine skn_2 ?_
  (conv => whnf)
  refine May_calls 2 r (by omega) fun p hp => ?_
  rw [hm] at hp
  subst hp
  (conv => whnf)
  refine rNames_calls r (by omega) ?_
  rw [hmr]
  (conv => whnf)
  obtain ⟨a, n, rfl⟩ := List.exists_cons_of_ne_nil hne
  refine LoopP.step ?_
  (conv => whnf)
  refine br_true (by rw [hsl]; simp <;> omega) ?_
  (conv => whnf)
  refine ID_new a ?_
  have eB := byteA_ofB a
  have hsl2 := bel_length a
  have ha64 := h64 a List.mem_cons_self
  (conv => whnf)
  refine ⟨rfl, by rw [bel_bytes]; rw [eB]; simp only [List.length_append, hsl2, List.length_cons, List.length_nil]; omega, ?_⟩
  rw [eB, def_els]
  (conv => whnf)
  refine ⟨rfl, by rw [bytes_bytes]; simp, ?_⟩
  (conv => whnf)
  refine LoopP.ind3 (fun (i : Nat) (t o : List B) => [(8, .sl (some (nameOf 8)) 1 (rowsB o)), (30, vi i)]) (fun i t o => [(0, tblO (freshN 37 0) (freshN 37 1) t), (nameOf 8, .row 82 1 o.length), (freshN 37 0, tblR t), (freshN 37 1, tblM t)]) (fun i _ _ => (a :: n).length - i) (fun i t o => i ≤ (a :: n).length ∧ 1 ≤ i ∧ o ++ (newsP t ((a :: n).drop i)).map defP = (newsP [] (a :: n)).map defP ∧ ((a :: n).drop i).foldl tblP t = (a :: n).foldl tblP [] ∧ o.length ≤ i ∧ t.length ≤ i) 1 [a] [defP a] rfl ⟨by simp, by omega, by simp [newsP], by simp [tblP], by simp, by simp⟩ ?_
  rintro i t o ⟨h0, hi1, ho1, ho2, hl1, hl2⟩ IH
  have hol : o.length ≤ 60 := by omega
  have hrl := rowsB_length o
  (conv => whnf)
  refine br_intro (fun hc => ?_) (fun hc => ?_)
  · have hc := lt_of_decE hsl hc
    have IH0 := IH (i + 1)
    clear IH
    rw [List.drop_eq_getElem_cons hc] at ho1 ho2
    rw [newsP] at ho1
    rw [List.foldl_cons] at ho2
    (conv => whnf); (repeat ((with_reducible refine must_intro ?_ ?_); exact decide_eq_true (by omega); (conv => whnf)))
    refine idxK_map_intro (show (i : Int).toNat < (a :: n).length by simpa using hc) ?_
    rw [show (a :: n)[(i : Int).toNat]'(by simpa using hc) = (a :: n)[i] from by congr 1]
    have h64s := h64 (a :: n)[i] (List.getElem_mem hc)
    generalize (a :: n)[i] = s at ho1 ho2 h64s ⊢
    have eB := byteA_ofB s
    have hsl2 := bel_length s
    by_cases hs : s ∈ t
    · have IH := IH0 t o ⟨by omega, by omega, by rw [if_pos hs] at ho1; exact ho1, by rw [tblP_some hs] at ho2; exact ho2, by omega, by omega⟩ (by omega)
      (conv => whnf)
      refine ID_old t s hs fun j => ?_
      (conv => whnf)
      rw [i64_nat (by omega)]
      exact IH
    · have IH := IH0 (t ++ [s]) (o ++ [defP s]) ⟨by omega, by omega, by rw [if_neg hs] at ho1; rw [← ho1]; simp, by rw [tblP_none hs] at ho2; exact ho2, by simp; omega, by simp; omega⟩ (by omega)
      rw [rowsB_append] at IH
      (conv => whnf)
      refine ID_more t s (by omega) hs fun j => ?_
      (conv => whnf)
      refine ⟨rfl, by rw [bel_bytes]; rw [eB]; simp only [List.length_append, hsl2, List.length_cons, List.length_nil]; omega, ?_⟩
      rw [eB, def_els]
      (conv => whnf)
      refine ⟨hrl.symm, by rw [hrl, bytes_bytes]; simp; omega, ?_⟩
      (conv => whnf)
      rw [i64_nat (by omega), hrl]
      rw [show (o ++ [defP s]).length = o.length + 1 by simp] at IH
      exact IH
  · have hc := ge_of_decE hsl hc
    have e : i = (a :: n).length := by omega
    subst e
    rw [List.drop_length] at ho1 ho2
    rw [show newsP t [] = [] from rfl, List.map_nil, List.append_nil] at ho1
    rw [List.foldl_nil] at ho2
    rw [← eA] at ho2
    subst ho2
    rw [← ho1, rowsB_append] at h
    (conv => whnf)
    refine last_2 r t hM (by omega) hT1 hT2 hT3 ?_
    (conv => whnf)
    refine ⟨hrl.symm, by rw [hrl, bytes_bytes]; simp; omega, ?_⟩
    (conv => whnf)
    exact h
theorem sPut_3O (r : Rc) (l : List B) (hl : l.length < 90000) (hm : mayP 3 r = true) {R} (h : R (.tup [.sl none 1 (rowsB (payP 3 l r)), vi 0]) [tblO 1 2 (addT 3 l r), tblR (addT 3 l r), tblM (addT 3 l r)]) : ACalls Tryz.prog 121 [vi 3, .ptr 0 0, .agg r.enc] [tblO 1 2 l, tblR l, tblM l] R := by
  have hM := may_all hm
  have hd := hM.deps
  have hml := namesR_len r
  have hT1 := addT_mem (v := 3) (by decide) l r (x := r.target) (by simp [textsR])
  have hT2 : ∀ d ∈ r.deps, d.name ∈ addT 3 l r := fun d hd => addT_mem (by decide) l r (List.mem_cons_of_mem _ (List.mem_append_left _ (List.mem_map_of_mem hd)))
  have hT3 : r.tag ≠ [] → r.tag ∈ addT 3 l r := fun e => addT_mem (by decide) l r (by simp [textsR, e])
  have hTl := addT_len 3 l r
  have eA : addT 3 l r = (namesR r).foldl tblP l := addT_more (by decide) l r
  have eP : payP 3 l r = (newsP l (namesR r)).map defP ++ [lastW 3 (addT 3 l r) r] := by simp [payP, defsP]
  rw [eP] at h
  have hne := namesR_ne r
  have h64 : ∀ s ∈ namesR r, s.length ≤ 64 := fun s hs => (textsR_lens hM s (tblN_mem.1 hs)).2
  generalize hmr : namesR r = m at h hml eA eP hne h64
  generalize addT 3 l r = T at h hT1 hT2 hT3 hTl eA eP
  refine acalls_of_xwp (an := an121) tab_ok Tryz.func121 ?_
  have hsl := strs_length m
  (conv => whnf)
  refine skn_3 ?_
  (conv => whnf)
  refine May_calls 3 r (by omega) fun p hp => ?_
  rw [hm] at hp
  subst hp
  (conv => whnf)
  refine rNames_calls r (by omega) ?_
  rw [hmr]
  (conv => whnf)
  refine LoopP.ind3 (fun (i : Nat) (t o : List B) => [(8, .sl (some (nameOf 8)) 1 (rowsB o)), (30, vi i)]) (fun i t o => [(0, tblO 1 2 t), (1, tblR t), (2, tblM t), (nameOf 8, .row 82 1 o.length)]) (fun i _ _ => m.length - i) (fun i t o => i ≤ m.length ∧ 0 ≤ i ∧ o ++ (newsP t (m.drop i)).map defP = (newsP l m).map defP ∧ (m.drop i).foldl tblP t = m.foldl tblP l ∧ o.length ≤ i ∧ t.length ≤ l.length + i) 0 l [] rfl ⟨by omega, by omega, by simp, by simp, by simp, by omega⟩ ?_
  rintro i t o ⟨h0, hi1, ho1, ho2, hl1, hl2⟩ IH
  have hol : o.length ≤ 60 := by omega
  have hrl := rowsB_length o
  (conv => whnf)
  refine br_intro (fun hc => ?_) (fun hc => ?_)
  · have hc := lt_of_decE hsl hc
    have IH0 := IH (i + 1)
    clear IH
    rw [List.drop_eq_getElem_cons hc] at ho1 ho2
    rw [newsP] at ho1
    rw [List.foldl_cons] at ho2
    (conv => whnf); (repeat ((with_reducible refine must_intro ?_ ?_); exact decide_eq_true (by omega); (conv => whnf)))
    refine idxK_map_intro (show (i : Int).toNat < m.length by simpa using hc) ?_
    rw [show m[(i : Int).toNat]'(by simpa using hc) = m[i] from by congr 1]
    have h64s := h64 m[i] (List.getElem_mem hc)
    generalize m[i] = s at ho1 ho2 h64s ⊢
    have eB := byteA_ofB s
    have hsl2 := bel_length s
    by_cases hs : s ∈ t
    · have IH := IH0 t o ⟨by omega, by omega, by rw [if_pos hs] at ho1; exact ho1, by rw [tblP_some hs] at ho2; exact ho2, by omega, by omega⟩ (by omega)
      (conv => whnf)
      refine ID_old t s hs fun j => ?_
      (conv => whnf)
      rw [i64_nat (by omega)]
      exact IH
    · have IH := IH0 (t ++ [s]) (o ++ [defP s]) ⟨by omega, by omega, by rw [if_neg hs] at ho1; rw [← ho1]; simp, by rw [tblP_none hs] at ho2; exact ho2, by simp; omega, by simp; omega⟩ (by omega)
      rw [rowsB_append] at IH
      (conv => whnf)
      refine ID_more t s (by omega) hs fun j => ?_
      (conv => whnf)
      refine ⟨rfl, by rw [bel_bytes]; rw [eB]; simp only [List.length_append, hsl2, List.length_cons, List.length_nil]; omega, ?_⟩
      rw [eB, def_els]
      (conv => whnf)
      refine ⟨hrl.symm, by rw [hrl, bytes_bytes]; simp; omega, ?_⟩
      (conv => whnf)
      rw [i64_nat (by omega), hrl]
      rw [show (o ++ [defP s]).length = o.length + 1 by simp] at IH
      exact IH
  · have hc := ge_of_decE hsl hc
    have e : i = m.length := by omega
    subst e
    rw [List.drop_length] at ho1 ho2
    rw [show newsP t [] = [] from rfl, List.map_nil, List.append_nil] at ho1
    rw [List.foldl_nil] at ho2
    rw [← eA] at ho2
    subst ho2
    rw [← ho1, rowsB_append] at h
    (conv => whnf)
    refine last_3 r t hM (by omega) hT1 hT2 hT3 ?_
    (conv => whnf)
    refine ⟨hrl.symm, by rw [hrl, bytes_bytes]; simp; omega, ?_⟩
    (conv => whnf)
    exact h
theorem sPut_3F (r : Rc) (hm : mayP 3 r = true) {R} (h : R (.tup [.sl none 1 (rowsB (payP 3 [] r)), vi 0]) [tblO 1 2 (addT 3 [] r), tblR (addT 3 [] r), tblM (addT 3 [] r)]) : ACalls Tryz.prog 121 [vi 3, .ptr 0 0, .agg r.enc] [tblF] R := by
  have hM := may_all hm
  have hd := hM.deps
  have hml := namesR_len r
  have hT1 := addT_mem (v := 3) (by decide) [] r (x := r.target) (by simp [textsR])
  have hT2 : ∀ d ∈ r.deps, d.name ∈ addT 3 [] r := fun d hd => addT_mem (by decide) [] r (List.mem_cons_of_mem _ (List.mem_append_left _ (List.mem_map_of_mem hd)))
  have hT3 : r.tag ≠ [] → r.tag ∈ addT 3 [] r := fun e => addT_mem (by decide) [] r (by simp [textsR, e])
  have hTl := addT_len 3 [] r
  have eA : addT 3 [] r = (namesR r).foldl tblP [] := addT_more (by decide) [] r
  have eP : payP 3 [] r = (newsP [] (namesR r)).map defP ++ [lastW 3 (addT 3 [] r) r] := by simp [payP, defsP]
  rw [eP] at h
  have hne := namesR_ne r
  have h64 : ∀ s ∈ namesR r, s.length ≤ 64 := fun s hs => (textsR_lens hM s (tblN_mem.1 hs)).2
  generalize hmr : namesR r = m at h hml eA eP hne h64
  generalize addT 3 [] r = T at h hT1 hT2 hT3 hTl eA eP
  refine acalls_of_xwp (an := an121) tab_ok Tryz.func121 ?_
  have hsl := strs_length m
  (conv => whnf)
  refine skn_3 ?_
  (conv => whnf)
  refine May_calls 3 r (by omega) fun p hp => ?_
  rw [hm] at hp
  subst hp
  (conv => whnf)
  refine rNames_calls r (by omega) ?_
  rw [hmr]
  (conv => whnf)
  obtain ⟨a, n, rfl⟩ := List.exists_cons_of_ne_nil hne
  refine LoopP.step ?_
  (conv => whnf)
  refine br_true (by rw [hsl]; simp <;> omega) ?_
  (conv => whnf)
  refine ID_new a ?_
  have eB := byteA_ofB a
  have hsl2 := bel_length a
  have ha64 := h64 a List.mem_cons_self
  (conv => whnf)
  refine ⟨rfl, by rw [bel_bytes]; rw [eB]; simp only [List.length_append, hsl2, List.length_cons, List.length_nil]; omega, ?_⟩
  rw [eB, def_els]
  (conv => whnf)
  refine ⟨rfl, by rw [bytes_bytes]; simp, ?_⟩
  (conv => whnf)
  refine LoopP.ind3 (fun (i : Nat) (t o : List B) => [(8, .sl (some (nameOf 8)) 1 (rowsB o)), (30, vi i)]) (fun i t o => [(0, tblO (freshN 37 0) (freshN 37 1) t), (nameOf 8, .row 82 1 o.length), (freshN 37 0, tblR t), (freshN 37 1, tblM t)]) (fun i _ _ => (a :: n).length - i) (fun i t o => i ≤ (a :: n).length ∧ 1 ≤ i ∧ o ++ (newsP t ((a :: n).drop i)).map defP = (newsP [] (a :: n)).map defP ∧ ((a :: n).drop i).foldl tblP t = (a :: n).foldl tblP [] ∧ o.length ≤ i ∧ t.length ≤ i) 1 [a] [defP a] rfl ⟨by simp, by omega, by simp [newsP], by simp [tblP], by simp, by simp⟩ ?_
  rintro i t o ⟨h0, hi1, ho1, ho2, hl1, hl2⟩ IH
  have hol : o.length ≤ 60 := by omega
  have hrl := rowsB_length o
  (conv => whnf)
  refine br_intro (fun hc => ?_) (fun hc => ?_)
  · have hc := lt_of_decE hsl hc
    have IH0 := IH (i + 1)
    clear IH
    rw [List.drop_eq_getElem_cons hc] at ho1 ho2
    rw [newsP] at ho1
    rw [List.foldl_cons] at ho2
    (conv => whnf); (repeat ((with_reducible refine must_intro ?_ ?_); exact decide_eq_true (by omega); (conv => whnf)))
    refine idxK_map_intro (show (i : Int).toNat < (a :: n).length by simpa using hc) ?_
    rw [show (a :: n)[(i : Int).toNat]'(by simpa using hc) = (a :: n)[i] from by congr 1]
    have h64s := h64 (a :: n)[i] (List.getElem_mem hc)
    generalize (a :: n)[i] = s at ho1 ho2 h64s ⊢
    have eB := byteA_ofB s
    have hsl2 := bel_length s
    by_cases hs : s ∈ t
    · have IH := IH0 t o ⟨by omega, by omega, by rw [if_pos hs] at ho1; exact ho1, by rw [tblP_some hs] at ho2; exact ho2, by omega, by omega⟩ (by omega)
      (conv => whnf)
      refine ID_old t s hs fun j => ?_
      (conv => whnf)
      rw [i64_nat (by omega)]
      exact IH
    · have IH := IH0 (t ++ [s]) (o ++ [defP s]) ⟨by omega, by omega, by rw [if_neg hs] at ho1; rw [← ho1]; simp, by rw [tblP_none hs] at ho2; exact ho2, by simp; omega, by simp; omega⟩ (by omega)
      rw [rowsB_append] at IH
      (conv => whnf)
      refine ID_more t s (by omega) hs fun j => ?_
      (conv => whnf)
      refine ⟨rfl, by rw [bel_bytes]; rw [eB]; simp only [List.length_append, hsl2, List.length_cons, List.length_nil]; omega, ?_⟩
      rw [eB, def_els]
      (conv => whnf)
      refine ⟨hrl.symm, by rw [hrl, bytes_bytes]; simp; omega, ?_⟩
      (conv => whnf)
      rw [i64_nat (by omega), hrl]
      rw [show (o ++ [defP s]).length = o.length + 1 by simp] at IH
      exact IH
  · have hc := ge_of_decE hsl hc
    have e : i = (a :: n).length := by omega
    subst e
    rw [List.drop_length] at ho1 ho2
    rw [show newsP t [] = [] from rfl, List.map_nil, List.append_nil] at ho1
    rw [List.foldl_nil] at ho2
    rw [← eA] at ho2
    subst ho2
    rw [← ho1, rowsB_append] at h
    (conv => whnf)
    refine last_3 r t hM (by omega) hT1 hT2 hT3 ?_
    (conv => whnf)
    refine ⟨hrl.symm, by rw [hrl, bytes_bytes]; simp; omega, ?_⟩
    (conv => whnf)
    exact h
end Go.Abs
end

section
/- cursor: numbers, bytes, texts. -/
set_option maxRecDepth 100000
set_option maxHeartbeats 4000000
set_option linter.unusedVariables false
set_option linter.unusedSimpArgs false
namespace Go.Abs
open Go Go.Proofs Dig
attribute [local irreducible] ibits byteAt strLt firstIdx

/-- A cursor that has not failed. -/
def cO (b : B) (at_ : Nat) : AObj := .cells 303 [.sl none 1 (byteEls b), vi (at_ : Int), vi 0]
theorem cNew_calls (b : B) (hb : b.length < 1000000) {R} (h : R (.ptr 0 0) [cO b 0]) : ACalls Tryz.prog 193 [.sl none 1 (byteEls b), vi 0] [] R := by
  refine acalls_of_xwp (an := an193) tab_ok Tryz.func193 ?_
  have hbl := bel_length b
  (conv => whnf)
  refine bClone_calls b (by omega) ?_
  (conv => whnf)
  exact h
theorem one_u64 (p q : B) (n : Nat) (hn : n < 18446744073709551616) (hl : p.length + q.length < 10000000) {R} (h : R (un n) [cO (p ++ vrn n ++ q) (p.length + (vrn n).length)]) :
    ACalls Tryz.prog 238 [.ptr 0 0, .fn (.func 234) [] []] [cO (p ++ vrn n ++ q) p.length] R := by
  refine acalls_of_xwp (an := an238) tab_ok Tryz.func238 ?_
  (conv => whnf)
  refine vGet_calls p q n hn (by omega) ?_
  (conv => whnf)
  exact h
theorem Number_calls (p q : B) (n : Nat) (hn : n < 18446744073709551616) (hl : p.length + q.length < 10000000) {R} (h : R (un n) [cO (p ++ vrn n ++ q) (p.length + (vrn n).length)]) :
    ACalls Tryz.prog 221 [.ptr 0 0] [cO (p ++ vrn n ++ q) p.length] R := by
  refine acalls_of_xwp (an := an221) tab_ok Tryz.func221 ?_
  (conv => whnf)
  refine one_u64 p q n hn hl ?_
  (conv => whnf)
  exact h
theorem byte1 (c : UInt8) (q : B) {R} (h : R (.tup [.val (.int .u8 (c.toNat : Int)), vi 1, vi 0]) []) (hq : q.length < 1000000) :
    ACalls Tryz.prog 237 [.sl none 1 (byteEls (c :: q)), vi 0] [] R := by
  refine acalls_of_xwp (an := an237) tab_ok Tryz.func237 ?_
  have hbl := bel_length (c :: q)
  (conv => whnf)
  exact h
theorem Byte_calls (c : UInt8) (q : B) (hq : q.length < 1000000) {R} (h : R (.val (.int .u8 (c.toNat : Int))) [cO (c :: q) 1]) :
    ACalls Tryz.prog 220 [.ptr 0 0] [cO (c :: q) 0] R := by
  refine acalls_of_xwp (an := an220) tab_ok Tryz.func220 ?_
  (conv => whnf)
  refine acalls_of_xwp (an := an236) tab_ok Tryz.func236 ?_
  (conv => whnf)
  refine byte1 c q ?_ hq
  (conv => whnf)
  exact h
theorem text1 (p q s : B) (hs : s.length ≤ 64) (hl : p.length + q.length < 10000000) {R} (h : R (.tup [vs s, vi ((p.length + (blobP s).length : Nat) : Int), vi 0]) []) :
    ACalls Tryz.prog 243 [.sl none 1 (byteEls (p ++ blobP s ++ q)), vi (p.length : Int), .cptr [vi 64] 0] [] R := by
  refine acalls_of_xwp (an := an243) tab_ok Tryz.func243 ?_
  (conv => whnf)
  refine (show ACalls Tryz.prog 217 [.sl none 1 (byteEls (p ++ blobP s ++ q)), vi (p.length : Int), vi ((64 : Nat) : Int)] [] _ from ?_)
  refine bGet_calls p q s 64 hs (by omega) (by omega) ?_
  (conv => whnf)
  exact h
theorem cText_calls (p q s : B) (hs : s.length ≤ 64) (hl : p.length + q.length < 10000000) {R} (h : R (vs s) [cO (p ++ blobP s ++ q) (p.length + (blobP s).length)]) :
    ACalls Tryz.prog 235 [.ptr 0 0, vi 64] [cO (p ++ blobP s ++ q) p.length] R := by
  refine acalls_of_xwp (an := an235) tab_ok Tryz.func235 ?_
  (conv => whnf)
  refine acalls_of_xwp (an := an242) tab_ok Tryz.func242 ?_
  (conv => whnf)
  refine text1 p q s hs hl ?_
  (conv => whnf)
  exact h
theorem Err_calls (b : B) (n : Nat) {R} (h : R (vi 0) [cO b n]) : ACalls Tryz.prog 222 [.ptr 0 0] [cO b n] R := by
  refine acalls_of_xwp (an := an222) tab_ok Tryz.func222 ?_
  (conv => whnf)
  exact h
end Go.Abs
end

section
/- schema's reader: texts, deps, a record's last payload. -/
set_option maxRecDepth 100000
set_option maxHeartbeats 4000000
set_option linter.unusedVariables false
set_option linter.unusedSimpArgs false
namespace Go.Abs
open Go Go.Proofs Dig
attribute [local irreducible] ibits byteAt strLt firstIdx

/-- The next number, told by what is read. -/
theorem num_at {P A Q : B} {n : Nat} (hP : P = A ++ vrn n ++ Q) (hn : n < 18446744073709551616) (hl : P.length < 1000000) {R} (h : R (un n) [cO P (A ++ vrn n).length]) :
    ACalls Tryz.prog 221 [.ptr 0 0] [cO P A.length] R := by
  subst hP
  rw [show (A ++ vrn n).length = A.length + (vrn n).length from List.length_append] at h
  exact Number_calls A Q n hn (by simp at hl; omega) h
def rdr : AV := .agg [.ptr 0 0, .ptr 1 0]
theorem rtext_O (b : B) (l : List B) (a i : Nat) (hi : i < l.length) (hl : l.length < 1000000) {R} (h : R (vs l[i]) [cO b a, tblO 2 3 l, tblR l, tblM l]) :
    ACalls Tryz.prog 224 [rdr, un i] [cO b a, tblO 2 3 l, tblR l, tblM l] R := by
  refine acalls_of_xwp (an := an224) tab_ok Tryz.func224 ?_
  (conv => whnf)
  refine tText_calls l i hi hl ?_
  (conv => whnf)
  exact h
theorem at_idx {l : List B} {s : B} (hs : s ∈ l) : ∃ h : l.idxOf s < l.length, l[l.idxOf s] = s := ⟨List.idxOf_lt_length_of_mem hs, List.getElem_idxOf (List.idxOf_lt_length_of_mem hs)⟩
theorem rknown_O {P A Q : B} {l : List B} {s : B} (hs : s ∈ l) (hP : P = A ++ vrn (l.idxOf s) ++ Q) (hl : P.length < 1000000) (hll : l.length < 1000000) {R} (h : R (vs s) [cO P (A ++ vrn (l.idxOf s)).length, tblO 2 3 l, tblR l, tblM l]) :
    ACalls Tryz.prog 218 [rdr] [cO P A.length, tblO 2 3 l, tblR l, tblM l] R := by
  refine acalls_of_xwp (an := an218) tab_ok Tryz.func218 ?_
  obtain ⟨hi, he⟩ := at_idx hs
  (conv => whnf)
  refine ⟨?_, ?_, trivial⟩
  · (conv => whnf)
    refine ⟨?_, trivial⟩
    (conv => whnf)
    refine ⟨?_, trivial⟩
    (conv => whnf)
    refine num_at hP (by omega) hl ?_
    (conv => whnf)
    refine ⟨?_, trivial⟩
    (conv => whnf)
    refine rtext_O P l _ (l.idxOf s) hi hll ?_
    rw [he]
    (conv => whnf)
    exact h
  · (conv => whnf)
    refine ⟨?_, ?_, trivial⟩
    · (conv => whnf)
      refine ⟨?_, trivial⟩
      (conv => whnf)
      refine num_at hP (by omega) hl ?_
      (conv => whnf)
      refine ⟨?_, trivial⟩
      (conv => whnf)
      refine rtext_O P l _ (l.idxOf s) hi hll ?_
      rw [he]
      (conv => whnf)
      exact h
    · (conv => whnf)
      refine num_at hP (by omega) hl ?_
      (conv => whnf)
      refine ⟨?_, trivial⟩
      (conv => whnf)
      refine ⟨?_, trivial⟩
      (conv => whnf)
      refine rtext_O P l _ (l.idxOf s) hi hll ?_
      rw [he]
      (conv => whnf)
      exact h
theorem rblob_F {P A Q s : B} (hs : s.length ≤ 64) (hP : P = A ++ blobP s ++ Q) (hl : P.length < 1000000) {R} (h : R (vs s) [cO P (A ++ blobP s).length, tblF]) :
    ACalls Tryz.prog 219 [rdr] [cO P A.length, tblF] R := by
  refine acalls_of_xwp (an := an219) tab_ok Tryz.func219 ?_
  subst hP
  rw [show (A ++ blobP s).length = A.length + (blobP s).length from List.length_append] at h
  (conv => whnf)
  refine cText_calls A Q s hs (by simp at hl; omega) ?_
  (conv => whnf)
  exact h
theorem rdep_1 {P A Q : B} {d : Dp} (hs : d.name.length ≤ 64) (ho : d.order = false) (hP : P = A ++ blobP d.name ++ Q) (hl : P.length < 1000000) {R} (h : R (.agg [vs d.name, un 0, .val (.bool d.order)]) [cO P (A ++ blobP d.name).length, tblF]) :
    ACalls Tryz.prog 223 [rdr, vi 1, .fn (.func 219) [rdr] []] [cO P A.length, tblF] R := by
  refine acalls_of_xwp (an := an223) tab_ok Tryz.func223 ?_
  rw [ho] at h
  (conv => whnf)
  refine rblob_F hs hP hl ?_
  (conv => whnf)
  exact h
theorem rdep_2 {P A Q : B} {l : List B} {d : Dp} (hs : d.name ∈ l) (ho : d.order = false) (hP : P = A ++ vrn (l.idxOf d.name) ++ Q) (hl : P.length < 1000000) (hll : l.length < 1000000) {R} (h : R (.agg [vs d.name, un 0, .val (.bool d.order)]) [cO P (A ++ vrn (l.idxOf d.name)).length, tblO 2 3 l, tblR l, tblM l]) :
    ACalls Tryz.prog 223 [rdr, vi 2, .fn (.func 218) [rdr] []] [cO P A.length, tblO 2 3 l, tblR l, tblM l] R := by
  refine acalls_of_xwp (an := an223) tab_ok Tryz.func223 ?_
  rw [ho] at h
  (conv => whnf)
  refine rknown_O hs hP hl hll ?_
  (conv => whnf)
  exact h
theorem rdep_3 {P A Q : B} {l : List B} {d : Dp} (hs : d.name ∈ l) (hP : P = A ++ vrn (depN l d) ++ Q) (hl : P.length < 1000000) (hll : l.length < 1000000) {R} (h : R (.agg [vs d.name, un 0, .val (.bool d.order)]) [cO P (A ++ vrn (depN l d)).length, tblO 2 3 l, tblR l, tblM l]) :
    ACalls Tryz.prog 223 [rdr, vi 3, .fn (.func 218) [rdr] []] [cO P A.length, tblO 2 3 l, tblR l, tblM l] R := by
  refine acalls_of_xwp (an := an223) tab_ok Tryz.func223 ?_
  obtain ⟨hi, he⟩ := at_idx hs
  have hN : depN l d < 18446744073709551616 := by unfold depN; split <;> omega
  have e1 : IntKind.u64.wrap (((depN l d : Nat) : Int).tdiv 2) = ((l.idxOf d.name : Nat) : Int) := by
    rw [Int.tdiv_eq_ediv_of_nonneg (Int.natCast_nonneg _)]
    show (((depN l d : Nat) : Int) / 2) % 18446744073709551616 = _
    unfold depN
    split <;> omega
  have e2 : (((depN l d : Nat) : Int).tmod 2 == 1) = d.order := by
    rw [Int.tmod_eq_emod_of_nonneg (Int.natCast_nonneg _)]
    unfold depN
    cases d.order <;> simp <;> omega
  (conv => whnf)
  refine num_at hP hN hl ?_
  (conv => whnf)
  rw [e1]
  refine rtext_O P l _ (l.idxOf d.name) hi hll ?_
  rw [he]
  (conv => whnf)
  rw [e2]
  exact h
end Go.Abs
end

section
/- schema's reader: a record's last payload. -/
set_option maxRecDepth 100000
set_option maxHeartbeats 4000000
set_option linter.unusedVariables false
set_option linter.unusedSimpArgs false
namespace Go.Abs
open Go Go.Proofs Dig
attribute [local irreducible] ibits byteAt strLt firstIdx

theorem num_pre {P A : B} {n : Nat} (hP : A ++ vrn n <+: P) (hn : n < 18446744073709551616) (hl : P.length < 1000000) {R} (h : R (un n) [cO P (A ++ vrn n).length]) :
    ACalls Tryz.prog 221 [.ptr 0 0] [cO P A.length] R := by
  obtain ⟨Q, hQ⟩ := hP
  exact num_at hQ.symm hn hl h
theorem byte1_at {P q : B} (hP : P = 1 :: q) (hl : P.length < 1000000) {R} (h : R (.val (.int .u8 1)) [cO P ([1] : B).length]) : ACalls Tryz.prog 220 [.ptr 0 0] [cO P 0] R := by
  subst hP
  exact Byte_calls 1 q (by simp at hl; omega) h
theorem byte2_at {P q : B} (hP : P = 2 :: q) (hl : P.length < 1000000) {R} (h : R (.val (.int .u8 2)) [cO P ([2] : B).length]) : ACalls Tryz.prog 220 [.ptr 0 0] [cO P 0] R := by
  subst hP
  exact Byte_calls 2 q (by simp at hl; omega) h
theorem rknown_pre {P A : B} {l : List B} {s : B} (hs : s ∈ l) (hP : A ++ vrn (l.idxOf s) <+: P) (hl : P.length < 1000000) (hll : l.length < 1000000) {R} (h : R (vs s) [cO P (A ++ vrn (l.idxOf s)).length, tblO 2 3 l, tblR l, tblM l]) :
    ACalls Tryz.prog 218 [rdr] [cO P A.length, tblO 2 3 l, tblR l, tblM l] R := by
  obtain ⟨Q, hQ⟩ := hP
  exact rknown_O hs hQ.symm hl hll h
theorem rblob_pre {P A s : B} (hs : s.length ≤ 64) (hP : A ++ blobP s <+: P) (hl : P.length < 1000000) {R} (h : R (vs s) [cO P (A ++ blobP s).length, tblF]) :
    ACalls Tryz.prog 219 [rdr] [cO P A.length, tblF] R := by
  obtain ⟨Q, hQ⟩ := hP
  exact rblob_F hs hQ.symm hl h
/-- A record's variable. -/
def rO (k : Int) (tg : B) (ru : Nat) (deps : AV) (ou we : Nat) (ta : B) : AObj := .cells 67 [vi k, vs tg, un ru, deps, un ou, un we, vs ta]
def rdO : AObj := .cells 273 [.ptr 0 0, .ptr 1 0]
theorem depsW_split {v : Int} {t : List B} {l : List Dp} {i : Nat} (hi : i < l.length) : depsW v t l = depsW v t (l.take i) ++ (depW v t l[i] ++ depsW v t (l.drop (i + 1))) := by
  have e : l.take i ++ (l[i] :: l.drop (i + 1)) = l := by rw [← List.drop_eq_getElem_cons hi, List.take_append_drop]
  have e2 : depsW v t (l.take i ++ (l[i] :: l.drop (i + 1))) = depsW v t (l.take i) ++ (depW v t l[i] ++ depsW v t (l.drop (i + 1))) := by
    unfold depsW
    rw [List.map_append, List.map_cons, List.flatten_append, List.flatten_cons]
  rw [e] at e2
  exact e2
theorem le_rec3 (k : Int) (t : B) (u o w : Nat) (g : B) : AV.le (.agg [vi k, vs t, un u, .val (.slice none 0 0), un o, un w, vs g]) (.agg [vi k, vs t, un u, .sl none 3 [], un o, un w, vs g]) :=
  le_agg (.cons (.refl _) (.cons (.refl _) (.cons (.refl _) (.cons (le_nil 3) (leL.refl _)))))
theorem bytes_dep : (tab.ti 130).bytes = 32 := rfl
theorem dpsA_take {l : List Dp} {i : Nat} (hi : i < l.length) : dpsA (l.take (i + 1)) = dpsA (l.take i) ++ [l[i].enc] := by
  rw [List.take_succ_eq_append_getElem hi]
  unfold dpsA
  rw [List.map_append]
  rfl
theorem rdep_pre1 {P A : B} {d : Dp} (hs : d.name.length ≤ 64) (ho : d.order = false) (hP : A ++ blobP d.name <+: P) (hl : P.length < 1000000) {R} (h : R (.agg [vs d.name, un 0, .val (.bool d.order)]) [cO P (A ++ blobP d.name).length, tblF]) :
    ACalls Tryz.prog 223 [rdr, vi 1, .fn (.func 219) [rdr] []] [cO P A.length, tblF] R := by
  obtain ⟨Q, hQ⟩ := hP
  exact rdep_1 hs ho hQ.symm hl h
theorem rdep_pre2 {P A : B} {l : List B} {d : Dp} (hs : d.name ∈ l) (ho : d.order = false) (hP : A ++ vrn (l.idxOf d.name) <+: P) (hl : P.length < 1000000) (hll : l.length < 1000000) {R} (h : R (.agg [vs d.name, un 0, .val (.bool d.order)]) [cO P (A ++ vrn (l.idxOf d.name)).length, tblO 2 3 l, tblR l, tblM l]) :
    ACalls Tryz.prog 223 [rdr, vi 2, .fn (.func 218) [rdr] []] [cO P A.length, tblO 2 3 l, tblR l, tblM l] R := by
  obtain ⟨Q, hQ⟩ := hP
  exact rdep_2 hs ho hQ.symm hl hll h
theorem rdep_pre3 {P A : B} {l : List B} {d : Dp} (hs : d.name ∈ l) (hP : A ++ vrn (depN l d) <+: P) (hl : P.length < 1000000) (hll : l.length < 1000000) {R} (h : R (.agg [vs d.name, un 0, .val (.bool d.order)]) [cO P (A ++ vrn (depN l d)).length, tblO 2 3 l, tblR l, tblM l]) :
    ACalls Tryz.prog 223 [rdr, vi 3, .fn (.func 218) [rdr] []] [cO P A.length, tblO 2 3 l, tblR l, tblM l] R := by
  obtain ⟨Q, hQ⟩ := hP
  exact rdep_3 hs hQ.symm hl hll h
theorem rlast_1 (r : Rc) (hm : MayR 1 r) {R} (h : R (.agg r.enc) [cO (lastW 1 [] r) (lastW 1 [] r).length, tblF]) :
    ACalls Tryz.prog 194 [rdr, vi 1] [cO (lastW 1 [] r) 0, tblF] R := by
  have hk := hm.kind.imp id goneR_kind
  have hF := frontW_len (v := 1) (t := []) hm (by simp)
  have hD := depsW_take (v := 1) (t := []) hm (by simp)
  have hPl := (lastW_len (v := 1) (t := []) hm (by simp)).2
  have hd16 := hm.deps
  have hnm := hm.names
  have ht2 := hm.t2
  have hw0 := hm.wen
  have htg3 := hm.tag3
  have hord := hm.order
  refine ACalls.res ?_
  refine acalls_of_xwp (an := an194) tab_ok Tryz.func194 ?_
  rcases hk with hk | hk
  · have e1 := lastW_trace (v := 1) (t := []) hk
    have eF : frontW 1 [] r = [1] ++ blobP r.target ++ vrn r.rule.toNat ++ vrn r.deps.length := by unfold frontW textW; simp
    have eE : endW 1 [] r = vrn r.out.toNat := by simp [endW]
    rw [eE] at e1
    generalize lastW 1 [] r = P at h hPl e1 ⊢
    obtain ⟨k, tg, ru, ds, ou, we, ta⟩ := r
    dsimp only at hk hF hD hd16 hnm ht2 h eF e1 hw0 htg3 hord
    subst hk
    have q0 : ∃ q, P = 1 :: q := ⟨_, by rw [e1, eF]; simp only [List.append_assoc, List.cons_append, List.nil_append]; rfl⟩
    have q1 : [1] ++ blobP tg <+: P := ⟨_, by rw [e1, eF]; simp only [List.append_assoc, List.cons_append, List.nil_append]; rfl⟩
    have q2 : [1] ++ blobP tg ++ vrn ru.toNat <+: P := ⟨_, by rw [e1, eF]; simp only [List.append_assoc, List.cons_append, List.nil_append]; rfl⟩
    have q3 : [1] ++ blobP tg ++ vrn ru.toNat ++ vrn ds.length <+: P := ⟨_, by rw [e1, eF]; simp only [List.append_assoc, List.cons_append, List.nil_append]; rfl⟩
    obtain ⟨q, q0⟩ := q0
    (conv => whnf)
    refine byte1_at q0 (by omega) ?_
    (conv => whnf)
    refine rblob_pre ht2 q1 (by omega) ?_
    (conv => whnf)
    refine num_pre q2 ru.isLt (by omega) ?_
    (conv => whnf)
    refine num_pre q3 (by omega) (by omega) ?_
    rw [← eF]
    generalize frontW 1 [] (Rc.mk 1 tg ru ds ou we ta) = F at h hF e1 ⊢
    clear q1 q2 q3 q0 eF
    have p1 : F ++ depsW 1 [] ds ++ vrn ou.toNat <+: P := ⟨[], by rw [List.append_nil, e1]⟩
    have e1' := e1
    by_cases hds : ds = []
    · subst hds
      have hz : depsW 1 [] [] = [] := rfl
      rw [hz, List.append_nil] at p1 e1
      (conv => whnf)
      refine LoopP.step ?_
      (conv => whnf)
      have hw : we = 0 := hw0 rfl
      have hta : ta = [] := htg3 (by decide)
      subst hw hta
      have pe : F ++ vrn ou.toNat = P := e1.symm
      refine num_pre p1 ou.isLt (by omega) ?_
      rw [pe]
      (conv => whnf)
      exact res_le (le_rec3 1 tg ru.toNat ou.toNat 0 []) rfl h
    · have hpos : 0 < ds.length := List.length_pos_iff.2 hds
      have hstep : ∀ (i : Nat) (hi : i < ds.length) (A : B), A = F ++ depsW 1 [] (ds.take i) → (A ++ blobP ds[i].name <+: P) ∧ (A ++ blobP ds[i].name ++ vrn ds[i].hash.toNat <+: P) ∧ A ++ blobP ds[i].name ++ vrn ds[i].hash.toNat = F ++ depsW 1 [] (ds.take (i + 1)) := by
        intro i hi A hA
        have e2 := depsW_split (v := 1) (t := []) hi
        have e3 : depW 1 [] ds[i] = blobP ds[i].name ++ vrn ds[i].hash.toNat := by simp [depW, textW]
        refine ⟨⟨_, by rw [e1, hA, e2, e3]; simp only [List.append_assoc]; rfl⟩, ⟨_, by rw [e1, hA, e2, e3]; simp only [List.append_assoc]; rfl⟩, ?_⟩
        rw [hA, depsW_snoc hi, e3]
        simp
      have h00 := hstep 0 hpos F (by simp [depsW])
      obtain ⟨w1, w2, w3⟩ := h00
      have hn0 := hnm ds[0] (List.getElem_mem hpos)
      have ho := hord (by decide) ds[0] (List.getElem_mem hpos)
      have hn := hn0
      have eN : IntKind.u64.wrap (((ds.length : Nat) : Int) - 1) = ((ds.length - 1 : Nat) : Int) := by
        show (((ds.length : Nat) : Int) - 1) % 18446744073709551616 = _
        omega
      have ed : dpsA (ds.take 1) = [ds[0].enc] := by rw [dpsA_take hpos]; rfl
      have hB2 : F ++ blobP ds[0].name ++ vrn ds[0].hash.toNat = F ++ depsW 1 [] (ds.take 1) := w3
      generalize hd0 : ds[0] = d at w1 w2 w3 hn0 ed hB2 ho hn
      (conv => whnf)
      refine LoopP.step ?_
      (conv => whnf)
      refine br_true (decide_eq_true (by omega)) ?_
      (conv => whnf)
      refine Err_calls P _ ?_
      (conv => whnf)
      refine rdep_pre1 hn.2 ho w1 (by omega) ?_
      (conv => whnf)
      refine num_pre w2 d.hash.isLt (by omega) ?_
      (conv => whnf)
      refine ⟨(by rw [bytes_dep]; decide : 1 * ((tab.ti 130).bytes + 1) ≤ 140737488355328), ?_⟩
      (conv => whnf)
      rw [eN, show [[AV.val (Value.string (ofB d.name)), AV.val (Value.int IntKind.u64 ((d.hash.toNat : Nat) : Int)), AV.val (Value.bool d.order)]] = dpsA (ds.take 1) from ed.symm, show (dpsA (ds.take 1)).length = 1 by rw [ed]; rfl]
      refine LoopP.ind2 (fun (i : Nat) (A : B) => [(6, un (ds.length - i))]) (fun i A => [(0, cO P A.length), (1, tblF), (nameOf 2, rdO), (nameOf 4, rO 1 tg ru.toNat (.sl (some (nameOf 56)) 3 (dpsA (ds.take i))) 0 0 []), (nameOf 56, .row 130 3 i)]) (fun i _ => ds.length - i) (fun i A => 1 ≤ i ∧ i ≤ ds.length ∧ A = F ++ depsW 1 [] (ds.take i)) 1 (F ++ blobP d.name ++ vrn d.hash.toNat) rfl ⟨by omega, by omega, hB2⟩ ?_
      rintro i A ⟨h1, h2, hA⟩ IH
      have hlA : (dpsA (ds.take i)).length = i := by rw [dpsA_length, List.length_take]; omega
      (conv => whnf)
      refine br_intro (fun hc => ?_) (fun hc => ?_)
      · have hc : i < ds.length := by have hc := of_decide_eq_true hc; omega
        obtain ⟨v1, v2, v3⟩ := hstep i hc A hA
        have hni := hnm ds[i] (List.getElem_mem hc)
        have ho := hord (by decide) ds[i] (List.getElem_mem hc)
        have hn := hni
        have IH := IH (i + 1) _ ⟨by omega, by omega, v3⟩ (by omega)
        rw [dpsA_take hc] at IH
        have eN2 : IntKind.u64.wrap (((ds.length - i : Nat) : Int) - 1) = ((ds.length - (i + 1) : Nat) : Int) := by
          show (((ds.length - i : Nat) : Int) - 1) % 18446744073709551616 = _
          omega
        generalize ds[i] = e at v1 v2 v3 hni IH ho hn
        (conv => whnf)
        refine Err_calls P _ ?_
        (conv => whnf)
        refine rdep_pre1 hn.2 ho v1 (by omega) ?_
        (conv => whnf)
        refine num_pre v2 e.hash.isLt (by omega) ?_
        (conv => whnf)
        refine ⟨hlA.symm, by rw [hlA, bytes_dep]; simp; omega, ?_⟩
        (conv => whnf)
        rw [eN2, hlA]
        exact IH
      · have hc : i = ds.length := by have hc := of_decide_eq_false hc; omega
        subst hc
        rw [List.take_length] at hA
        rw [← hA] at p1 e1
        rw [List.take_length]
        (conv => whnf)
        have hw : we = 0 := hw0 rfl
        have hta : ta = [] := htg3 (by decide)
        subst hw hta
        have pe : A ++ vrn ou.toNat = P := e1.symm
        refine num_pre p1 ou.isLt (by omega) ?_
        rw [pe]
        (conv => whnf)
        exact res_same h
  · have e1 := lastW_gone (v := 1) (t := []) hk
    have eg : r.enc = [vi 2, vs r.target, un 0, .sl none 3 [], un 0, un 0, vs []] := by
      rcases hm.kind with e | e
      · rw [e] at hk; cases hk
      · rw [e]; rfl
    have e2 : textW 1 [] r.target = blobP r.target := by simp [textW]
    rw [e2] at e1
    rw [eg] at h
    generalize lastW 1 [] r = P at h hPl e1 ⊢
    obtain ⟨k, tg, ru, ds, ou, we, ta⟩ := r
    dsimp only at hk ht2 h e1
    have q1 : [2] ++ blobP tg = P := by rw [e1]; rfl
    have q1' : [2] ++ blobP tg <+: P := ⟨[], by rw [List.append_nil]; exact q1⟩
    (conv => whnf)
    refine byte2_at e1 (by omega) ?_
    (conv => whnf)
    refine rblob_pre ht2 q1' (by omega) ?_
    rw [q1]
    (conv => whnf)
    exact res_le (le_rec3 2 tg 0 0 0 []) rfl h
theorem rlast_2 (r : Rc) (l : List B) (hm : MayR 2 r) (hl : l.length < 100000) (ht : r.target ∈ l) (hds : ∀ d ∈ r.deps, d.name ∈ l) (htg : r.tag ≠ [] → r.tag ∈ l) {R} (h : R (.agg r.enc) [cO (lastW 2 l r) (lastW 2 l r).length, tblO 2 3 l, tblR l, tblM l]) :
    ACalls Tryz.prog 194 [rdr, vi 2] [cO (lastW 2 l r) 0, tblO 2 3 l, tblR l, tblM l] R := by
  have hk := hm.kind.imp id goneR_kind
  have hF := frontW_len (v := 2) (t := l) hm (by omega)
  have hD := depsW_take (v := 2) (t := l) hm (by omega)
  have hPl := (lastW_len (v := 2) (t := l) hm (by omega)).2
  have hd16 := hm.deps
  have hnm := hm.names
  have ht2 := hm.t2
  have hw0 := hm.wen
  have htg3 := hm.tag3
  have hord := hm.order
  refine ACalls.res ?_
  refine acalls_of_xwp (an := an194) tab_ok Tryz.func194 ?_
  rcases hk with hk | hk
  · have e1 := lastW_trace (v := 2) (t := l) hk
    have eF : frontW 2 l r = [1] ++ vrn (l.idxOf r.target) ++ vrn r.rule.toNat ++ vrn r.deps.length := by unfold frontW textW; simp
    have eE : endW 2 l r = vrn r.out.toNat ++ vrn r.wen.toNat := by simp [endW]
    rw [eE] at e1
    generalize lastW 2 l r = P at h hPl e1 ⊢
    obtain ⟨k, tg, ru, ds, ou, we, ta⟩ := r
    dsimp only at hk hF hD hd16 hnm ht2 h eF e1 hw0 htg3 hord ht hds htg
    subst hk
    have q0 : ∃ q, P = 1 :: q := ⟨_, by rw [e1, eF]; simp only [List.append_assoc, List.cons_append, List.nil_append]; rfl⟩
    have q1 : [1] ++ vrn (l.idxOf tg) <+: P := ⟨_, by rw [e1, eF]; simp only [List.append_assoc, List.cons_append, List.nil_append]; rfl⟩
    have q2 : [1] ++ vrn (l.idxOf tg) ++ vrn ru.toNat <+: P := ⟨_, by rw [e1, eF]; simp only [List.append_assoc, List.cons_append, List.nil_append]; rfl⟩
    have q3 : [1] ++ vrn (l.idxOf tg) ++ vrn ru.toNat ++ vrn ds.length <+: P := ⟨_, by rw [e1, eF]; simp only [List.append_assoc, List.cons_append, List.nil_append]; rfl⟩
    obtain ⟨q, q0⟩ := q0
    (conv => whnf)
    refine byte1_at q0 (by omega) ?_
    (conv => whnf)
    refine rknown_pre ht q1 (by omega) (by omega) ?_
    (conv => whnf)
    refine num_pre q2 ru.isLt (by omega) ?_
    (conv => whnf)
    refine num_pre q3 (by omega) (by omega) ?_
    rw [← eF]
    generalize frontW 2 l (Rc.mk 1 tg ru ds ou we ta) = F at h hF e1 ⊢
    clear q1 q2 q3 q0 eF
    have p1 : F ++ depsW 2 l ds ++ vrn ou.toNat <+: P := ⟨_, by rw [e1]; simp only [List.append_assoc]; rfl⟩
    have p2 : F ++ depsW 2 l ds ++ vrn ou.toNat ++ vrn we.toNat = P := by rw [e1]; simp only [List.append_assoc]
    have p2' : F ++ depsW 2 l ds ++ vrn ou.toNat ++ vrn we.toNat <+: P := ⟨[], by rw [List.append_nil]; exact p2⟩
    have hds1 : ∀ d ∈ ds, d.name ∈ l := hds
    have e1' := e1
    by_cases hds : ds = []
    · subst hds
      have hz : depsW 2 l [] = [] := rfl
      rw [hz, List.append_nil] at p1 e1
      rw [hz, List.append_nil] at p2 p2'
      (conv => whnf)
      refine LoopP.step ?_
      (conv => whnf)
      have hta : ta = [] := htg3 (by decide)
      subst hta
      refine num_pre p1 ou.isLt (by omega) ?_
      (conv => whnf)
      refine num_pre p2' we.isLt (by omega) ?_
      rw [p2]
      (conv => whnf)
      exact res_le (le_rec3 1 tg ru.toNat ou.toNat we.toNat []) rfl h
    · have hpos : 0 < ds.length := List.length_pos_iff.2 hds
      have hstep : ∀ (i : Nat) (hi : i < ds.length) (A : B), A = F ++ depsW 2 l (ds.take i) → (A ++ vrn (l.idxOf ds[i].name) <+: P) ∧ (A ++ vrn (l.idxOf ds[i].name) ++ vrn ds[i].hash.toNat <+: P) ∧ A ++ vrn (l.idxOf ds[i].name) ++ vrn ds[i].hash.toNat = F ++ depsW 2 l (ds.take (i + 1)) := by
        intro i hi A hA
        have e2 := depsW_split (v := 2) (t := l) hi
        have e3 : depW 2 l ds[i] = vrn (l.idxOf ds[i].name) ++ vrn ds[i].hash.toNat := by simp [depW, textW]
        refine ⟨⟨_, by rw [e1, hA, e2, e3]; simp only [List.append_assoc]; rfl⟩, ⟨_, by rw [e1, hA, e2, e3]; simp only [List.append_assoc]; rfl⟩, ?_⟩
        rw [hA, depsW_snoc hi, e3]
        simp
      have h00 := hstep 0 hpos F (by simp [depsW])
      obtain ⟨w1, w2, w3⟩ := h00
      have hn0 := hnm ds[0] (List.getElem_mem hpos)
      have ho := hord (by decide) ds[0] (List.getElem_mem hpos)
      have hin := hds1 ds[0] (List.getElem_mem hpos)
      have eN : IntKind.u64.wrap (((ds.length : Nat) : Int) - 1) = ((ds.length - 1 : Nat) : Int) := by
        show (((ds.length : Nat) : Int) - 1) % 18446744073709551616 = _
        omega
      have ed : dpsA (ds.take 1) = [ds[0].enc] := by rw [dpsA_take hpos]; rfl
      have hB2 : F ++ vrn (l.idxOf ds[0].name) ++ vrn ds[0].hash.toNat = F ++ depsW 2 l (ds.take 1) := w3
      generalize hd0 : ds[0] = d at w1 w2 w3 hn0 ed hB2 ho hin
      (conv => whnf)
      refine LoopP.step ?_
      (conv => whnf)
      refine br_true (decide_eq_true (by omega)) ?_
      (conv => whnf)
      refine Err_calls P _ ?_
      (conv => whnf)
      refine rdep_pre2 hin ho w1 (by omega) (by omega) ?_
      (conv => whnf)
      refine num_pre w2 d.hash.isLt (by omega) ?_
      (conv => whnf)
      refine ⟨(by rw [bytes_dep]; decide : 1 * ((tab.ti 130).bytes + 1) ≤ 140737488355328), ?_⟩
      (conv => whnf)
      rw [eN, show [[AV.val (Value.string (ofB d.name)), AV.val (Value.int IntKind.u64 ((d.hash.toNat : Nat) : Int)), AV.val (Value.bool d.order)]] = dpsA (ds.take 1) from ed.symm, show (dpsA (ds.take 1)).length = 1 by rw [ed]; rfl]
      refine LoopP.ind2 (fun (i : Nat) (A : B) => [(6, un (ds.length - i))]) (fun i A => [(0, cO P A.length), (1, tblO 2 3 l), (2, tblR l), (3, tblM l), (nameOf 2, rdO), (nameOf 4, rO 1 tg ru.toNat (.sl (some (nameOf 56)) 3 (dpsA (ds.take i))) 0 0 []), (nameOf 56, .row 130 3 i)]) (fun i _ => ds.length - i) (fun i A => 1 ≤ i ∧ i ≤ ds.length ∧ A = F ++ depsW 2 l (ds.take i)) 1 (F ++ vrn (l.idxOf d.name) ++ vrn d.hash.toNat) rfl ⟨by omega, by omega, hB2⟩ ?_
      rintro i A ⟨h1, h2, hA⟩ IH
      have hlA : (dpsA (ds.take i)).length = i := by rw [dpsA_length, List.length_take]; omega
      (conv => whnf)
      refine br_intro (fun hc => ?_) (fun hc => ?_)
      · have hc : i < ds.length := by have hc := of_decide_eq_true hc; omega
        obtain ⟨v1, v2, v3⟩ := hstep i hc A hA
        have hni := hnm ds[i] (List.getElem_mem hc)
        have ho := hord (by decide) ds[i] (List.getElem_mem hc)
        have hin := hds1 ds[i] (List.getElem_mem hc)
        have IH := IH (i + 1) _ ⟨by omega, by omega, v3⟩ (by omega)
        rw [dpsA_take hc] at IH
        have eN2 : IntKind.u64.wrap (((ds.length - i : Nat) : Int) - 1) = ((ds.length - (i + 1) : Nat) : Int) := by
          show (((ds.length - i : Nat) : Int) - 1) % 18446744073709551616 = _
          omega
        generalize ds[i] = e at v1 v2 v3 hni IH ho hin
        (conv => whnf)
        refine Err_calls P _ ?_
        (conv => whnf)
        refine rdep_pre2 hin ho v1 (by omega) (by omega) ?_
        (conv => whnf)
        refine num_pre v2 e.hash.isLt (by omega) ?_
        (conv => whnf)
        refine ⟨hlA.symm, by rw [hlA, bytes_dep]; simp; omega, ?_⟩
        (conv => whnf)
        rw [eN2, hlA]
        exact IH
      · have hc : i = ds.length := by have hc := of_decide_eq_false hc; omega
        subst hc
        rw [List.take_length] at hA
        rw [← hA] at p1 e1
        rw [← hA] at p2 p2'
        rw [List.take_length]
        (conv => whnf)
        have hta : ta = [] := htg3 (by decide)
        subst hta
        refine num_pre p1 ou.isLt (by omega) ?_
        (conv => whnf)
        refine num_pre p2' we.isLt (by omega) ?_
        rw [p2]
        (conv => whnf)
        exact res_same h
  · have e1 := lastW_gone (v := 2) (t := l) hk
    have eg : r.enc = [vi 2, vs r.target, un 0, .sl none 3 [], un 0, un 0, vs []] := by
      rcases hm.kind with e | e
      · rw [e] at hk; cases hk
      · rw [e]; rfl
    have e2 : textW 2 l r.target = vrn (l.idxOf r.target) := by simp [textW]
    rw [e2] at e1
    rw [eg] at h
    generalize lastW 2 l r = P at h hPl e1 ⊢
    obtain ⟨k, tg, ru, ds, ou, we, ta⟩ := r
    dsimp only at hk ht2 h e1 ht hds htg
    have q1 : [2] ++ vrn (l.idxOf tg) = P := by rw [e1]; rfl
    have q1' : [2] ++ vrn (l.idxOf tg) <+: P := ⟨[], by rw [List.append_nil]; exact q1⟩
    (conv => whnf)
    refine byte2_at e1 (by omega) ?_
    (conv => whnf)
    refine rknown_pre ht q1' (by omega) (by omega) ?_
    rw [q1]
    (conv => whnf)
    exact res_le (le_rec3 2 tg 0 0 0 []) rfl h
theorem rlast_3 (r : Rc) (l : List B) (hm : MayR 3 r) (hl : l.length < 100000) (ht : r.target ∈ l) (hds : ∀ d ∈ r.deps, d.name ∈ l) (htg : r.tag ≠ [] → r.tag ∈ l) {R} (h : R (.agg r.enc) [cO (lastW 3 l r) (lastW 3 l r).length, tblO 2 3 l, tblR l, tblM l]) :
    ACalls Tryz.prog 194 [rdr, vi 3] [cO (lastW 3 l r) 0, tblO 2 3 l, tblR l, tblM l] R := by
  have hk := hm.kind.imp id goneR_kind
  have hF := frontW_len (v := 3) (t := l) hm (by omega)
  have hD := depsW_take (v := 3) (t := l) hm (by omega)
  have hPl := (lastW_len (v := 3) (t := l) hm (by omega)).2
  have hd16 := hm.deps
  have hnm := hm.names
  have ht2 := hm.t2
  have hw0 := hm.wen
  have htg3 := hm.tag3
  have hord := hm.order
  refine ACalls.res ?_
  refine acalls_of_xwp (an := an194) tab_ok Tryz.func194 ?_
  rcases hk with hk | hk
  · have e1 := lastW_trace (v := 3) (t := l) hk
    have eF : frontW 3 l r = [1] ++ vrn (l.idxOf r.target) ++ vrn r.rule.toNat ++ vrn r.deps.length := by unfold frontW textW; simp
    have eE : endW 3 l r = vrn r.out.toNat ++ vrn r.wen.toNat ++ tagW l r.tag := by simp [endW]
    rw [eE] at e1
    generalize lastW 3 l r = P at h hPl e1 ⊢
    obtain ⟨k, tg, ru, ds, ou, we, ta⟩ := r
    dsimp only at hk hF hD hd16 hnm ht2 h eF e1 hw0 htg3 hord ht hds htg
    subst hk
    have q0 : ∃ q, P = 1 :: q := ⟨_, by rw [e1, eF]; simp only [List.append_assoc, List.cons_append, List.nil_append]; rfl⟩
    have q1 : [1] ++ vrn (l.idxOf tg) <+: P := ⟨_, by rw [e1, eF]; simp only [List.append_assoc, List.cons_append, List.nil_append]; rfl⟩
    have q2 : [1] ++ vrn (l.idxOf tg) ++ vrn ru.toNat <+: P := ⟨_, by rw [e1, eF]; simp only [List.append_assoc, List.cons_append, List.nil_append]; rfl⟩
    have q3 : [1] ++ vrn (l.idxOf tg) ++ vrn ru.toNat ++ vrn ds.length <+: P := ⟨_, by rw [e1, eF]; simp only [List.append_assoc, List.cons_append, List.nil_append]; rfl⟩
    obtain ⟨q, q0⟩ := q0
    (conv => whnf)
    refine byte1_at q0 (by omega) ?_
    (conv => whnf)
    refine rknown_pre ht q1 (by omega) (by omega) ?_
    (conv => whnf)
    refine num_pre q2 ru.isLt (by omega) ?_
    (conv => whnf)
    refine num_pre q3 (by omega) (by omega) ?_
    rw [← eF]
    generalize frontW 3 l (Rc.mk 1 tg ru ds ou we ta) = F at h hF e1 ⊢
    clear q1 q2 q3 q0 eF
    have p1 : F ++ depsW 3 l ds ++ vrn ou.toNat <+: P := ⟨_, by rw [e1]; simp only [List.append_assoc]; rfl⟩
    have p2 : F ++ depsW 3 l ds ++ vrn ou.toNat ++ vrn we.toNat <+: P := ⟨_, by rw [e1]; simp only [List.append_assoc]; rfl⟩
    have hds1 : ∀ d ∈ ds, d.name ∈ l := hds
    have e1' := e1
    by_cases hds : ds = []
    · subst hds
      have hz : depsW 3 l [] = [] := rfl
      rw [hz, List.append_nil] at p1 e1
      rw [hz, List.append_nil] at p2
      (conv => whnf)
      refine LoopP.step ?_
      (conv => whnf)
      have hix := List.idxOf_le_length (a := ta) (l := l)
      have pe : F ++ vrn ou.toNat ++ vrn we.toNat ++ tagW l ta = P := by rw [e1]; simp only [List.append_assoc]
      have pe' : F ++ vrn ou.toNat ++ vrn we.toNat ++ tagW l ta <+: P := ⟨[], by rw [List.append_nil]; exact pe⟩
      refine num_pre p1 ou.isLt (by omega) ?_
      (conv => whnf)
      refine num_pre p2 we.isLt (by omega) ?_
      (conv => whnf)
      by_cases hta : ta = []
      · subst hta
        rw [show tagW l [] = vrn 0 from rfl] at pe pe'
        refine num_pre pe' (by omega) (by omega) ?_
        rw [pe]
        (conv => whnf)
        exact res_le (le_rec3 1 tg ru.toNat ou.toNat we.toNat []) rfl h
      · have hti := htg hta
        rw [show tagW l ta = vrn (l.idxOf ta + 1) by simp [tagW, hta]] at pe pe'
        obtain ⟨hi2, he2⟩ := at_idx hti
        have eT : IntKind.u64.wrap (((l.idxOf ta + 1 : Nat) : Int) - 1) = ((l.idxOf ta : Nat) : Int) := by
          show (((l.idxOf ta + 1 : Nat) : Int) - 1) % 18446744073709551616 = _
          omega
        refine num_pre pe' (by omega) (by omega) ?_
        rw [pe]
        (conv => whnf)
        refine br_true (decide_eq_true (by omega)) ?_
        (conv => whnf)
        rw [eT]
        refine rtext_O P l _ (l.idxOf ta) hi2 (by omega) ?_
        rw [he2]
        (conv => whnf)
        exact res_le (le_rec3 1 tg ru.toNat ou.toNat we.toNat ta) rfl h
    · have hpos : 0 < ds.length := List.length_pos_iff.2 hds
      have hstep : ∀ (i : Nat) (hi : i < ds.length) (A : B), A = F ++ depsW 3 l (ds.take i) → (A ++ vrn (depN l ds[i]) <+: P) ∧ (A ++ vrn (depN l ds[i]) ++ vrn ds[i].hash.toNat <+: P) ∧ A ++ vrn (depN l ds[i]) ++ vrn ds[i].hash.toNat = F ++ depsW 3 l (ds.take (i + 1)) := by
        intro i hi A hA
        have e2 := depsW_split (v := 3) (t := l) hi
        have e3 : depW 3 l ds[i] = vrn (depN l ds[i]) ++ vrn ds[i].hash.toNat := by simp [depW, textW]
        refine ⟨⟨_, by rw [e1, hA, e2, e3]; simp only [List.append_assoc]; rfl⟩, ⟨_, by rw [e1, hA, e2, e3]; simp only [List.append_assoc]; rfl⟩, ?_⟩
        rw [hA, depsW_snoc hi, e3]
        simp
      have h00 := hstep 0 hpos F (by simp [depsW])
      obtain ⟨w1, w2, w3⟩ := h00
      have hn0 := hnm ds[0] (List.getElem_mem hpos)
      have hin := hds1 ds[0] (List.getElem_mem hpos)
      have eN : IntKind.u64.wrap (((ds.length : Nat) : Int) - 1) = ((ds.length - 1 : Nat) : Int) := by
        show (((ds.length : Nat) : Int) - 1) % 18446744073709551616 = _
        omega
      have ed : dpsA (ds.take 1) = [ds[0].enc] := by rw [dpsA_take hpos]; rfl
      have hB2 : F ++ vrn (depN l ds[0]) ++ vrn ds[0].hash.toNat = F ++ depsW 3 l (ds.take 1) := w3
      generalize hd0 : ds[0] = d at w1 w2 w3 hn0 ed hB2 hin
      (conv => whnf)
      refine LoopP.step ?_
      (conv => whnf)
      refine br_true (decide_eq_true (by omega)) ?_
      (conv => whnf)
      refine Err_calls P _ ?_
      (conv => whnf)
      refine rdep_pre3 hin w1 (by omega) (by omega) ?_
      (conv => whnf)
      refine num_pre w2 d.hash.isLt (by omega) ?_
      (conv => whnf)
      refine ⟨(by rw [bytes_dep]; decide : 1 * ((tab.ti 130).bytes + 1) ≤ 140737488355328), ?_⟩
      (conv => whnf)
      rw [eN, show [[AV.val (Value.string (ofB d.name)), AV.val (Value.int IntKind.u64 ((d.hash.toNat : Nat) : Int)), AV.val (Value.bool d.order)]] = dpsA (ds.take 1) from ed.symm, show (dpsA (ds.take 1)).length = 1 by rw [ed]; rfl]
      refine LoopP.ind2 (fun (i : Nat) (A : B) => [(6, un (ds.length - i))]) (fun i A => [(0, cO P A.length), (1, tblO 2 3 l), (2, tblR l), (3, tblM l), (nameOf 2, rdO), (nameOf 4, rO 1 tg ru.toNat (.sl (some (nameOf 56)) 3 (dpsA (ds.take i))) 0 0 []), (nameOf 56, .row 130 3 i)]) (fun i _ => ds.length - i) (fun i A => 1 ≤ i ∧ i ≤ ds.length ∧ A = F ++ depsW 3 l (ds.take i)) 1 (F ++ vrn (depN l d) ++ vrn d.hash.toNat) rfl ⟨by omega, by omega, hB2⟩ ?_
      rintro i A ⟨h1, h2, hA⟩ IH
      have hlA : (dpsA (ds.take i)).length = i := by rw [dpsA_length, List.length_take]; omega
      (conv => whnf)
      refine br_intro (fun hc => ?_) (fun hc => ?_)
      · have hc : i < ds.length := by have hc := of_decide_eq_true hc; omega
        obtain ⟨v1, v2, v3⟩ := hstep i hc A hA
        have hni := hnm ds[i] (List.getElem_mem hc)
        have hin := hds1 ds[i] (List.getElem_mem hc)
        have IH := IH (i + 1) _ ⟨by omega, by omega, v3⟩ (by omega)
        rw [dpsA_take hc] at IH
        have eN2 : IntKind.u64.wrap (((ds.length - i : Nat) : Int) - 1) = ((ds.length - (i + 1) : Nat) : Int) := by
          show (((ds.length - i : Nat) : Int) - 1) % 18446744073709551616 = _
          omega
        generalize ds[i] = e at v1 v2 v3 hni IH hin
        (conv => whnf)
        refine Err_calls P _ ?_
        (conv => whnf)
        refine rdep_pre3 hin v1 (by omega) (by omega) ?_
        (conv => whnf)
        refine num_pre v2 e.hash.isLt (by omega) ?_
        (conv => whnf)
        refine ⟨hlA.symm, by rw [hlA, bytes_dep]; simp; omega, ?_⟩
        (conv => whnf)
        rw [eN2, hlA]
        exact IH
      · have hc : i = ds.length := by have hc := of_decide_eq_false hc; omega
        subst hc
        rw [List.take_length] at hA
        rw [← hA] at p1 e1
        rw [← hA] at p2
        rw [List.take_length]
        (conv => whnf)
        have hix := List.idxOf_le_length (a := ta) (l := l)
        have pe : A ++ vrn ou.toNat ++ vrn we.toNat ++ tagW l ta = P := by rw [e1]; simp only [List.append_assoc]
        have pe' : A ++ vrn ou.toNat ++ vrn we.toNat ++ tagW l ta <+: P := ⟨[], by rw [List.append_nil]; exact pe⟩
        refine num_pre p1 ou.isLt (by omega) ?_
        (conv => whnf)
        refine num_pre p2 we.isLt (by omega) ?_
        (conv => whnf)
        by_cases hta : ta = []
        · subst hta
          rw [show tagW l [] = vrn 0 from rfl] at pe pe'
          refine num_pre pe' (by omega) (by omega) ?_
          rw [pe]
          (conv => whnf)
          exact res_same h
        · have hti := htg hta
          rw [show tagW l ta = vrn (l.idxOf ta + 1) by simp [tagW, hta]] at pe pe'
          obtain ⟨hi2, he2⟩ := at_idx hti
          have eT : IntKind.u64.wrap (((l.idxOf ta + 1 : Nat) : Int) - 1) = ((l.idxOf ta : Nat) : Int) := by
            show (((l.idxOf ta + 1 : Nat) : Int) - 1) % 18446744073709551616 = _
            omega
          refine num_pre pe' (by omega) (by omega) ?_
          rw [pe]
          (conv => whnf)
          refine br_true (decide_eq_true (by omega)) ?_
          (conv => whnf)
          rw [eT]
          refine rtext_O P l _ (l.idxOf ta) hi2 (by omega) ?_
          rw [he2]
          (conv => whnf)
          exact res_same h
  · have e1 := lastW_gone (v := 3) (t := l) hk
    have eg : r.enc = [vi 2, vs r.target, un 0, .sl none 3 [], un 0, un 0, vs []] := by
      rcases hm.kind with e | e
      · rw [e] at hk; cases hk
      · rw [e]; rfl
    have e2 : textW 3 l r.target = vrn (l.idxOf r.target) := by simp [textW]
    rw [e2] at e1
    rw [eg] at h
    generalize lastW 3 l r = P at h hPl e1 ⊢
    obtain ⟨k, tg, ru, ds, ou, we, ta⟩ := r
    dsimp only at hk ht2 h e1 ht hds htg
    have q1 : [2] ++ vrn (l.idxOf tg) = P := by rw [e1]; rfl
    have q1' : [2] ++ vrn (l.idxOf tg) <+: P := ⟨[], by rw [List.append_nil]; exact q1⟩
    (conv => whnf)
    refine byte2_at e1 (by omega) ?_
    (conv => whnf)
    refine rknown_pre ht q1' (by omega) (by omega) ?_
    rw [q1]
    (conv => whnf)
    exact res_le (le_rec3 2 tg 0 0 0 []) rfl h
end Go.Abs
end

section
/- schema.Get reads what was laid. -/
set_option maxRecDepth 100000
set_option maxHeartbeats 4000000
set_option linter.unusedVariables false
set_option linter.unusedSimpArgs false
namespace Go.Abs
open Go Go.Proofs Dig
attribute [local irreducible] ibits byteAt strLt firstIdx

theorem bEq_calls (a : B) {R} (h : R (.val (.bool true)) []) : ACalls Tryz.prog 196 [.sl none 1 (byteEls a), .sl none 1 (byteEls a)] [] R := by
  refine acalls_of_xwp (an := an196) tab_ok Tryz.func196 ?_
  obtain ⟨ns, n1, n2⟩ := str_of a
  (conv => whnf)
  refine ⟨ns, n1, ?_⟩
  rw [n2]
  (conv => whnf)
  refine ⟨ns, n1, ?_⟩
  rw [n2]
  (conv => whnf)
  rw [decide_eq_true rfl]
  exact h
theorem EqualB_same (l : List B) (hl : l.length < 1000000) {R} (h : R (.val (.bool true)) []) : ACalls Tryz.prog 195 [.sl none 1 (rowsB l), .sl none 1 (rowsB l), .fn (.func 196) [] []] [] R := by
  refine acalls_of_xwp (an := an195) tab_ok Tryz.func195 ?_
  have hrl := rowsB_length l
  (conv => whnf)
  refine br_false (by simp) ?_
  (conv => whnf)
  refine LoopP.ind1 (fun (i : Nat) => [(17, vi i)]) (fun i => []) (fun i => l.length - i) (fun i => i ≤ l.length) 0 rfl (by omega) ?_
  rintro i h0 IH
  (conv => whnf)
  refine br_intro (fun hc => ?_) (fun hc => ?_)
  · have hc := lt_of_decE hrl hc
    (conv => whnf); (repeat ((with_reducible refine must_intro ?_ ?_); exact decide_eq_true (by omega); (conv => whnf)))
    refine idxK_map_intro (show (i : Int).toNat < l.length by simpa using hc) ?_
    rw [show l[(i : Int).toNat]'(by simpa using hc) = l[i] from by congr 1]
    (conv => whnf); (repeat ((with_reducible refine must_intro ?_ ?_); exact decide_eq_true (by omega); (conv => whnf)))
    refine idxK_map_intro (show (i : Int).toNat < l.length by simpa using hc) ?_
    rw [show l[(i : Int).toNat]'(by simpa using hc) = l[i] from by congr 1]
    (conv => whnf)
    refine bEq_calls l[i] ?_
    (conv => whnf)
    rw [i64_nat (by omega)]
    exact IH (i + 1) (by omega) (by omega)
  · (conv => whnf)
    exact h
def zRec : AV := .agg [vi 0, vs [], un 0, .val (.slice none 0 0), un 0, un 0, vs []]
theorem tail_0 (s : B) : List.drop (1 : Int).toNat (List.take (((byteEls (defP s)).length : Nat) : Int).toNat (byteEls (defP s))) = byteEls s := by
  rw [Int.toNat_natCast, List.take_length]
  rfl
theorem sGetEnd_1F (A : List B) (hA : A.length < 100000) {R} (h : R (.tup [zRec, vi 0, vi 6]) [tblF]) :
    ACalls Tryz.prog 161 [vi 1, .ptr 0 0, .sl none 1 (rowsB A), vi (A.length : Int)] [tblF] R := by
  refine acalls_of_xwp (an := an161) tab_ok Tryz.func161 ?_
  have hrl := rowsB_length A
  (conv => whnf)
  refine skn_1 ?_
  (conv => whnf)
  refine br_false (decide_eq_false (by omega)) ?_
  (conv => whnf)
  refine tCopy_nil ?_
  (conv => whnf)
  refine LoopP.step ?_
  (conv => whnf)
  refine br_false (decide_eq_false (by omega)) ?_
  (conv => whnf)
  refine br_true (beq_iff_eq.2 (by omega)) ?_
  (conv => whnf)
  exact h
theorem sGetEnd_2F (A ms : List B) (hA : A.length < 100000) (hml : ms.length < 5000) {R} (h : R (.tup [zRec, vi 0, vi 6]) [tblF]) :
    ACalls Tryz.prog 161 [vi 2, .ptr 0 0, .sl none 1 (rowsB (A ++ ms.map defP)), vi (A.length : Int)] [tblF] R := by
  refine acalls_of_xwp (an := an161) tab_ok Tryz.func161 ?_
  have hPl : (A ++ ms.map defP).length = A.length + ms.length := by simp
  have hel : ∀ (i : Nat) (hi : i < ms.length) (hj : A.length + i < (A ++ ms.map defP).length), (A ++ ms.map defP)[A.length + i] = defP ms[i] := fun i hi hj => by
    rw [List.getElem_append_right (by omega)]
    simp
  generalize A ++ ms.map defP = P at hPl hel ⊢
  have hrl := rowsB_length P
  (conv => whnf)
  refine skn_2 ?_
  (conv => whnf)
  refine br_false (decide_eq_false (by omega)) ?_
  (conv => whnf)
  refine tCopy_nil ?_
  (conv => whnf)
  by_cases hmne : ms = []
  · subst hmne
    simp only [List.length_nil, Nat.add_zero] at hPl
    refine LoopP.step ?_
    (conv => whnf)
    refine br_false (decide_eq_false (by omega)) ?_
    (conv => whnf)
    refine br_true (beq_iff_eq.2 (by omega)) ?_
    (conv => whnf)
    exact h
  obtain ⟨s, ms, rfl⟩ := List.exists_cons_of_ne_nil hmne
  simp only [List.length_cons] at hml
  have hpl2 : (s :: ms).length = ms.length + 1 := rfl
  refine LoopP.step ?_
  have hp := hel 0 (by simp) (by omega)
  simp only [Nat.add_zero, List.getElem_cons_zero] at hp
  obtain ⟨ns, n1, n2⟩ := str_of s
  have hbl : (byteEls (defP s)).length = s.length + 1 := by rw [bel_length]; rfl
  (conv => whnf)
  refine br_true (decide_eq_true (by omega)) ?_
  (conv => whnf); (repeat ((with_reducible refine must_intro ?_ ?_); exact decide_eq_true (by omega); (conv => whnf)))
  refine idxK_map_intro (show ((A.length : Int) : Int).toNat < P.length by omega) ?_
  rw [show P[((A.length : Int) : Int).toNat]'(by omega) = defP s from hp]
  (conv => whnf)
  refine br_true (decide_eq_true (by omega)) ?_
  (conv => whnf); (repeat ((with_reducible refine must_intro ?_ ?_); exact decide_eq_true (by omega); (conv => whnf)))
  refine idxK_map_intro (show ((A.length : Int) : Int).toNat < P.length by omega) ?_
  rw [show P[((A.length : Int) : Int).toNat]'(by omega) = defP s from hp]
  (conv => whnf); (repeat ((with_reducible refine must_intro ?_ ?_); exact decide_eq_true (by omega); (conv => whnf)))
  refine idxK_map_intro (show ((A.length : Int) : Int).toNat < P.length by omega) ?_
  rw [show P[((A.length : Int) : Int).toNat]'(by omega) = defP s from hp]
  (conv => whnf); (repeat ((with_reducible refine must_intro ?_ ?_); exact decide_eq_true (by omega); (conv => whnf)))
  refine ⟨ns, (by rw [tail_0]; exact n1), ?_⟩
  rw [n2]
  (conv => whnf)
  refine ID_new s ?_
  (conv => whnf)
  rw [i64_nat (by omega)]
  refine LoopP.ind2 (fun (i : Nat) (T : List B) => [(9, vi ((A.length + i : Nat) : Int))]) (fun i T => [(0, tblF), (nameOf 8, rO 0 [] 0 (.val (.slice none 0 0)) 0 0 []), (freshN 34 0, tblO (freshN 64 0) (freshN 64 1) T), (freshN 64 0, tblR T), (freshN 64 1, tblM T)]) (fun i _ => (s :: ms).length - i) (fun i T => i ≤ (s :: ms).length ∧ 1 ≤ i ∧ T.length ≤ i) 1 [s] rfl ⟨by simp, by omega, by simp⟩ ?_
  rintro i T ⟨h0, h1, hT⟩ IH
  (conv => whnf)
  by_cases hc : i < (s :: ms).length
  · have hp := hel i hc (by omega)
    have IH0 := IH (i + 1)
    clear IH
    generalize (s :: ms)[i] = s2 at hp
    obtain ⟨ns, n1, n2⟩ := str_of s2
    have hbl : (byteEls (defP s2)).length = s2.length + 1 := by rw [bel_length]; rfl
    refine br_true (decide_eq_true (by omega)) ?_
    (conv => whnf); (repeat ((with_reducible refine must_intro ?_ ?_); exact decide_eq_true (by omega); (conv => whnf)))
    refine idxK_map_intro (show (((A.length + i : Nat) : Int) : Int).toNat < P.length by omega) ?_
    rw [show P[(((A.length + i : Nat) : Int) : Int).toNat]'(by omega) = defP s2 from hp]
    (conv => whnf)
    refine br_true (decide_eq_true (by omega)) ?_
    (conv => whnf); (repeat ((with_reducible refine must_intro ?_ ?_); exact decide_eq_true (by omega); (conv => whnf)))
    refine idxK_map_intro (show (((A.length + i : Nat) : Int) : Int).toNat < P.length by omega) ?_
    rw [show P[(((A.length + i : Nat) : Int) : Int).toNat]'(by omega) = defP s2 from hp]
    (conv => whnf); (repeat ((with_reducible refine must_intro ?_ ?_); exact decide_eq_true (by omega); (conv => whnf)))
    refine idxK_map_intro (show (((A.length + i : Nat) : Int) : Int).toNat < P.length by omega) ?_
    rw [show P[(((A.length + i : Nat) : Int) : Int).toNat]'(by omega) = defP s2 from hp]
    (conv => whnf); (repeat ((with_reducible refine must_intro ?_ ?_); exact decide_eq_true (by omega); (conv => whnf)))
    refine ⟨ns, (by rw [tail_0]; exact n1), ?_⟩
    rw [n2]
    (conv => whnf)
    by_cases hs : s2 ∈ T
    · have IH := IH0 T ⟨by omega, by omega, by omega⟩ (by omega)
      refine ID_old T s2 hs fun j => ?_
      (conv => whnf)
      rw [i64_nat (by omega)]
      exact IH
    · have IH := IH0 (T ++ [s2]) ⟨by omega, by omega, by rw [List.length_append]; simp only [List.length_cons, List.length_nil]; omega⟩ (by omega)
      refine ID_more T s2 (by omega) hs fun j => ?_
      (conv => whnf)
      rw [i64_nat (by omega)]
      exact IH
  · refine br_false (decide_eq_false (by omega)) ?_
    (conv => whnf)
    refine br_true (beq_iff_eq.2 (by omega)) ?_
    (conv => whnf)
    exact h
theorem sGetEnd_2O (t : List B) (ht0 : t ≠ []) (htn : t.Nodup) (htl : t.length < 80000) (A ms : List B) (hA : A.length < 100000) (hml : ms.length < 5000) {R} (h : R (.tup [zRec, vi 0, vi 6]) [tblO 1 2 t, tblR t, tblM t]) :
    ACalls Tryz.prog 161 [vi 2, .ptr 0 0, .sl none 1 (rowsB (A ++ ms.map defP)), vi (A.length : Int)] [tblO 1 2 t, tblR t, tblM t] R := by
  refine acalls_of_xwp (an := an161) tab_ok Tryz.func161 ?_
  have hPl : (A ++ ms.map defP).length = A.length + ms.length := by simp
  have hel : ∀ (i : Nat) (hi : i < ms.length) (hj : A.length + i < (A ++ ms.map defP).length), (A ++ ms.map defP)[A.length + i] = defP ms[i] := fun i hi hj => by
    rw [List.getElem_append_right (by omega)]
    simp
  generalize A ++ ms.map defP = P at hPl hel ⊢
  have hrl := rowsB_length P
  (conv => whnf)
  refine skn_2 ?_
  (conv => whnf)
  refine br_false (decide_eq_false (by omega)) ?_
  (conv => whnf)
  refine tCopy_calls t ht0 htn (by omega) ?_
  (conv => whnf)
  refine LoopP.ind2 (fun (i : Nat) (T : List B) => [(9, vi ((A.length + i : Nat) : Int))]) (fun i T => [(0, tblO 1 2 t), (1, tblR t), (2, tblM t), (nameOf 8, rO 0 [] 0 (.val (.slice none 0 0)) 0 0 []), (freshN 34 0, tblO (freshN 34 1) (freshN 34 2) T), (freshN 34 1, tblR T), (freshN 34 2, tblM T)]) (fun i _ => ms.length - i) (fun i T => i ≤ ms.length ∧ T.length ≤ t.length + i) 0 t rfl ⟨by omega, by omega⟩ ?_
  rintro i T ⟨h0, hT⟩ IH
  (conv => whnf)
  by_cases hc : i < ms.length
  · have hp := hel i hc (by omega)
    have IH0 := IH (i + 1)
    clear IH
    generalize ms[i] = s at hp
    obtain ⟨ns, n1, n2⟩ := str_of s
    have hbl : (byteEls (defP s)).length = s.length + 1 := by rw [bel_length]; rfl
    refine br_true (decide_eq_true (by omega)) ?_
    (conv => whnf); (repeat ((with_reducible refine must_intro ?_ ?_); exact decide_eq_true (by omega); (conv => whnf)))
    refine idxK_map_intro (show (((A.length + i : Nat) : Int) : Int).toNat < P.length by omega) ?_
    rw [show P[(((A.length + i : Nat) : Int) : Int).toNat]'(by omega) = defP s from hp]
    (conv => whnf)
    refine br_true (decide_eq_true (by omega)) ?_
    (conv => whnf); (repeat ((with_reducible refine must_intro ?_ ?_); exact decide_eq_true (by omega); (conv => whnf)))
    refine idxK_map_intro (show (((A.length + i : Nat) : Int) : Int).toNat < P.length by omega) ?_
    rw [show P[(((A.length + i : Nat) : Int) : Int).toNat]'(by omega) = defP s from hp]
    (conv => whnf); (repeat ((with_reducible refine must_intro ?_ ?_); exact decide_eq_true (by omega); (conv => whnf)))
    refine idxK_map_intro (show (((A.length + i : Nat) : Int) : Int).toNat < P.length by omega) ?_
    rw [show P[(((A.length + i : Nat) : Int) : Int).toNat]'(by omega) = defP s from hp]
    (conv => whnf); (repeat ((with_reducible refine must_intro ?_ ?_); exact decide_eq_true (by omega); (conv => whnf)))
    refine ⟨ns, (by rw [tail_0]; exact n1), ?_⟩
    rw [n2]
    (conv => whnf)
    by_cases hs : s ∈ T
    · have IH := IH0 T ⟨by omega, by omega⟩ (by omega)
      refine ID_old T s hs fun j => ?_
      (conv => whnf)
      rw [i64_nat (by omega)]
      exact IH
    · have IH := IH0 (T ++ [s]) ⟨by omega, by rw [List.length_append]; simp only [List.length_cons, List.length_nil]; omega⟩ (by omega)
      refine ID_more T s (by omega) hs fun j => ?_
      (conv => whnf)
      rw [i64_nat (by omega)]
      exact IH
  · refine br_false (decide_eq_false (by omega)) ?_
    (conv => whnf)
    refine br_true (beq_iff_eq.2 (by omega)) ?_
    (conv => whnf)
    exact h
theorem sGetEnd_3F (A ms : List B) (hA : A.length < 100000) (hml : ms.length < 5000) {R} (h : R (.tup [zRec, vi 0, vi 6]) [tblF]) :
    ACalls Tryz.prog 161 [vi 3, .ptr 0 0, .sl none 1 (rowsB (A ++ ms.map defP)), vi (A.length : Int)] [tblF] R := by
  refine acalls_of_xwp (an := an161) tab_ok Tryz.func161 ?_
  have hPl : (A ++ ms.map defP).length = A.length + ms.length := by simp
  have hel : ∀ (i : Nat) (hi : i < ms.length) (hj : A.length + i < (A ++ ms.map defP).length), (A ++ ms.map defP)[A.length + i] = defP ms[i] := fun i hi hj => by
    rw [List.getElem_append_right (by omega)]
    simp
  generalize A ++ ms.map defP = P at hPl hel ⊢
  have hrl := rowsB_length P
  (conv => whnf)
  refine skn_3 ?_
  (conv => whnf)
  refine br_false (decide_eq_false (by omega)) ?_
  (conv => whnf)
  refine tCopy_nil ?_
  (conv => whnf)
  by_cases hmne : ms = []
  · subst hmne
    simp only [List.length_nil, Nat.add_zero] at hPl
    refine LoopP.step ?_
    (conv => whnf)
    refine br_false (decide_eq_false (by omega)) ?_
    (conv => whnf)
    refine br_true (beq_iff_eq.2 (by omega)) ?_
    (conv => whnf)
    exact h
  obtain ⟨s, ms, rfl⟩ := List.exists_cons_of_ne_nil hmne
  simp only [List.length_cons] at hml
  have hpl2 : (s :: ms).length = ms.length + 1 := rfl
  refine LoopP.step ?_
  have hp := hel 0 (by simp) (by omega)
  simp only [Nat.add_zero, List.getElem_cons_zero] at hp
  obtain ⟨ns, n1, n2⟩ := str_of s
  have hbl : (byteEls (defP s)).length = s.length + 1 := by rw [bel_length]; rfl
  (conv => whnf)
  refine br_true (decide_eq_true (by omega)) ?_
  (conv => whnf); (repeat ((with_reducible refine must_intro ?_ ?_); exact decide_eq_true (by omega); (conv => whnf)))
  refine idxK_map_intro (show ((A.length : Int) : Int).toNat < P.length by omega) ?_
  rw [show P[((A.length : Int) : Int).toNat]'(by omega) = defP s from hp]
  (conv => whnf)
  refine br_true (decide_eq_true (by omega)) ?_
  (conv => whnf); (repeat ((with_reducible refine must_intro ?_ ?_); exact decide_eq_true (by omega); (conv => whnf)))
  refine idxK_map_intro (show ((A.length : Int) : Int).toNat < P.length by omega) ?_
  rw [show P[((A.length : Int) : Int).toNat]'(by omega) = defP s from hp]
  (conv => whnf); (repeat ((with_reducible refine must_intro ?_ ?_); exact decide_eq_true (by omega); (conv => whnf)))
  refine idxK_map_intro (show ((A.length : Int) : Int).toNat < P.length by omega) ?_
  rw [show P[((A.length : Int) : Int).toNat]'(by omega) = defP s from hp]
  (conv => whnf); (repeat ((with_reducible refine must_intro ?_ ?_); exact decide_eq_true (by omega); (conv => whnf)))
  refine ⟨ns, (by rw [tail_0]; exact n1), ?_⟩
  rw [n2]
  (conv => whnf)
  refine ID_new s ?_
  (conv => whnf)
  rw [i64_nat (by omega)]
  refine LoopP.ind2 (fun (i : Nat) (T : List B) => [(9, vi ((A.length + i : Nat) : Int))]) (fun i T => [(0, tblF), (nameOf 8, rO 0 [] 0 (.val (.slice none 0 0)) 0 0 []), (freshN 34 0, tblO (freshN 64 0) (freshN 64 1) T), (freshN 64 0, tblR T), (freshN 64 1, tblM T)]) (fun i _ => (s :: ms).length - i) (fun i T => i ≤ (s :: ms).length ∧ 1 ≤ i ∧ T.length ≤ i) 1 [s] rfl ⟨by simp, by omega, by simp⟩ ?_
  rintro i T ⟨h0, h1, hT⟩ IH
  (conv => whnf)
  by_cases hc : i < (s :: ms).length
  · have hp := hel i hc (by omega)
    have IH0 := IH (i + 1)
    clear IH
    generalize (s :: ms)[i] = s2 at hp
    obtain ⟨ns, n1, n2⟩ := str_of s2
    have hbl : (byteEls (defP s2)).length = s2.length + 1 := by rw [bel_length]; rfl
    refine br_true (decide_eq_true (by omega)) ?_
    (conv => whnf); (repeat ((with_reducible refine must_intro ?_ ?_); exact decide_eq_true (by omega); (conv => whnf)))
    refine idxK_map_intro (show (((A.length + i : Nat) : Int) : Int).toNat < P.length by omega) ?_
    rw [show P[(((A.length + i : Nat) : Int) : Int).toNat]'(by omega) = defP s2 from hp]
    (conv => whnf)
    refine br_true (decide_eq_true (by omega)) ?_
    (conv => whnf); (repeat ((with_reducible refine must_intro ?_ ?_); exact decide_eq_true (by omega); (conv => whnf)))
    refine idxK_map_intro (show (((A.length + i : Nat) : Int) : Int).toNat < P.length by omega) ?_
    rw [show P[(((A.length + i : Nat) : Int) : Int).toNat]'(by omega) = defP s2 from hp]
    (conv => whnf); (repeat ((with_reducible refine must_intro ?_ ?_); exact decide_eq_true (by omega); (conv => whnf)))
    refine idxK_map_intro (show (((A.length + i : Nat) : Int) : Int).toNat < P.length by omega) ?_
    rw [show P[(((A.length + i : Nat) : Int) : Int).toNat]'(by omega) = defP s2 from hp]
    (conv => whnf); (repeat ((with_reducible refine must_intro ?_ ?_); exact decide_eq_true (by omega); (conv => whnf)))
    refine ⟨ns, (by rw [tail_0]; exact n1), ?_⟩
    rw [n2]
    (conv => whnf)
    by_cases hs : s2 ∈ T
    · have IH := IH0 T ⟨by omega, by omega, by omega⟩ (by omega)
      refine ID_old T s2 hs fun j => ?_
      (conv => whnf)
      rw [i64_nat (by omega)]
      exact IH
    · have IH := IH0 (T ++ [s2]) ⟨by omega, by omega, by rw [List.length_append]; simp only [List.length_cons, List.length_nil]; omega⟩ (by omega)
      refine ID_more T s2 (by omega) hs fun j => ?_
      (conv => whnf)
      rw [i64_nat (by omega)]
      exact IH
  · refine br_false (decide_eq_false (by omega)) ?_
    (conv => whnf)
    refine br_true (beq_iff_eq.2 (by omega)) ?_
    (conv => whnf)
    exact h
theorem sGetEnd_3O (t : List B) (ht0 : t ≠ []) (htn : t.Nodup) (htl : t.length < 80000) (A ms : List B) (hA : A.length < 100000) (hml : ms.length < 5000) {R} (h : R (.tup [zRec, vi 0, vi 6]) [tblO 1 2 t, tblR t, tblM t]) :
    ACalls Tryz.prog 161 [vi 3, .ptr 0 0, .sl none 1 (rowsB (A ++ ms.map defP)), vi (A.length : Int)] [tblO 1 2 t, tblR t, tblM t] R := by
  refine acalls_of_xwp (an := an161) tab_ok Tryz.func161 ?_
  have hPl : (A ++ ms.map defP).length = A.length + ms.length := by simp
  have hel : ∀ (i : Nat) (hi : i < ms.length) (hj : A.length + i < (A ++ ms.map defP).length), (A ++ ms.map defP)[A.length + i] = defP ms[i] := fun i hi hj => by
    rw [List.getElem_append_right (by omega)]
    simp
  generalize A ++ ms.map defP = P at hPl hel ⊢
  have hrl := rowsB_length P
  (conv => whnf)
  refine skn_3 ?_
  (conv => whnf)
  refine br_false (decide_eq_false (by omega)) ?_
  (conv => whnf)
  refine tCopy_calls t ht0 htn (by omega) ?_
  (conv => whnf)
  refine LoopP.ind2 (fun (i : Nat) (T : List B) => [(9, vi ((A.length + i : Nat) : Int))]) (fun i T => [(0, tblO 1 2 t), (1, tblR t), (2, tblM t), (nameOf 8, rO 0 [] 0 (.val (.slice none 0 0)) 0 0 []), (freshN 34 0, tblO (freshN 34 1) (freshN 34 2) T), (freshN 34 1, tblR T), (freshN 34 2, tblM T)]) (fun i _ => ms.length - i) (fun i T => i ≤ ms.length ∧ T.length ≤ t.length + i) 0 t rfl ⟨by omega, by omega⟩ ?_
  rintro i T ⟨h0, hT⟩ IH
  (conv => whnf)
  by_cases hc : i < ms.length
  · have hp := hel i hc (by omega)
    have IH0 := IH (i + 1)
    clear IH
    generalize ms[i] = s at hp
    obtain ⟨ns, n1, n2⟩ := str_of s
    have hbl : (byteEls (defP s)).length = s.length + 1 := by rw [bel_length]; rfl
    refine br_true (decide_eq_true (by omega)) ?_
    (conv => whnf); (repeat ((with_reducible refine must_intro ?_ ?_); exact decide_eq_true (by omega); (conv => whnf)))
    refine idxK_map_intro (show (((A.length + i : Nat) : Int) : Int).toNat < P.length by omega) ?_
    rw [show P[(((A.length + i : Nat) : Int) : Int).toNat]'(by omega) = defP s from hp]
    (conv => whnf)
    refine br_true (decide_eq_true (by omega)) ?_
    (conv => whnf); (repeat ((with_reducible refine must_intro ?_ ?_); exact decide_eq_true (by omega); (conv => whnf)))
    refine idxK_map_intro (show (((A.length + i : Nat) : Int) : Int).toNat < P.length by omega) ?_
    rw [show P[(((A.length + i : Nat) : Int) : Int).toNat]'(by omega) = defP s from hp]
    (conv => whnf); (repeat ((with_reducible refine must_intro ?_ ?_); exact decide_eq_true (by omega); (conv => whnf)))
    refine idxK_map_intro (show (((A.length + i : Nat) : Int) : Int).toNat < P.length by omega) ?_
    rw [show P[(((A.length + i : Nat) : Int) : Int).toNat]'(by omega) = defP s from hp]
    (conv => whnf); (repeat ((with_reducible refine must_intro ?_ ?_); exact decide_eq_true (by omega); (conv => whnf)))
    refine ⟨ns, (by rw [tail_0]; exact n1), ?_⟩
    rw [n2]
    (conv => whnf)
    by_cases hs : s ∈ T
    · have IH := IH0 T ⟨by omega, by omega⟩ (by omega)
      refine ID_old T s hs fun j => ?_
      (conv => whnf)
      rw [i64_nat (by omega)]
      exact IH
    · have IH := IH0 (T ++ [s]) ⟨by omega, by rw [List.length_append]; simp only [List.length_cons, List.length_nil]; omega⟩ (by omega)
      refine ID_more T s (by omega) hs fun j => ?_
      (conv => whnf)
      rw [i64_nat (by omega)]
      exact IH
  · refine br_false (decide_eq_false (by omega)) ?_
    (conv => whnf)
    refine br_true (beq_iff_eq.2 (by omega)) ?_
    (conv => whnf)
    exact h
theorem sGet_1F (r : Rc) (hm : mayP 1 r = true) (A Q : List B) (hA : A.length < 100000) (hQ : Q.length < 100000) {R} (h : R (.tup [.agg r.enc, vi ((A.length + (payP 1 [] r).length : Nat) : Int), vi 0]) [tblF]) :
    ACalls Tryz.prog 161 [vi 1, .ptr 0 0, .sl none 1 (rowsB (A ++ payP 1 [] r ++ Q)), vi (A.length : Int)] [tblF] R := by
  have hM := may_all hm
  have hd16 := hM.deps
  refine acalls_of_xwp (an := an161) tab_ok Tryz.func161 ?_
  have hTl := addT_len 1 [] r
  obtain ⟨ms, hms⟩ : ∃ ms, ms = ([] : List B) := ⟨_, rfl⟩
  have hY : payP 1 [] r = ms.map defP ++ [lastW 1 (addT 1 [] r) r] := by rw [hms]; simp [payP, defsP]
  have hml : ms.length ≤ 18 := by
    rw [hms]
    simp
  have hLl := lastW_len (v := 1) (t := addT 1 [] r) hM (by simp [addT])
  obtain ⟨L, hLe⟩ : ∃ L, L = lastW 1 (addT 1 [] r) r := ⟨_, rfl⟩
  rw [← hLe] at hLl hY
  have hLne : 0 < L.length := hLl.1
  have hL0 : (((L[0]).toNat : Int) == 0) = false := by
    have : L[0] = 1 ∨ L[0] = 2 := by
      subst hLe
      unfold lastW
      split <;> simp
    rcases this with e | e <;> rw [e] <;> rfl
  have hLb := bel_length L
  have hYl : (payP 1 [] r).length = ms.length + 1 := by rw [hY]; simp
  have hPl : (A ++ payP 1 [] r ++ Q).length = A.length + ms.length + 1 + Q.length := by simp [hYl]; omega
  have hel : ∀ (i : Nat) (hi : i < ms.length) (hj : A.length + i < (A ++ payP 1 [] r ++ Q).length), (A ++ payP 1 [] r ++ Q)[A.length + i] = defP ms[i] := fun i hi hj => by
    rw [List.getElem_append_left (by simp [hYl]; omega), List.getElem_append_right (by omega), List.getElem_of_eq hY, List.getElem_append_left (by simp; omega)]
    simp
  have hlast : ∀ (hj : A.length + ms.length < (A ++ payP 1 [] r ++ Q).length), (A ++ payP 1 [] r ++ Q)[A.length + ms.length] = L := fun hj => by
    rw [List.getElem_append_left (by simp [hYl]), List.getElem_append_right (by omega), List.getElem_of_eq hY, List.getElem_append_right (by simp)]
    simp
  have eSl : List.drop A.length (List.take (A.length + ms.length + 1) (rowsB (A ++ payP 1 [] r ++ Q))) = rowsB (payP 1 [] r) := by
    rw [rowsB_append, rowsB_append, List.take_append_of_le_length (by simp [rowsB_length, hYl]; omega), List.take_of_length_le (by simp [rowsB_length, hYl]; omega), List.drop_append_of_le_length (by rw [rowsB_length]; exact Nat.le_refl _), List.drop_of_length_le (by rw [rowsB_length]; exact Nat.le_refl _), List.nil_append]
  have hPut := @sPut_1 r hm
  rw [hYl] at h
  generalize hYe : payP 1 [] r = Y at hY hYl hel hlast eSl hPl hPut ⊢
  generalize A ++ Y ++ Q = P at hel hlast eSl hPl ⊢
  have hlast := hlast (by omega)
  have hrl := rowsB_length P
  rw [addT_one] at hLe
  have hRL := @rlast_1 r hM
  rw [← hLe] at hRL
  have hms0 := hms
  clear hY hYe
  (conv => whnf)
  refine skn_1 ?_
  (conv => whnf)
  refine br_false (decide_eq_false (by omega)) ?_
  (conv => whnf)
  refine tCopy_nil ?_
  (conv => whnf)

  refine LoopP.step ?_
  simp only [hms0, List.length_nil, Nat.add_zero] at hlast eSl h hPl
  (conv => whnf)
  refine br_true (decide_eq_true (by omega)) ?_
  (conv => whnf); (repeat ((with_reducible refine must_intro ?_ ?_); exact decide_eq_true (by omega); (conv => whnf)))
  refine idxK_map_intro (show (A.length : Int).toNat < P.length by omega) ?_
  rw [show P[(A.length : Int).toNat]'(by omega) = L from hlast]
  (conv => whnf)
  refine br_true (decide_eq_true (by omega)) ?_
  (conv => whnf); (repeat ((with_reducible refine must_intro ?_ ?_); exact decide_eq_true (by omega); (conv => whnf)))
  refine idxK_map_intro (show (A.length : Int).toNat < P.length by omega) ?_
  rw [show P[(A.length : Int).toNat]'(by omega) = L from hlast]
  (conv => whnf); (repeat ((with_reducible refine must_intro ?_ ?_); exact decide_eq_true (by omega); (conv => whnf)))
  refine idxK_map_intro (show (0 : Int).toNat < L.length by simp; omega) ?_
  rw [show L[(0 : Int).toNat]'(by simp; omega) = L[0] from rfl]
  (conv => whnf)
  refine br_false hL0 ?_
  (conv => whnf)
  refine br_false (beq_eq_false_iff_ne.2 (by omega)) ?_
  (conv => whnf); (repeat ((with_reducible refine must_intro ?_ ?_); exact decide_eq_true (by omega); (conv => whnf)))
  refine idxK_map_intro (show (A.length : Int).toNat < P.length by omega) ?_
  rw [show P[(A.length : Int).toNat]'(by omega) = L from hlast]
  (conv => whnf)
  refine cNew_calls L (by omega) ?_
  (conv => whnf)
  refine hRL ?_
  (conv => whnf)
  rw [i64_nat (by omega)]
  refine tCopy_nil ?_
  (conv => whnf)
  refine hPut ?_
  (conv => whnf)
  refine must_intro (decide_eq_true (by omega)) ?_
  (conv => whnf)
  refine must_intro (decide_eq_true (by omega)) ?_
  (conv => whnf)
  refine (show ACalls Tryz.prog 195 [.sl none 1 (rowsB Y), .sl none 1 (List.drop A.length (List.take (A.length + 1) (rowsB P))), .fn (.func 196) [] []] [] _ from ?_)
  rw [eSl]
  refine EqualB_same Y (by omega) ?_
  (conv => whnf)
  refine hPut ?_
  (conv => whnf)
  exact h
theorem sGet_2F (r : Rc) (hm : mayP 2 r = true) (A Q : List B) (hA : A.length < 100000) (hQ : Q.length < 100000) {R} (h : R (.tup [.agg r.enc, vi ((A.length + (payP 2 [] r).length : Nat) : Int), vi 0]) [tblO 1 2 (addT 2 [] r), tblR (addT 2 [] r), tblM (addT 2 [] r)]) :
    ACalls Tryz.prog 161 [vi 2, .ptr 0 0, .sl none 1 (rowsB (A ++ payP 2 [] r ++ Q)), vi (A.length : Int)] [tblF] R := by
  have hM := may_all hm
  have hd16 := hM.deps
  refine acalls_of_xwp (an := an161) tab_ok Tryz.func161 ?_
  have hTl := addT_len 2 [] r
  obtain ⟨ms, hms⟩ : ∃ ms, ms = newsP [] (namesR r) := ⟨_, rfl⟩
  have hY : payP 2 [] r = ms.map defP ++ [lastW 2 (addT 2 [] r) r] := by rw [hms]; simp [payP, defsP]
  have hml : ms.length ≤ 18 := by
    rw [hms]
    have := news_len (namesR r) []
    have := namesR_len r
    omega
  have hfin : ms.foldl tblP [] = addT 2 [] r := by rw [hms, news_addAll, addT_more (by decide)]
  have hT1 := addT_mem (v := 2) (by decide) [] r (x := r.target) (by simp [textsR])
  have hT2 : ∀ d ∈ r.deps, d.name ∈ addT 2 [] r := fun d hd => addT_mem (by decide) [] r (List.mem_cons_of_mem _ (List.mem_append_left _ (List.mem_map_of_mem hd)))
  have hT3 : r.tag ≠ [] → r.tag ∈ addT 2 [] r := fun e => addT_mem (by decide) [] r (by simp [textsR, e])
  have hmne : ms ≠ [] := fun e => by
    rw [e] at hfin
    exact addT_ne (v := 2) (by decide) [] r hfin.symm
  have hLl := lastW_len (v := 2) (t := addT 2 [] r) hM (by simp at hTl; omega)
  obtain ⟨L, hLe⟩ : ∃ L, L = lastW 2 (addT 2 [] r) r := ⟨_, rfl⟩
  rw [← hLe] at hLl hY
  have hLne : 0 < L.length := hLl.1
  have hL0 : (((L[0]).toNat : Int) == 0) = false := by
    have : L[0] = 1 ∨ L[0] = 2 := by
      subst hLe
      unfold lastW
      split <;> simp
    rcases this with e | e <;> rw [e] <;> rfl
  have hLb := bel_length L
  have hYl : (payP 2 [] r).length = ms.length + 1 := by rw [hY]; simp
  have hPl : (A ++ payP 2 [] r ++ Q).length = A.length + ms.length + 1 + Q.length := by simp [hYl]; omega
  have hel : ∀ (i : Nat) (hi : i < ms.length) (hj : A.length + i < (A ++ payP 2 [] r ++ Q).length), (A ++ payP 2 [] r ++ Q)[A.length + i] = defP ms[i] := fun i hi hj => by
    rw [List.getElem_append_left (by simp [hYl]; omega), List.getElem_append_right (by omega), List.getElem_of_eq hY, List.getElem_append_left (by simp; omega)]
    simp
  have hlast : ∀ (hj : A.length + ms.length < (A ++ payP 2 [] r ++ Q).length), (A ++ payP 2 [] r ++ Q)[A.length + ms.length] = L := fun hj => by
    rw [List.getElem_append_left (by simp [hYl]), List.getElem_append_right (by omega), List.getElem_of_eq hY, List.getElem_append_right (by simp)]
    simp
  have eSl : List.drop A.length (List.take (A.length + ms.length + 1) (rowsB (A ++ payP 2 [] r ++ Q))) = rowsB (payP 2 [] r) := by
    rw [rowsB_append, rowsB_append, List.take_append_of_le_length (by simp [rowsB_length, hYl]; omega), List.take_of_length_le (by simp [rowsB_length, hYl]; omega), List.drop_append_of_le_length (by rw [rowsB_length]; exact Nat.le_refl _), List.drop_of_length_le (by rw [rowsB_length]; exact Nat.le_refl _), List.nil_append]
  have hPut := @sPut_2F r hm
  rw [hYl] at h
  generalize hYe : payP 2 [] r = Y at hY hYl hel hlast eSl hPl hPut ⊢
  generalize A ++ Y ++ Q = P at hel hlast eSl hPl ⊢
  have hlast := hlast (by omega)
  have hrl := rowsB_length P
  generalize addT 2 [] r = U at h hTl hT1 hT2 hT3 hLe hfin hPut
  have hRL := @rlast_2 r U hM (by simp at hTl; omega) hT1 hT2 hT3
  rw [← hLe] at hRL
  clear hms hY hYe
  (conv => whnf)
  refine skn_2 ?_
  (conv => whnf)
  refine br_false (decide_eq_false (by omega)) ?_
  (conv => whnf)
  refine tCopy_nil ?_
  (conv => whnf)
  obtain ⟨s, ms, rfl⟩ := List.exists_cons_of_ne_nil hmne
  refine LoopP.step ?_
  have hp := hel 0 (by simp) (by omega)
  simp only [Nat.add_zero, List.getElem_cons_zero] at hp
  obtain ⟨ns, n1, n2⟩ := str_of s
  have hbl : (byteEls (defP s)).length = s.length + 1 := by rw [bel_length]; rfl
  (conv => whnf)
  refine br_true (decide_eq_true (by omega)) ?_
  (conv => whnf); (repeat ((with_reducible refine must_intro ?_ ?_); exact decide_eq_true (by omega); (conv => whnf)))
  refine idxK_map_intro (show ((A.length : Int) : Int).toNat < P.length by omega) ?_
  rw [show P[((A.length : Int) : Int).toNat]'(by omega) = defP s from hp]
  (conv => whnf)
  refine br_true (decide_eq_true (by omega)) ?_
  (conv => whnf); (repeat ((with_reducible refine must_intro ?_ ?_); exact decide_eq_true (by omega); (conv => whnf)))
  refine idxK_map_intro (show ((A.length : Int) : Int).toNat < P.length by omega) ?_
  rw [show P[((A.length : Int) : Int).toNat]'(by omega) = defP s from hp]
  (conv => whnf); (repeat ((with_reducible refine must_intro ?_ ?_); exact decide_eq_true (by omega); (conv => whnf)))
  refine idxK_map_intro (show ((A.length : Int) : Int).toNat < P.length by omega) ?_
  rw [show P[((A.length : Int) : Int).toNat]'(by omega) = defP s from hp]
  (conv => whnf); (repeat ((with_reducible refine must_intro ?_ ?_); exact decide_eq_true (by omega); (conv => whnf)))
  refine ⟨ns, (by rw [tail_0]; exact n1), ?_⟩
  rw [n2]
  (conv => whnf)
  refine ID_new s ?_
  (conv => whnf)
  rw [i64_nat (by omega)]
  refine LoopP.ind2 (fun (i : Nat) (T : List B) => [(9, vi ((A.length + i : Nat) : Int))]) (fun i T => [(0, tblF), (nameOf 8, rO 0 [] 0 (.val (.slice none 0 0)) 0 0 []), (freshN 34 0, tblO (freshN 64 0) (freshN 64 1) T), (freshN 64 0, tblR T), (freshN 64 1, tblM T)]) (fun i _ => (s :: ms).length - i) (fun i T => i ≤ (s :: ms).length ∧ 1 ≤ i ∧ T.length ≤ i ∧ T = ((s :: ms).take i).foldl tblP []) 1 [s] rfl ⟨by simp, by omega, by simp, by simp [tblP]⟩ ?_
  rintro i T ⟨h0, h1, hT, hTe⟩ IH
  (conv => whnf)
  by_cases hc : i < (s :: ms).length
  · have hp := hel i hc (by omega)
    have IH0 := IH (i + 1)
    clear IH
    have hTs : tblP T (s :: ms)[i] = ((s :: ms).take (i + 1)).foldl tblP [] := by
      rw [List.take_succ_eq_append_getElem hc, List.foldl_append, ← hTe]
      rfl
    generalize (s :: ms)[i] = s2 at hp hTs
    obtain ⟨ns, n1, n2⟩ := str_of s2
    have hbl : (byteEls (defP s2)).length = s2.length + 1 := by rw [bel_length]; rfl
    refine br_true (decide_eq_true (by omega)) ?_
    (conv => whnf); (repeat ((with_reducible refine must_intro ?_ ?_); exact decide_eq_true (by omega); (conv => whnf)))
    refine idxK_map_intro (show (((A.length + i : Nat) : Int) : Int).toNat < P.length by omega) ?_
    rw [show P[(((A.length + i : Nat) : Int) : Int).toNat]'(by omega) = defP s2 from hp]
    (conv => whnf)
    refine br_true (decide_eq_true (by omega)) ?_
    (conv => whnf); (repeat ((with_reducible refine must_intro ?_ ?_); exact decide_eq_true (by omega); (conv => whnf)))
    refine idxK_map_intro (show (((A.length + i : Nat) : Int) : Int).toNat < P.length by omega) ?_
    rw [show P[(((A.length + i : Nat) : Int) : Int).toNat]'(by omega) = defP s2 from hp]
    (conv => whnf); (repeat ((with_reducible refine must_intro ?_ ?_); exact decide_eq_true (by omega); (conv => whnf)))
    refine idxK_map_intro (show (((A.length + i : Nat) : Int) : Int).toNat < P.length by omega) ?_
    rw [show P[(((A.length + i : Nat) : Int) : Int).toNat]'(by omega) = defP s2 from hp]
    (conv => whnf); (repeat ((with_reducible refine must_intro ?_ ?_); exact decide_eq_true (by omega); (conv => whnf)))
    refine ⟨ns, (by rw [tail_0]; exact n1), ?_⟩
    rw [n2]
    (conv => whnf)
    by_cases hs : s2 ∈ T
    · have IH := IH0 T ⟨by omega, by omega, by omega, by rw [← hTs, tblP_some hs]⟩ (by omega)
      refine ID_old T s2 hs fun j => ?_
      (conv => whnf)
      rw [i64_nat (by omega)]
      exact IH
    · have IH := IH0 (T ++ [s2]) ⟨by omega, by omega, by rw [List.length_append]; simp only [List.length_cons, List.length_nil]; omega, by rw [← hTs, tblP_none hs]⟩ (by omega)
      refine ID_more T s2 (by omega) hs fun j => ?_
      (conv => whnf)
      rw [i64_nat (by omega)]
      exact IH
  · have hi : i = (s :: ms).length := by omega
    subst hi
    rw [List.take_length, hfin] at hTe
    subst hTe
    clear IH
    refine br_true (decide_eq_true (by omega)) ?_
    (conv => whnf); (repeat ((with_reducible refine must_intro ?_ ?_); exact decide_eq_true (by omega); (conv => whnf)))
    refine idxK_map_intro (show ((A.length + (s :: ms).length : Nat) : Int).toNat < P.length by omega) ?_
    rw [show P[((A.length + (s :: ms).length : Nat) : Int).toNat]'(by omega) = L from hlast]
    (conv => whnf)
    refine br_true (decide_eq_true (by omega)) ?_
    (conv => whnf); (repeat ((with_reducible refine must_intro ?_ ?_); exact decide_eq_true (by omega); (conv => whnf)))
    refine idxK_map_intro (show ((A.length + (s :: ms).length : Nat) : Int).toNat < P.length by omega) ?_
    rw [show P[((A.length + (s :: ms).length : Nat) : Int).toNat]'(by omega) = L from hlast]
    (conv => whnf); (repeat ((with_reducible refine must_intro ?_ ?_); exact decide_eq_true (by omega); (conv => whnf)))
    refine idxK_map_intro (show (0 : Int).toNat < L.length by simp; omega) ?_
    rw [show L[(0 : Int).toNat]'(by simp; omega) = L[0] from rfl]
    (conv => whnf)
    refine br_false hL0 ?_
    (conv => whnf)
    refine br_false (beq_eq_false_iff_ne.2 (by omega)) ?_
    (conv => whnf); (repeat ((with_reducible refine must_intro ?_ ?_); exact decide_eq_true (by omega); (conv => whnf)))
    refine idxK_map_intro (show ((A.length + (s :: ms).length : Nat) : Int).toNat < P.length by omega) ?_
    rw [show P[((A.length + (s :: ms).length : Nat) : Int).toNat]'(by omega) = L from hlast]
    (conv => whnf)
    refine cNew_calls L (by omega) ?_
    (conv => whnf)
    refine hRL ?_
    (conv => whnf)
    rw [i64_nat (by omega)]
    refine tCopy_nil ?_
    (conv => whnf)
    refine hPut ?_
    (conv => whnf)
    refine must_intro (decide_eq_true (by omega)) ?_
    (conv => whnf)
    refine must_intro (decide_eq_true (by omega)) ?_
    (conv => whnf)
    refine (show ACalls Tryz.prog 195 [.sl none 1 (rowsB Y), .sl none 1 (List.drop A.length (List.take (A.length + (s :: ms).length + 1) (rowsB P))), .fn (.func 196) [] []] [] _ from ?_)
    rw [eSl]
    refine EqualB_same Y (by omega) ?_
    (conv => whnf)
    refine hPut ?_
    (conv => whnf)
    exact h
theorem sGet_2O (r : Rc) (hm : mayP 2 r = true) (t : List B) (ht0 : t ≠ []) (htn : t.Nodup) (htl : t.length < 80000) (A Q : List B) (hA : A.length < 100000) (hQ : Q.length < 100000) {R} (h : R (.tup [.agg r.enc, vi ((A.length + (payP 2 t r).length : Nat) : Int), vi 0]) [tblO 1 2 (addT 2 t r), tblR (addT 2 t r), tblM (addT 2 t r)]) :
    ACalls Tryz.prog 161 [vi 2, .ptr 0 0, .sl none 1 (rowsB (A ++ payP 2 t r ++ Q)), vi (A.length : Int)] [tblO 1 2 t, tblR t, tblM t] R := by
  have hM := may_all hm
  have hd16 := hM.deps
  refine acalls_of_xwp (an := an161) tab_ok Tryz.func161 ?_
  have hTl := addT_len 2 t r
  obtain ⟨ms, hms⟩ : ∃ ms, ms = newsP t (namesR r) := ⟨_, rfl⟩
  have hY : payP 2 t r = ms.map defP ++ [lastW 2 (addT 2 t r) r] := by rw [hms]; simp [payP, defsP]
  have hml : ms.length ≤ 18 := by
    rw [hms]
    have := news_len (namesR r) t
    have := namesR_len r
    omega
  have hfin : ms.foldl tblP t = addT 2 t r := by rw [hms, news_addAll, addT_more (by decide)]
  have hT1 := addT_mem (v := 2) (by decide) t r (x := r.target) (by simp [textsR])
  have hT2 : ∀ d ∈ r.deps, d.name ∈ addT 2 t r := fun d hd => addT_mem (by decide) t r (List.mem_cons_of_mem _ (List.mem_append_left _ (List.mem_map_of_mem hd)))
  have hT3 : r.tag ≠ [] → r.tag ∈ addT 2 t r := fun e => addT_mem (by decide) t r (by simp [textsR, e])
  have hLl := lastW_len (v := 2) (t := addT 2 t r) hM (by omega)
  obtain ⟨L, hLe⟩ : ∃ L, L = lastW 2 (addT 2 t r) r := ⟨_, rfl⟩
  rw [← hLe] at hLl hY
  have hLne : 0 < L.length := hLl.1
  have hL0 : (((L[0]).toNat : Int) == 0) = false := by
    have : L[0] = 1 ∨ L[0] = 2 := by
      subst hLe
      unfold lastW
      split <;> simp
    rcases this with e | e <;> rw [e] <;> rfl
  have hLb := bel_length L
  have hYl : (payP 2 t r).length = ms.length + 1 := by rw [hY]; simp
  have hPl : (A ++ payP 2 t r ++ Q).length = A.length + ms.length + 1 + Q.length := by simp [hYl]; omega
  have hel : ∀ (i : Nat) (hi : i < ms.length) (hj : A.length + i < (A ++ payP 2 t r ++ Q).length), (A ++ payP 2 t r ++ Q)[A.length + i] = defP ms[i] := fun i hi hj => by
    rw [List.getElem_append_left (by simp [hYl]; omega), List.getElem_append_right (by omega), List.getElem_of_eq hY, List.getElem_append_left (by simp; omega)]
    simp
  have hlast : ∀ (hj : A.length + ms.length < (A ++ payP 2 t r ++ Q).length), (A ++ payP 2 t r ++ Q)[A.length + ms.length] = L := fun hj => by
    rw [List.getElem_append_left (by simp [hYl]), List.getElem_append_right (by omega), List.getElem_of_eq hY, List.getElem_append_right (by simp)]
    simp
  have eSl : List.drop A.length (List.take (A.length + ms.length + 1) (rowsB (A ++ payP 2 t r ++ Q))) = rowsB (payP 2 t r) := by
    rw [rowsB_append, rowsB_append, List.take_append_of_le_length (by simp [rowsB_length, hYl]; omega), List.take_of_length_le (by simp [rowsB_length, hYl]; omega), List.drop_append_of_le_length (by rw [rowsB_length]; exact Nat.le_refl _), List.drop_of_length_le (by rw [rowsB_length]; exact Nat.le_refl _), List.nil_append]
  have hPut := @sPut_2O r t (by omega) hm
  rw [hYl] at h
  generalize hYe : payP 2 t r = Y at hY hYl hel hlast eSl hPl hPut ⊢
  generalize A ++ Y ++ Q = P at hel hlast eSl hPl ⊢
  have hlast := hlast (by omega)
  have hrl := rowsB_length P
  generalize addT 2 t r = U at h hTl hT1 hT2 hT3 hLe hfin hPut
  have hRL := @rlast_2 r U hM (by omega) hT1 hT2 hT3
  rw [← hLe] at hRL
  clear hms hY hYe
  (conv => whnf)
  refine skn_2 ?_
  (conv => whnf)
  refine br_false (decide_eq_false (by omega)) ?_
  (conv => whnf)
  refine tCopy_calls t ht0 htn (by omega) ?_
  (conv => whnf)
  refine LoopP.ind2 (fun (i : Nat) (T : List B) => [(9, vi ((A.length + i : Nat) : Int))]) (fun i T => [(0, tblO 1 2 t), (1, tblR t), (2, tblM t), (nameOf 8, rO 0 [] 0 (.val (.slice none 0 0)) 0 0 []), (freshN 34 0, tblO (freshN 34 1) (freshN 34 2) T), (freshN 34 1, tblR T), (freshN 34 2, tblM T)]) (fun i _ => ms.length - i) (fun i T => i ≤ ms.length ∧ T.length ≤ t.length + i ∧ T = (ms.take i).foldl tblP t) 0 t rfl ⟨by omega, by omega, by simp⟩ ?_
  rintro i T ⟨h0, hT, hTe⟩ IH
  (conv => whnf)
  by_cases hc : i < ms.length
  · have hp := hel i hc (by omega)
    have IH0 := IH (i + 1)
    clear IH
    have hTs : tblP T ms[i] = (ms.take (i + 1)).foldl tblP t := by
      rw [List.take_succ_eq_append_getElem hc, List.foldl_append, ← hTe]
      rfl
    generalize ms[i] = s at hp hTs
    obtain ⟨ns, n1, n2⟩ := str_of s
    have hbl : (byteEls (defP s)).length = s.length + 1 := by rw [bel_length]; rfl
    refine br_true (decide_eq_true (by omega)) ?_
    (conv => whnf); (repeat ((with_reducible refine must_intro ?_ ?_); exact decide_eq_true (by omega); (conv => whnf)))
    refine idxK_map_intro (show (((A.length + i : Nat) : Int) : Int).toNat < P.length by omega) ?_
    rw [show P[(((A.length + i : Nat) : Int) : Int).toNat]'(by omega) = defP s from hp]
    (conv => whnf)
    refine br_true (decide_eq_true (by omega)) ?_
    (conv => whnf); (repeat ((with_reducible refine must_intro ?_ ?_); exact decide_eq_true (by omega); (conv => whnf)))
    refine idxK_map_intro (show (((A.length + i : Nat) : Int) : Int).toNat < P.length by omega) ?_
    rw [show P[(((A.length + i : Nat) : Int) : Int).toNat]'(by omega) = defP s from hp]
    (conv => whnf); (repeat ((with_reducible refine must_intro ?_ ?_); exact decide_eq_true (by omega); (conv => whnf)))
    refine idxK_map_intro (show (((A.length + i : Nat) : Int) : Int).toNat < P.length by omega) ?_
    rw [show P[(((A.length + i : Nat) : Int) : Int).toNat]'(by omega) = defP s from hp]
    (conv => whnf); (repeat ((with_reducible refine must_intro ?_ ?_); exact decide_eq_true (by omega); (conv => whnf)))
    refine ⟨ns, (by rw [tail_0]; exact n1), ?_⟩
    rw [n2]
    (conv => whnf)
    by_cases hs : s ∈ T
    · have IH := IH0 T ⟨by omega, by omega, by rw [← hTs, tblP_some hs]⟩ (by omega)
      refine ID_old T s hs fun j => ?_
      (conv => whnf)
      rw [i64_nat (by omega)]
      exact IH
    · have IH := IH0 (T ++ [s]) ⟨by omega, by rw [List.length_append]; simp only [List.length_cons, List.length_nil]; omega, by rw [← hTs, tblP_none hs]⟩ (by omega)
      refine ID_more T s (by omega) hs fun j => ?_
      (conv => whnf)
      rw [i64_nat (by omega)]
      exact IH
  · have hi : i = ms.length := by omega
    subst hi
    rw [List.take_length, hfin] at hTe
    subst hTe
    clear IH
    refine br_true (decide_eq_true (by omega)) ?_
    (conv => whnf); (repeat ((with_reducible refine must_intro ?_ ?_); exact decide_eq_true (by omega); (conv => whnf)))
    refine idxK_map_intro (show ((A.length + ms.length : Nat) : Int).toNat < P.length by omega) ?_
    rw [show P[((A.length + ms.length : Nat) : Int).toNat]'(by omega) = L from hlast]
    (conv => whnf)
    refine br_true (decide_eq_true (by omega)) ?_
    (conv => whnf); (repeat ((with_reducible refine must_intro ?_ ?_); exact decide_eq_true (by omega); (conv => whnf)))
    refine idxK_map_intro (show ((A.length + ms.length : Nat) : Int).toNat < P.length by omega) ?_
    rw [show P[((A.length + ms.length : Nat) : Int).toNat]'(by omega) = L from hlast]
    (conv => whnf); (repeat ((with_reducible refine must_intro ?_ ?_); exact decide_eq_true (by omega); (conv => whnf)))
    refine idxK_map_intro (show (0 : Int).toNat < L.length by simp; omega) ?_
    rw [show L[(0 : Int).toNat]'(by simp; omega) = L[0] from rfl]
    (conv => whnf)
    refine br_false hL0 ?_
    (conv => whnf)
    refine br_false (beq_eq_false_iff_ne.2 (by omega)) ?_
    (conv => whnf); (repeat ((with_reducible refine must_intro ?_ ?_); exact decide_eq_true (by omega); (conv => whnf)))
    refine idxK_map_intro (show ((A.length + ms.length : Nat) : Int).toNat < P.length by omega) ?_
    rw [show P[((A.length + ms.length : Nat) : Int).toNat]'(by omega) = L from hlast]
    (conv => whnf)
    refine cNew_calls L (by omega) ?_
    (conv => whnf)
    refine hRL ?_
    (conv => whnf)
    rw [i64_nat (by omega)]
    refine tCopy_calls t ht0 htn (by omega) ?_
    (conv => whnf)
    refine hPut ?_
    (conv => whnf)
    refine must_intro (decide_eq_true (by omega)) ?_
    (conv => whnf)
    refine must_intro (decide_eq_true (by omega)) ?_
    (conv => whnf)
    refine (show ACalls Tryz.prog 195 [.sl none 1 (rowsB Y), .sl none 1 (List.drop A.length (List.take (A.length + ms.length + 1) (rowsB P))), .fn (.func 196) [] []] [] _ from ?_)
    rw [eSl]
    refine EqualB_same Y (by omega) ?_
    (conv => whnf)
    refine hPut ?_
    (conv => whnf)
    exact h
theorem sGet_3F (r : Rc) (hm : mayP 3 r = true) (A Q : List B) (hA : A.length < 100000) (hQ : Q.length < 100000) {R} (h : R (.tup [.agg r.enc, vi ((A.length + (payP 3 [] r).length : Nat) : Int), vi 0]) [tblO 1 2 (addT 3 [] r), tblR (addT 3 [] r), tblM (addT 3 [] r)]) :
    ACalls Tryz.prog 161 [vi 3, .ptr 0 0, .sl none 1 (rowsB (A ++ payP 3 [] r ++ Q)), vi (A.length : Int)] [tblF] R := by
  have hM := may_all hm
  have hd16 := hM.deps
  refine acalls_of_xwp (an := an161) tab_ok Tryz.func161 ?_
  have hTl := addT_len 3 [] r
  obtain ⟨ms, hms⟩ : ∃ ms, ms = newsP [] (namesR r) := ⟨_, rfl⟩
  have hY : payP 3 [] r = ms.map defP ++ [lastW 3 (addT 3 [] r) r] := by rw [hms]; simp [payP, defsP]
  have hml : ms.length ≤ 18 := by
    rw [hms]
    have := news_len (namesR r) []
    have := namesR_len r
    omega
  have hfin : ms.foldl tblP [] = addT 3 [] r := by rw [hms, news_addAll, addT_more (by decide)]
  have hT1 := addT_mem (v := 3) (by decide) [] r (x := r.target) (by simp [textsR])
  have hT2 : ∀ d ∈ r.deps, d.name ∈ addT 3 [] r := fun d hd => addT_mem (by decide) [] r (List.mem_cons_of_mem _ (List.mem_append_left _ (List.mem_map_of_mem hd)))
  have hT3 : r.tag ≠ [] → r.tag ∈ addT 3 [] r := fun e => addT_mem (by decide) [] r (by simp [textsR, e])
  have hmne : ms ≠ [] := fun e => by
    rw [e] at hfin
    exact addT_ne (v := 3) (by decide) [] r hfin.symm
  have hLl := lastW_len (v := 3) (t := addT 3 [] r) hM (by simp at hTl; omega)
  obtain ⟨L, hLe⟩ : ∃ L, L = lastW 3 (addT 3 [] r) r := ⟨_, rfl⟩
  rw [← hLe] at hLl hY
  have hLne : 0 < L.length := hLl.1
  have hL0 : (((L[0]).toNat : Int) == 0) = false := by
    have : L[0] = 1 ∨ L[0] = 2 := by
      subst hLe
      unfold lastW
      split <;> simp
    rcases this with e | e <;> rw [e] <;> rfl
  have hLb := bel_length L
  have hYl : (payP 3 [] r).length = ms.length + 1 := by rw [hY]; simp
  have hPl : (A ++ payP 3 [] r ++ Q).length = A.length + ms.length + 1 + Q.length := by simp [hYl]; omega
  have hel : ∀ (i : Nat) (hi : i < ms.length) (hj : A.length + i < (A ++ payP 3 [] r ++ Q).length), (A ++ payP 3 [] r ++ Q)[A.length + i] = defP ms[i] := fun i hi hj => by
    rw [List.getElem_append_left (by simp [hYl]; omega), List.getElem_append_right (by omega), List.getElem_of_eq hY, List.getElem_append_left (by simp; omega)]
    simp
  have hlast : ∀ (hj : A.length + ms.length < (A ++ payP 3 [] r ++ Q).length), (A ++ payP 3 [] r ++ Q)[A.length + ms.length] = L := fun hj => by
    rw [List.getElem_append_left (by simp [hYl]), List.getElem_append_right (by omega), List.getElem_of_eq hY, List.getElem_append_right (by simp)]
    simp
  have eSl : List.drop A.length (List.take (A.length + ms.length + 1) (rowsB (A ++ payP 3 [] r ++ Q))) = rowsB (payP 3 [] r) := by
    rw [rowsB_append, rowsB_append, List.take_append_of_le_length (by simp [rowsB_length, hYl]; omega), List.take_of_length_le (by simp [rowsB_length, hYl]; omega), List.drop_append_of_le_length (by rw [rowsB_length]; exact Nat.le_refl _), List.drop_of_length_le (by rw [rowsB_length]; exact Nat.le_refl _), List.nil_append]
  have hPut := @sPut_3F r hm
  rw [hYl] at h
  generalize hYe : payP 3 [] r = Y at hY hYl hel hlast eSl hPl hPut ⊢
  generalize A ++ Y ++ Q = P at hel hlast eSl hPl ⊢
  have hlast := hlast (by omega)
  have hrl := rowsB_length P
  generalize addT 3 [] r = U at h hTl hT1 hT2 hT3 hLe hfin hPut
  have hRL := @rlast_3 r U hM (by simp at hTl; omega) hT1 hT2 hT3
  rw [← hLe] at hRL
  clear hms hY hYe
  (conv => whnf)
  refine skn_3 ?_
  (conv => whnf)
  refine br_false (decide_eq_false (by omega)) ?_
  (conv => whnf)
  refine tCopy_nil ?_
  (conv => whnf)
  obtain ⟨s, ms, rfl⟩ := List.exists_cons_of_ne_nil hmne
  refine LoopP.step ?_
  have hp := hel 0 (by simp) (by omega)
  simp only [Nat.add_zero, List.getElem_cons_zero] at hp
  obtain ⟨ns, n1, n2⟩ := str_of s
  have hbl : (byteEls (defP s)).length = s.length + 1 := by rw [bel_length]; rfl
  (conv => whnf)
  refine br_true (decide_eq_true (by omega)) ?_
  (conv => whnf); (repeat ((with_reducible refine must_intro ?_ ?_); exact decide_eq_true (by omega); (conv => whnf)))
  refine idxK_map_intro (show ((A.length : Int) : Int).toNat < P.length by omega) ?_
  rw [show P[((A.length : Int) : Int).toNat]'(by omega) = defP s from hp]
  (conv => whnf)
  refine br_true (decide_eq_true (by omega)) ?_
  (conv => whnf); (repeat ((with_reducible refine must_intro ?_ ?_); exact decide_eq_true (by omega); (conv => whnf)))
  refine idxK_map_intro (show ((A.length : Int) : Int).toNat < P.length by omega) ?_
  rw [show P[((A.length : Int) : Int).toNat]'(by omega) = defP s from hp]
  (conv => whnf); (repeat ((with_reducible refine must_intro ?_ ?_); exact decide_eq_true (by omega); (conv => whnf)))
  refine idxK_map_intro (show ((A.length : Int) : Int).toNat < P.length by omega) ?_
  rw [show P[((A.length : Int) : Int).toNat]'(by omega) = defP s from hp]
  (conv => whnf); (repeat ((with_reducible refine must_intro ?_ ?_); exact decide_eq_true (by omega); (conv => whnf)))
  refine ⟨ns, (by rw [tail_0]; exact n1), ?_⟩
  rw [n2]
  (conv => whnf)
  refine ID_new s ?_
  (conv => whnf)
  rw [i64_nat (by omega)]
  refine LoopP.ind2 (fun (i : Nat) (T : List B) => [(9, vi ((A.length + i : Nat) : Int))]) (fun i T => [(0, tblF), (nameOf 8, rO 0 [] 0 (.val (.slice none 0 0)) 0 0 []), (freshN 34 0, tblO (freshN 64 0) (freshN 64 1) T), (freshN 64 0, tblR T), (freshN 64 1, tblM T)]) (fun i _ => (s :: ms).length - i) (fun i T => i ≤ (s :: ms).length ∧ 1 ≤ i ∧ T.length ≤ i ∧ T = ((s :: ms).take i).foldl tblP []) 1 [s] rfl ⟨by simp, by omega, by simp, by simp [tblP]⟩ ?_
  rintro i T ⟨h0, h1, hT, hTe⟩ IH
  (conv => whnf)
  by_cases hc : i < (s :: ms).length
  · have hp := hel i hc (by omega)
    have IH0 := IH (i + 1)
    clear IH
    have hTs : tblP T (s :: ms)[i] = ((s :: ms).take (i + 1)).foldl tblP [] := by
      rw [List.take_succ_eq_append_getElem hc, List.foldl_append, ← hTe]
      rfl
    generalize (s :: ms)[i] = s2 at hp hTs
    obtain ⟨ns, n1, n2⟩ := str_of s2
    have hbl : (byteEls (defP s2)).length = s2.length + 1 := by rw [bel_length]; rfl
    refine br_true (decide_eq_true (by omega)) ?_
    (conv => whnf); (repeat ((with_reducible refine must_intro ?_ ?_); exact decide_eq_true (by omega); (conv => whnf)))
    refine idxK_map_intro (show (((A.length + i : Nat) : Int) : Int).toNat < P.length by omega) ?_
    rw [show P[(((A.length + i : Nat) : Int) : Int).toNat]'(by omega) = defP s2 from hp]
    (conv => whnf)
    refine br_true (decide_eq_true (by omega)) ?_
    (conv => whnf); (repeat ((with_reducible refine must_intro ?_ ?_); exact decide_eq_true (by omega); (conv => whnf)))
    refine idxK_map_intro (show (((A.length + i : Nat) : Int) : Int).toNat < P.length by omega) ?_
    rw [show P[(((A.length + i : Nat) : Int) : Int).toNat]'(by omega) = defP s2 from hp]
    (conv => whnf); (repeat ((with_reducible refine must_intro ?_ ?_); exact decide_eq_true (by omega); (conv => whnf)))
    refine idxK_map_intro (show (((A.length + i : Nat) : Int) : Int).toNat < P.length by omega) ?_
    rw [show P[(((A.length + i : Nat) : Int) : Int).toNat]'(by omega) = defP s2 from hp]
    (conv => whnf); (repeat ((with_reducible refine must_intro ?_ ?_); exact decide_eq_true (by omega); (conv => whnf)))
    refine ⟨ns, (by rw [tail_0]; exact n1), ?_⟩
    rw [n2]
    (conv => whnf)
    by_cases hs : s2 ∈ T
    · have IH := IH0 T ⟨by omega, by omega, by omega, by rw [← hTs, tblP_some hs]⟩ (by omega)
      refine ID_old T s2 hs fun j => ?_
      (conv => whnf)
      rw [i64_nat (by omega)]
      exact IH
    · have IH := IH0 (T ++ [s2]) ⟨by omega, by omega, by rw [List.length_append]; simp only [List.length_cons, List.length_nil]; omega, by rw [← hTs, tblP_none hs]⟩ (by omega)
      refine ID_more T s2 (by omega) hs fun j => ?_
      (conv => whnf)
      rw [i64_nat (by omega)]
      exact IH
  · have hi : i = (s :: ms).length := by omega
    subst hi
    rw [List.take_length, hfin] at hTe
    subst hTe
    clear IH
    refine br_true (decide_eq_true (by omega)) ?_
    (conv => whnf); (repeat ((with_reducible refine must_intro ?_ ?_); exact decide_eq_true (by omega); (conv => whnf)))
    refine idxK_map_intro (show ((A.length + (s :: ms).length : Nat) : Int).toNat < P.length by omega) ?_
    rw [show P[((A.length + (s :: ms).length : Nat) : Int).toNat]'(by omega) = L from hlast]
    (conv => whnf)
    refine br_true (decide_eq_true (by omega)) ?_
    (conv => whnf); (repeat ((with_reducible refine must_intro ?_ ?_); exact decide_eq_true (by omega); (conv => whnf)))
    refine idxK_map_intro (show ((A.length + (s :: ms).length : Nat) : Int).toNat < P.length by omega) ?_
    rw [show P[((A.length + (s :: ms).length : Nat) : Int).toNat]'(by omega) = L from hlast]
    (conv => whnf); (repeat ((with_reducible refine must_intro ?_ ?_); exact decide_eq_true (by omega); (conv => whnf)))
    refine idxK_map_intro (show (0 : Int).toNat < L.length by simp; omega) ?_
    rw [show L[(0 : Int).toNat]'(by simp; omega) = L[0] from rfl]
    (conv => whnf)
    refine br_false hL0 ?_
    (conv => whnf)
    refine br_false (beq_eq_false_iff_ne.2 (by omega)) ?_
    (conv => whnf); (repeat ((with_reducible refine must_intro ?_ ?_); exact decide_eq_true (by omega); (conv => whnf)))
    refine idxK_map_intro (show ((A.length + (s :: ms).length : Nat) : Int).toNat < P.length by omega) ?_
    rw [show P[((A.length + (s :: ms).length : Nat) : Int).toNat]'(by omega) = L from hlast]
    (conv => whnf)
    refine cNew_calls L (by omega) ?_
    (conv => whnf)
    refine hRL ?_
    (conv => whnf)
    rw [i64_nat (by omega)]
    refine tCopy_nil ?_
    (conv => whnf)
    refine hPut ?_
    (conv => whnf)
    refine must_intro (decide_eq_true (by omega)) ?_
    (conv => whnf)
    refine must_intro (decide_eq_true (by omega)) ?_
    (conv => whnf)
    refine (show ACalls Tryz.prog 195 [.sl none 1 (rowsB Y), .sl none 1 (List.drop A.length (List.take (A.length + (s :: ms).length + 1) (rowsB P))), .fn (.func 196) [] []] [] _ from ?_)
    rw [eSl]
    refine EqualB_same Y (by omega) ?_
    (conv => whnf)
    refine hPut ?_
    (conv => whnf)
    exact h
theorem sGet_3O (r : Rc) (hm : mayP 3 r = true) (t : List B) (ht0 : t ≠ []) (htn : t.Nodup) (htl : t.length < 80000) (A Q : List B) (hA : A.length < 100000) (hQ : Q.length < 100000) {R} (h : R (.tup [.agg r.enc, vi ((A.length + (payP 3 t r).length : Nat) : Int), vi 0]) [tblO 1 2 (addT 3 t r), tblR (addT 3 t r), tblM (addT 3 t r)]) :
    ACalls Tryz.prog 161 [vi 3, .ptr 0 0, .sl none 1 (rowsB (A ++ payP 3 t r ++ Q)), vi (A.length : Int)] [tblO 1 2 t, tblR t, tblM t] R := by
  have hM := may_all hm
  have hd16 := hM.deps
  refine acalls_of_xwp (an := an161) tab_ok Tryz.func161 ?_
  have hTl := addT_len 3 t r
  obtain ⟨ms, hms⟩ : ∃ ms, ms = newsP t (namesR r) := ⟨_, rfl⟩
  have hY : payP 3 t r = ms.map defP ++ [lastW 3 (addT 3 t r) r] := by rw [hms]; simp [payP, defsP]
  have hml : ms.length ≤ 18 := by
    rw [hms]
    have := news_len (namesR r) t
    have := namesR_len r
    omega
  have hfin : ms.foldl tblP t = addT 3 t r := by rw [hms, news_addAll, addT_more (by decide)]
  have hT1 := addT_mem (v := 3) (by decide) t r (x := r.target) (by simp [textsR])
  have hT2 : ∀ d ∈ r.deps, d.name ∈ addT 3 t r := fun d hd => addT_mem (by decide) t r (List.mem_cons_of_mem _ (List.mem_append_left _ (List.mem_map_of_mem hd)))
  have hT3 : r.tag ≠ [] → r.tag ∈ addT 3 t r := fun e => addT_mem (by decide) t r (by simp [textsR, e])
  have hLl := lastW_len (v := 3) (t := addT 3 t r) hM (by omega)
  obtain ⟨L, hLe⟩ : ∃ L, L = lastW 3 (addT 3 t r) r := ⟨_, rfl⟩
  rw [← hLe] at hLl hY
  have hLne : 0 < L.length := hLl.1
  have hL0 : (((L[0]).toNat : Int) == 0) = false := by
    have : L[0] = 1 ∨ L[0] = 2 := by
      subst hLe
      unfold lastW
      split <;> simp
    rcases this with e | e <;> rw [e] <;> rfl
  have hLb := bel_length L
  have hYl : (payP 3 t r).length = ms.length + 1 := by rw [hY]; simp
  have hPl : (A ++ payP 3 t r ++ Q).length = A.length + ms.length + 1 + Q.length := by simp [hYl]; omega
  have hel : ∀ (i : Nat) (hi : i < ms.length) (hj : A.length + i < (A ++ payP 3 t r ++ Q).length), (A ++ payP 3 t r ++ Q)[A.length + i] = defP ms[i] := fun i hi hj => by
    rw [List.getElem_append_left (by simp [hYl]; omega), List.getElem_append_right (by omega), List.getElem_of_eq hY, List.getElem_append_left (by simp; omega)]
    simp
  have hlast : ∀ (hj : A.length + ms.length < (A ++ payP 3 t r ++ Q).length), (A ++ payP 3 t r ++ Q)[A.length + ms.length] = L := fun hj => by
    rw [List.getElem_append_left (by simp [hYl]), List.getElem_append_right (by omega), List.getElem_of_eq hY, List.getElem_append_right (by simp)]
    simp
  have eSl : List.drop A.length (List.take (A.length + ms.length + 1) (rowsB (A ++ payP 3 t r ++ Q))) = rowsB (payP 3 t r) := by
    rw [rowsB_append, rowsB_append, List.take_append_of_le_length (by simp [rowsB_length, hYl]; omega), List.take_of_length_le (by simp [rowsB_length, hYl]; omega), List.drop_append_of_le_length (by rw [rowsB_length]; exact Nat.le_refl _), List.drop_of_length_le (by rw [rowsB_length]; exact Nat.le_refl _), List.nil_append]
  have hPut := @sPut_3O r t (by omega) hm
  rw [hYl] at h
  generalize hYe : payP 3 t r = Y at hY hYl hel hlast eSl hPl hPut ⊢
  generalize A ++ Y ++ Q = P at hel hlast eSl hPl ⊢
  have hlast := hlast (by omega)
  have hrl := rowsB_length P
  generalize addT 3 t r = U at h hTl hT1 hT2 hT3 hLe hfin hPut
  have hRL := @rlast_3 r U hM (by omega) hT1 hT2 hT3
  rw [← hLe] at hRL
  clear hms hY hYe
  (conv => whnf)
  refine skn_3 ?_
  (conv => whnf)
  refine br_false (decide_eq_false (by omega)) ?_
  (conv => whnf)
  refine tCopy_calls t ht0 htn (by omega) ?_
  (conv => whnf)
  refine LoopP.ind2 (fun (i : Nat) (T : List B) => [(9, vi ((A.length + i : Nat) : Int))]) (fun i T => [(0, tblO 1 2 t), (1, tblR t), (2, tblM t), (nameOf 8, rO 0 [] 0 (.val (.slice none 0 0)) 0 0 []), (freshN 34 0, tblO (freshN 34 1) (freshN 34 2) T), (freshN 34 1, tblR T), (freshN 34 2, tblM T)]) (fun i _ => ms.length - i) (fun i T => i ≤ ms.length ∧ T.length ≤ t.length + i ∧ T = (ms.take i).foldl tblP t) 0 t rfl ⟨by omega, by omega, by simp⟩ ?_
  rintro i T ⟨h0, hT, hTe⟩ IH
  (conv => whnf)
  by_cases hc : i < ms.length
  · have hp := hel i hc (by omega)
    have IH0 := IH (i + 1)
    clear IH
    have hTs : tblP T ms[i] = (ms.take (i + 1)).foldl tblP t := by
      rw [List.take_succ_eq_append_getElem hc, List.foldl_append, ← hTe]
      rfl
    generalize ms[i] = s at hp hTs
    obtain ⟨ns, n1, n2⟩ := str_of s
    have hbl : (byteEls (defP s)).length = s.length + 1 := by rw [bel_length]; rfl
    refine br_true (decide_eq_true (by omega)) ?_
    (conv => whnf); (repeat ((with_reducible refine must_intro ?_ ?_); exact decide_eq_true (by omega); (conv => whnf)))
    refine idxK_map_intro (show (((A.length + i : Nat) : Int) : Int).toNat < P.length by omega) ?_
    rw [show P[(((A.length + i : Nat) : Int) : Int).toNat]'(by omega) = defP s from hp]
    (conv => whnf)
    refine br_true (decide_eq_true (by omega)) ?_
    (conv => whnf); (repeat ((with_reducible refine must_intro ?_ ?_); exact decide_eq_true (by omega); (conv => whnf)))
    refine idxK_map_intro (show (((A.length + i : Nat) : Int) : Int).toNat < P.length by omega) ?_
    rw [show P[(((A.length + i : Nat) : Int) : Int).toNat]'(by omega) = defP s from hp]
    (conv => whnf); (repeat ((with_reducible refine must_intro ?_ ?_); exact decide_eq_true (by omega); (conv => whnf)))
    refine idxK_map_intro (show (((A.length + i : Nat) : Int) : Int).toNat < P.length by omega) ?_
    rw [show P[(((A.length + i : Nat) : Int) : Int).toNat]'(by omega) = defP s from hp]
    (conv => whnf); (repeat ((with_reducible refine must_intro ?_ ?_); exact decide_eq_true (by omega); (conv => whnf)))
    refine ⟨ns, (by rw [tail_0]; exact n1), ?_⟩
    rw [n2]
    (conv => whnf)
    by_cases hs : s ∈ T
    · have IH := IH0 T ⟨by omega, by omega, by rw [← hTs, tblP_some hs]⟩ (by omega)
      refine ID_old T s hs fun j => ?_
      (conv => whnf)
      rw [i64_nat (by omega)]
      exact IH
    · have IH := IH0 (T ++ [s]) ⟨by omega, by rw [List.length_append]; simp only [List.length_cons, List.length_nil]; omega, by rw [← hTs, tblP_none hs]⟩ (by omega)
      refine ID_more T s (by omega) hs fun j => ?_
      (conv => whnf)
      rw [i64_nat (by omega)]
      exact IH
  · have hi : i = ms.length := by omega
    subst hi
    rw [List.take_length, hfin] at hTe
    subst hTe
    clear IH
    refine br_true (decide_eq_true (by omega)) ?_
    (conv => whnf); (repeat ((with_reducible refine must_intro ?_ ?_); exact decide_eq_true (by omega); (conv => whnf)))
    refine idxK_map_intro (show ((A.length + ms.length : Nat) : Int).toNat < P.length by omega) ?_
    rw [show P[((A.length + ms.length : Nat) : Int).toNat]'(by omega) = L from hlast]
    (conv => whnf)
    refine br_true (decide_eq_true (by omega)) ?_
    (conv => whnf); (repeat ((with_reducible refine must_intro ?_ ?_); exact decide_eq_true (by omega); (conv => whnf)))
    refine idxK_map_intro (show ((A.length + ms.length : Nat) : Int).toNat < P.length by omega) ?_
    rw [show P[((A.length + ms.length : Nat) : Int).toNat]'(by omega) = L from hlast]
    (conv => whnf); (repeat ((with_reducible refine must_intro ?_ ?_); exact decide_eq_true (by omega); (conv => whnf)))
    refine idxK_map_intro (show (0 : Int).toNat < L.length by simp; omega) ?_
    rw [show L[(0 : Int).toNat]'(by simp; omega) = L[0] from rfl]
    (conv => whnf)
    refine br_false hL0 ?_
    (conv => whnf)
    refine br_false (beq_eq_false_iff_ne.2 (by omega)) ?_
    (conv => whnf); (repeat ((with_reducible refine must_intro ?_ ?_); exact decide_eq_true (by omega); (conv => whnf)))
    refine idxK_map_intro (show ((A.length + ms.length : Nat) : Int).toNat < P.length by omega) ?_
    rw [show P[((A.length + ms.length : Nat) : Int).toNat]'(by omega) = L from hlast]
    (conv => whnf)
    refine cNew_calls L (by omega) ?_
    (conv => whnf)
    refine hRL ?_
    (conv => whnf)
    rw [i64_nat (by omega)]
    refine tCopy_calls t ht0 htn (by omega) ?_
    (conv => whnf)
    refine hPut ?_
    (conv => whnf)
    refine must_intro (decide_eq_true (by omega)) ?_
    (conv => whnf)
    refine must_intro (decide_eq_true (by omega)) ?_
    (conv => whnf)
    refine (show ACalls Tryz.prog 195 [.sl none 1 (rowsB Y), .sl none 1 (List.drop A.length (List.take (A.length + ms.length + 1) (rowsB P))), .fn (.func 196) [] []] [] _ from ?_)
    rw [eSl]
    refine EqualB_same Y (by omega) ?_
    (conv => whnf)
    refine hPut ?_
    (conv => whnf)
    exact h
end Go.Abs
end

section
/- varint.Get, blob.Get, frame.Get on what was cut off. -/
set_option maxRecDepth 100000
set_option maxHeartbeats 2000000
set_option linter.unusedVariables false
set_option linter.unusedSimpArgs false
namespace Go.Abs
open Go Go.Proofs
attribute [local irreducible] ibits byteAt strLt firstIdx

theorem vGetCut_calls (p : B) (n k : Nat) (hn : n < 18446744073709551616) (hk : k < (vrn n).length) (hl : p.length < 100000000) {R} (h : R (.tup [.val (.int .u64 0), vi 0, vi 2]) []) :
    ACalls Tryz.prog 234 [.sl none 1 (byteEls (p ++ (vrn n).take k)), vi (p.length : Int)] [] R := by
  refine acalls_of_xwp (an := an234) tab_ok Tryz.func234 ?_
  have hv := vrn_u64 hn
  have hp := vrn_pos n
  have hat := vrn_at n
  have hbl : (byteEls (p ++ (vrn n).take k)).length = p.length + k := by rw [bel_length, List.length_append, List.length_take]; omega
  (conv => whnf)
  refine br_intro (fun g => ?_) (fun g => ?_)
  · exfalso
    have g := of_decide_eq_true g
    rw [hbl] at g
    omega
  (conv => whnf)
  refine LoopP.ind1 (fun (i : Nat) => [(4, .val (.int .u64 ((n % 128 ^ i : Nat) : Int))), (17, vi i)]) (fun _ => []) (fun i => 10 - i) (fun i => i ≤ k) 0 (by simp [Nat.mod_one]; rfl) (by omega) ?_
  rintro i h0 IH
  have h0' : i < (vrn n).length := by omega
  have hb := (vrn n)[i].toNat_lt
  obtain ⟨a1, a2, a3⟩ := hat i h0'
  have e1 : IntKind.i64.wrap ((p.length : Int) + (i : Int)) = ((p.length + i : Nat) : Int) := by rw [wrap_i64 (by omega) (by omega)]; omega
  have e7 : IntKind.i64.wrap (7 * (i : Int)) = ((7 * i : Nat) : Int) := by rw [wrap_i64 (by omega) (by omega)]; omega
  (conv => whnf)
  refine br_intro (fun g2 => ?_) (fun g2 => ?_)
  · (conv => whnf)
    refine br_intro (fun g3 => ?_) (fun g3 => ?_)
    · (conv => whnf)
      exact h
    have hik : i < k := by
      rw [e1, hbl] at g3
      have g3 := of_decide_eq_false g3
      omega
    have hget : (byteEls (p ++ (vrn n).take k))[p.length + i]? = some [.val (.int .u8 ((vrn n)[i].toNat : Int))] := by
      unfold byteEls
      rw [List.getElem?_map, List.getElem?_append_right (by omega), Nat.add_sub_cancel_left, List.getElem?_take_of_lt hik, List.getElem?_eq_getElem h0']
      rfl
    (conv => whnf)
    refine must_intro (decide_eq_true (by rw [e1]; omega)) ?_
    rw [e1]
    refine idxK_iff.2 ⟨_, hget, ?_⟩
    have hlow := u8_low hb
    rw [if_pos (show i + 1 < (vrn n).length by omega)] at a1
    have hnx := IH (i + 1) (by omega) (by omega)
    generalize hx : (vrn n)[i].toNat = x at a1 hb hlow hget ⊢
    (conv => whnf)
    refine br_intro (fun g4 => ?_) (fun g4 => ?_)
    · exfalso
      have g4 : i = 9 := by have := beq_iff_eq.1 g4; omega
      omega
    · (conv => whnf)
      refine br_intro (fun g6 => ?_) (fun g6 => ?_)
      · have g6 := of_decide_eq_true g6
        (conv => whnf)
        refine br_intro (fun g7 => ?_) (fun g7 => ?_)
        · exfalso
          have g7 := beq_iff_eq.1 g7
          omega
        (conv => whnf)
        refine must_intro (decide_eq_true (by rw [e7]; omega)) ?_
        (conv => whnf)
        refine br_false (decide_eq_false (by rw [a1]; omega)) ?_
        (conv => whnf)
        rw [vor hn (by omega) hb (by rw [a1]; omega), wrap_i64 (by omega) (by omega), show (i : Int) + 1 = ((i + 1 : Nat) : Int) by omega]
        exact hnx
      · (conv => whnf)
        refine must_intro (decide_eq_true (by rw [e7]; omega)) ?_
        (conv => whnf)
        refine br_false (decide_eq_false (by rw [a1]; omega)) ?_
        (conv => whnf)
        rw [vor hn (by omega) hb (by rw [a1]; omega), wrap_i64 (by omega) (by omega), show (i : Int) + 1 = ((i + 1 : Nat) : Int) by omega]
        exact hnx
  · exfalso
    have g2 := of_decide_eq_false g2
    omega
theorem bGetCut_calls (p s : B) (most k : Nat) (hs : s.length ≤ most) (hm : most < 10000000) (hk : k < (blobP s).length) (hl : p.length < 50000000) {R} (h : R (.tup [vs [], vi 0, vi 2]) []) :
    ACalls Tryz.prog 217 [.sl none 1 (byteEls (p ++ (blobP s).take k)), vi (p.length : Int), vi (most : Int)] [] R := by
  refine acalls_of_xwp (an := an217) tab_ok Tryz.func217 ?_
  have hv := vrn_u64 (n := s.length) (by omega)
  have hbs : (blobP s).length = (vrn s.length).length + s.length := by simp [blobP]
  by_cases hc : k < (vrn s.length).length
  · have eb : p ++ (blobP s).take k = p ++ (vrn s.length).take k := by
      unfold blobP
      rw [List.take_append_of_le_length (by omega)]
    rw [eb]
    (conv => whnf)
    refine vGetCut_calls p s.length k (by omega) hc (by omega) ?_
    (conv => whnf)
    exact h
  · obtain ⟨j, hj⟩ : ∃ j, k = (vrn s.length).length + j := ⟨k - (vrn s.length).length, by omega⟩
    have eb : p ++ (blobP s).take k = p ++ vrn s.length ++ s.take j := by
      unfold blobP
      rw [hj, List.take_length_add_append, List.append_assoc]
    rw [eb]
    have hbl : (byteEls (p ++ vrn s.length ++ s.take j)).length = p.length + (vrn s.length).length + j := by rw [bel_length, List.length_append, List.length_append, List.length_take]; omega
    have em : IntKind.u64.wrap (if (most : Int) < 0 then 0 else (most : Int)) = (most : Int) := by
      rw [if_neg (by omega)]
      show (most : Int) % 18446744073709551616 = _
      omega
    have el : IntKind.u64.wrap (IntKind.i64.wrap (((byteEls (p ++ vrn s.length ++ s.take j)).length : Int) - ((p.length + (vrn s.length).length : Nat) : Int))) = ((j : Nat) : Int) := by
      rw [hbl, wrap_i64 (by omega) (by omega)]
      show _ % 18446744073709551616 = _
      omega
    (conv => whnf)
    refine vGet_calls p (s.take j) s.length (by omega) (by rw [List.length_take]; omega) ?_
    (conv => whnf)
    refine br_intro (fun g => ?_) (fun g => ?_)
    · exfalso
      rw [em] at g
      have g := of_decide_eq_true g
      omega
    (conv => whnf)
    refine br_intro (fun g => ?_) (fun g => ?_)
    · (conv => whnf)
      exact h
    · exfalso
      rw [el] at g
      have g := of_decide_eq_false g
      omega
theorem fGetCut_calls (p s : B) (k : Nat) (h1 : 1 ≤ s.length) (h2 : s.length ≤ 2048) (h0 : 0 < k) (hk : k < (frameP s).length) (hl : p.length < 4000000) {R} (h : R (.tup [.val (.slice none 0 0), vi 0, vi 2]) []) :
    ACalls Tryz.prog 191 [.sl none 1 (byteEls (p ++ (frameP s).take k)), vi (p.length : Int)] [] R := by
  refine acalls_of_xwp (an := an191) tab_ok Tryz.func191 ?_
  have hv := vrn_u64 (n := s.length) (by omega)
  have hbs : (blobP s).length = (vrn s.length).length + s.length := by simp [blobP]
  have hfs : (frameP s).length = (blobP s).length + 4 := by simp [frameP, sealF, w4_length]
  have hbl : (byteEls (p ++ (frameP s).take k)).length = p.length + k := by rw [bel_length, List.length_append, List.length_take]; omega
  (conv => whnf)
  refine br_intro (fun g => ?_) (fun g => ?_)
  · exfalso
    have g := beq_iff_eq.1 g
    rw [hbl] at g
    omega
  (conv => whnf)
  refine (show ACalls Tryz.prog 217 [.sl none 1 (byteEls (p ++ (frameP s).take k)), vi (p.length : Int), vi ((2048 : Nat) : Int)] [] _ from ?_)
  by_cases hc : k < (blobP s).length
  · have eb : p ++ (frameP s).take k = p ++ (blobP s).take k := by
      unfold frameP sealF
      rw [List.take_append_of_le_length (by omega)]
    rw [eb]
    refine bGetCut_calls p s 2048 k h2 (by omega) hc (by omega) ?_
    (conv => whnf)
    exact h
  · obtain ⟨j, hj⟩ : ∃ j, k = (blobP s).length + j := ⟨k - (blobP s).length, by omega⟩
    have hw4 := w4_length (Crc.sum (blobP s)).toNat
    have eb : p ++ (frameP s).take k = p ++ blobP s ++ (w4 (Crc.sum (blobP s)).toNat).take j := by
      unfold frameP sealF
      rw [hj, List.take_length_add_append, List.append_assoc]
    have e1 : IntKind.i64.wrap (((byteEls (p ++ (frameP s).take k)).length : Int) - ((p.length + (blobP s).length : Nat) : Int)) = ((j : Nat) : Int) := by rw [hbl, wrap_i64 (by omega) (by omega)]; omega
    have hne : decide (ofB s = ofB []) = false := decide_eq_false (fun e => by have := ofB_inj e; rw [this] at h1; simp at h1)
    rw [eb] at e1 ⊢
    refine bGet_calls p ((w4 (Crc.sum (blobP s)).toNat).take j) s 2048 h2 (by omega) (by rw [List.length_take]; omega) ?_
    (conv => whnf)
    refine br_false hne ?_
    (conv => whnf)
    refine br_intro (fun g => ?_) (fun g => ?_)
    · (conv => whnf)
      exact h
    · exfalso
      rw [e1] at g
      have g := of_decide_eq_false g
      omega
/-- What may stand behind the last whole frame. -/
def EndAt (t : B) : Prop := t = [] ∨ ∃ (s : B) (k : Nat), 1 ≤ s.length ∧ s.length ≤ 2048 ∧ 0 < k ∧ k < (frameP s).length ∧ t = (frameP s).take k
theorem fGetStop_calls (p : B) {t : B} (ht : EndAt t) (hl : p.length < 4000000) {R} (h : ∀ e : Int, e ≠ 0 → R (.tup [.val (.slice none 0 0), vi 0, vi e]) []) :
    ACalls Tryz.prog 191 [.sl none 1 (byteEls (p ++ t)), vi (p.length : Int)] [] R := by
  rcases ht with rfl | ⟨s, k, h1, h2, h3, h4, rfl⟩
  · rw [List.append_nil]
    exact fGetEnd_calls p (by omega) (h 6 (by decide))
  · exact fGetCut_calls p s k h1 h2 h3 h4 hl (h 2 (by decide))
end Go.Abs
end

section
/- frame.frames: the iterator over what was laid. -/
set_option maxRecDepth 100000
set_option maxHeartbeats 4000000
set_option linter.unusedVariables false
set_option linter.unusedSimpArgs false
namespace Go.Abs
open Go Go.Proofs Go.RowKit
attribute [local go_sem] Oper.semAt_some

theorem rep_tup3 {G : Gh} {a : AV} {x y : Value} {v : Value} (h : Rep G (.tup [a, .val x, .val y]) v) : ∃ u, v = .tuple #[u, x, y] ∧ Rep G a u := by
  simp only [Rep, RepL] at h
  obtain ⟨vs, rfl, u, _, rfl, hu, _, _, rfl, rfl, _, _, rfl, rfl, rfl⟩ := h
  exact ⟨u, rfl, hu⟩
set_option maxHeartbeats 4000000 in
theorem frames_iter (h0 : B) (l : List B) (t : B) (ht : EndAt t) (hok : ∀ p ∈ l, 1 ≤ p.length ∧ p.length ≤ 2048) (hl : h0.length + (framesP l).length + t.length < 1000000) :
    SIter Tryz.prog 190 [.cptr [.sl none 1 (byteEls (h0 ++ (framesP l ++ t)))] 0, .ptr 0 0] [.cells 3 [vi (h0.length : Int)]] (framesA h0.length l) := by
  refine ⟨fun args w => run_callFunc (by kernel_rfl), fun G w lb hW hr lp n' J Jx hY hS hK hJ0 => ?_⟩
  simp only [RepL, Rep, RepC] at hr
  obtain ⟨_, _, rfl, ⟨bc, oc, rfl, ⟨⟨vB, hvB, hB⟩, _⟩, _⟩, _, _, rfl, ⟨b, hb, rfl⟩, rfl⟩ := hr
  obtain ⟨b', vs, e1, e2, e3, e4⟩ := hW.obj 0 _ rfl
  rw [hb] at e1; cases e1
  simp only [RepL, Rep] at e3
  obtain ⟨_, _, rfl, rfl, rfl⟩ := e3
  have hO : ∀ c, (∃ k, G.at k c) ↔ c = b := fun c => by
    constructor
    · rintro ⟨k, hk⟩
      have h1 : ∃ o, objGet (numbered 0 [AObj.cells 3 [vi (h0.length : Int)]]) k = some o := by
        rcases hk with h4 | ⟨u, t, h4, _⟩ <;> exact hW.dom k _ h4
      obtain ⟨o, ho⟩ := h1
      rw [objGet_numbered0] at ho
      have : k = 0 := by
        cases k with
        | zero => rfl
        | succ k => simp at ho
      subst this
      rcases hk with h4 | ⟨u, t, h4, _⟩
      · rw [hb] at h4; cases h4; rfl
      · rw [hb] at h4; cases h4
    · rintro rfl; exact ⟨0, .inl hb⟩
  obtain ⟨Own, hOwn⟩ : ∃ Own : Nat → Prop, Own = fun c => ∃ k, G.at k c := ⟨_, rfl⟩
  rw [← hOwn] at hJ0
  have hO : ∀ c, Own c ↔ c = b := by rw [hOwn]; exact hO
  clear hOwn
  have hglob := hW.glob
  have hlenA := framesA_length h0.length l
  rw [show FW none = Fence.wide from rfl] at hY ⊢
  refine callsIn_of_wp Tryz.func190 rfl trivial ?_ rfl
  simp only [Tryz.ntmps190, List.size_toArray, List.length_cons, List.length_nil, Nat.reduceAdd, Nat.reduceSub, Array.replicate_succ, Array.replicate_zero, List.push_toArray, List.append_toArray, List.nil_append, List.cons_append, Nat.add_zero]
  gi_wp2
  gi_loopw [4] (fun _ wr => ∃ (i : Nat) (K : Nat → Nat → Option Value), i ≤ l.length ∧ J i Own K wr ∧ (∀ o, K b o = none) ∧ (∀ c o v, G.K c o = some v → K c o = some v) ∧ wr.heap[b]? = some (.cells #[.int .i64 ((h0.length + (framesP (l.take i)).length : Nat) : Int)] 3 (0, 0)))
    (fun _ wr => match wr.cell? ⟨b, 0, none⟩ with | some (.int _ x) => (2000000 - x).toNat | _ => 0)
  case atStart => exact ⟨0, G.K, by omega, hJ0, e4, fun _ _ _ h => h, by simpa [framesP] using e2⟩
  case round =>
    obtain ⟨i, K, hi, hJi, hKb, hKG, hbx⟩ := hrel
    obtain ⟨off, hoff⟩ : ∃ off : Nat, off = h0.length + (framesP (l.take i)).length := ⟨_, rfl⟩
    rw [← hoff] at hbx
    obtain ⟨hcell, hfz⟩ := kx_cell_of_box hbx
    have hcB := hK i Own K wr hJi _ _ _ (hKG _ _ _ hvB)
    have hOlt : ∀ c, Own c → c < wr.heap.size := fun c hc => by
      rw [(hO c).1 hc]; exact (Array.getElem?_eq_some_iff.1 hbx).1
    have hBK : Rep ⟨K, fun _ => none⟩ (.sl none 1 (byteEls (h0 ++ (framesP l ++ t)))) vB := by
      have h1 : Rep G (.sl none 1 (byteEls (h0 ++ (framesP l ++ t)))) vB := by simp only [Rep]; exact hB
      exact Rep.nameless (G := G) (G' := ⟨K, fun _ => none⟩) hKG _ _ rfl h1
    have hvi : ∀ x : Int, Rep ⟨K, fun _ => none⟩ (vi x) (.int .i64 x) := fun x => by
      show Rep _ (.val (.int .i64 x)) _
      simp only [Rep]
    by_cases hlt : i < l.length
    · have hp := hok _ (List.getElem_mem hlt)
      have hsp : h0 ++ (framesP l ++ t) = (h0 ++ framesP (l.take i)) ++ frameP l[i] ++ (framesP (l.drop (i + 1)) ++ t) := by
        rw [framesP_split hlt]; simp
      have hlen2 : (framesP l).length = (framesP (l.take i)).length + (frameP l[i]).length + (framesP (l.drop (i + 1))).length := by
        rw [framesP_split hlt, List.length_append, List.length_append]
      have hget := fGet_calls (h0 ++ framesP (l.take i)) (framesP (l.drop (i + 1)) ++ t) l[i] hp.1 hp.2 (by simp; omega) (R := fun r os => r = .tup [.sl none 1 (byteEls l[i]), vi (((h0 ++ framesP (l.take i)).length + (frameP l[i]).length : Nat) : Int), vi 0] ∧ os = []) ⟨rfl, rfl⟩
      rw [← hsp, List.length_append, ← hoff] at hget
      have hxs : (framesA h0.length l)[i]? = some [.sl none 1 (byteEls l[i]), vi ((h0.length + (framesP (l.take (i + 1))).length : Nat) : Int)] := framesA_at hlt
      have hnx : h0.length + (framesP (l.take (i + 1))).length = off + (frameP l[i]).length := by rw [framesP_take hlt, hoff]; omega
      rw [hnx] at hxs
      obtain ⟨nx, hnxe⟩ : ∃ nx : Nat, nx = off + (frameP l[i]).length := ⟨_, rfl⟩
      rw [← hnxe] at hget hxs hnx
      have hcalm := fun m => hget.calm (K := K) (W := wr) (vals := [vB, .int .i64 (off : Int)]) (hK i Own K wr hJi) (hglob.mono hKG) (by simp only [RepL]; exact ⟨_, _, rfl, hBK, _, _, rfl, hvi _, rfl⟩) hOlt (A := #[vB, .int .i64 (off : Int)]) rfl m
      have hflen : 5 ≤ (frameP l[i]).length := by simp [frameP, sealF, w4_length, blobP]; omega
      have hlt2 : off < nx ∧ nx < 2000000 := by omega
      clear hget hsp hoff hnxe hlen2 hflen hvi hBK hB
      gi_wp2
      refine ⟨trivial, fun h => by simp [Fence.wide] at h, (hcalm _).mono ?_⟩
      rintro e W1 ⟨v, r, os', G', rfl, ⟨rfl, rfl⟩, hRep, hKn, hst, hbl⟩
      obtain ⟨vp, rfl, hvp⟩ := rep_tup3 hRep
      have hbW : b < wr.heap.size := hOlt b ((hO b).2 rfl)
      have hJ1 := hS i Own K wr Own G'.K W1 hJi hst
      have hbx1 := (hbl b hbW).1.trans hbx
      have hKb1 : ∀ o, G'.K b o = none := fun o => ((hbl b hbW).2 o).trans (hKb o)
      have hKG1 : ∀ c o v, G.K c o = some v → G'.K c o = some v := fun c o v h => hst.more _ _ _ (hKG c o v h)
      obtain ⟨hcell1, hfz1⟩ := kx_cell_of_box hbx1
      have hwr := hcell
      clear hcalm hRep hcell hfz hcB
      obtain ⟨fn, tmps, assign, body, hy, hR⟩ := hY (n' - 1) i _ #[vp, .int .i64 (nx : Int)] Own G'.K W1 hxs
        (by simp only [RepL]; exact ⟨_, _, rfl, Rep.nameless (G := G') (G' := ⟨G'.K, fun _ => none⟩) (fun _ _ _ h => h) _ _ rfl hvp, _, _, rfl, (by show Rep _ (.val (.int .i64 (nx : Int))) _; simp only [Rep]), rfl⟩) hJ1
      clear hY hJi
      gi_wp2
      refine ⟨fun h => by simp [Fence.wide] at h, hR.mono ?_⟩
      rintro e W3 (⟨rfl, K', hJ3, hKK, hO3, hos3, htape3, hout3, hsz3⟩ | ⟨rfl, hJx3⟩)
      · clear hR hy
        have hbx3 := (hO3 b ((hO b).2 rfl)).1.trans hbx1
        obtain ⟨hcell3, hfz3⟩ := kx_cell_of_box hbx3
        have hKb3 : ∀ o, K' b o = none := fun o => by rw [(hO3 b ((hO b).2 rfl)).2 o]; exact hKb1 o
        have hst3 := steps_box (v' := .int .i64 (nx : Int)) hO hbx3 hKb3 (hK (i + 1) Own K' W3 hJ3)
        have hJ4 := hS (i + 1) Own K' W3 Own K' _ hJ3 hst3
        have hbx4 := kx_heap_setCell_box (.int .i64 (nx : Int)) hbx3
        have hc4 := (kx_cell_of_box hbx4).1
        have hKG3 : ∀ c o v, G.K c o = some v → K' c o = some v := fun c o v h => hKK _ _ _ (hKG1 c o v h)
        clear hS hK hst hO3 hcell1 hfz1
        gi_wp2
        refine ⟨⟨i + 1, K', hlt, hJ4, hKb3, hKG3, by rw [hnx]; exact hbx4⟩, ?_⟩
        rw [hc4, hwr]
        show (2000000 - (nx : Int)).toNat < (2000000 - (off : Int)).toNat
        omega
      · clear hR hy
        gi_wp2
        refine bodyPost_ret (results_none rfl _ _ _) rfl ?_
        exact ⟨⟨_, rfl⟩, .inr hJx3⟩
    · have hfin : i = l.length := by omega
      subst hfin
      have hsp : h0.length + (framesP l).length = off := by rw [hoff, List.take_length]
      have hget := fGetStop_calls (h0 ++ framesP l) ht (by simp; omega) (R := fun r os => ∃ e : Int, e ≠ 0 ∧ r = .tup [.val (.slice none 0 0), vi 0, vi e] ∧ os = []) fun e he => ⟨e, he, rfl, rfl⟩
      rw [List.append_assoc, List.length_append, hsp] at hget
      have hcalm := fun m => hget.calm (K := K) (W := wr) (vals := [vB, .int .i64 (off : Int)]) (hK l.length Own K wr hJi) (hglob.mono hKG) (by simp only [RepL]; exact ⟨_, _, rfl, hBK, _, _, rfl, hvi _, rfl⟩) hOlt (A := #[vB, .int .i64 (off : Int)]) rfl m
      clear hget hsp hoff hvi hBK hB
      gi_wp2
      refine ⟨trivial, fun h => by simp [Fence.wide] at h, (hcalm _).mono ?_⟩
      rintro e W1 ⟨v, r, os', G', rfl, ⟨er, her, rfl, rfl⟩, hRep, hKn, hst, hbl⟩
      obtain ⟨vp, rfl, hvp⟩ := rep_tup3 hRep
      have hJ1 := hS l.length Own K wr Own G'.K W1 hJi hst
      rw [← hlenA] at hJ1
      gi_wp2
      refine ⟨fun f h => (nomatch h), ?_⟩
      gi_wp2
      refine bodyPost_ret (results_none rfl _ _ _) rfl ?_
      exact ⟨⟨_, rfl⟩, .inl ⟨Own, G'.K, hJ1⟩⟩
end Go.Abs
end

section
/- frame.Head. -/
set_option maxRecDepth 100000
set_option maxHeartbeats 4000000
set_option linter.unusedVariables false
set_option linter.unusedSimpArgs false
namespace Go.Abs
open Go Go.Proofs Go.RowKit Go.Lib Dig
attribute [local irreducible] ibits byteAt strLt firstIdx

theorem repE_bytes {K : Nat → Nat → Option Value} {ob : Nm → Option GO} {g : Nat} : ∀ (ss : B) (i : Nat), (∀ j c, ss[j]? = some c → K g (i + j) = some (.int .u8 (c.toNat : Int))) → RepE ⟨K, ob⟩ 1 (some ⟨g, 0, none⟩) i (byteEls ss)
  | [], _, _ => trivial
  | s :: ss, i, h => by
    refine ⟨⟨g, 0, rfl, rfl, rfl, ⟨_, by have := h 0 s rfl; simpa using this, rfl⟩, trivial⟩, repE_bytes ss (i + 1) fun j s' hs => ?_⟩
    have := h (j + 1) s' (by simpa using hs)
    rw [show i + 1 + j = i + (j + 1) by omega]
    exact this
/-- What stands behind Head's append: a row of four bytes, and nothing that was there has turned. -/
structure HeadW (w w' : World) (c : UInt8) (b cap : Nat) : Prop where
  os : w'.os = w.os
  tape : w'.tape = w.tape
  output : w'.output = w.output
  size : w.heap.size ≤ b
  lt : b < w'.heap.size
  old : ∀ k, k < w.heap.size → w'.heap[k]? = w.heap[k]?
  cells : ∀ (j : Nat) (x : UInt8), [84, 80, 72, c][j]? = some x → w'.cell? ⟨b, j, none⟩ = some (.int .u8 (x.toNat : Int))
  cap : 4 ≤ cap
theorem headBuilt (w : World) (c : UInt8) (x : Int) (hx : x = (c.toNat : Int)) (i0 : TypeInfo) (hi : Tryz.prog.info? 5 = some i0) (hz0 : i0.zero = some (.int .u8 0)) (hz1 : i0.size = 1) (hz2 : i0.bytes = 1) :
    ∃ w2 w4 cap, (convert 82 82 (.slice (some ⟨w.heap.size, 0, none⟩) 3 3)).run Tryz.prog (w.alloc (.cells #[.int .u8 84, .int .u8 80, .int .u8 72] 5)) = .ok (.slice (some ⟨w.heap.size, 0, none⟩) 3 3) w2 ∧ w2.heap.size = w.heap.size + 1 ∧
      (∀ ty, (Builtin.append_ #[82, 82] ty #[.slice (some ⟨w.heap.size, 0, none⟩) 3 3, .slice (some ⟨w.heap.size + 1, 0, none⟩) 1 1]).run Tryz.prog (w2.alloc (.cells #[.int .u8 x] 5)) = .ok (.slice (some ⟨w.heap.size + 2, 0, none⟩) 4 cap) w4) ∧ HeadW w w4 c (w.heap.size + 2) cap := by
  subst hx
  have hsh : (w.alloc (.cells #[.int .u8 84, .int .u8 80, .int .u8 72] 5)).shape? w.heap.size = some (5, 3) := by
    unfold World.shape?
    rw [heap_alloc_new]
    rfl
  have hc : (convert 82 82 (.slice (some ⟨w.heap.size, 0, none⟩) 3 3)).run Tryz.prog (w.alloc (.cells #[.int .u8 84, .int .u8 80, .int .u8 72] 5)) = .ok (.slice (some ⟨w.heap.size, 0, none⟩) 3 3) ((w.alloc (.cells #[.int .u8 84, .int .u8 80, .int .u8 72] 5)).freeze ⟨w.heap.size, 3, none⟩ 1) := by
    simp [convert, run_underlying (Tryz.underlying82), run_underlying (Tryz.underlying5), markStringish, hsh]
  generalize hw1 : w.alloc (.cells #[.int .u8 84, .int .u8 80, .int .u8 72] 5) = w1 at hc
  have hs1 : w1.heap.size = w.heap.size + 1 := by rw [← hw1]; simp
  have h1b : w1.heap[w.heap.size]? = some (.cells #[.int .u8 84, .int .u8 80, .int .u8 72] 5 (0, 0)) := by rw [← hw1]; exact heap_alloc_new w _
  have h1o : ∀ k, k < w.heap.size → w1.heap[k]? = w.heap[k]? := fun k hk => by rw [← hw1]; exact heap_alloc_old w _ hk
  have e1 : w1.os = w.os ∧ w1.tape = w.tape ∧ w1.output = w.output := by rw [← hw1]; exact ⟨rfl, rfl, rfl⟩
  generalize hw2 : w1.freeze ⟨w.heap.size, 3, none⟩ 1 = w2 at hc
  have hs2 : w2.heap.size = w.heap.size + 1 := by rw [← hw2, ← hs1]; unfold World.freeze; split <;> simp
  have h2o : ∀ b, b ≠ w.heap.size → w2.heap[b]? = w1.heap[b]? := fun b hb => by
    rw [← hw2]
    unfold World.freeze
    split
    · rfl
    · simp [Array.getElem?_modify, Ne.symm hb]
  have h2b : ∃ fz, w2.heap[w.heap.size]? = some (.cells #[.int .u8 84, .int .u8 80, .int .u8 72] 5 fz) := by
    rw [← hw2]
    unfold World.freeze
    split
    · exact ⟨_, h1b⟩
    · exact ⟨_, by simp [Array.getElem?_modify, h1b]; rfl⟩
  have e2 : w2.os = w1.os ∧ w2.tape = w1.tape ∧ w2.output = w1.output := by
    rw [← hw2]
    refine ⟨?_, ?_, ?_⟩ <;> (unfold World.freeze; split <;> rfl)
  obtain ⟨fz, h2b⟩ := h2b
  generalize hw3 : w2.alloc (.cells #[.int .u8 (c.toNat : Int)] 5) = w3
  have hs3 : w3.heap.size = w.heap.size + 2 := by rw [← hw3]; simp; omega
  have h3b : w3.heap[w2.heap.size]? = some (.cells #[.int .u8 (c.toNat : Int)] 5 (0, 0)) := by rw [← hw3]; exact heap_alloc_new w2 _
  have h3o : ∀ k, k < w2.heap.size → w3.heap[k]? = w2.heap[k]? := fun k hk => by rw [← hw3]; exact heap_alloc_old w2 _ hk
  have e3 : w3.os = w2.os ∧ w3.tape = w2.tape ∧ w3.output = w2.output := by rw [← hw3]; exact ⟨rfl, rfl, rfl⟩
  have h3a : w3.heap[w.heap.size]? = some (.cells #[.int .u8 84, .int .u8 80, .int .u8 72] 5 fz) := (h3o _ (by omega)).trans h2b
  have hap := fun ty => run_append_grow (P := Tryz.prog) w3 82 ty 5 i0 (.int .u8 0) Tryz.underlying82 hi hz0 ⟨w.heap.size, 0, none⟩ 3 3 [.int .u8 84, .int .u8 80, .int .u8 72] (by rw [hz1]; rfl)
    (fun j v hj => by
      rw [addr_add, Nat.zero_add]
      rw [Lib.cell_of_heap h3a]
      simpa using hj) ⟨w2.heap.size, 0, none⟩ 1 1 [.int .u8 (c.toNat : Int)] (by rw [hz1]; rfl)
    (fun j v hj => by
      rw [addr_add, Nat.zero_add]
      rw [Lib.cell_of_heap h3b]
      simpa using hj) (by omega) (by decide) (by rw [hz2]; decide)
  have hb2 : w.heap.size + 2 = w3.heap.size := by omega
  rw [hs2] at hap
  refine ⟨w2, _, _, hc, hs2, fun ty => by rw [hw3, hb2]; exact hap ty, ?_⟩
  have hge := grownCap_ge w3 (3 + 1) 3 5
  rw [hb2]
  refine ⟨e3.1.trans (e2.1.trans e1.1), e3.2.1.trans (e2.2.1.trans e1.2.1), e3.2.2.trans (e2.2.2.trans e1.2.2), by omega, by simp, fun k hk => ?_, fun j x hj => ?_, hge⟩
  · rw [heap_alloc_old w3.drew _ (show k < w3.drew.heap.size from by show k < w3.heap.size; omega)]
    show w3.heap[k]? = _
    rw [h3o k (by omega), h2o k (by omega), h1o k hk]
  · have hn := heap_alloc_new w3.drew (.cells ([Value.int .u8 84, .int .u8 80, .int .u8 72].toArray ++ [Value.int .u8 (c.toNat : Int)].toArray ++ Builtin.zeroCells (Value.int .u8 0).cells (grownCap w3 (3 + 1) 3 5 - (3 + 1))) 5)
    rw [show w3.heap.size = w3.drew.heap.size from rfl, Lib.cell_of_heap hn]
    have hj4 : j < 4 := by
      have := (List.getElem?_eq_some_iff.1 hj).1
      simpa using this
    rw [Array.getElem?_append_left (by simp; omega)]
    rcases j with _ | _ | _ | _ | j
    · simp at hj; subst hj; rfl
    · simp at hj; subst hj; rfl
    · simp at hj; subst hj; rfl
    · simp at hj; subst hj; rfl
    · omega
theorem headSeal (G : Gh) (w w4 : World) (v : UInt8) (cap : Nat) (hW : WR G (numbered 0 []) w) (hH : HeadW w w4 v (w.heap.size + 2) cap) :
    Calls Tryz.prog 152 #[.slice (some ⟨w.heap.size + 2, 0, none⟩) 4 cap] w4 fun e w' => ∃ (u : Value) (G' : Gh), e = .returned u ∧ Rep G' (.sl none 1 (byteEls (sealF [84, 80, 72, v]))) u ∧ Inv (entryS G w) ⟨[], numbered 0 []⟩ G' { tmps := #[], defers := [] } w' := by
  have hI := invS hW
  obtain ⟨K', hK'⟩ : ∃ K' : Nat → Nat → Option Value, K' = fun b o => if b = w.heap.size + 2 then ([84, 80, 72, v][o]?).map (fun c : UInt8 => Value.int .u8 (c.toNat : Int)) else G.K b o := ⟨_, rfl⟩
  obtain ⟨hI2, hle⟩ := hI.grow (w' := w4) (K' := K') hH.os hH.tape hH.output (by have := hH.size; have := hH.lt; omega) hH.old (fun b o hb => by rw [hK']; simp only; rw [if_neg (by omega)])
    (fun b o u hb e => by
      rw [hK'] at e
      simp only at e
      split at e
      · rename_i hb2
        subst hb2
        cases hc : ([84, 80, 72, v] : List UInt8)[o]? with
        | none => rw [hc] at e; cases e
        | some c =>
          rw [hc] at e
          have := hH.cells o c hc
          rw [this]
          simpa using e
      · have := hI.wr.kltb e
        omega)
  have hRep : Rep ⟨K', fun _ => none⟩ (.sl none 1 (byteEls [84, 80, 72, v])) (.slice (some ⟨w.heap.size + 2, 0, none⟩) 4 cap) := by
    simp only [Rep]
    exact ⟨⟨_, _, rfl, hH.cap, repE_bytes [84, 80, 72, v] 0 fun j c hj => by rw [hK']; simp [hj]⟩, trivial⟩
  have hs := (sealed_calls [84, 80, 72, v] (by simp) (R := fun r os => r = .sl none 1 (byteEls (sealF [84, 80, 72, v])) ∧ os = []) ⟨rfl, rfl⟩).calm (K := K') (W := w4) (vals := [.slice (some ⟨w.heap.size + 2, 0, none⟩) 4 cap]) hI2.wr.know hI2.wr.glob (by simp only [RepL]; exact ⟨_, _, rfl, hRep, rfl⟩) (Own := fun _ => False) (fun b h => h.elim) (A := #[.slice (some ⟨w.heap.size + 2, 0, none⟩) 4 cap]) rfl 1
  refine (callsIn_wide.1 hs).mono ?_
  rintro e W' ⟨u, r, os', G', rfl, ⟨rfl, rfl⟩, hu, hKn, hst, hbl⟩
  obtain ⟨hI3, hle3⟩ := hI2.grow (w' := W') (K' := G'.K) hst.os hst.tape hst.output hst.size (fun b hb => (hbl b hb).1) (fun b o hb => (hbl b hb).2 o) (fun b o u _ e => hKn b o u e)
  exact ⟨u, ⟨G'.K, G.ob⟩, rfl, Rep.nameless (G := G') (fun _ _ _ h => h) _ _ rfl hu, hI3⟩
theorem headCalls (G : Gh) (w : World) (v : Nat) (hv : v = 1 ∨ v = 2 ∨ v = 3) (hW : WR G (numbered 0 []) w) :
    Calls Tryz.prog 119 #[.int .i64 (v : Int)] w fun e w' => ∃ (u : Value) (G' : Gh), e = .returned (.tuple #[u, .int .i64 0]) ∧ Rep G' (.sl none 1 (byteEls (headP v))) u ∧ Inv (entryS G w) ⟨[], numbered 0 []⟩ G' { tmps := #[], defers := [] } w' := by
  have mixed := mixed_ok
  obtain ⟨i0, hi, hz0, hz1, hz2⟩ := info_parts u8_info
  rcases hv with rfl | rfl | rfl
  · obtain ⟨w2, w4, cap, hcv, hs2, hap, hH⟩ := headBuilt w 1 1 rfl i0 hi hz0 hz1 hz2
    have hseal := headSeal G w w4 1 cap hW hH
    go_enter Tryz.func119, Tryz.ntmps119
    go_wp2_with (first | (go_at_call 152; refine hseal.mono ?_; rintro e W' ⟨u, G', rfl, hu, hI⟩) | (at_builtin; refine Lib.wpList_append_run _ rfl _ _ _ _ rfl _ _ rfl rfl _ _ (hap _) ?_) | go_in)
    go_ret2
    exact ⟨u, G', rfl, hu, hI⟩
  · obtain ⟨w2, w4, cap, hcv, hs2, hap, hH⟩ := headBuilt w 2 2 rfl i0 hi hz0 hz1 hz2
    have hseal := headSeal G w w4 2 cap hW hH
    go_enter Tryz.func119, Tryz.ntmps119
    go_wp2_with (first | (go_at_call 152; refine hseal.mono ?_; rintro e W' ⟨u, G', rfl, hu, hI⟩) | (at_builtin; refine Lib.wpList_append_run _ rfl _ _ _ _ rfl _ _ rfl rfl _ _ (hap _) ?_) | go_in)
    go_ret2
    exact ⟨u, G', rfl, hu, hI⟩
  · obtain ⟨w2, w4, cap, hcv, hs2, hap, hH⟩ := headBuilt w 3 3 rfl i0 hi hz0 hz1 hz2
    have hseal := headSeal G w w4 3 cap hW hH
    go_enter Tryz.func119, Tryz.ntmps119
    go_wp2_with (first | (go_at_call 152; refine hseal.mono ?_; rintro e W' ⟨u, G', rfl, hu, hI⟩) | (at_builtin; refine Lib.wpList_append_run _ rfl _ _ _ _ rfl _ _ rfl rfl _ _ (hap _) ?_) | go_in)
    go_ret2
    exact ⟨u, G', rfl, hu, hI⟩
theorem Head_calls (v : Nat) (hv : v = 1 ∨ v = 2 ∨ v = 3) {R} (h : R (.tup [.sl none 1 (byteEls (headP v)), vi 0]) []) : ACalls Tryz.prog 119 [vi (v : Int)] [] R := by
  refine packS fun G w vals hW hA => ?_
  have hA : ∃ a l, vals = a :: l ∧ a = .int .i64 (v : Int) ∧ l = [] := by simpa only [RepL, Rep, vi] using hA
  obtain ⟨_, _, rfl, rfl, rfl⟩ := hA
  refine (headCalls G w v hv hW).mono ?_
  rintro e w' ⟨u, G', rfl, hu, hI⟩
  exact ⟨_, _, [], G', rfl, h, (by simp only [Rep, RepL]; exact ⟨[u, .int .i64 0], rfl, u, _, rfl, (by simpa only [Rep] using hu), _, _, rfl, rfl, rfl⟩), hI, (by intro i o ho; cases ho), by simp [AV.names, namesL, vi]⟩
theorem fmay_calls (v : Int) {R} (h : ∀ p, p = (decide (1 ≤ v) && decide (v ≤ 3)) → R (.val (.bool p)) []) : ACalls Tryz.prog 151 [vi v] [] R := by
  refine acalls_of_xwp (an := an151) tab_ok Tryz.func151 ?_
  (conv => whnf)
  refine br_intro (fun g => ?_) (fun g => ?_)
  · have g : 1 ≤ v := by have g := of_decide_eq_true g; omega
    (conv => whnf)
    exact h _ (by rw [decide_eq_true g, Bool.true_and])
  · have g : ¬ 1 ≤ v := by have g := of_decide_eq_false g; omega
    (conv => whnf)
    exact h _ (by rw [decide_eq_false g, Bool.false_and])
theorem Head_no (v : Int) (hv : ¬ (1 ≤ v ∧ v ≤ 3)) {R} (h : R (.tup [.val (.slice none 0 0), vi 11]) []) : ACalls Tryz.prog 119 [vi v] [] R := by
  refine acalls_of_xwp (an := an119) tab_ok Tryz.func119 ?_
  (conv => whnf)
  refine fmay_calls v fun p hp => ?_
  have hp : p = false := by
    rw [hp, Bool.and_eq_false_iff, decide_eq_false_iff_not, decide_eq_false_iff_not]
    omega
  subst hp
  (conv => whnf)
  exact h
end Go.Abs
end

section
/- frame.Version, frame.Run. -/
set_option maxRecDepth 100000
set_option maxHeartbeats 4000000
set_option linter.unusedVariables false
set_option linter.unusedSimpArgs false
namespace Go.Abs
open Go Go.Proofs Dig
attribute [local irreducible] ibits byteAt strLt firstIdx

theorem headP_length (v : Int) : (headP v).length = 8 := rfl
theorem Version_1 (q : B) (hq : q.length < 1000000) {R} (h : R (.tup [vi 1, vi 0]) []) : ACalls Tryz.prog 123 [.sl none 1 (byteEls (headP 1 ++ q))] [] R := by
  have hbl : (byteEls (headP 1 ++ q)).length = 8 + q.length := by rw [bel_length, List.length_append, headP_length]
  refine acalls_of_xwp (an := an123) tab_ok Tryz.func123 ?_
  obtain ⟨ns, n1, n2⟩ := str_of [84, 80, 72]
  (conv => whnf)
  refine must_intro (decide_eq_true (by rw [hbl]; omega)) ?_
  (conv => whnf)
  refine ⟨ns, n1, ?_⟩
  rw [n2]
  (conv => whnf)
  refine whole_calls _ q (by simp [lettersB]; omega) ?_
  (conv => whnf)
  refine fmay_calls _ fun p hp => ?_
  have hp : p = true := hp
  subst hp
  (conv => whnf)
  exact h
theorem Version_2 (q : B) (hq : q.length < 1000000) {R} (h : R (.tup [vi 2, vi 0]) []) : ACalls Tryz.prog 123 [.sl none 1 (byteEls (headP 2 ++ q))] [] R := by
  have hbl : (byteEls (headP 2 ++ q)).length = 8 + q.length := by rw [bel_length, List.length_append, headP_length]
  refine acalls_of_xwp (an := an123) tab_ok Tryz.func123 ?_
  obtain ⟨ns, n1, n2⟩ := str_of [84, 80, 72]
  (conv => whnf)
  refine must_intro (decide_eq_true (by rw [hbl]; omega)) ?_
  (conv => whnf)
  refine ⟨ns, n1, ?_⟩
  rw [n2]
  (conv => whnf)
  refine whole_calls _ q (by simp [lettersB]; omega) ?_
  (conv => whnf)
  refine fmay_calls _ fun p hp => ?_
  have hp : p = true := hp
  subst hp
  (conv => whnf)
  exact h
theorem Version_3 (q : B) (hq : q.length < 1000000) {R} (h : R (.tup [vi 3, vi 0]) []) : ACalls Tryz.prog 123 [.sl none 1 (byteEls (headP 3 ++ q))] [] R := by
  have hbl : (byteEls (headP 3 ++ q)).length = 8 + q.length := by rw [bel_length, List.length_append, headP_length]
  refine acalls_of_xwp (an := an123) tab_ok Tryz.func123 ?_
  obtain ⟨ns, n1, n2⟩ := str_of [84, 80, 72]
  (conv => whnf)
  refine must_intro (decide_eq_true (by rw [hbl]; omega)) ?_
  (conv => whnf)
  refine ⟨ns, n1, ?_⟩
  rw [n2]
  (conv => whnf)
  refine whole_calls _ q (by simp [lettersB]; omega) ?_
  (conv => whnf)
  refine fmay_calls _ fun p hp => ?_
  have hp : p = true := hp
  subst hp
  (conv => whnf)
  exact h
theorem frames_calls (b : B) (n : Nat) {R} (h : R (.fn (.func 190) [] [.cptr [.sl none 1 (byteEls b)] 0, .ptr 0 0]) [.cells 3 [vi (n : Int)]]) : ACalls Tryz.prog 159 [.sl none 1 (byteEls b), vi (n : Int)] [] R := by
  refine acalls_of_xwp (an := an159) tab_ok Tryz.func159 ?_
  (conv => whnf)
  exact h
theorem bytes_int : (tab.ti 3).bytes = 8 := rfl
theorem rowsB_take {l : List B} {i : Nat} (hi : i < l.length) : rowsB (l.take (i + 1)) = rowsB (l.take i) ++ [[.sl none 1 (byteEls l[i])]] := by
  rw [List.take_succ_eq_append_getElem hi, rowsB_append]
  rfl
theorem ints_take {l : List Nat} {i : Nat} (hi : i < l.length) : ints (l.take (i + 1)) = ints (l.take i) ++ [[vi (l[i] : Int)]] := by
  rw [List.take_succ_eq_append_getElem hi]
  unfold ints
  rw [List.map_append]
  rfl
def rnS : List AV := [.junk, .junk, .junk, .junk, .ptr (nameOf 4) 0, .ptr (nameOf 5) 0, .junk, .junk, .junk, .junk, .junk, .junk, .junk, .junk, .junk, .junk, .junk, .junk, .junk, .junk, .junk, .junk, .junk]
theorem Run_calls (h0 : B) (l : List B) (t : B) (ht : EndAt t) (hok : ∀ p ∈ l, 1 ≤ p.length ∧ p.length ≤ 2048) (hl : h0.length + (framesP l).length + t.length < 1000000) (hll : l.length < 100000) {R} (h : R (.tup [.sl none 1 (rowsB l), .sl none 1 (ints (endsP h0.length l))]) []) :
    ACalls Tryz.prog 124 [.sl none 1 (byteEls (h0 ++ (framesP l ++ t))), vi (h0.length : Int)] [] R := by
  refine ACalls.res ?_
  refine acalls_of_xwp (an := an124) tab_ok Tryz.func124 ?_
  (conv => whnf)
  refine frames_calls (h0 ++ (framesP l ++ t)) h0.length ?_
  (conv => whnf)
  refine .inr ?_
  (conv => whnf)
  have hlA := framesA_length h0.length l
  have hel := endsP_length l h0.length
  refine ⟨framesA h0.length l, frames_iter h0 l t ht hok hl, ?_, ?_⟩
  · intro x hx
    obtain ⟨q, _, rfl⟩ := List.mem_map.1 hx
    rfl
  refine ⟨fun i s => (i = 0 ∧ s = ⟨rnS, [(nameOf 4, .cells 174 [.val (.slice none 0 0)]), (nameOf 5, .cells 31 [.val (.slice none 0 0)])]⟩) ∨
    (0 < i ∧ i ≤ l.length ∧ s = ⟨rnS, [(nameOf 4, .cells 174 [.sl (some (nameOf 16)) 1 (rowsB (l.take i))]), (nameOf 5, .cells 31 [.sl (some (nameOf 20)) 1 (ints ((endsP h0.length l).take i))]), (nameOf 16, .row 82 1 i), (nameOf 20, .row 3 1 i)]⟩), .inl ⟨rfl, rfl⟩, ?_, ?_⟩
  · rintro i x s hx hs
    have hi : i < l.length := by
      have := (List.getElem?_eq_some_iff.1 hx).1
      omega
    have hx2 := framesA_at (o := h0.length) hi
    rw [hx] at hx2
    cases hx2
    have hee := endsP_at l h0.length i hi
    have hi2 : i < (endsP h0.length l).length := by omega
    have hei : (endsP h0.length l)[i] = h0.length + (framesP (l.take (i + 1))).length := by
      rw [List.getElem?_eq_getElem hi2] at hee
      exact Option.some.inj hee
    generalize h0.length + (framesP (l.take (i + 1))).length = e at hei hx hee ⊢
    rcases hs with ⟨rfl, rfl⟩ | ⟨h1, h2, rfl⟩
    · have e1 : rowsB (l.take (0 + 1)) = [[.sl none 1 (byteEls l[0])]] := by rw [rowsB_take hi]; rfl
      have e2 : ints ((endsP h0.length l).take (0 + 1)) = [[vi (e : Int)]] := by rw [ints_take hi2, hei]; rfl
      (conv => whnf)
      refine ⟨?_, ?_, trivial⟩
      · (conv => whnf)
        refine ⟨?_, ?_, trivial⟩
        · (conv => whnf)
          refine ⟨by rw [bytes_bytes]; simp, ?_⟩
          (conv => whnf)
          refine ⟨?_, trivial⟩
          (conv => whnf)
          refine ⟨?_, trivial⟩
          (conv => whnf)
          refine ⟨by rw [bytes_int]; simp, ?_⟩
          (conv => whnf)
          refine ⟨?_, trivial⟩
          (conv => whnf)
          refine ⟨?_, trivial⟩
          (conv => whnf)
          refine .inr ⟨by omega, by omega, ?_⟩
          rw [e1, e2]
          rfl
        · (conv => whnf)
          refine ⟨?_, trivial⟩
          (conv => whnf)
          refine ⟨by rw [bytes_bytes]; simp, ?_⟩
          (conv => whnf)
          refine ⟨?_, trivial⟩
          (conv => whnf)
          refine ⟨by rw [bytes_int]; simp, ?_⟩
          (conv => whnf)
          refine ⟨?_, trivial⟩
          (conv => whnf)
          refine ⟨?_, trivial⟩
          (conv => whnf)
          refine .inr ⟨by omega, by omega, ?_⟩
          rw [e1, e2]
          rfl
      · (conv => whnf)
        refine ⟨?_, trivial⟩
        (conv => whnf)
        refine ⟨?_, trivial⟩
        (conv => whnf)
        refine ⟨by rw [bytes_bytes]; simp, ?_⟩
        (conv => whnf)
        refine ⟨?_, trivial⟩
        (conv => whnf)
        refine ⟨by rw [bytes_int]; simp, ?_⟩
        (conv => whnf)
        refine ⟨?_, trivial⟩
        (conv => whnf)
        refine ⟨?_, trivial⟩
        (conv => whnf)
        refine .inr ⟨by omega, by omega, ?_⟩
        rw [e1, e2]
        rfl
    · have e1 := rowsB_take hi
      have e2 := ints_take hi2
      rw [hei] at e2
      have l1 : (rowsB (l.take i)).length = i := by rw [rowsB_length, List.length_take]; omega
      have l2 : (ints ((endsP h0.length l).take i)).length = i := by rw [ints_length, List.length_take]; omega
      (conv => whnf)
      refine ⟨?_, ?_, trivial⟩
      · (conv => whnf)
        refine ⟨?_, ?_, trivial⟩
        · (conv => whnf)
          refine ⟨l1.symm, by rw [l1, bytes_bytes]; simp; omega, ?_⟩
          (conv => whnf)
          refine ⟨?_, trivial⟩
          (conv => whnf)
          refine ⟨?_, trivial⟩
          (conv => whnf)
          refine ⟨l2.symm, by rw [l2, bytes_int]; simp; omega, ?_⟩
          (conv => whnf)
          refine ⟨?_, trivial⟩
          (conv => whnf)
          refine ⟨?_, trivial⟩
          (conv => whnf)
          refine .inr ⟨by omega, by omega, ?_⟩
          rw [e1, e2, l1, l2]
          rfl
        · (conv => whnf)
          refine ⟨?_, trivial⟩
          (conv => whnf)
          refine ⟨l1.symm, by rw [l1, bytes_bytes]; simp; omega, ?_⟩
          (conv => whnf)
          refine ⟨?_, trivial⟩
          (conv => whnf)
          refine ⟨l2.symm, by rw [l2, bytes_int]; simp; omega, ?_⟩
          (conv => whnf)
          refine ⟨?_, trivial⟩
          (conv => whnf)
          refine ⟨?_, trivial⟩
          (conv => whnf)
          refine .inr ⟨by omega, by omega, ?_⟩
          rw [e1, e2, l1, l2]
          rfl
      · (conv => whnf)
        refine ⟨?_, trivial⟩
        (conv => whnf)
        refine ⟨?_, trivial⟩
        (conv => whnf)
        refine ⟨l1.symm, by rw [l1, bytes_bytes]; simp; omega, ?_⟩
        (conv => whnf)
        refine ⟨?_, trivial⟩
        (conv => whnf)
        refine ⟨l2.symm, by rw [l2, bytes_int]; simp; omega, ?_⟩
        (conv => whnf)
        refine ⟨?_, trivial⟩
        (conv => whnf)
        refine ⟨?_, trivial⟩
        (conv => whnf)
        refine .inr ⟨by omega, by omega, ?_⟩
        rw [e1, e2, l1, l2]
        rfl
  · rintro s (⟨h1, rfl⟩ | ⟨h1, h2, rfl⟩)
    · have hl0 : l = [] := List.length_eq_zero_iff.1 (by omega)
      subst hl0
      (conv => whnf)
      refine ⟨?_, ?_, trivial⟩
      · (conv => whnf)
        refine ⟨?_, ?_, trivial⟩
        · (conv => whnf)
          refine ⟨?_, trivial⟩
          (conv => whnf)
          refine ⟨?_, trivial⟩
          (conv => whnf)
          exact res_le (le_tup (.cons (le_nil 1) (.cons (le_nil 1) .nil))) rfl h
        · (conv => whnf)
          refine ⟨?_, trivial⟩
          (conv => whnf)
          refine ⟨?_, trivial⟩
          (conv => whnf)
          exact res_le (le_tup (.cons (le_nil 1) (.cons (le_nil 1) .nil))) rfl h
      · (conv => whnf)
        refine ⟨?_, trivial⟩
        (conv => whnf)
        refine ⟨?_, trivial⟩
        (conv => whnf)
        refine ⟨?_, trivial⟩
        (conv => whnf)
        exact res_le (le_tup (.cons (le_nil 1) (.cons (le_nil 1) .nil))) rfl h
    · rw [hlA, List.take_length, ← hel, List.take_length]
      (conv => whnf)
      refine ⟨?_, ?_, trivial⟩
      · (conv => whnf)
        refine ⟨?_, ?_, trivial⟩
        · (conv => whnf)
          refine ⟨?_, trivial⟩
          (conv => whnf)
          refine ⟨?_, trivial⟩
          (conv => whnf)
          exact res_same h
        · (conv => whnf)
          refine ⟨?_, trivial⟩
          (conv => whnf)
          refine ⟨?_, trivial⟩
          (conv => whnf)
          exact res_same h
      · (conv => whnf)
        refine ⟨?_, trivial⟩
        (conv => whnf)
        refine ⟨?_, trivial⟩
        (conv => whnf)
        refine ⟨?_, trivial⟩
        (conv => whnf)
        exact res_same h
end Go.Abs
end
