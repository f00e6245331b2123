/- Several texts of this claim, one behind the other: G3, H2, H3, H4, H5, H7, H8, HB, M7, M8, MA, M9, MB. -/
import Derived.Test.YthgjcmfbfigpbaaDoorYDumpLines1
import Derived.Sort.Walk0
import Derived.Lib.IndexLaws

section
/- What is found of a target (fold.Find), and the document's. -/
set_option maxRecDepth 100000
set_option linter.unusedVariables false
set_option linter.unusedSimpArgs false
namespace Go.Abs
open Go Go.Proofs Dig
attribute [local irreducible] ibits byteAt strLt firstIdx

def isOf (t : B) (r : Rc) : Bool := decide (r.kind = 1) && decide (r.target = t)
def findP (l : List Rc) (t : B) : Option Rc := l.reverse.find? (isOf t)
def findR (l : List Rc) (t : B) : Rc := (findP l t).getD zeroR

theorem backsR_get {l : List Rc} {i : Nat} {x : List AV} (h : (backsR l)[i]? = some x) : ∃ s k, l.reverse[i]? = some s ∧ x = [.val (.int .i64 k), .agg s.enc] := by
  unfold backsR at h
  rw [List.getElem?_map, Option.map_eq_some_iff] at h
  obtain ⟨p, hp, rfl⟩ := h
  have h1 : (l.zipIdx.reverse.map (·.1))[i]? = some p.1 := by rw [List.getElem?_map, hp]; rfl
  rw [List.map_reverse, List.zipIdx_map_fst] at h1
  exact ⟨p.1, p.2, h1, rfl⟩
theorem backsR_length (l : List Rc) : (backsR l).length = l.length := by simp [backsR]
theorem find?_at {α : Type} {l : List α} {f : α → Bool} {i : Nat} {s : α} (h0 : ∀ j x, j < i → l[j]? = some x → f x = false) (h1 : l[i]? = some s) (h2 : f s = true) : l.find? f = some s := by
  induction l generalizing i with
  | nil => simp at h1
  | cons a l ih =>
    cases i with
    | zero => simp at h1; subst h1; simp [h2]
    | succ i =>
      have : f a = false := h0 0 a (by omega) rfl
      simp only [List.find?_cons, this]
      exact ih (i := i) (fun j x hj hx => h0 (j + 1) x (by omega) (by simpa using hx)) (by simpa using h1)
theorem find?_no {α : Type} {l : List α} {f : α → Bool} (h0 : ∀ j x, j < l.length → l[j]? = some x → f x = false) : l.find? f = none := by
  rw [List.find?_eq_none]
  intro x hx
  obtain ⟨j, hj, rfl⟩ := List.getElem_of_mem hx
  simp [h0 j _ hj (List.getElem?_eq_getElem hj)]

theorem findR_deps {l : List Rc} (hd : ∀ r ∈ l, r.deps.length < 1000000) (t : B) : (findR l t).deps.length < 1000000 := by
  unfold findR findP
  cases h : l.reverse.find? (isOf t) with
  | none => decide
  | some r => exact hd r (by rw [← List.mem_reverse]; exact List.mem_of_find?_eq_some h)
end Go.Abs
end

section
/- A map's values, in the order of its keys (fold's ordered map). -/
set_option maxRecDepth 100000
set_option linter.unusedVariables false
set_option linter.unusedSimpArgs false
namespace Go.Abs
open Go Go.Proofs Dig
attribute [local irreducible] ibits byteAt strLt firstIdx

theorem nodup_bound {l : List Nat} {n : Nat} (h : l.Nodup) (hb : ∀ x ∈ l, x < n) : l.length ≤ n := by
  have hp : l.Perm ((List.range n).filter fun x => decide (x ∈ l)) := by
    refine (List.perm_ext_iff_of_nodup h (List.nodup_range.filter _)).2 fun a => ?_
    simp
    exact fun ha => hb a ha
  rw [hp.length_eq]
  exact Nat.le_trans (List.length_filter_le _ _) (by simp)

abbrev RMap := List (B × Rc)
def rmap (mp : RMap) : List (ByteArray × AV) := mp.map fun p => (ofB p.1, .agg p.2.enc)
def keysM (mp : RMap) : List B := mp.map (·.1)
def lookM (mp : RMap) (k : B) : Option Rc := (mp.find? fun p => decide (p.1 = k)).map (·.2)
def lookZ (mp : RMap) (k : B) : Rc := (lookM mp k).getD zeroR
theorem rmap_find (mp : RMap) (k : B) : mapFind (rmap mp) (ofB k) = (lookM mp k).map fun r => .agg r.enc := by
  induction mp with
  | nil => rfl
  | cons p mp ih =>
    unfold rmap at ih ⊢
    simp only [List.map_cons, mapFind, lookM, List.find?_cons]
    by_cases h : p.1 = k
    · simp [h]
    · have : ofB p.1 ≠ ofB k := fun e => h (ofB_inj e)
      simp only [this, if_false, h, decide_false, ih]
      rfl
theorem lookM_mem {mp : RMap} {k : B} (h : k ∈ keysM mp) : ∃ r, lookM mp k = some r := by
  obtain ⟨p, hp, rfl⟩ := List.mem_map.1 h
  cases hf : mp.find? fun q => decide (q.1 = p.1) with
  | none => exact absurd (List.find?_eq_none.1 hf p hp) (by simp)
  | some q => exact ⟨q.2, by simp [lookM, hf]⟩

end Go.Abs
end

section
/- The fold's plain law: the ordered map's values are the document's sorted list. -/
set_option linter.unusedVariables false
set_option linter.unusedSimpArgs false
namespace Go.Abs
open Go Go.Proofs

theorem ltB_eq (a b : B) : ltB a b = decide (a < b) := bytesLess_eq a b
theorem b_total {a b : B} (h : ¬ a < b) (hn : b ≠ a) : b < a := by
  refine Classical.byContradiction fun h2 => hn ?_
  exact List.le_antisymm (show b ≤ a from h) (show a ≤ b from h2)

/-! ### the document's -/
def docLoop (r : Rc) : Bool → List Rc → List Rc
  | laid, [] => if laid = true then [] else [r]
  | laid, s :: S => (if (!laid && ltB r.target s.target) = true then [r] else []) ++ ((if s.target = r.target then [] else [s]) ++ docLoop r (laid || (!laid && ltB r.target s.target)) S)
def docPut (S : List Rc) (r : Rc) : List Rc := if r.kind ≠ 1 ∧ r.kind ≠ 2 then S else docLoop r (decide (r.kind = 2)) S
def docOf (l : List Rc) : List Rc := l.foldl docPut []
abbrev Srt (S : List Rc) : Prop := S.Pairwise fun a b => a.target < b.target

theorem mem_ite1 {p : Prop} [Decidable p] {x r : Rc} : x ∈ (if p then [r] else []) ↔ p ∧ x = r := by by_cases h : p <;> simp [h]
theorem mem_ite2 {p : Prop} [Decidable p] {x r : Rc} : x ∈ (if p then [] else [r]) ↔ ¬ p ∧ x = r := by by_cases h : p <;> simp [h]
theorem docLoop_mem (r : Rc) : ∀ (S : List Rc) (laid : Bool) (x : Rc), x ∈ docLoop r laid S ↔ (laid = false ∧ x = r) ∨ (x ∈ S ∧ x.target ≠ r.target) := by
  intro S
  induction S with
  | nil => intro laid x; cases laid <;> simp [docLoop]
  | cons s S ih =>
    intro laid x
    simp only [docLoop, List.mem_append, ih, List.mem_cons, mem_ite1, mem_ite2]
    generalize hL : (!laid && ltB r.target s.target) = L
    have h1 : L = true → laid = false := by
      intro e
      rw [e] at hL
      cases laid
      · rfl
      · simp at hL
    constructor
    · rintro (⟨h, rfl⟩ | ⟨h, rfl⟩ | ⟨h, rfl⟩ | ⟨h, h'⟩)
      · exact .inl ⟨h1 h, rfl⟩
      · exact .inr ⟨.inl rfl, h⟩
      · exact .inl ⟨by cases laid <;> simp_all, rfl⟩
      · exact .inr ⟨.inr h, h'⟩
    · rintro (⟨h, rfl⟩ | ⟨rfl | h, h'⟩)
      · cases hq : L
        · exact .inr (.inr (.inl ⟨by simp [h], rfl⟩))
        · exact .inl ⟨rfl, rfl⟩
      · exact .inr (.inl ⟨h', rfl⟩)
      · exact .inr (.inr (.inr ⟨h, h'⟩))
theorem docLoop_srt (r : Rc) : ∀ (S : List Rc) (laid : Bool), Srt S → (laid = true → ∀ s ∈ S, r.target < s.target ∨ s.target = r.target ∨ s.target < r.target) → Srt (docLoop r laid S) := by
  intro S
  induction S with
  | nil => intro laid _ _; cases laid <;> simp [docLoop, Srt]
  | cons s S ih =>
    intro laid hS hl
    have hS' := List.pairwise_cons.1 hS
    have hrec : ∀ b, Srt (docLoop r b S) := fun b => ih b hS'.2 fun _ x _ => by
      by_cases h1 : r.target < x.target
      · exact .inl h1
      · by_cases h2 : x.target = r.target
        · exact .inr (.inl h2)
        · exact .inr (.inr (b_total h1 h2))
    simp only [docLoop]
    cases hL : (!laid && ltB r.target s.target)
    · simp only [Bool.or_false, Bool.false_eq_true, if_false, List.nil_append]
      by_cases hs : s.target = r.target
      · simp only [hs, if_true, List.nil_append]
        exact hrec laid
      · simp only [hs, if_false, List.cons_append, List.nil_append]
        refine List.pairwise_cons.2 ⟨fun x hx => ?_, hrec laid⟩
        rcases (docLoop_mem r S laid x).1 hx with ⟨h, rfl⟩ | ⟨h, _⟩
        · rw [h] at hL
          simp only [Bool.not_false, Bool.true_and, ltB_eq, decide_eq_false_iff_not] at hL
          exact b_total hL hs
        · exact hS'.1 x h
    · have hlt : r.target < s.target := by
        simp only [Bool.and_eq_true, ltB_eq, decide_eq_true_eq] at hL
        exact hL.2
      have hs : ¬ s.target = r.target := fun e => List.lt_irrefl _ (e ▸ hlt)
      simp only [Bool.or_true, if_true, hs, if_false, List.cons_append, List.nil_append]
      have hnr : ∀ x ∈ docLoop r true S, x ∈ S := fun x hx => by
        rcases (docLoop_mem r S true x).1 hx with ⟨h, _⟩ | ⟨h, _⟩
        · cases h
        · exact h
      refine List.pairwise_cons.2 ⟨fun x hx => ?_, List.pairwise_cons.2 ⟨fun x hx => hS'.1 x (hnr x hx), hrec true⟩⟩
      rw [List.mem_cons] at hx
      rcases hx with rfl | hx
      · exact hlt
      · exact List.lt_trans hlt (hS'.1 x (hnr x hx))
theorem docPut_srt {S : List Rc} (r : Rc) (h : Srt S) : Srt (docPut S r) := by
  unfold docPut
  split
  · exact h
  · refine docLoop_srt r S _ h fun _ x _ => ?_
    by_cases h1 : r.target < x.target
    · exact .inl h1
    · by_cases h2 : x.target = r.target
      · exact .inr (.inl h2)
      · exact .inr (.inr (b_total h1 h2))

/-! ### the map -/
def putR : RMap → B → Rc → RMap
  | [], k, r => [(k, r)]
  | p :: mp, k, r => if p.1 = k then (k, r) :: mp else p :: putR mp k r
def delR : RMap → B → RMap
  | [], _ => []
  | p :: mp, k => if p.1 = k then mp else p :: delR mp k
def putM (mp : RMap) (r : Rc) : RMap := if r.kind = 1 then putR mp r.target r else if r.kind = 2 then delR mp r.target else mp
def ofM (l : List Rc) : RMap := l.foldl putM []
theorem rmap_put (mp : RMap) (k : B) (r : Rc) : rmap (putR mp k r) = mapPut (rmap mp) (ofB k) (.agg r.enc) := by
  induction mp with
  | nil => rfl
  | cons p mp ih =>
    simp only [putR, rmap, List.map_cons, mapPut]
    by_cases h : p.1 = k
    · simp [h]
    · have : ofB p.1 ≠ ofB k := fun e => h (ofB_inj e)
      simp only [h, if_false, this, List.map_cons]
      unfold rmap at ih
      rw [ih]
theorem rmap_del (mp : RMap) (k : B) : rmap (delR mp k) = mapDel (rmap mp) (ofB k) := by
  induction mp with
  | nil => rfl
  | cons p mp ih =>
    simp only [delR, rmap, List.map_cons, mapDel]
    by_cases h : p.1 = k
    · simp [h]
    · have : ofB p.1 ≠ ofB k := fun e => h (ofB_inj e)
      simp only [h, if_false, this, List.map_cons]
      unfold rmap at ih
      rw [ih]
def MOk (mp : RMap) : Prop := (keysM mp).Nodup ∧ ∀ p ∈ mp, p.2.target = p.1
theorem putR_mem {mp : RMap} (hn : (keysM mp).Nodup) (k : B) (r : Rc) (q : B × Rc) : q ∈ putR mp k r ↔ q = (k, r) ∨ (q ∈ mp ∧ q.1 ≠ k) := by
  induction mp with
  | nil => simp [putR]
  | cons p mp ih =>
    have hn' := List.nodup_cons.1 (show (p.1 :: keysM mp).Nodup from hn)
    simp only [putR]
    by_cases h : p.1 = k
    · simp only [h, if_true, List.mem_cons]
      constructor
      · rintro (h1 | h1)
        · exact .inl h1
        · refine .inr ⟨.inr h1, fun e => hn'.1 ?_⟩
          rw [h, ← e]
          exact List.mem_map_of_mem h1
      · rintro (h1 | ⟨rfl | h1, h2⟩)
        · exact .inl h1
        · exact absurd h h2
        · exact .inr h1
    · simp only [h, if_false, List.mem_cons, ih hn'.2]
      constructor
      · rintro (rfl | h1 | ⟨h1, h2⟩)
        · exact .inr ⟨.inl rfl, h⟩
        · exact .inl h1
        · exact .inr ⟨.inr h1, h2⟩
      · rintro (h1 | ⟨rfl | h1, h2⟩)
        · exact .inr (.inl h1)
        · exact .inl rfl
        · exact .inr (.inr ⟨h1, h2⟩)
theorem delR_mem {mp : RMap} (hn : (keysM mp).Nodup) (k : B) (q : B × Rc) : q ∈ delR mp k ↔ q ∈ mp ∧ q.1 ≠ k := by
  induction mp with
  | nil => simp [delR]
  | cons p mp ih =>
    have hn' := List.nodup_cons.1 (show (p.1 :: keysM mp).Nodup from hn)
    simp only [delR]
    by_cases h : p.1 = k
    · simp only [h, if_true, List.mem_cons]
      constructor
      · intro h1
        refine ⟨.inr h1, fun e => hn'.1 ?_⟩
        rw [h, ← e]
        exact List.mem_map_of_mem h1
      · rintro ⟨rfl | h1, h2⟩
        · exact absurd h h2
        · exact h1
    · simp only [h, if_false, List.mem_cons, ih hn'.2]
      constructor
      · rintro (rfl | ⟨h1, h2⟩)
        · exact ⟨.inl rfl, h⟩
        · exact ⟨.inr h1, h2⟩
      · rintro ⟨rfl | h1, h2⟩
        · exact .inl rfl
        · exact .inr ⟨h1, h2⟩
theorem putR_nodup {mp : RMap} (hn : (keysM mp).Nodup) (k : B) (r : Rc) : (keysM (putR mp k r)).Nodup := by
  induction mp with
  | nil => simp [putR, keysM]
  | cons p mp ih =>
    have hn' := List.nodup_cons.1 (show (p.1 :: keysM mp).Nodup from hn)
    simp only [putR]
    by_cases h : p.1 = k
    · simp only [h, if_true]
      exact List.nodup_cons.2 ⟨by rw [← h]; exact hn'.1, hn'.2⟩
    · simp only [h, if_false]
      refine List.nodup_cons.2 ⟨fun hm => ?_, ih hn'.2⟩
      obtain ⟨q, hq, e⟩ := List.mem_map.1 hm
      rcases (putR_mem hn'.2 k r q).1 hq with rfl | ⟨h1, _⟩
      · exact h e.symm
      · have e : q.1 = p.1 := e
        exact hn'.1 (by rw [← e]; exact List.mem_map_of_mem h1)
theorem delR_nodup {mp : RMap} (hn : (keysM mp).Nodup) (k : B) : (keysM (delR mp k)).Nodup := by
  induction mp with
  | nil => simp [delR, keysM]
  | cons p mp ih =>
    have hn' := List.nodup_cons.1 (show (p.1 :: keysM mp).Nodup from hn)
    simp only [delR]
    by_cases h : p.1 = k
    · simp only [h, if_true]
      exact hn'.2
    · simp only [h, if_false]
      refine List.nodup_cons.2 ⟨fun hm => ?_, ih hn'.2⟩
      obtain ⟨q, hq, e⟩ := List.mem_map.1 hm
      have h1 := (delR_mem hn'.2 k q).1 hq
      have e : q.1 = p.1 := e
      exact hn'.1 (by rw [← e]; exact List.mem_map_of_mem h1.1)
theorem putM_ok {mp : RMap} (h : MOk mp) (r : Rc) : MOk (putM mp r) := by
  unfold putM
  split
  · refine ⟨putR_nodup h.1 _ _, fun p hp => ?_⟩
    rcases (putR_mem h.1 _ _ p).1 hp with rfl | ⟨h1, _⟩
    · rfl
    · exact h.2 p h1
  · split
    · exact ⟨delR_nodup h.1 _, fun p hp => h.2 p ((delR_mem h.1 _ p).1 hp).1⟩
    · exact h

/-- One and the same. -/
structure Fits (mp : RMap) (S : List Rc) : Prop where
  ok : MOk mp
  srt : Srt S
  mem : ∀ x, x ∈ S ↔ (x.target, x) ∈ mp
theorem Fits.put {mp : RMap} {S : List Rc} (h : Fits mp S) (r : Rc) : Fits (putM mp r) (docPut S r) := by
  refine ⟨putM_ok h.ok r, docPut_srt r h.srt, fun x => ?_⟩
  unfold docPut putM
  by_cases h1 : r.kind = 1
  · have hk2 : decide (r.kind = 2) = false := by rw [h1]; rfl
    rw [if_neg (by simp [h1]), if_pos h1, docLoop_mem, hk2, putR_mem h.ok.1, h.mem]
    constructor
    · rintro (⟨_, rfl⟩ | h)
      · exact .inl rfl
      · exact .inr h
    · rintro (h | h)
      · exact .inl ⟨rfl, by injection h⟩
      · exact .inr h
  · by_cases h2 : r.kind = 2
    · rw [if_neg (by simp [h2]), if_neg h1, if_pos h2, docLoop_mem, delR_mem h.ok.1, h.mem]
      simp [h2]
    · rw [if_pos ⟨h1, h2⟩, if_neg h1, if_neg h2]
      exact h.mem x
theorem fits_of (l : List Rc) : Fits (ofM l) (docOf l) := by
  have : ∀ (l : List Rc) (mp : RMap) (S : List Rc), Fits mp S → Fits (l.foldl putM mp) (l.foldl docPut S) := by
    intro l
    induction l with
    | nil => intro mp S h; exact h
    | cons r l ih => intro mp S h; exact ih _ _ (h.put r)
  exact this l [] [] ⟨⟨by simp [keysM], by simp⟩, List.Pairwise.nil, by simp⟩

theorem srt_ext : ∀ {l m : List Rc}, Srt l → Srt m → (∀ x, x ∈ l ↔ x ∈ m) → l = m := by
  intro l
  induction l with
  | nil =>
    intro m _ _ h
    cases m with
    | nil => rfl
    | cons b m => exact absurd ((h b).2 (by simp)) (by simp)
  | cons a l ih =>
    intro m hl hm h
    cases m with
    | nil => exact absurd ((h a).1 (by simp)) (by simp)
    | cons b m =>
      have hl' := List.pairwise_cons.1 hl
      have hm' := List.pairwise_cons.1 hm
      have hab : a = b := by
        rcases List.mem_cons.1 ((h a).1 (by simp)) with e | h1
        · exact e
        · rcases List.mem_cons.1 ((h b).2 (by simp)) with e | h2
          · exact e.symm
          · exact absurd (hl'.1 b h2) (List.lt_asymm (hm'.1 a h1))
      subst hab
      congr 1
      refine ih hl'.2 hm'.2 fun x => ?_
      constructor
      · intro hx
        rcases List.mem_cons.1 ((h x).1 (by simp [hx])) with rfl | h1
        · exact absurd (hl'.1 _ hx) (List.lt_irrefl _)
        · exact h1
      · intro hx
        rcases List.mem_cons.1 ((h x).2 (by simp [hx])) with rfl | h1
        · exact absurd (hm'.1 _ hx) (List.lt_irrefl _)
        · exact h1

theorem lookM_of_mem {mp : RMap} (hn : (keysM mp).Nodup) {k : B} {r : Rc} (h : (k, r) ∈ mp) : lookM mp k = some r := by
  induction mp with
  | nil => simp at h
  | cons p mp ih =>
    have hn' := List.nodup_cons.1 (show (p.1 :: keysM mp).Nodup from hn)
    unfold lookM at ih ⊢
    simp only [List.find?_cons]
    rcases List.mem_cons.1 h with rfl | h
    · simp
    · have : p.1 ≠ k := fun e => hn'.1 (by rw [e]; exact List.mem_map_of_mem (f := (·.1)) h)
      simp only [this, decide_false]
      exact ih hn'.2 h
theorem mem_of_lookM {mp : RMap} {k : B} {r : Rc} (h : lookM mp k = some r) : (k, r) ∈ mp := by
  unfold lookM at h
  rw [Option.map_eq_some_iff] at h
  obtain ⟨p, h1, rfl⟩ := h
  have h2 := List.find?_some h1
  have : p.1 = k := by simpa using h2
  rw [← this]
  exact List.mem_of_find?_eq_some h1

/-- The map's values, its keys sorted, are the document's fold. -/
theorem values_doc {mp : RMap} {S : List Rc} (h : Fits mp S) {ks : List B} (hp : ks.Perm (keysM mp)) (hs : ks = sortB ks) : ks.map (lookZ mp) = S := by
  have hz : ∀ k ∈ ks, ∃ r, (k, r) ∈ mp ∧ lookZ mp k = r := fun k hk => by
    obtain ⟨r, hr⟩ := lookM_mem (mp := mp) (k := k) (hp.mem_iff.1 hk)
    exact ⟨r, mem_of_lookM hr, by rw [lookZ, hr]; rfl⟩
  have hle : ks.Pairwise (fun a b => a ≤ b) := by
    have := List.pairwise_mergeSort (le := fun x y : B => decide (x ≤ y)) (fun a b c h1 h2 => by simp at h1 h2 ⊢; exact List.le_trans h1 h2) (fun a b => by simp; exact List.le_total a b) ks
    rw [show ks.mergeSort (fun x y => decide (x ≤ y)) = ks from hs.symm] at this
    exact this.imp fun h => of_decide_eq_true h
  have hnd : ks.Nodup := hp.nodup_iff.2 h.ok.1
  refine srt_ext ?_ h.srt fun x => ?_
  · rw [Srt, List.pairwise_map]
    refine List.Pairwise.imp_of_mem ?_ (hle.and hnd)
    rintro a b ha hb ⟨h1, h2⟩
    obtain ⟨ra, a1, a2⟩ := hz a ha
    obtain ⟨rb, b1, b2⟩ := hz b hb
    rw [a2, b2, h.ok.2 _ a1, h.ok.2 _ b1]
    refine Classical.byContradiction fun hn => h2 ?_
    exact List.le_antisymm h1 (show b ≤ a from hn)
  · rw [h.mem, List.mem_map]
    constructor
    · rintro ⟨k, hk, rfl⟩
      obtain ⟨r, h1, h2⟩ := hz k hk
      rw [h2, h.ok.2 _ h1]
      exact h1
    · intro hx
      have hk : x.target ∈ ks := hp.mem_iff.2 (List.mem_map_of_mem (f := (·.1)) hx)
      refine ⟨x.target, hk, ?_⟩
      rw [lookZ, lookM_of_mem h.ok.1 hx]; rfl
end Go.Abs
end

section
/- fold.put, fold.Of; the document's Put, Of; All. -/
set_option maxRecDepth 100000
set_option maxHeartbeats 1000000
set_option linter.unusedVariables false
set_option linter.unusedSimpArgs false
namespace Go.Abs
open Go Go.Proofs Dig
attribute [local irreducible] ibits byteAt strLt firstIdx

theorem ofM_len (l : List Rc) : (ofM l).length ≤ l.length := by
  have hp : ∀ (mp : RMap) (k : B) (r : Rc), (putR mp k r).length ≤ mp.length + 1 := by
    intro mp k r
    induction mp with
    | nil => simp [putR]
    | cons p mp ih => simp only [putR]; split <;> simp; omega
  have hd : ∀ (mp : RMap) (k : B), (delR mp k).length ≤ mp.length := by
    intro mp k
    induction mp with
    | nil => simp [delR]
    | cons p mp ih => simp only [delR]; split <;> simp; omega
  have : ∀ (l : List Rc) (mp : RMap), (l.foldl putM mp).length ≤ mp.length + l.length := by
    intro l
    induction l with
    | nil => intro mp; simp
    | cons r l ih =>
      intro mp
      have h1 := ih (putM mp r)
      have h2 : (putM mp r).length ≤ mp.length + 1 := by
        unfold putM
        split
        · exact hp _ _ _
        · split
          · have := hd mp r.target; omega
          · omega
      simp only [List.foldl_cons, List.length_cons]
      omega
  simpa [ofM] using this l []

end Go.Abs
end

section
/- The document's fold, All; compact.Records, Waste. -/
set_option maxRecDepth 100000
set_option maxHeartbeats 1000000
set_option linter.unusedVariables false
set_option linter.unusedSimpArgs false
namespace Go.Abs
open Go Go.Proofs Dig
attribute [local irreducible] ibits byteAt strLt firstIdx

theorem docLoop_len (r : Rc) : ∀ (S : List Rc) (laid : Bool), (docLoop r laid S).length ≤ S.length + (if laid = true then 0 else 1) := by
  intro S
  induction S with
  | nil => intro laid; cases laid <;> simp [docLoop]
  | cons s S ih =>
    intro laid
    simp only [docLoop, List.length_append, List.length_cons]
    have := ih (laid || (!laid && ltB r.target s.target))
    have h2 : (if s.target = r.target then [] else [s]).length ≤ 1 := by split <;> simp
    cases laid <;> cases hl : ltB r.target s.target <;> simp [hl] at this ⊢ <;> omega
theorem docPut_len (S : List Rc) (r : Rc) : (docPut S r).length ≤ S.length + 1 := by
  unfold docPut
  split
  · omega
  · have := docLoop_len r S (decide (r.kind = 2))
    split at this <;> omega
theorem docPut_sub {S : List Rc} {r x : Rc} (h : x ∈ docPut S r) : (x = r ∧ r.kind = 1) ∨ x ∈ S := by
  unfold docPut at h
  split at h
  · exact .inr h
  · rename_i hk
    rcases (docLoop_mem r S _ x).1 h with ⟨h1, h2⟩ | ⟨h1, _⟩
    · refine .inl ⟨h2, ?_⟩
      have h1 : ¬ r.kind = 2 := of_decide_eq_false h1
      exact Classical.byContradiction fun e => hk ⟨e, h1⟩
    · exact .inr h1
theorem docPut_mem1 {S : List Rc} {r : Rc} (hk : r.kind = 1) (x : Rc) : x ∈ docPut S r ↔ x = r ∨ (x ∈ S ∧ x.target ≠ r.target) := by
  have hk2 : decide (r.kind = 2) = false := by rw [hk]; rfl
  rw [docPut, if_neg (by simp [hk]), docLoop_mem, hk2]
  simp
theorem docOf_snoc (l : List Rc) (r : Rc) : docOf (l ++ [r]) = docPut (docOf l) r := by simp [docOf]
theorem docFold_len : ∀ (l S : List Rc), (l.foldl docPut S).length ≤ S.length + l.length := by
  intro l
  induction l with
  | nil => intro S; simp
  | cons r l ih =>
    intro S
    have := ih (docPut S r)
    have := docPut_len S r
    simp only [List.foldl_cons, List.length_cons]
    omega
theorem docOf_len (l : List Rc) : (docOf l).length ≤ l.length := by simpa [docOf] using docFold_len l []
theorem docFold_sub : ∀ (l S : List Rc) (x : Rc), x ∈ l.foldl docPut S → (x ∈ l ∧ x.kind = 1) ∨ x ∈ S := by
  intro l
  induction l with
  | nil => intro S x h; exact .inr h
  | cons r l ih =>
    intro S x h
    rcases ih _ x h with ⟨h, hk⟩ | h
    · exact .inl ⟨by simp [h], hk⟩
    · rcases docPut_sub h with ⟨rfl, hk⟩ | h
      · exact .inl ⟨by simp, hk⟩
      · exact .inr h
theorem docOf_sub {l : List Rc} {x : Rc} (h : x ∈ docOf l) : x ∈ l ∧ x.kind = 1 := by
  rcases docFold_sub l [] x h with h | h
  · exact h
  · simp at h
theorem docOf_srt (l : List Rc) : Srt (docOf l) := (fits_of l).srt
theorem docFold_all : ∀ (l S : List Rc), (∀ x ∈ l, x.kind = 1) → (l.Pairwise fun a b => a.target ≠ b.target) → (∀ a ∈ S, ∀ b ∈ l, a.target ≠ b.target) → ∀ x, x ∈ l.foldl docPut S ↔ x ∈ S ∨ x ∈ l := by
  intro l
  induction l with
  | nil => intro S _ _ _ x; simp
  | cons r l ih =>
    intro S hk hp hd x
    have hp' := List.pairwise_cons.1 hp
    rw [List.foldl_cons, ih _ (fun y hy => hk y (by simp [hy])) hp'.2 ?_ x, docPut_mem1 (hk r (by simp)), List.mem_cons]
    · constructor
      · rintro ((h | ⟨h, _⟩) | h)
        · exact .inr (.inl h)
        · exact .inl h
        · exact .inr (.inr h)
      · rintro (h | h | h)
        · exact .inl (.inr ⟨h, hd x h r (by simp)⟩)
        · exact .inl (.inl h)
        · exact .inr h
    · intro a ha b hb
      rcases (docPut_mem1 (hk r (by simp)) a).1 ha with rfl | ⟨h, _⟩
      · exact hp'.1 b hb
      · exact hd a h b (by simp [hb])
theorem docOf_right {S : List Rc} (hs : Srt S) (hk : ∀ x ∈ S, x.kind = 1) : docOf S = S :=
  srt_ext (docOf_srt S) hs fun x => by
    rw [docOf, docFold_all S [] hk (hs.imp fun {a b} (h : a.target < b.target) (e : a.target = b.target) => List.lt_irrefl _ (e ▸ h)) (by simp) x]
    simp
theorem docOf_docOf (l : List Rc) : docOf (docOf l) = docOf l := docOf_right (docOf_srt l) fun x hx => (docOf_sub hx).2

end Go.Abs
end

section
/- record.Same, fold.Same; the chapter's example; FoldFinds. -/
set_option maxRecDepth 100000
set_option maxHeartbeats 1000000
set_option linter.unusedVariables false
set_option linter.unusedSimpArgs false
namespace Go.Abs
open Go Go.Proofs Dig
attribute [local irreducible] ibits byteAt strLt firstIdx

def Rc.bare (r : Rc) : List AV := [vi r.kind, vs r.target, vs r.tag, uv r.rule, uv r.out, uv r.wen]
theorem of_calls (r : Rc) {R} (h : R (.agg r.bare) []) : ACalls Tryd.prog 44 [.agg r.enc] [] R := by
  refine acalls_of_xwp (an := an44) tab_ok Tryd.func44 ?_
  (conv => whnf)
  exact h
theorem dp_ne (a b : Dp) (h : (!(true && decide (ofB a.name = ofB b.name) && ((a.hash.toNat : Int) == (b.hash.toNat : Int)) && (a.order == b.order))) = true) : a ≠ b := by
  rintro rfl
  simp at h
theorem dp_eq (a b : Dp) (h : (!(true && decide (ofB a.name = ofB b.name) && ((a.hash.toNat : Int) == (b.hash.toNat : Int)) && (a.order == b.order))) = false) : a = b := by
  simp [ofB_eq] at h
  obtain ⟨⟨h1, h2⟩, h3⟩ := h
  have h2 : a.hash = b.hash := BitVec.eq_of_toNat_eq (by omega)
  cases a; cases b
  simp_all
theorem EqualD_calls (a b : List Dp) (ha : a.length < 1000000) {R} (h : ∀ p, p = decide (a = b) → R (.val (.bool p)) []) : ACalls Tryd.prog 45 [.sl none 3 (dpsA a), .sl none 3 (dpsA b)] [] R := by
  refine acalls_of_xwp (an := an45) tab_ok Tryd.func45 ?_
  have hsa := dpsA_length a
  have hsb := dpsA_length b
  (conv => whnf)
  rw [hsa, hsb]
  refine br_intro (fun hc => ?_) (fun hc => ?_)
  · (conv => whnf)
    refine h false (decide_eq_false ?_).symm
    rintro rfl
    simp at hc
  have hlen : a.length = b.length := by simp at hc; omega
  (conv => whnf)
  refine LoopP.ind1 (fun (i : Nat) => [(13, vi i)]) (fun _ => []) (fun i => a.length - i) (fun i => i ≤ a.length ∧ a.take i = b.take i) 0 rfl ⟨by omega, by simp⟩ ?_
  rintro i ⟨h0, h1⟩ IH
  (conv => whnf)
  refine br_intro (fun hc => ?_) (fun hc => ?_)
  · have hc := lt_of_decE hsa hc
    have hcb : i < b.length := by omega
    (conv => whnf); (repeat ((with_reducible refine must_intro ?_ ?_); exact decide_eq_true (by omega); (conv => whnf)))
    refine idxK_map_intro (show (i : Int).toNat < a.length by simpa using hc) ?_
    rw [show a[(i : Int).toNat]'(by simpa using hc) = a[i] from by congr 1]
    (conv => whnf); (repeat ((with_reducible refine must_intro ?_ ?_); exact decide_eq_true (by omega); (conv => whnf)))
    refine idxK_map_intro (show (i : Int).toNat < b.length by simpa using hcb) ?_
    rw [show b[(i : Int).toNat]'(by simpa using hcb) = b[i] from by congr 1]
    (conv => whnf)
    refine br_intro (fun he => ?_) (fun he => ?_)
    · have he := dp_ne _ _ he
      (conv => whnf)
      refine h false (decide_eq_false ?_).symm
      rintro rfl
      exact he rfl
    · have he := dp_eq _ _ he
      (conv => whnf)
      rw [i64_nat (by omega)]
      refine IH (i + 1) ⟨by omega, ?_⟩ (by omega)
      rw [List.take_succ_eq_append_getElem hc, List.take_succ_eq_append_getElem hcb, h1, he]
  · have hc := ge_of_decE hsa hc
    rw [List.take_of_length_le hc, List.take_of_length_le (by omega)] at h1
    (conv => whnf)
    exact h true (decide_eq_true h1).symm
theorem SameR_calls (a b : Rc) (ha : a.deps.length < 1000000) {R} (h : ∀ p, p = decide (a = b) → R (.val (.bool p)) []) : ACalls Tryd.prog 30 [.agg a.enc, .agg b.enc] [] R := by
  refine acalls_of_xwp (an := an30) tab_ok Tryd.func30 ?_
  (conv => whnf)
  refine of_calls a ?_
  (conv => whnf)
  refine of_calls b ?_
  (conv => whnf)
  refine br_intro (fun g => ?_) (fun g => ?_)
  · have g2 : a.kind = b.kind ∧ a.target = b.target ∧ a.tag = b.tag ∧ a.rule = b.rule ∧ a.out = b.out ∧ a.wen = b.wen := by
      simp [ofB_eq] at g
      obtain ⟨⟨⟨⟨⟨g1, g2⟩, g3⟩, g4⟩, g5⟩, g6⟩ := g
      exact ⟨g1, g2, g3, BitVec.eq_of_toNat_eq (by omega), BitVec.eq_of_toNat_eq (by omega), BitVec.eq_of_toNat_eq (by omega)⟩
    (conv => whnf)
    refine EqualD_calls a.deps b.deps ha fun p hp => ?_
    (conv => whnf)
    refine h _ ?_
    rw [hp]
    refine decide_eq_decide.2 ⟨fun e => ?_, fun e => by rw [e]⟩
    obtain ⟨g1, g2, g3, g4, g5, g6⟩ := g2
    cases a; cases b
    simp_all
  · (conv => whnf)
    refine h false (decide_eq_false ?_).symm
    rintro rfl
    simp at g
def ffA : Rc := ⟨1, [97], 0, [], 0, 0, []⟩
def ffB : Rc := ⟨1, [98], 0, [], 3, 0, []⟩
def ffC : Rc := ⟨2, [97], 0, [], 0, 0, []⟩
theorem ffix_of : docOf [ffA, ffB, ffC] = [ffB] := by decide +kernel
theorem le_rec2 (k : Int) (t : B) (u o w : U) (g : B) : leL [.val (.int .i64 k), .val (.string (ofB t)), .val (.int .u64 (u.toNat : Int)), .val (.slice none 0 0), .val (.int .u64 (o.toNat : Int)), .val (.int .u64 (w.toNat : Int)), .val (.string (ofB g))] (Rc.enc ⟨k, t, u, [], o, w, g⟩) :=
  leL.cons (.refl _) (leL.cons (.refl _) (leL.cons (.refl _) (leL.cons (le_nil 3) (leL.refl _))))
theorem args_strH {ts : List TypeId} {l : List AV} (h : Args tab 12 (9 :: ts) l) : ∃ (x : B) (l' : List AV), l = vs x :: l' ∧ x.length ≤ maxLen ∧ Args tab 12 ts l' := by
  obtain ⟨a, l', rfl, h1, h2⟩ := h
  obtain ⟨s, e, hs⟩ : ∃ s : ByteArray, [a] = [.val (.string s)] ∧ s.size ≤ maxLen := h1
  simp only [List.cons.injEq, and_true] at e
  refine ⟨bs s, l', by rw [e, vs, ofB_bs], ?_, h2⟩
  have := size_ofB (bs s)
  rw [ofB_bs] at this
  omega
end Go.Abs
end

section
/- fold.Right; FoldParts. -/
set_option maxRecDepth 100000
set_option maxHeartbeats 1000000
set_option linter.unusedVariables false
set_option linter.unusedSimpArgs false
namespace Go.Abs
open Go Go.Proofs Dig
attribute [local irreducible] ibits byteAt strLt firstIdx

def okAt (l : List Rc) : Nat → Bool
  | 0 => match l[0]? with
    | some r => decide (r.kind = 1)
    | none => true
  | j + 1 => match l[j + 1]?, l[j]? with
    | some r, some s => decide (r.kind = 1) && ltB s.target r.target
    | _, _ => true
def rightB (l : List Rc) : Bool := (List.range l.length).all (okAt l)
theorem rightB_no {l : List Rc} {i : Nat} (hi : i < l.length) (h : okAt l i = false) : rightB l = false := by
  refine Bool.eq_false_iff.2 fun e => ?_
  have := List.all_eq_true.1 e i (List.mem_range.2 hi)
  rw [h] at this; cases this
theorem rightB_yes {l : List Rc} (hs : Srt l) (hk : ∀ r ∈ l, r.kind = 1) : rightB l = true := by
  refine List.all_eq_true.2 fun i hi => ?_
  have hi := List.mem_range.1 hi
  cases i with
  | zero => simp only [okAt, List.getElem?_eq_getElem hi]; exact decide_eq_true (hk _ (List.getElem_mem hi))
  | succ j =>
    have hj : j < l.length := by omega
    simp only [okAt, List.getElem?_eq_getElem hi, List.getElem?_eq_getElem hj, ltB_eq]
    have := List.pairwise_iff_getElem.1 hs j (j + 1) hj hi (by omega)
    simp [hk _ (List.getElem_mem hi), this]
theorem Right_calls (l : List Rc) (hl : l.length < 1000000) {R} (h : ∀ p, p = rightB l → R (.val (.bool p)) []) : ACalls Tryd.prog 22 [.sl none 7 (recs l)] [] R := by
  refine acalls_of_xwp (an := an22) tab_ok Tryd.func22 ?_
  have hsl := recs_length l
  (conv => whnf)
  refine LoopP.ind1 (fun (i : Nat) => [(7, vi i)]) (fun _ => []) (fun i => l.length - i) (fun i => i ≤ l.length ∧ (List.range i).all (okAt l) = true) 0 rfl ⟨by omega, by simp⟩ ?_
  rintro i ⟨h0, h1⟩ IH
  (conv => whnf)
  refine br_intro (fun hc => ?_) (fun hc => ?_)
  · have hc := lt_of_decE hsl hc
    have next : okAt l i = true → (List.range (i + 1)).all (okAt l) = true := fun e => by
      rw [List.range_succ, List.all_append, h1]; simp [e]
    (conv => whnf); (repeat ((with_reducible refine must_intro ?_ ?_); exact decide_eq_true (by omega); (conv => whnf)))
    refine idxK_map_intro (show (i : Int).toNat < l.length by simpa using hc) ?_
    rw [show l[(i : Int).toNat]'(by simpa using hc) = l[i] from by congr 1]
    (conv => whnf)
    refine br_intro (fun hk => ?_) (fun hk => ?_)
    · have hk : ¬ l[i].kind = 1 := by simpa using hk
      (conv => whnf)
      refine h false (rightB_no hc ?_).symm
      cases i with
      | zero => simp only [okAt, List.getElem?_eq_getElem hc]; exact decide_eq_false hk
      | succ j =>
        have hj : j < l.length := by omega
        simp only [okAt, List.getElem?_eq_getElem hc, List.getElem?_eq_getElem hj]
        simp [hk]
    · have hk : l[i].kind = 1 := by simpa using hk
      cases i with
      | zero =>
        (conv => whnf)
        refine IH 1 ⟨by omega, next ?_⟩ (by omega)
        simp only [okAt, List.getElem?_eq_getElem hc]
        exact decide_eq_true hk
      | succ j =>
        have hj : j < l.length := by omega
        (conv => whnf)
        refine br_true (by simp) ?_
        (conv => whnf)
        rw [show IntKind.i64.wrap (((j + 1 : Nat) : Int) - 1) = (j : Int) by rw [wrap_i64 (by omega) (by omega)]; omega]
        (conv => whnf); (repeat ((with_reducible refine must_intro ?_ ?_); exact decide_eq_true (by omega); (conv => whnf)))
        refine idxK_map_intro (show (j : Int).toNat < l.length by simpa using hj) ?_
        rw [show l[(j : Int).toNat]'(by simpa using hj) = l[j] from by congr 1]
        (conv => whnf)
        rw [strLt_ofB]
        have hok : okAt l (j + 1) = ltB l[j].target l[j + 1].target := by
          simp only [okAt, List.getElem?_eq_getElem hc, List.getElem?_eq_getElem hj]
          simp [hk]
        refine br_intro (fun hb => ?_) (fun hb => ?_)
        · have hb : ltB l[j].target l[j + 1].target = false := by simpa using hb
          (conv => whnf)
          exact h false (rightB_no hc (by rw [hok, hb])).symm
        · have hb : ltB l[j].target l[j + 1].target = true := by simpa using hb
          (conv => whnf)
          rw [i64_nat (by omega)]
          exact IH (j + 1 + 1) ⟨by omega, next (by rw [hok, hb])⟩ (by omega)
  · have hc := ge_of_decE hsl hc
    have e : i = l.length := by omega
    (conv => whnf)
    exact h true (by rw [rightB, ← e, h1])
end Go.Abs
end

section
/- Whether a record may be (record.May); its move to another version (migrate). -/
set_option maxRecDepth 100000
set_option maxHeartbeats 1000000
set_option linter.unusedVariables false
set_option linter.unusedSimpArgs false
namespace Go.Abs
open Go Go.Proofs Dig
attribute [local irreducible] ibits byteAt strLt firstIdx

def depsGo (v : Int) : List Dp → List B → Bool
  | [], _ => true
  | d :: ds, seen => nameOk d.name && (decide (d.name ∉ seen) && (!(d.order && decide (v < 3)) && depsGo v ds (seen ++ [d.name])))
def depsP (v : Int) (r : Rc) : Bool := depsGo v r.deps [r.target] && decide (r.deps.length ≤ 16)
theorem depsR_calls (v : Int) (r : Rc) (hd : r.deps.length < 100000) {R} (h : ∀ p, p = depsP v r → R (.val (.bool p)) []) : ACalls Tryd.prog 29 [vi v, .agg r.enc] [] R := by
  refine acalls_of_xwp (an := an29) tab_ok Tryd.func29 ?_
  have hsl := dpsA_length r.deps
  have no : depsGo v r.deps [r.target] = false → R (.val (.bool false)) [] := fun e => h false (by rw [depsP, e]; rfl)
  (conv => whnf)
  refine New_calls r.target [] (by simp) fun m hm => ?_
  have hm : m = [r.target] := by rw [hm]; simp [tblN, tblP]
  subst hm
  (conv => whnf)
  refine LoopP.ind2 (fun (i : Nat) (seen : List B) => [(17, vi i)]) (fun i seen => [(freshN 13 0, tblO (freshN 13 1) (freshN 13 2) seen), (freshN 13 1, tblR seen), (freshN 13 2, tblM seen)])
    (fun i _ => r.deps.length - i) (fun i seen => i ≤ r.deps.length ∧ seen.length ≤ i + 1 ∧ depsGo v (r.deps.drop i) seen = depsGo v r.deps [r.target]) 0 [r.target] rfl ⟨by omega, by simp, by simp⟩ ?_
  rintro i seen ⟨h0, hsn, hD⟩ IH
  (conv => whnf)
  refine br_intro (fun hc => ?_) (fun hc => ?_)
  · have hc := lt_of_decE hsl hc
    rw [List.drop_eq_getElem_cons hc, depsGo] at hD
    (conv => whnf); (repeat ((with_reducible refine must_intro ?_ ?_); exact decide_eq_true (by omega); (conv => whnf)))
    refine idxK_map_intro (show (i : Int).toNat < r.deps.length by simpa using hc) ?_
    rw [show r.deps[(i : Int).toNat]'(by simpa using hc) = r.deps[i] from by congr 1]
    generalize r.deps[i] = d at hD ⊢
    (conv => whnf)
    by_cases hm : d.name ∈ seen
    · have hbad : depsGo v r.deps [r.target] = false := by rw [← hD]; simp [hm]
      refine ID_old seen d.name hm fun j => ?_
      (conv => whnf)
      refine Name_calls d.name ?_
      (conv => whnf)
      refine br_intro (fun hq => ?_) (fun hq => ?_)
      · (conv => whnf)
        exact no hbad
      · (conv => whnf)
        exact no hbad
    · refine ID_more seen d.name (by omega) hm fun j => ?_
      (conv => whnf)
      refine Name_calls d.name ?_
      (conv => whnf)
      refine br_intro (fun hq => ?_) (fun hq => ?_)
      · have hq : nameOk d.name = false := by simpa using hq
        (conv => whnf)
        exact no (by rw [← hD, hq]; rfl)
      · have hq : nameOk d.name = true := by simpa using hq
        rw [hq, decide_eq_true hm, Bool.true_and, Bool.true_and] at hD
        (conv => whnf)
        refine br_intro (fun ho => ?_) (fun ho => ?_)
        · rw [ho, Bool.true_and] at hD
          (conv => whnf)
          refine br_intro (fun hv => ?_) (fun hv => ?_)
          · rw [hv] at hD
            (conv => whnf)
            exact no (by rw [← hD]; rfl)
          · rw [hv] at hD
            (conv => whnf)
            rw [i64_nat (by omega)]
            exact IH (i + 1) (seen ++ [d.name]) ⟨by omega, by simp; omega, by rw [← hD]; simp⟩ (by omega)
        · rw [ho] at hD
          (conv => whnf)
          rw [i64_nat (by omega)]
          exact IH (i + 1) (seen ++ [d.name]) ⟨by omega, by simp; omega, by rw [← hD]; simp⟩ (by omega)
  · have hc := ge_of_decE hsl hc
    rw [List.drop_eq_nil_of_le hc, depsGo] at hD
    (conv => whnf)
    rw [hsl]
    refine h _ ?_
    rw [depsP, ← hD, Bool.true_and]
    exact decide_eq_decide.2 (by omega)

def earlyP (v : Int) (r : Rc) : Bool := (decide (v < 2) && decide (r.wen ≠ 0)) || (decide (v < 3) && decide (r.tag ≠ []))
def goneR (r : Rc) : Rc := ⟨2, r.target, 0, [], 0, 0, []⟩
def mayP (v : Int) (r : Rc) : Bool :=
  if (decide (v < 1) || decide (3 < v) || !nameOk r.target) = true then false
  else if r.kind = 1 then !earlyP v r && (decide (r.tag.length ≤ 64) && depsP v r)
  else if r.kind = 2 then decide (r = goneR r) else false
theorem nilB : ofB [] = { data := #[] } := rfl
theorem May_calls (v : Int) (r : Rc) (hd : r.deps.length < 100000) {R} (h : ∀ p, p = mayP v r → R (.val (.bool p)) []) : ACalls Tryd.prog 11 [vi v, .agg r.enc] [] R := by
  refine acalls_of_xwp (an := an11) tab_ok Tryd.func11 ?_
  have hst := size_ofB r.tag
  (conv => whnf)
  refine br_intro (fun g1 => ?_) (fun g1 => ?_)
  · (conv => whnf)
    exact h false (by rw [mayP, if_pos (by rw [g1]; rfl)])
  (conv => whnf)
  refine br_intro (fun g2 => ?_) (fun g2 => ?_)
  · have g2 : 3 < v := by simpa using g2
    (conv => whnf)
    exact h false (by rw [mayP, if_pos (by rw [g1, decide_eq_true g2]; rfl)])
  have g2 : ¬ 3 < v := by simpa using g2
  (conv => whnf)
  refine Name_calls r.target ?_
  (conv => whnf)
  refine br_intro (fun g3 => ?_) (fun g3 => ?_)
  · (conv => whnf)
    exact h false (by rw [mayP, if_pos (by rw [g3]; simp)])
  have hm : mayP v r = if r.kind = 1 then !earlyP v r && (decide (r.tag.length ≤ 64) && depsP v r) else if r.kind = 2 then decide (r = goneR r) else false := by
    rw [mayP, if_neg (by rw [g1, decide_eq_false g2, g3]; simp)]
  (conv => whnf)
  refine br_intro (fun k1 => ?_) (fun k1 => ?_)
  · have k1 : r.kind = 1 := by simpa using k1
    rw [if_pos k1] at hm
    have wz : ((r.wen.toNat : Int) != 0) = decide (r.wen ≠ 0) := by
      by_cases e : r.wen = 0
      · simp [e]
      · have : r.wen.toNat ≠ 0 := fun x => e (BitVec.eq_of_toNat_eq (by simpa using x))
        rw [decide_eq_true e]; simp; omega
    (conv => whnf)
    refine br_intro (fun e1 => ?_) (fun e1 => ?_)
    · (conv => whnf)
      refine br_intro (fun e2 => ?_) (fun e2 => ?_)
      · rw [wz] at e2
        (conv => whnf)
        exact h false (by rw [hm, earlyP, e1, e2]; rfl)
      · rw [wz] at e2
        have e3 : decide (v < 3) = true := by simp at e1 ⊢; omega
        (conv => whnf)
        refine br_true e3 ?_
        (conv => whnf)
        refine br_intro (fun e4 => ?_) (fun e4 => ?_)
        · have e4 : r.tag = [] := by simpa [← nilB, ofB_eq] using e4
          have e4 : decide (r.tag ≠ []) = false := by rw [e4]; rfl
          have he : earlyP v r = false := by rw [earlyP, e2, e4]; simp
          (conv => whnf)
          refine br_intro (fun q => ?_) (fun q => ?_)
          · have q : r.tag.length ≤ 64 := by have q := of_decide_eq_true q; omega
            (conv => whnf)
            refine depsR_calls v r hd fun p hp => ?_
            (conv => whnf)
            exact h p (by rw [hm, he, decide_eq_true q, hp]; rfl)
          · have q : ¬ r.tag.length ≤ 64 := by have q := of_decide_eq_false q; omega
            (conv => whnf)
            exact h false (by rw [hm, decide_eq_false q]; simp)
        · have e4 : r.tag ≠ [] := by simpa [← nilB, ofB_eq] using e4
          have e4 : decide (r.tag ≠ []) = true := decide_eq_true e4
          (conv => whnf)
          exact h false (by rw [hm, earlyP, e3, e4]; simp)
    · (conv => whnf)
      refine br_intro (fun e3 => ?_) (fun e3 => ?_)
      · (conv => whnf)
        refine br_intro (fun e4 => ?_) (fun e4 => ?_)
        · have e4 : r.tag = [] := by simpa [← nilB, ofB_eq] using e4
          have e4 : decide (r.tag ≠ []) = false := by rw [e4]; rfl
          have he : earlyP v r = false := by rw [earlyP, e1, e4]; simp
          (conv => whnf)
          refine br_intro (fun q => ?_) (fun q => ?_)
          · have q : r.tag.length ≤ 64 := by have q := of_decide_eq_true q; omega
            (conv => whnf)
            refine depsR_calls v r hd fun p hp => ?_
            (conv => whnf)
            exact h p (by rw [hm, he, decide_eq_true q, hp]; rfl)
          · have q : ¬ r.tag.length ≤ 64 := by have q := of_decide_eq_false q; omega
            (conv => whnf)
            exact h false (by rw [hm, decide_eq_false q]; simp)
        · have e4 : r.tag ≠ [] := by simpa [← nilB, ofB_eq] using e4
          have e4 : decide (r.tag ≠ []) = true := decide_eq_true e4
          (conv => whnf)
          exact h false (by rw [hm, earlyP, e3, e4]; simp)
      · have he : earlyP v r = false := by rw [earlyP, e1, e3]; simp
        (conv => whnf)
        refine br_intro (fun q => ?_) (fun q => ?_)
        · have q : r.tag.length ≤ 64 := by have q := of_decide_eq_true q; omega
          (conv => whnf)
          refine depsR_calls v r hd fun p hp => ?_
          (conv => whnf)
          exact h p (by rw [hm, he, decide_eq_true q, hp]; rfl)
        · have q : ¬ r.tag.length ≤ 64 := by have q := of_decide_eq_false q; omega
          (conv => whnf)
          exact h false (by rw [hm, decide_eq_false q]; simp)
  · have k1 : ¬ r.kind = 1 := by simpa using k1
    rw [if_neg k1] at hm
    (conv => whnf)
    refine br_intro (fun k2 => ?_) (fun k2 => ?_)
    · have k2 : r.kind = 2 := by simpa using k2
      rw [if_pos k2] at hm
      (conv => whnf)
      refine ACalls.args ?_ (SameR_calls r (goneR r) (by omega) fun p hp => ?_)
      · exact leL.cons (.refl _) (leL.cons (le_agg (le_rec2 2 r.target 0 0 0 [])) leL.nil)
      (conv => whnf)
      exact h p (by rw [hp, hm])
    · have k2 : ¬ r.kind = 2 := by simpa using k2
      rw [if_neg k2] at hm
      (conv => whnf)
      exact h false hm.symm
end Go.Abs
end

section
/- The document's May and Right; decimal digits. -/
set_option maxRecDepth 100000
set_option maxHeartbeats 2000000
set_option linter.unusedVariables false
set_option linter.unusedSimpArgs false
namespace Go.Abs
open Go Go.Proofs Dig
attribute [local irreducible] ibits byteAt strLt firstIdx

/-! ### decimal digits -/
theorem digit_one (n : Nat) (h : n < 10) : (ByteArray.mk #[48, 49, 50, 51, 52, 53, 54, 55, 56, 57]).extract n (n + 1) = ofB (Lib.decDigits n) := by
  rw [Lib.decDigits_one h]
  have : n = 0 ∨ n = 1 ∨ n = 2 ∨ n = 3 ∨ n = 4 ∨ n = 5 ∨ n = 6 ∨ n = 7 ∨ n = 8 ∨ n = 9 := by omega
  refine bs_inj ?_
  rw [bs_ofB, bs_extract]
  rcases this with rfl | rfl | rfl | rfl | rfl | rfl | rfl | rfl | rfl | rfl <;> rfl
theorem decDigits_step (n : Nat) (h : 10 ≤ n) : Lib.decDigits n = Lib.decDigits (n / 10) ++ Lib.decDigits (n % 10) := by
  rw [Lib.decDigits_one (Nat.mod_lt _ (by omega))]
  conv => lhs; rw [Lib.decDigits, dif_neg (by omega)]
theorem decDigits_len : ∀ (k n : Nat), n < 10 ^ (k + 1) → (Lib.decDigits n).length ≤ k + 1 := by
  intro k
  induction k with
  | zero => intro n h; rw [Lib.decDigits_one (by simpa using h)]; simp
  | succ k ih =>
    intro n h
    by_cases h10 : n < 10
    · rw [Lib.decDigits_one h10]; simp
    · rw [decDigits_step n (by omega), List.length_append, Lib.decDigits_one (Nat.mod_lt n (by omega))]
      have := ih (n / 10) (by rw [Nat.pow_succ] at h; omega)
      simp only [List.length_cons, List.length_nil]
      omega
theorem u64_len (n : U) : (Lib.decDigits n.toNat).length ≤ 20 := decDigits_len 19 _ (by have := n.isLt; omega)
theorem Digits_small (n : Nat) (h10 : n < 10) {R : AV → List AObj → Prop} (h : ∀ d, d = ofB (Lib.decDigits n) → R (.val (.string d)) []) : ACalls Tryd.prog 20 [.val (.int .u64 (n : Int))] [] R := by
  refine acalls_of_xwp (an := an20) tab_ok Tryd.func20 ?_
  have e : IntKind.u64.wrap ((n : Int) + 1) = ((n + 1 : Nat) : Int) := by
    show ((n : Int) + 1) % 18446744073709551616 = _
    omega
  (conv => whnf)
  refine br_true (decide_eq_true (by omega)) ?_
  (conv => whnf)
  rw [e]
  refine must_intro (decide_eq_true (by omega)) ?_
  (conv => whnf)
  refine must_intro (decide_eq_true (show ((n + 1 : Nat) : Int) ≤ ((10 : Nat) : Int) by omega)) ?_
  (conv => whnf)
  exact h _ (digit_one n h10)
theorem Digits_nat : ∀ (k n : Nat), n < 18446744073709551616 → n < 10 ^ (k + 1) → ∀ {R : AV → List AObj → Prop}, (∀ d, d = ofB (Lib.decDigits n) → R (.val (.string d)) []) → ACalls Tryd.prog 20 [.val (.int .u64 (n : Int))] [] R := by
  intro k
  induction k with
  | zero =>
    intro n hn h10 R h
    exact Digits_small n (by simpa using h10) h
  | succ k ih =>
    intro n hn hk R h
    by_cases h10 : n < 10
    · exact Digits_small n h10 h
    · have e1 : IntKind.u64.wrap ((n : Int).tdiv 10) = ((n / 10 : Nat) : Int) := by
        rw [Int.tdiv_eq_ediv_of_nonneg (Int.natCast_nonneg _)]
        show ((n : Int) / 10) % 18446744073709551616 = _
        omega
      have e2 : (n : Int).tmod 10 = ((n % 10 : Nat) : Int) := by
        rw [Int.tmod_eq_emod_of_nonneg (Int.natCast_nonneg _)]
        omega
      have hl : (Lib.decDigits n).length ≤ k + 1 + 1 := decDigits_len (k + 1) n hk
      have hk2 : n / 10 < 10 ^ (k + 1) := by rw [Nat.pow_succ] at hk; omega
      have hl1 : (Lib.decDigits (n / 10)).length ≤ 20 := decDigits_len 19 _ (by omega)
      have hl2 : (Lib.decDigits (n % 10)).length ≤ 20 := decDigits_len 19 _ (by omega)
      refine acalls_of_xwp (an := an20) tab_ok Tryd.func20 ?_
      (conv => whnf)
      refine br_false (decide_eq_false (by omega)) ?_
      (conv => whnf)
      rw [e1]
      refine ih (n / 10) (by omega) hk2 fun d1 hd1 => ?_
      (conv => whnf)
      rw [e2]
      refine Digits_small (n % 10) (by omega) fun d2 hd2 => ?_
      have hs1 : d1.size ≤ 20 := by rw [hd1, size_ofB]; exact hl1
      have hs2 : d2.size ≤ 20 := by rw [hd2, size_ofB]; exact hl2
      (conv => whnf)
      refine must_intro (decide_eq_true (by omega)) ?_
      (conv => whnf)
      exact h _ (by rw [hd1, hd2, ofB_append, ← decDigits_step n (by omega)])
theorem Digits_calls (n : U) {R} (h : ∀ d, d = ofB (Lib.decDigits n.toNat) → R (.val (.string d)) []) : ACalls Tryd.prog 20 [uv n] [] R :=
  Digits_nat 19 n.toNat n.isLt (by have := n.isLt; omega) h

/-! ### may a record be? -/
theorem wz0 (n : U) : ((n.toNat : Int) == 0) = decide (n = 0) := by
  by_cases e : n = 0
  · simp [e]
  · have : n.toNat ≠ 0 := fun x => e (BitVec.eq_of_toNat_eq (by simpa using x))
    rw [decide_eq_false e]; simp; omega
theorem wz1 (n : U) : ((n.toNat : Int) != 0) = decide (n ≠ 0) := by
  show (!((n.toNat : Int) == 0)) = _
  rw [wz0]; by_cases e : n = 0 <;> simp [e]
theorem dz0 (l : List Dp) : ((((dpsA l).length : Nat) : Int) == 0) = decide (l = []) := by
  rw [dpsA_length]
  cases l with
  | nil => rfl
  | cons a l => simp; omega
def preN (r : Rc) (i : Nat) : List B := r.target :: (r.deps.take i).map (·.name)
theorem preN_mem (r : Rc) {i : Nat} (hi : i ≤ r.deps.length) (s : B) : s ∉ preN r i ↔ s ≠ r.target ∧ ∀ (j : Nat) (hj : j < r.deps.length), j < i → r.deps[j].name ≠ s := by
  unfold preN
  simp only [List.mem_cons, List.mem_map, not_or, not_exists, not_and]
  refine and_congr Iff.rfl ⟨fun h j hj hji e => h r.deps[j] ?_ e, fun h d hd e => ?_⟩
  · have : (r.deps.take i)[j]'(by simp; omega) = r.deps[j] := by simp
    rw [← this]; exact List.getElem_mem _
  · obtain ⟨j, hj, rfl⟩ := List.getElem_of_mem hd
    simp only [List.length_take] at hj
    rw [List.getElem_take] at e
    exact h j (by omega) (by omega) e
theorem preN_succ (r : Rc) {i : Nat} (hi : i < r.deps.length) : preN r (i + 1) = preN r i ++ [r.deps[i].name] := by
  unfold preN
  rw [List.take_succ_eq_append_getElem hi, List.map_append, List.cons_append]
  rfl
theorem refMay_calls (v : Int) (r : Rc) (hd : r.deps.length < 100000) {R} (h : ∀ p, p = mayP v r → R (.val (.bool p)) []) : ACalls Tryd.prog 17 [vi v, .agg r.enc] [] R := by
  refine acalls_of_xwp (an := an17) tab_ok Tryd.func17 ?_
  have hst := size_ofB r.tag
  have hsl := dpsA_length r.deps
  (conv => whnf)
  refine br_intro (fun g1 => ?_) (fun g1 => ?_)
  · (conv => whnf)
    exact h false (by rw [mayP, if_pos (by rw [g1]; rfl)])
  (conv => whnf)
  refine br_intro (fun g2 => ?_) (fun g2 => ?_)
  · have g2 : 3 < v := by simpa using g2
    (conv => whnf)
    exact h false (by rw [mayP, if_pos (by rw [g1, decide_eq_true g2]; rfl)])
  have g2 : ¬ 3 < v := by simpa using g2
  have g1' : ¬ v < 1 := by simpa using g1
  (conv => whnf)
  refine refName_calls r.target ?_
  (conv => whnf)
  refine br_intro (fun g3 => ?_) (fun g3 => ?_)
  · (conv => whnf)
    exact h false (by rw [mayP, if_pos (by rw [g3]; simp)])
  have hm : mayP v r = if r.kind = 1 then !earlyP v r && (decide (r.tag.length ≤ 64) && depsP v r) else if r.kind = 2 then decide (r = goneR r) else false := by
    rw [mayP, if_neg (by rw [g1, decide_eq_false g2, g3]; simp)]
  (conv => whnf)
  refine br_intro (fun k2 => ?_) (fun k2 => ?_)
  · have k2 : r.kind = 2 := by simpa using k2
    have hm2 : mayP v r = (decide (r.rule = 0) && (decide (r.deps = []) && (decide (r.out = 0) && (decide (r.wen = 0) && decide (r.tag = []))))) := by
      rw [hm, if_neg (by rw [k2]; decide), if_pos k2]
      have : (r = goneR r) ↔ (r.rule = 0 ∧ r.deps = [] ∧ r.out = 0 ∧ r.wen = 0 ∧ r.tag = []) := by
        constructor
        · intro e
          have := congrArg Rc.rule e
          have := congrArg Rc.deps e
          have := congrArg Rc.out e
          have := congrArg Rc.wen e
          have := congrArg Rc.tag e
          simp only [goneR] at *
          refine ⟨?_, ?_, ?_, ?_, ?_⟩ <;> assumption
        · rintro ⟨h1, h2, h3, h4, h5⟩
          cases r
          simp only [goneR] at *
          subst k2 h1 h2 h3 h4 h5
          rfl
      by_cases e : r = goneR r
      · obtain ⟨a1, a2, a3, a4, a5⟩ := this.1 e
        rw [decide_eq_true e, decide_eq_true a1, decide_eq_true a2, decide_eq_true a3, decide_eq_true a4, decide_eq_true a5]; rfl
      · rw [decide_eq_false e]
        refine (Bool.eq_false_iff.2 fun hx => e (this.2 ?_)).symm
        simpa using hx
    clear hm
    (conv => whnf)
    rw [wz0]
    refine br_intro (fun e1 => ?_) (fun e1 => ?_)
    · rw [e1, Bool.true_and] at hm2
      (conv => whnf)
      rw [dz0]
      refine br_intro (fun e2 => ?_) (fun e2 => ?_)
      · rw [e2, Bool.true_and] at hm2
        (conv => whnf)
        rw [wz0]
        refine br_intro (fun e3 => ?_) (fun e3 => ?_)
        · rw [e3, Bool.true_and] at hm2
          (conv => whnf)
          rw [wz0]
          refine br_intro (fun e4 => ?_) (fun e4 => ?_)
          · rw [e4, Bool.true_and] at hm2
            (conv => whnf)
            refine h _ ?_
            rw [hm2]
            exact decide_eq_decide.2 ⟨fun e => ofB_inj e, fun e => by rw [e]; rfl⟩
          · (conv => whnf)
            exact h false (by rw [hm2, e4]; rfl)
        · (conv => whnf)
          exact h false (by rw [hm2, e3]; rfl)
      · (conv => whnf)
        exact h false (by rw [hm2, e2]; rfl)
    · (conv => whnf)
      exact h false (by rw [hm2, e1]; rfl)
  have k2 : ¬ r.kind = 2 := by simpa using k2
  rw [if_neg k2] at hm
  (conv => whnf)
  refine br_intro (fun k1 => ?_) (fun k1 => ?_)
  · have k1 : ¬ r.kind = 1 := by simpa using k1
    (conv => whnf)
    exact h false (by rw [hm, if_neg k1])
  have k1 : r.kind = 1 := by simpa using k1
  rw [if_pos k1] at hm
  (conv => whnf)
  rw [hsl]
  refine br_intro (fun q1 => ?_) (fun q1 => ?_)
  · have hbad : decide (r.deps.length ≤ 16) = false := by simp at q1 ⊢; omega
    (conv => whnf)
    exact h false (by rw [hm, depsP, hbad]; simp)
  have hdl : decide (r.deps.length ≤ 16) = true := by simp at q1 ⊢; omega
  (conv => whnf)
  rw [hst]
  refine br_intro (fun q2 => ?_) (fun q2 => ?_)
  · have hbad : decide (r.tag.length ≤ 64) = false := by simp at q2 ⊢; omega
    (conv => whnf)
    exact h false (by rw [hm, hbad]; simp)
  have htl : decide (r.tag.length ≤ 64) = true := by simp at q2 ⊢; omega
  rw [htl, Bool.true_and, depsP, hdl, Bool.and_true] at hm
  have hv12 : v = 1 ↔ v < 2 := by omega
  (conv => whnf)
  refine br_intro (fun v1 => ?_) (fun v1 => ?_)
  · have v1 : v = 1 := by simpa using v1
    have e1 : decide (v < 2) = true := decide_eq_true (by omega)
    have e3 : decide (v < 3) = true := decide_eq_true (by omega)
    (conv => whnf)
    rw [wz1]
    refine br_intro (fun w1 => ?_) (fun w1 => ?_)
    · (conv => whnf)
      exact h false (by rw [hm, earlyP, e1, w1]; rfl)
    · (conv => whnf)
      refine br_true e3 ?_
      (conv => whnf)
      refine br_intro (fun t1 => ?_) (fun t1 => ?_)
      · have t1 : r.tag ≠ [] := by intro e; rw [e] at t1; simp [ofB] at t1
        have t1 : decide (r.tag ≠ []) = true := decide_eq_true t1
        (conv => whnf)
        exact h false (by rw [hm, earlyP, e3, t1]; simp)
      · have t1 : r.tag = [] := by
          have : ofB r.tag = { data := #[] } := by simpa using t1
          exact ofB_inj (this.trans nilB.symm)
        have he : earlyP v r = false := by rw [earlyP, w1, t1]; simp
        rw [he, Bool.not_false, Bool.true_and] at hm
        rw [hm] at h
        (conv => whnf)
        refine LoopP.ind1 (fun (i : Nat) => [(5, vi i)]) (fun _ => []) (fun i => r.deps.length - i) (fun i => i ≤ r.deps.length ∧ depsGo v (r.deps.drop i) (preN r i) = depsGo v r.deps [r.target]) 0 rfl ⟨by omega, rfl⟩ ?_
        rintro i ⟨h0, hD⟩ IH
        (conv => whnf)
        refine br_intro (fun hc => ?_) (fun hc => ?_)
        · have hc := lt_of_decE hsl hc
          have hIH := IH (i + 1)
          clear IH
          rw [List.drop_eq_getElem_cons hc, depsGo] at hD
          rw [preN_succ r hc] at hIH
          have hmem := preN_mem r h0 r.deps[i].name
          (conv => whnf); (repeat ((with_reducible refine must_intro ?_ ?_); exact decide_eq_true (by omega); (conv => whnf)))
          refine idxK_map_intro (show (i : Int).toNat < r.deps.length by simpa using hc) ?_
          rw [show r.deps[(i : Int).toNat]'(by simpa using hc) = r.deps[i] from by congr 1]
          generalize r.deps[i] = d at hD hIH hmem ⊢
          (conv => whnf)
          refine refName_calls d.name ?_
          (conv => whnf)
          refine br_intro (fun n1 => ?_) (fun n1 => ?_)
          · have n1 : nameOk d.name = false := by simpa using n1
            (conv => whnf)
            exact h false (by rw [← hD, n1]; rfl)
          have n1 : nameOk d.name = true := by simpa using n1
          rw [n1, Bool.true_and] at hD
          (conv => whnf)
          refine br_intro (fun n2 => ?_) (fun n2 => ?_)
          · have n2 : d.name = r.target := by simpa [ofB_eq] using n2
            have hb : decide (d.name ∉ preN r i) = false := decide_eq_false fun hx => (hmem.1 hx).1 n2
            (conv => whnf)
            exact h false (by rw [← hD, hb]; rfl)
          have n2 : d.name ≠ r.target := by simpa [ofB_eq] using n2
          (conv => whnf)
          refine br_intro (fun o1 => ?_) (fun o1 => ?_)
          · rw [o1, Bool.true_and] at hD
            (conv => whnf)
            refine br_intro (fun o2 => ?_) (fun o2 => ?_)
            · rw [o2] at hD
              (conv => whnf)
              exact h false (by rw [← hD]; simp)
            · rw [o2, Bool.not_false, Bool.true_and] at hD
              (conv => whnf)
              refine LoopP.ind1 (fun (k : Nat) => [(7, vi k)]) (fun _ => []) (fun k => i - k) (fun k => k ≤ i ∧ ∀ (j : Nat) (hj : j < r.deps.length), j < k → r.deps[j].name ≠ d.name) 0 rfl ⟨by omega, fun j hj h => by omega⟩ ?_
              rintro k ⟨hk0, hk1⟩ IH2
              (conv => whnf)
              refine br_intro (fun hk => ?_) (fun hk => ?_)
              · have hk : k < i := by simp at hk; omega
                have hkl : k < r.deps.length := by omega
                (conv => whnf); (repeat ((with_reducible refine must_intro ?_ ?_); exact decide_eq_true (by omega); (conv => whnf)))
                refine idxK_map_intro (show (k : Int).toNat < r.deps.length by simpa using hkl) ?_
                rw [show r.deps[(k : Int).toNat]'(by simpa using hkl) = r.deps[k] from by congr 1]
                (conv => whnf)
                refine br_intro (fun q => ?_) (fun q => ?_)
                · have q : r.deps[k].name = d.name := by simpa [ofB_eq] using q
                  have hb : decide (d.name ∉ preN r i) = false := decide_eq_false fun hx => (hmem.1 hx).2 k hkl hk q
                  (conv => whnf)
                  exact h false (by rw [← hD, hb]; rfl)
                · have q : r.deps[k].name ≠ d.name := by simpa [ofB_eq] using q
                  have IH3 := IH2 (k + 1) ⟨by omega, fun j hj hjk => (Nat.lt_succ_iff_lt_or_eq.1 hjk).elim (fun e => hk1 j hj e) (fun e => by subst e; exact q)⟩ (by omega)
                  (conv => whnf)
                  rw [i64_nat (by omega)]
                  exact IH3
              · have hk : k = i := by simp at hk; omega
                have hb : decide (d.name ∉ preN r i) = true := decide_eq_true (hmem.2 ⟨n2, fun j hj hji => hk1 j hj (by omega)⟩)
                rw [hb, Bool.true_and] at hD
                (conv => whnf)
                rw [i64_nat (by omega)]
                exact hIH ⟨by omega, hD⟩ (by omega)
          · rw [o1, Bool.false_and, Bool.not_false, Bool.true_and] at hD
            (conv => whnf)
            refine LoopP.ind1 (fun (k : Nat) => [(7, vi k)]) (fun _ => []) (fun k => i - k) (fun k => k ≤ i ∧ ∀ (j : Nat) (hj : j < r.deps.length), j < k → r.deps[j].name ≠ d.name) 0 rfl ⟨by omega, fun j hj h => by omega⟩ ?_
            rintro k ⟨hk0, hk1⟩ IH2
            (conv => whnf)
            refine br_intro (fun hk => ?_) (fun hk => ?_)
            · have hk : k < i := by simp at hk; omega
              have hkl : k < r.deps.length := by omega
              (conv => whnf); (repeat ((with_reducible refine must_intro ?_ ?_); exact decide_eq_true (by omega); (conv => whnf)))
              refine idxK_map_intro (show (k : Int).toNat < r.deps.length by simpa using hkl) ?_
              rw [show r.deps[(k : Int).toNat]'(by simpa using hkl) = r.deps[k] from by congr 1]
              (conv => whnf)
              refine br_intro (fun q => ?_) (fun q => ?_)
              · have q : r.deps[k].name = d.name := by simpa [ofB_eq] using q
                have hb : decide (d.name ∉ preN r i) = false := decide_eq_false fun hx => (hmem.1 hx).2 k hkl hk q
                (conv => whnf)
                exact h false (by rw [← hD, hb]; rfl)
              · have q : r.deps[k].name ≠ d.name := by simpa [ofB_eq] using q
                have IH3 := IH2 (k + 1) ⟨by omega, fun j hj hjk => (Nat.lt_succ_iff_lt_or_eq.1 hjk).elim (fun e => hk1 j hj e) (fun e => by subst e; exact q)⟩ (by omega)
                (conv => whnf)
                rw [i64_nat (by omega)]
                exact IH3
            · have hk : k = i := by simp at hk; omega
              have hb : decide (d.name ∉ preN r i) = true := decide_eq_true (hmem.2 ⟨n2, fun j hj hji => hk1 j hj (by omega)⟩)
              rw [hb, Bool.true_and] at hD
              (conv => whnf)
              rw [i64_nat (by omega)]
              exact hIH ⟨by omega, hD⟩ (by omega)
        · have hc := ge_of_decE hsl hc
          rw [List.drop_eq_nil_of_le hc, depsGo] at hD
          (conv => whnf)
          exact h true hD
  · have v1 : ¬ v = 1 := by simpa using v1
    have e1 : decide (v < 2) = false := decide_eq_false (by omega)
    (conv => whnf)
    refine br_intro (fun e3 => ?_) (fun e3 => ?_)
    · (conv => whnf)
      refine br_intro (fun t1 => ?_) (fun t1 => ?_)
      · have t1 : r.tag ≠ [] := by intro e; rw [e] at t1; simp [ofB] at t1
        have t1 : decide (r.tag ≠ []) = true := decide_eq_true t1
        (conv => whnf)
        exact h false (by rw [hm, earlyP, e3, t1]; simp)
      · have t1 : r.tag = [] := by
          have : ofB r.tag = { data := #[] } := by simpa using t1
          exact ofB_inj (this.trans nilB.symm)
        have he : earlyP v r = false := by rw [earlyP, e1, t1]; simp
        rw [he, Bool.not_false, Bool.true_and] at hm
        rw [hm] at h
        (conv => whnf)
        refine LoopP.ind1 (fun (i : Nat) => [(5, vi i)]) (fun _ => []) (fun i => r.deps.length - i) (fun i => i ≤ r.deps.length ∧ depsGo v (r.deps.drop i) (preN r i) = depsGo v r.deps [r.target]) 0 rfl ⟨by omega, rfl⟩ ?_
        rintro i ⟨h0, hD⟩ IH
        (conv => whnf)
        refine br_intro (fun hc => ?_) (fun hc => ?_)
        · have hc := lt_of_decE hsl hc
          have hIH := IH (i + 1)
          clear IH
          rw [List.drop_eq_getElem_cons hc, depsGo] at hD
          rw [preN_succ r hc] at hIH
          have hmem := preN_mem r h0 r.deps[i].name
          (conv => whnf); (repeat ((with_reducible refine must_intro ?_ ?_); exact decide_eq_true (by omega); (conv => whnf)))
          refine idxK_map_intro (show (i : Int).toNat < r.deps.length by simpa using hc) ?_
          rw [show r.deps[(i : Int).toNat]'(by simpa using hc) = r.deps[i] from by congr 1]
          generalize r.deps[i] = d at hD hIH hmem ⊢
          (conv => whnf)
          refine refName_calls d.name ?_
          (conv => whnf)
          refine br_intro (fun n1 => ?_) (fun n1 => ?_)
          · have n1 : nameOk d.name = false := by simpa using n1
            (conv => whnf)
            exact h false (by rw [← hD, n1]; rfl)
          have n1 : nameOk d.name = true := by simpa using n1
          rw [n1, Bool.true_and] at hD
          (conv => whnf)
          refine br_intro (fun n2 => ?_) (fun n2 => ?_)
          · have n2 : d.name = r.target := by simpa [ofB_eq] using n2
            have hb : decide (d.name ∉ preN r i) = false := decide_eq_false fun hx => (hmem.1 hx).1 n2
            (conv => whnf)
            exact h false (by rw [← hD, hb]; rfl)
          have n2 : d.name ≠ r.target := by simpa [ofB_eq] using n2
          (conv => whnf)
          refine br_intro (fun o1 => ?_) (fun o1 => ?_)
          · rw [o1, Bool.true_and] at hD
            (conv => whnf)
            refine br_intro (fun o2 => ?_) (fun o2 => ?_)
            · rw [o2] at hD
              (conv => whnf)
              exact h false (by rw [← hD]; simp)
            · rw [o2, Bool.not_false, Bool.true_and] at hD
              (conv => whnf)
              refine LoopP.ind1 (fun (k : Nat) => [(7, vi k)]) (fun _ => []) (fun k => i - k) (fun k => k ≤ i ∧ ∀ (j : Nat) (hj : j < r.deps.length), j < k → r.deps[j].name ≠ d.name) 0 rfl ⟨by omega, fun j hj h => by omega⟩ ?_
              rintro k ⟨hk0, hk1⟩ IH2
              (conv => whnf)
              refine br_intro (fun hk => ?_) (fun hk => ?_)
              · have hk : k < i := by simp at hk; omega
                have hkl : k < r.deps.length := by omega
                (conv => whnf); (repeat ((with_reducible refine must_intro ?_ ?_); exact decide_eq_true (by omega); (conv => whnf)))
                refine idxK_map_intro (show (k : Int).toNat < r.deps.length by simpa using hkl) ?_
                rw [show r.deps[(k : Int).toNat]'(by simpa using hkl) = r.deps[k] from by congr 1]
                (conv => whnf)
                refine br_intro (fun q => ?_) (fun q => ?_)
                · have q : r.deps[k].name = d.name := by simpa [ofB_eq] using q
                  have hb : decide (d.name ∉ preN r i) = false := decide_eq_false fun hx => (hmem.1 hx).2 k hkl hk q
                  (conv => whnf)
                  exact h false (by rw [← hD, hb]; rfl)
                · have q : r.deps[k].name ≠ d.name := by simpa [ofB_eq] using q
                  have IH3 := IH2 (k + 1) ⟨by omega, fun j hj hjk => (Nat.lt_succ_iff_lt_or_eq.1 hjk).elim (fun e => hk1 j hj e) (fun e => by subst e; exact q)⟩ (by omega)
                  (conv => whnf)
                  rw [i64_nat (by omega)]
                  exact IH3
              · have hk : k = i := by simp at hk; omega
                have hb : decide (d.name ∉ preN r i) = true := decide_eq_true (hmem.2 ⟨n2, fun j hj hji => hk1 j hj (by omega)⟩)
                rw [hb, Bool.true_and] at hD
                (conv => whnf)
                rw [i64_nat (by omega)]
                exact hIH ⟨by omega, hD⟩ (by omega)
          · rw [o1, Bool.false_and, Bool.not_false, Bool.true_and] at hD
            (conv => whnf)
            refine LoopP.ind1 (fun (k : Nat) => [(7, vi k)]) (fun _ => []) (fun k => i - k) (fun k => k ≤ i ∧ ∀ (j : Nat) (hj : j < r.deps.length), j < k → r.deps[j].name ≠ d.name) 0 rfl ⟨by omega, fun j hj h => by omega⟩ ?_
            rintro k ⟨hk0, hk1⟩ IH2
            (conv => whnf)
            refine br_intro (fun hk => ?_) (fun hk => ?_)
            · have hk : k < i := by simp at hk; omega
              have hkl : k < r.deps.length := by omega
              (conv => whnf); (repeat ((with_reducible refine must_intro ?_ ?_); exact decide_eq_true (by omega); (conv => whnf)))
              refine idxK_map_intro (show (k : Int).toNat < r.deps.length by simpa using hkl) ?_
              rw [show r.deps[(k : Int).toNat]'(by simpa using hkl) = r.deps[k] from by congr 1]
              (conv => whnf)
              refine br_intro (fun q => ?_) (fun q => ?_)
              · have q : r.deps[k].name = d.name := by simpa [ofB_eq] using q
                have hb : decide (d.name ∉ preN r i) = false := decide_eq_false fun hx => (hmem.1 hx).2 k hkl hk q
                (conv => whnf)
                exact h false (by rw [← hD, hb]; rfl)
              · have q : r.deps[k].name ≠ d.name := by simpa [ofB_eq] using q
                have IH3 := IH2 (k + 1) ⟨by omega, fun j hj hjk => (Nat.lt_succ_iff_lt_or_eq.1 hjk).elim (fun e => hk1 j hj e) (fun e => by subst e; exact q)⟩ (by omega)
                (conv => whnf)
                rw [i64_nat (by omega)]
                exact IH3
            · have hk : k = i := by simp at hk; omega
              have hb : decide (d.name ∉ preN r i) = true := decide_eq_true (hmem.2 ⟨n2, fun j hj hji => hk1 j hj (by omega)⟩)
              rw [hb, Bool.true_and] at hD
              (conv => whnf)
              rw [i64_nat (by omega)]
              exact hIH ⟨by omega, hD⟩ (by omega)
        · have hc := ge_of_decE hsl hc
          rw [List.drop_eq_nil_of_le hc, depsGo] at hD
          (conv => whnf)
          exact h true hD
    · have he : earlyP v r = false := by rw [earlyP, e1, e3]; simp
      rw [he, Bool.not_false, Bool.true_and] at hm
      rw [hm] at h
      (conv => whnf)
      refine LoopP.ind1 (fun (i : Nat) => [(5, vi i)]) (fun _ => []) (fun i => r.deps.length - i) (fun i => i ≤ r.deps.length ∧ depsGo v (r.deps.drop i) (preN r i) = depsGo v r.deps [r.target]) 0 rfl ⟨by omega, rfl⟩ ?_
      rintro i ⟨h0, hD⟩ IH
      (conv => whnf)
      refine br_intro (fun hc => ?_) (fun hc => ?_)
      · have hc := lt_of_decE hsl hc
        have hIH := IH (i + 1)
        clear IH
        rw [List.drop_eq_getElem_cons hc, depsGo] at hD
        rw [preN_succ r hc] at hIH
        have hmem := preN_mem r h0 r.deps[i].name
        (conv => whnf); (repeat ((with_reducible refine must_intro ?_ ?_); exact decide_eq_true (by omega); (conv => whnf)))
        refine idxK_map_intro (show (i : Int).toNat < r.deps.length by simpa using hc) ?_
        rw [show r.deps[(i : Int).toNat]'(by simpa using hc) = r.deps[i] from by congr 1]
        generalize r.deps[i] = d at hD hIH hmem ⊢
        (conv => whnf)
        refine refName_calls d.name ?_
        (conv => whnf)
        refine br_intro (fun n1 => ?_) (fun n1 => ?_)
        · have n1 : nameOk d.name = false := by simpa using n1
          (conv => whnf)
          exact h false (by rw [← hD, n1]; rfl)
        have n1 : nameOk d.name = true := by simpa using n1
        rw [n1, Bool.true_and] at hD
        (conv => whnf)
        refine br_intro (fun n2 => ?_) (fun n2 => ?_)
        · have n2 : d.name = r.target := by simpa [ofB_eq] using n2
          have hb : decide (d.name ∉ preN r i) = false := decide_eq_false fun hx => (hmem.1 hx).1 n2
          (conv => whnf)
          exact h false (by rw [← hD, hb]; rfl)
        have n2 : d.name ≠ r.target := by simpa [ofB_eq] using n2
        (conv => whnf)
        refine br_intro (fun o1 => ?_) (fun o1 => ?_)
        · rw [o1, Bool.true_and] at hD
          (conv => whnf)
          refine br_intro (fun o2 => ?_) (fun o2 => ?_)
          · rw [o2] at hD
            (conv => whnf)
            exact h false (by rw [← hD]; simp)
          · rw [o2, Bool.not_false, Bool.true_and] at hD
            (conv => whnf)
            refine LoopP.ind1 (fun (k : Nat) => [(7, vi k)]) (fun _ => []) (fun k => i - k) (fun k => k ≤ i ∧ ∀ (j : Nat) (hj : j < r.deps.length), j < k → r.deps[j].name ≠ d.name) 0 rfl ⟨by omega, fun j hj h => by omega⟩ ?_
            rintro k ⟨hk0, hk1⟩ IH2
            (conv => whnf)
            refine br_intro (fun hk => ?_) (fun hk => ?_)
            · have hk : k < i := by simp at hk; omega
              have hkl : k < r.deps.length := by omega
              (conv => whnf); (repeat ((with_reducible refine must_intro ?_ ?_); exact decide_eq_true (by omega); (conv => whnf)))
              refine idxK_map_intro (show (k : Int).toNat < r.deps.length by simpa using hkl) ?_
              rw [show r.deps[(k : Int).toNat]'(by simpa using hkl) = r.deps[k] from by congr 1]
              (conv => whnf)
              refine br_intro (fun q => ?_) (fun q => ?_)
              · have q : r.deps[k].name = d.name := by simpa [ofB_eq] using q
                have hb : decide (d.name ∉ preN r i) = false := decide_eq_false fun hx => (hmem.1 hx).2 k hkl hk q
                (conv => whnf)
                exact h false (by rw [← hD, hb]; rfl)
              · have q : r.deps[k].name ≠ d.name := by simpa [ofB_eq] using q
                have IH3 := IH2 (k + 1) ⟨by omega, fun j hj hjk => (Nat.lt_succ_iff_lt_or_eq.1 hjk).elim (fun e => hk1 j hj e) (fun e => by subst e; exact q)⟩ (by omega)
                (conv => whnf)
                rw [i64_nat (by omega)]
                exact IH3
            · have hk : k = i := by simp at hk; omega
              have hb : decide (d.name ∉ preN r i) = true := decide_eq_true (hmem.2 ⟨n2, fun j hj hji => hk1 j hj (by omega)⟩)
              rw [hb, Bool.true_and] at hD
              (conv => whnf)
              rw [i64_nat (by omega)]
              exact hIH ⟨by omega, hD⟩ (by omega)
        · rw [o1, Bool.false_and, Bool.not_false, Bool.true_and] at hD
          (conv => whnf)
          refine LoopP.ind1 (fun (k : Nat) => [(7, vi k)]) (fun _ => []) (fun k => i - k) (fun k => k ≤ i ∧ ∀ (j : Nat) (hj : j < r.deps.length), j < k → r.deps[j].name ≠ d.name) 0 rfl ⟨by omega, fun j hj h => by omega⟩ ?_
          rintro k ⟨hk0, hk1⟩ IH2
          (conv => whnf)
          refine br_intro (fun hk => ?_) (fun hk => ?_)
          · have hk : k < i := by simp at hk; omega
            have hkl : k < r.deps.length := by omega
            (conv => whnf); (repeat ((with_reducible refine must_intro ?_ ?_); exact decide_eq_true (by omega); (conv => whnf)))
            refine idxK_map_intro (show (k : Int).toNat < r.deps.length by simpa using hkl) ?_
            rw [show r.deps[(k : Int).toNat]'(by simpa using hkl) = r.deps[k] from by congr 1]
            (conv => whnf)
            refine br_intro (fun q => ?_) (fun q => ?_)
            · have q : r.deps[k].name = d.name := by simpa [ofB_eq] using q
              have hb : decide (d.name ∉ preN r i) = false := decide_eq_false fun hx => (hmem.1 hx).2 k hkl hk q
              (conv => whnf)
              exact h false (by rw [← hD, hb]; rfl)
            · have q : r.deps[k].name ≠ d.name := by simpa [ofB_eq] using q
              have IH3 := IH2 (k + 1) ⟨by omega, fun j hj hjk => (Nat.lt_succ_iff_lt_or_eq.1 hjk).elim (fun e => hk1 j hj e) (fun e => by subst e; exact q)⟩ (by omega)
              (conv => whnf)
              rw [i64_nat (by omega)]
              exact IH3
          · have hk : k = i := by simp at hk; omega
            have hb : decide (d.name ∉ preN r i) = true := decide_eq_true (hmem.2 ⟨n2, fun j hj hji => hk1 j hj (by omega)⟩)
            rw [hb, Bool.true_and] at hD
            (conv => whnf)
            rw [i64_nat (by omega)]
            exact hIH ⟨by omega, hD⟩ (by omega)
      · have hc := ge_of_decE hsl hc
        rw [List.drop_eq_nil_of_le hc, depsGo] at hD
        (conv => whnf)
        exact h true hD
end Go.Abs
end

section
/- dump: a trace's line, a state's text. -/
set_option maxRecDepth 100000
set_option maxHeartbeats 2000000
set_option linter.unusedVariables false
set_option linter.unusedSimpArgs false
namespace Go.Abs
open Go Go.Proofs
attribute [local irreducible] ibits byteAt strLt firstIdx

/-! ### plain -/
theorem putP_len (s : B) : (putP s).length ≤ 3 * s.length + 1 := by
  unfold putP
  split
  · simp
  · have := signsP_len (if s = [45] then noneP else plainP) s
    omega
def dW (d : Dp) : List B := [putP d.name, hexB d.hash ++ (if d.order then [33] else [])]
def lineH (r : Rc) : List B := [putP r.target, hexB r.rule, hexB r.out, Lib.decDigits r.wen.toNat, putP r.tag]
def lineW (r : Rc) : List B := lineH r ++ r.deps.flatMap dW
def lineP (r : Rc) : B := joinW (lineW r)
def lineB (r : Rc) : Bool := decide (r.kind = 1) && mayP 3 r
def Ok300 (r : Rc) : Prop := r.deps.length ≤ 60 ∧ r.target.length ≤ 300 ∧ r.tag.length ≤ 300 ∧ ∀ d ∈ r.deps, d.name.length ≤ 300
theorem dW_length (d : Dp) : (dW d).length = 2 := rfl
theorem flat_dW (l : List Dp) : (l.flatMap dW).length = 2 * l.length := by
  induction l with
  | nil => rfl
  | cons a l ih => simp only [List.flatMap_cons, List.length_append, ih, dW_length, List.length_cons]; omega
theorem lineW_length (r : Rc) (i : Nat) : (lineH r ++ (r.deps.take i).flatMap dW).length ≤ 5 + 2 * r.deps.length := by
  rw [List.length_append, flat_dW, List.length_take]
  simp only [lineH, List.length_cons, List.length_nil]
  omega
theorem lineW_mem {r : Rc} (h : Ok300 r) (i : Nat) : ∀ w ∈ lineH r ++ (r.deps.take i).flatMap dW, w.length ≤ 901 := by
  intro w hw
  obtain ⟨h1, h2, h3, h4⟩ := h
  rcases List.mem_append.1 hw with hw | hw
  · simp only [lineH, List.mem_cons, List.not_mem_nil, or_false] at hw
    rcases hw with rfl | rfl | rfl | rfl | rfl
    · have := putP_len r.target; omega
    · rw [hexB_length]; omega
    · rw [hexB_length]; omega
    · have := u64_len r.wen; omega
    · have := putP_len r.tag; omega
  · obtain ⟨d, hd, hw⟩ := List.mem_flatMap.1 hw
    have hd := h4 d (List.mem_of_mem_take hd)
    simp only [dW, List.mem_cons, List.not_mem_nil, or_false] at hw
    rcases hw with rfl | rfl
    · have := putP_len d.name; omega
    · rw [List.length_append, hexB_length]; split <;> simp
theorem lineW_len {r : Rc} (h : Ok300 r) (i : Nat) : (joinW (lineH r ++ (r.deps.take i).flatMap dW)).length ≤ 125 * 902 := by
  have h1 := joinW_len _ _ (lineW_mem h i)
  have h2 := lineW_length r i
  have := h.1
  have : (lineH r ++ (r.deps.take i).flatMap dW).length * (901 + 1) ≤ 125 * 902 := Nat.mul_le_mul (by omega) (by omega)
  omega
theorem lineP_len {r : Rc} (h : Ok300 r) : (lineP r).length ≤ 125 * 902 := by
  have := lineW_len h r.deps.length
  rwa [List.take_length] at this

/-! ### a line's words -/
abbrev wC (X : AV) : AObj := .cells 39 [X]
theorem add_first (q : List B) (hq : q.length < 1000000) {R} (h : R (.tup []) [wC (.sl (some 1) 1 (strs q)), .row 9 1 q.length]) : ACalls Tryd.prog 12 [.ptr 0 0, .sl none 1 (strs q)] [wC nilS] R := by
  refine acalls_of_xwp (an := an12) tab_ok Tryd.func12 ?_
  (conv => whnf)
  refine ⟨by rw [strs_length, bytes_str]; omega, ?_⟩
  (conv => whnf)
  rw [strs_length]
  exact h
theorem add_again (l q : List B) (hl : l.length < 1000000) (hq : q.length < 1000000) {R} (h : R (.tup []) [wC (.sl (some 1) 1 (strs (l ++ q))), .row 9 1 (l ++ q).length]) : ACalls Tryd.prog 12 [.ptr 0 0, .sl none 1 (strs q)] [wC (.sl (some 1) 1 (strs l)), .row 9 1 l.length] R := by
  refine acalls_of_xwp (an := an12) tab_ok Tryd.func12 ?_
  (conv => whnf)
  refine ⟨(strs_length l).symm, by rw [strs_length, strs_length, bytes_str]; omega, ?_⟩
  (conv => whnf)
  rw [strs_length, strs_length, ← strs_append, ← List.length_append]
  exact h

theorem Line_calls (r : Rc) (h : Ok300 r) {R} (hy : lineB r = true → ∀ d, d = ofB (lineP r) → R (.tup [.val (.string d), vi 0]) []) (hn : lineB r = false → R (.tup [vs [], vi 1]) []) : ACalls Tryd.prog 6 [.agg r.enc] [] R := by
  refine acalls_of_xwp (an := an6) tab_ok Tryd.func6 ?_
  have hsl := dpsA_length r.deps
  obtain ⟨h1, h2, h3, h4⟩ := id h
  (conv => whnf)
  refine br_intro (fun hk => ?_) (fun hk => ?_)
  · have hk : ¬ r.kind = 1 := by simpa using hk
    (conv => whnf)
    exact hn (by simp [lineB, hk])
  have hk : r.kind = 1 := by simpa using hk
  (conv => whnf)
  refine May_calls 3 r (by omega) fun p hp => ?_
  (conv => whnf)
  refine br_intro (fun hm => ?_) (fun hm => ?_)
  · have hm : p = false := by simpa using hm
    (conv => whnf)
    exact hn (by simp [lineB, ← hp, hm])
  have hm : p = true := by simpa using hm
  have hb : lineB r = true := by simp [lineB, ← hp, hm, hk]
  (conv => whnf)
  refine Put_calls r.target (by omega) fun d1 e1 => ?_
  (conv => whnf)
  refine Hex_calls r.rule fun d2 e2 => ?_
  (conv => whnf)
  refine Hex_calls r.out fun d3 e3 => ?_
  (conv => whnf)
  refine FormatUint_calls r.wen fun d4 e4 => ?_
  (conv => whnf)
  refine Put_calls r.tag (by omega) fun d5 e5 => ?_
  subst e1 e2 e3 e4 e5
  (conv => whnf)
  refine add_first (lineH r) (by simp [lineH]) ?_
  (conv => whnf)
  refine LoopP.ind1 (fun (i : Nat) => [(36, vi i)]) (fun i => [(nameOf 4, wC (.sl (some (freshN 32 0)) 1 (strs (lineH r ++ (r.deps.take i).flatMap dW)))), (freshN 32 0, .row 9 1 (lineH r ++ (r.deps.take i).flatMap dW).length)]) (fun i => r.deps.length - i) (fun i => i ≤ r.deps.length) 0 rfl (by omega) ?_
  rintro i h0 IH
  (conv => whnf)
  refine br_intro (fun hc => ?_) (fun hc => ?_)
  · have hc := lt_of_decE hsl hc
    have hnx := IH (i + 1) (by omega) (by omega)
    clear IH
    have hwl := lineW_length r i
    have hdn := h4 _ (List.getElem_mem hc)
    (conv => whnf); (repeat ((with_reducible refine must_intro ?_ ?_); exact decide_eq_true (by omega); (conv => whnf)))
    refine idxK_map_intro (show (i : Int).toNat < r.deps.length by simpa using hc) ?_
    rw [show r.deps[(i : Int).toNat]'(by simpa using hc) = r.deps[i] from by congr 1]
    (conv => whnf)
    refine Hex_calls r.deps[i].hash fun d1 e1 => ?_
    subst e1
    have hx := hexB_length r.deps[i].hash
    have en : ∀ (x : B), dW r.deps[i] = [putP r.deps[i].name, x] → lineH r ++ (r.deps.take i).flatMap dW ++ [putP r.deps[i].name, x] = lineH r ++ (r.deps.take (i + 1)).flatMap dW := fun x hx => by
      rw [List.take_succ_eq_append_getElem hc, List.flatMap_append, List.flatMap_cons, List.flatMap_nil, hx]; simp
    (conv => whnf)
    refine br_intro (fun ho => ?_) (fun ho => ?_)
    · have ho : r.deps[i].order = true := by simpa using ho
      (conv => whnf)
      refine Put_calls r.deps[i].name (by omega) fun d2 e2 => ?_
      subst e2
      (conv => whnf)
      refine add_again (lineH r ++ (r.deps.take i).flatMap dW) [putP r.deps[i].name, hexB r.deps[i].hash ++ [33]] (by omega) (by simp) ?_
      rw [en _ (by simp [dW, ho])]
      (conv => whnf)
      rw [i64_nat (by omega)]
      exact hnx
    · have ho : r.deps[i].order = false := by simpa using ho
      (conv => whnf)
      refine Put_calls r.deps[i].name (by omega) fun d2 e2 => ?_
      subst e2
      (conv => whnf)
      refine add_again (lineH r ++ (r.deps.take i).flatMap dW) [putP r.deps[i].name, hexB r.deps[i].hash] (by omega) (by simp) ?_
      rw [en _ (by simp [dW, ho])]
      (conv => whnf)
      rw [i64_nat (by omega)]
      exact hnx
  · have hc := ge_of_decE hsl hc
    have hll := lineP_len h
    have hl2 := lineW_length r r.deps.length
    rw [List.take_of_length_le hc]
    rw [List.take_length] at hl2
    (conv => whnf)
    refine eJoin_calls (lineW r) (by unfold lineW; omega) (by unfold lineP at hll; omega) fun d hd => ?_
    (conv => whnf)
    exact hy hb d hd

theorem refLine_calls (r : Rc) (h : Ok300 r) {R} (hy : lineB r = true → ∀ d, d = ofB (lineP r) → R (.tup [.val (.string d), vi 0]) []) (hn : lineB r = false → R (.tup [vs [], vi 1]) []) : ACalls Tryd.prog 7 [.agg r.enc] [] R := by
  refine acalls_of_xwp (an := an7) tab_ok Tryd.func7 ?_
  have hsl := dpsA_length r.deps
  obtain ⟨h1, h2, h3, h4⟩ := id h
  have l1 := putP_len r.target
  have l2 := hexB_length r.rule
  have l3 := hexB_length r.out
  have l4 := u64_len r.wen
  have l5 := putP_len r.tag
  (conv => whnf)
  refine br_intro (fun hk => ?_) (fun hk => ?_)
  · have hk : ¬ r.kind = 1 := by simpa using hk
    (conv => whnf)
    exact hn (by simp [lineB, hk])
  have hk : r.kind = 1 := by simpa using hk
  (conv => whnf)
  refine refMay_calls 3 r (by omega) fun p hp => ?_
  (conv => whnf)
  refine br_intro (fun hm => ?_) (fun hm => ?_)
  · have hm : p = false := by simpa using hm
    (conv => whnf)
    exact hn (by simp [lineB, ← hp, hm])
  have hm : p = true := by simpa using hm
  have hb : lineB r = true := by simp [lineB, ← hp, hm, hk]
  (conv => whnf)
  refine refPut_calls r.target (by omega) fun d1 e1 => ?_
  subst e1
  (conv => whnf)
  (refine must_intro (decide_eq_true (by (try simp only [ByteArray.size_append, size_ofB, size_lit, List.size_toArray, List.length_append, List.length_cons, List.length_nil, List.length_drop, List.length_take]); omega)) ?_); (conv => whnf)
  refine refHex_calls r.rule fun d2 e2 => ?_
  subst e2
  (conv => whnf)
  (refine must_intro (decide_eq_true (by (try simp only [ByteArray.size_append, size_ofB, size_lit, List.size_toArray, List.length_append, List.length_cons, List.length_nil, List.length_drop, List.length_take]); omega)) ?_); (conv => whnf)
  (refine must_intro (decide_eq_true (by (try simp only [ByteArray.size_append, size_ofB, size_lit, List.size_toArray, List.length_append, List.length_cons, List.length_nil, List.length_drop, List.length_take]); omega)) ?_); (conv => whnf)
  refine refHex_calls r.out fun d3 e3 => ?_
  subst e3
  (conv => whnf)
  (refine must_intro (decide_eq_true (by (try simp only [ByteArray.size_append, size_ofB, size_lit, List.size_toArray, List.length_append, List.length_cons, List.length_nil, List.length_drop, List.length_take]); omega)) ?_); (conv => whnf)
  (refine must_intro (decide_eq_true (by (try simp only [ByteArray.size_append, size_ofB, size_lit, List.size_toArray, List.length_append, List.length_cons, List.length_nil, List.length_drop, List.length_take]); omega)) ?_); (conv => whnf)
  refine Digits_calls r.wen fun d4 e4 => ?_
  subst e4
  (conv => whnf)
  (refine must_intro (decide_eq_true (by (try simp only [ByteArray.size_append, size_ofB, size_lit, List.size_toArray, List.length_append, List.length_cons, List.length_nil, List.length_drop, List.length_take]); omega)) ?_); (conv => whnf)
  (refine must_intro (decide_eq_true (by (try simp only [ByteArray.size_append, size_ofB, size_lit, List.size_toArray, List.length_append, List.length_cons, List.length_nil, List.length_drop, List.length_take]); omega)) ?_); (conv => whnf)
  refine refPut_calls r.tag (by omega) fun d5 e5 => ?_
  subst e5
  (conv => whnf)
  (refine must_intro (decide_eq_true (by (try simp only [ByteArray.size_append, size_ofB, size_lit, List.size_toArray, List.length_append, List.length_cons, List.length_nil, List.length_drop, List.length_take]); omega)) ?_); (conv => whnf)
  refine LoopP.ind2 (fun (i : Nat) (o : ByteArray) => [(4, .val (.string o)), (5, vi i)]) (fun _ _ => []) (fun i _ => r.deps.length - i) (fun i o => i ≤ r.deps.length ∧ o = ofB (joinW (lineH r ++ (r.deps.take i).flatMap dW))) 0
    (ofB (putP r.target) ++ ofB [32] ++ ofB (hexB r.rule) ++ ofB [32] ++ ofB (hexB r.out) ++ ofB [32] ++ ofB (Lib.decDigits r.wen.toNat) ++ ofB [32] ++ ofB (putP r.tag)) rfl ⟨by omega, ?_⟩ ?_
  · simp only [ofB_append, List.take_zero, List.flatMap_nil, List.append_nil, lineH, joinW_cons]
    simp
  rintro i o ⟨h0, ho⟩ IH
  (conv => whnf)
  refine br_intro (fun hc => ?_) (fun hc => ?_)
  · have hc := lt_of_decE hsl hc
    have hnx := IH (i + 1) (ofB (joinW (lineH r ++ (r.deps.take (i + 1)).flatMap dW))) ⟨by omega, rfl⟩ (by omega)
    clear IH
    have hwl := lineW_len h i
    have hdn := h4 _ (List.getElem_mem hc)
    have l6 := putP_len r.deps[i].name
    have l7 := hexB_length r.deps[i].hash
    have hos := congrArg ByteArray.size ho
    rw [size_ofB] at hos
    have en : o ++ ofB [32] ++ ofB (putP r.deps[i].name) ++ ofB [32] ++ ofB (hexB r.deps[i].hash) ++ ofB (if r.deps[i].order then [33] else []) = ofB (joinW (lineH r ++ (r.deps.take (i + 1)).flatMap dW)) := by
      rw [ho, List.take_succ_eq_append_getElem hc, List.flatMap_append, List.flatMap_cons, List.flatMap_nil]
      simp only [dW, ofB_append, List.append_nil, ← List.append_assoc]
      rw [show lineH r ++ (r.deps.take i).flatMap dW ++ [putP r.deps[i].name, hexB r.deps[i].hash ++ (if r.deps[i].order then [33] else [])] = (lineH r ++ (r.deps.take i).flatMap dW ++ [putP r.deps[i].name]) ++ [hexB r.deps[i].hash ++ (if r.deps[i].order then [33] else [])] by simp]
      rw [joinW_snoc (by simp), joinW_snoc (by simp [lineH])]
      simp
    (conv => whnf)
    (refine must_intro (decide_eq_true (by (try simp only [ByteArray.size_append, size_ofB, size_lit, List.size_toArray, List.length_append, List.length_cons, List.length_nil, List.length_drop, List.length_take]); omega)) ?_); (conv => whnf)
    (conv => whnf); (repeat ((with_reducible refine must_intro ?_ ?_); exact decide_eq_true (by omega); (conv => whnf)))
    refine idxK_map_intro (show (i : Int).toNat < r.deps.length by simpa using hc) ?_
    rw [show r.deps[(i : Int).toNat]'(by simpa using hc) = r.deps[i] from by congr 1]
    (conv => whnf)
    refine refPut_calls r.deps[i].name (by omega) fun d1 e1 => ?_
    subst e1
    (conv => whnf)
    (refine must_intro (decide_eq_true (by (try simp only [ByteArray.size_append, size_ofB, size_lit, List.size_toArray, List.length_append, List.length_cons, List.length_nil, List.length_drop, List.length_take]); omega)) ?_); (conv => whnf)
    (refine must_intro (decide_eq_true (by (try simp only [ByteArray.size_append, size_ofB, size_lit, List.size_toArray, List.length_append, List.length_cons, List.length_nil, List.length_drop, List.length_take]); omega)) ?_); (conv => whnf)
    (conv => whnf); (repeat ((with_reducible refine must_intro ?_ ?_); exact decide_eq_true (by omega); (conv => whnf)))
    refine idxK_map_intro (show (i : Int).toNat < r.deps.length by simpa using hc) ?_
    rw [show r.deps[(i : Int).toNat]'(by simpa using hc) = r.deps[i] from by congr 1]
    (conv => whnf)
    refine refHex_calls r.deps[i].hash fun d2 e2 => ?_
    subst e2
    (conv => whnf)
    (refine must_intro (decide_eq_true (by (try simp only [ByteArray.size_append, size_ofB, size_lit, List.size_toArray, List.length_append, List.length_cons, List.length_nil, List.length_drop, List.length_take]); omega)) ?_); (conv => whnf)
    (conv => whnf); (repeat ((with_reducible refine must_intro ?_ ?_); exact decide_eq_true (by omega); (conv => whnf)))
    refine idxK_map_intro (show (i : Int).toNat < r.deps.length by simpa using hc) ?_
    rw [show r.deps[(i : Int).toNat]'(by simpa using hc) = r.deps[i] from by congr 1]
    (conv => whnf)
    refine br_intro (fun hq => ?_) (fun hq => ?_)
    · have hq : r.deps[i].order = true := by simpa using hq
      rw [if_pos hq] at en
      (conv => whnf)
      (refine must_intro (decide_eq_true (by (try simp only [ByteArray.size_append, size_ofB, size_lit, List.size_toArray, List.length_append, List.length_cons, List.length_nil, List.length_drop, List.length_take]); omega)) ?_); (conv => whnf)
      rw [i64_nat (by omega)]
      rw [← en] at hnx
      exact hnx
    · have hq : r.deps[i].order = false := by simpa using hq
      rw [if_neg (by simp [hq])] at en
      (conv => whnf)
      rw [i64_nat (by omega)]
      rw [← en, show ofB ([] : B) = ByteArray.empty from rfl, ByteArray.append_empty] at hnx
      exact hnx
  · have hc := ge_of_decE hsl hc
    rw [List.take_of_length_le hc] at ho
    (conv => whnf)
    exact hy hb o ho
end Go.Abs
end

section
/- dump: unlike states have unlike texts. -/
set_option maxRecDepth 100000
set_option linter.unusedVariables false
set_option linter.unusedSimpArgs false
namespace Go.Abs
open Go Go.Proofs
attribute [local irreducible] ibits byteAt strLt firstIdx

/-! ### signs -/
theorem hexc_ok0 : (List.range 16).all (fun d => decide (hexc d ≠ 32 ∧ hexc d ≠ 10)) = true := by decide +kernel
theorem hexL_mem {n : Nat} {c : UInt8} : ∀ {k : Nat}, c ∈ hexL n k → c ≠ 32 ∧ c ≠ 10 := by
  intro k
  induction k with
  | zero => intro h; simp [hexL] at h
  | succ k ih =>
    intro h
    rcases List.mem_cons.1 h with rfl | h
    · exact of_decide_eq_true (List.all_eq_true.1 hexc_ok0 _ (List.mem_range.2 (Nat.mod_lt _ (by omega))))
    · exact ih h
theorem hexB_mem {n : U} {c : UInt8} (h : c ∈ hexB n) : c ≠ 32 ∧ c ≠ 10 := hexL_mem h
theorem hexB_inj {a b : U} (h : hexB a = hexB b) : a = b := by
  have := readB_hexB a
  rw [h, readB_hexB] at this
  exact (Option.some.inj this).symm
theorem putP_inj {a b : B} (h : putP a = putP b) : a = b := by
  have := getP_putP a
  rw [h, getP_putP] at this
  exact (Option.some.inj this).symm
theorem dig_ok {n : Nat} (h : n < 10) : (UInt8.ofNat (48 + n)).toNat = 48 + n := by
  rw [UInt8.toNat_ofNat']
  omega
theorem decDigits_mem : ∀ (n : Nat) {c : UInt8}, c ∈ Lib.decDigits n → c ≠ 32 ∧ c ≠ 10 := by
  intro n
  induction n using Nat.strongRecOn with
  | ind n ih =>
    intro c h
    by_cases h10 : n < 10
    · rw [Lib.decDigits_one h10] at h
      have e : c = UInt8.ofNat (48 + n) := by simpa using h
      have e2 := dig_ok h10
      rw [← e] at e2
      constructor <;> (rintro rfl; simp at e2; try omega)
    · rw [decDigits_step n (by omega)] at h
      rcases List.mem_append.1 h with h | h
      · exact ih (n / 10) (by omega) h
      · exact ih (n % 10) (by omega) h
def decVal (l : B) : Nat := l.foldl (fun a c => 10 * a + (c.toNat - 48)) 0
theorem decVal_dec : ∀ (n : Nat), decVal (Lib.decDigits n) = n := by
  intro n
  induction n using Nat.strongRecOn with
  | ind n ih =>
    by_cases h10 : n < 10
    · rw [Lib.decDigits_one h10]
      have e2 := dig_ok h10
      simp only [decVal, List.foldl_cons, List.foldl_nil, e2]
      omega
    · rw [decDigits_step n (by omega), Lib.decDigits_one (Nat.mod_lt n (by omega))]
      have h1 := ih (n / 10) (by omega)
      have e2 := dig_ok (Nat.mod_lt n (show 10 > 0 by omega))
      unfold decVal at h1 ⊢
      rw [List.foldl_append, h1]
      simp only [List.foldl_cons, List.foldl_nil, e2]
      omega
theorem decDigits_inj {a b : Nat} (h : Lib.decDigits a = Lib.decDigits b) : a = b := by rw [← decVal_dec a, h, decVal_dec]

/-! ### lines -/
theorem dW_mem {d : Dp} {w : B} (hw : w ∈ dW d) {c : UInt8} (h : c ∈ w) : c ≠ 32 ∧ c ≠ 10 := by
  simp only [dW, List.mem_cons, List.not_mem_nil, or_false] at hw
  rcases hw with rfl | rfl
  · exact putP_mem h
  · rcases List.mem_append.1 h with h | h
    · exact hexB_mem h
    · split at h
      · have e : c = 33 := by simpa using h
        subst e
        decide
      · simp at h
theorem lineW_ok {r : Rc} {w : B} (hw : w ∈ lineW r) {c : UInt8} (h : c ∈ w) : c ≠ 32 ∧ c ≠ 10 := by
  rcases List.mem_append.1 hw with hw | hw
  · simp only [lineH, List.mem_cons, List.not_mem_nil, or_false] at hw
    rcases hw with rfl | rfl | rfl | rfl | rfl
    · exact putP_mem h
    · exact hexB_mem h
    · exact hexB_mem h
    · exact decDigits_mem _ h
    · exact putP_mem h
  · obtain ⟨d, _, hw⟩ := List.mem_flatMap.1 hw
    exact dW_mem hw h
theorem joinW_mem {l : List B} {c : UInt8} (h : c ∈ joinW l) : c = 32 ∨ ∃ w ∈ l, c ∈ w := by
  cases l with
  | nil => simp [joinW, Lib.join_nil] at h
  | cons a l =>
    rw [joinW_cons] at h
    rcases List.mem_append.1 h with h | h
    · exact .inr ⟨a, by simp, h⟩
    · obtain ⟨w, hw, h⟩ := List.mem_flatten.1 h
      obtain ⟨x, hx, rfl⟩ := List.mem_map.1 hw
      rcases List.mem_cons.1 h with rfl | h
      · exact .inl rfl
      · exact .inr ⟨x, by simp [hx], h⟩
theorem lineP_ten (r : Rc) : (10 : UInt8) ∉ lineP r := by
  intro h
  rcases joinW_mem h with h | ⟨w, hw, h⟩
  · exact absurd h (by decide)
  · exact (lineW_ok hw h).2 rfl
theorem dW_inj {a b : Dp} (h : dW a = dW b) : a = b := by
  simp only [dW, List.cons.injEq, and_true] at h
  obtain ⟨h1, h2⟩ := h
  obtain ⟨an, ah, ao⟩ := a
  obtain ⟨bn, bh, bo⟩ := b
  have h1 := putP_inj h1
  have h3 := List.append_inj h2 (by rw [hexB_length, hexB_length])
  have h4 := hexB_inj h3.1
  have h5 : ao = bo := by
    have := h3.2
    cases ao <;> cases bo <;> simp at this ⊢
  simp only at h1 h4
  subst h1 h4 h5
  rfl
theorem flat_dW_inj : ∀ {a b : List Dp}, a.flatMap dW = b.flatMap dW → a = b := by
  intro a
  induction a with
  | nil =>
    intro b h
    have := congrArg List.length h
    rw [flat_dW, flat_dW] at this
    exact (List.eq_nil_of_length_eq_zero (by simp at this; omega)).symm
  | cons x a ih =>
    intro b h
    cases b with
    | nil =>
      have := congrArg List.length h
      rw [flat_dW, flat_dW] at this
      simp at this
    | cons y b =>
      simp only [List.flatMap_cons] at h
      have := List.append_inj h (by rw [dW_length, dW_length])
      rw [dW_inj this.1, ih this.2]
theorem lineW_split (r : Rc) : splitP (lineP r) 32 = lineW r := split_joinW _ (by simp [lineW, lineH]) fun w hw h => (lineW_ok hw h).1 rfl
theorem lineP_inj {r s : Rc} (hk : r.kind = s.kind) (h : lineP r = lineP s) : r = s := by
  have e : lineW r = lineW s := by rw [← lineW_split, h, lineW_split]
  have e2 := List.append_inj e rfl
  have e3 := flat_dW_inj e2.2
  have e1 := e2.1
  simp only [lineH, List.cons.injEq, and_true] at e1
  obtain ⟨a1, a2, a3, a4, a5⟩ := e1
  obtain ⟨rk, rt, rr, rd, ro, rw', rg⟩ := r
  obtain ⟨sk, st, sr, sd, so, sw, sg⟩ := s
  have b1 : rt = st := putP_inj a1
  have b2 : rr = sr := hexB_inj a2
  have b3 : ro = so := hexB_inj a3
  have b4 : rw' = sw := BitVec.eq_of_toNat_eq (decDigits_inj a4)
  have b5 : rg = sg := putP_inj a5
  have b6 : rd = sd := e3
  have b7 : rk = sk := hk
  rw [b1, b2, b3, b4, b5, b6, b7]

/-! ### texts -/
def textH (n : Nat) : B := [116, 101, 112, 104, 114, 97, 32] ++ Lib.decDigits n
def linesP (l : List Rc) : B := l.flatMap fun r => lineP r ++ [10]
def bodyP (l : List Rc) : B := textH l.length ++ [10] ++ linesP l
def textP (l : List Rc) : B := sealP (bodyP l)
def textB (l : List Rc) : Bool := rightB l && l.all lineB
theorem rightB_kind {l : List Rc} (h : rightB l = true) : ∀ r ∈ l, r.kind = 1 := by
  intro r hr
  obtain ⟨i, hi, rfl⟩ := List.mem_iff_getElem.1 hr
  have h := List.all_eq_true.1 h i (List.mem_range.2 hi)
  cases i with
  | zero =>
    simp only [okAt, List.getElem?_eq_getElem hi] at h
    exact of_decide_eq_true h
  | succ j =>
    simp only [okAt, List.getElem?_eq_getElem hi, List.getElem?_eq_getElem (show j < l.length by omega), Bool.and_eq_true] at h
    exact of_decide_eq_true h.1
theorem linesP_split (l : List Rc) : splitP (linesP l) 10 = l.map lineP ++ [[]] := by
  induction l with
  | nil => rfl
  | cons r l ih =>
    simp only [linesP, List.flatMap_cons, List.map_cons, List.cons_append] at ih ⊢
    rw [List.append_assoc, List.singleton_append, splitP_hit _ (lineP_ten r), ih]
theorem map_line_inj : ∀ {a b : List Rc}, (∀ r ∈ a, r.kind = 1) → (∀ r ∈ b, r.kind = 1) → a.map lineP = b.map lineP → a = b := by
  intro a
  induction a with
  | nil => intro b _ _ h; cases b with | nil => rfl | cons y b => simp at h
  | cons x a ih =>
    intro b ha hb h
    cases b with
    | nil => simp at h
    | cons y b =>
      simp only [List.map_cons, List.cons.injEq] at h
      rw [lineP_inj (by rw [ha x (by simp), hb y (by simp)]) h.1, ih (fun r hr => ha r (by simp [hr])) (fun r hr => hb r (by simp [hr])) h.2]
theorem textH_ten (n : Nat) : (10 : UInt8) ∉ textH n := by
  intro h
  rcases List.mem_append.1 h with h | h
  · simp at h
  · exact (decDigits_mem _ h).2 rfl
theorem textP_inj {a b : List Rc} (ha : rightB a = true) (hb : rightB b = true) (h : textP a = textP b) : a = b := by
  have h := sealP_inj h
  have h2 := congrArg (fun s => splitP s 10) h
  simp only [bodyP, List.append_assoc, List.singleton_append] at h2
  rw [splitP_hit _ (textH_ten _), splitP_hit _ (textH_ten _), linesP_split, linesP_split] at h2
  injection h2 with _ h2
  exact map_line_inj (rightB_kind ha) (rightB_kind hb) (List.append_cancel_right h2)
theorem textH_len (n : Nat) (h : n < 100) : (textH n).length ≤ 9 := by
  have := decDigits_len 1 n (by simpa using h)
  simp only [textH, List.length_append, List.length_cons, List.length_nil]
  omega
theorem linesP_snoc (l : List Rc) (r : Rc) : linesP (l ++ [r]) = linesP l ++ (lineP r ++ [10]) := by simp [linesP]
theorem linesP_len {l : List Rc} (h : ∀ r ∈ l, Ok300 r) : (linesP l).length ≤ l.length * 112752 := by
  induction l with
  | nil => simp [linesP]
  | cons r l ih =>
    have h1 := ih fun x hx => h x (by simp [hx])
    have h2 := lineP_len (h r (by simp))
    simp only [linesP, List.flatMap_cons, List.length_append, List.length_cons, List.length_nil] at h1 ⊢
    omega
end Go.Abs
end

section
/- dump: a state's text; the statements DumpSeals, DumpTexts, DumpOne. -/
set_option maxRecDepth 100000
set_option maxHeartbeats 2000000
set_option linter.unusedVariables false
set_option linter.unusedSimpArgs false
namespace Go.Abs
open Go Go.Proofs
attribute [local irreducible] ibits byteAt strLt firstIdx

theorem bodyP_len {l : List Rc} (hl : l.length ≤ 30) (h : ∀ r ∈ l, Ok300 r) (i : Nat) : (textH l.length ++ [10] ++ linesP (l.take i)).length ≤ 5000000 := by
  have h1 := textH_len l.length (by omega)
  have h2 := linesP_len (l := l.take i) fun r hr => h r (List.mem_of_mem_take hr)
  have h3 : (l.take i).length ≤ 30 := by rw [List.length_take]; omega
  have h4 : (l.take i).length * 112752 ≤ 30 * 112752 := Nat.mul_le_mul h3 (by omega)
  simp only [List.length_append, List.length_cons, List.length_nil]
  omega
theorem textB_at {l : List Rc} {i : Nat} (hi : i < l.length) (h : lineB l[i] = false) : textB l = false := by
  refine Bool.eq_false_iff.2 fun e => ?_
  simp only [textB, Bool.and_eq_true] at e
  have := List.all_eq_true.1 e.2 _ (List.getElem_mem hi)
  rw [h] at this; cases this
theorem textB_all {l : List Rc} (hr : rightB l = true) (h : ∀ r ∈ l.take l.length, lineB r = true) : textB l = true := by
  rw [List.take_length] at h
  simp only [textB, Bool.and_eq_true]
  exact ⟨hr, List.all_eq_true.2 h⟩
theorem Text_calls (l : List Rc) (hl : l.length ≤ 30) (h : ∀ r ∈ l, Ok300 r) {R} (hy : textB l = true → ∀ d, d = ofB (textP l) → R (.tup [.val (.string d), vi 0]) []) (hn : textB l = false → R (.tup [vs [], vi 1]) []) : ACalls Tryd.prog 9 [.sl none 7 (recs l)] [] R := by
  refine acalls_of_xwp (an := an9) tab_ok Tryd.func9 ?_
  have hsl := recs_length l
  (conv => whnf)
  refine Right_calls l (by omega) fun p hp => ?_
  (conv => whnf)
  refine br_intro (fun hm => ?_) (fun hm => ?_)
  · have hm : p = false := by simpa using hm
    (conv => whnf)
    exact hn (by simp [textB, ← hp, hm])
  have hm : p = true := by simpa using hm
  rw [hm] at hp
  (conv => whnf)
  rw [hsl]
  refine Itoa_small l.length (by omega) fun d1 e1 => ?_
  subst e1
  (conv => whnf)
  have hd := decDigits_len 1 l.length (by omega)
  have hjl : (joinW [[116, 101, 112, 104, 114, 97], Lib.decDigits l.length]) = textH l.length := by rw [joinW_cons]; simp [textH]
  have htl := textH_len l.length (by omega)
  refine eJoin_calls [[116, 101, 112, 104, 114, 97], Lib.decDigits l.length] (by simp) (by rw [hjl]; omega) fun d1 e1 => ?_
  rw [hjl] at e1
  subst e1
  (conv => whnf)
  (refine must_intro (decide_eq_true (by (try simp only [ByteArray.size_append, size_ofB, size_lit, List.size_toArray, List.length_append, List.length_cons, List.length_nil, List.length_drop, List.length_take]); omega)) ?_); (conv => whnf)
  have ec : ofB (textH l.length) ++ { data := #[10] } = ofB (textH l.length ++ [10]) := ofB_append _ _
  rw [ec]
  refine WriteString_first (textH l.length ++ [10]) (by simp; omega) fun n => ?_
  (conv => whnf)
  refine LoopP.ind2 (fun (i : Nat) (out : B) => [(21, vi i)]) (fun i out => [(nameOf 4, sbC (.ptr (nameOf 4) 0) (.sl (some (freshN 18 0)) 1 (byteEls out))), (freshN 18 0, .row 5 1 out.length)]) (fun i _ => l.length - i) (fun i out => i ≤ l.length ∧ (∀ r ∈ l.take i, lineB r = true) ∧ out = textH l.length ++ [10] ++ linesP (l.take i)) 0 (textH l.length ++ [10]) rfl ⟨by omega, by simp, by simp [linesP]⟩ ?_
  rintro i out ⟨h0, h1, ho⟩ IH
  have hbl := bodyP_len hl h i
  rw [← ho] at hbl
  (conv => whnf)
  refine br_intro (fun hc => ?_) (fun hc => ?_)
  · have hc := lt_of_decE hsl hc
    have hr := h _ (List.getElem_mem hc)
    (conv => whnf); (repeat ((with_reducible refine must_intro ?_ ?_); exact decide_eq_true (by omega); (conv => whnf)))
    refine idxK_map_intro (show (i : Int).toNat < l.length by simpa using hc) ?_
    rw [show l[(i : Int).toNat]'(by simpa using hc) = l[i] from by congr 1]
    (conv => whnf)
    refine Line_calls l[i] hr (fun hb d1 e1 => ?_) (fun hb => ?_)
    · subst e1
      have hnx := IH (i + 1) (out ++ (lineP l[i] ++ [10])) ⟨by omega, fun r hr => ?_, by rw [List.take_succ_eq_append_getElem hc, linesP_snoc, ho]; simp⟩ (by omega)
      have hll := lineP_len hr
      (conv => whnf)
      (refine must_intro (decide_eq_true (by (try simp only [ByteArray.size_append, size_ofB, size_lit, List.size_toArray, List.length_append, List.length_cons, List.length_nil, List.length_drop, List.length_take]); omega)) ?_); (conv => whnf)
      have ec : ofB (lineP l[i]) ++ { data := #[10] } = ofB (lineP l[i] ++ [10]) := ofB_append _ _
      rw [ec]
      refine WriteString_again out (lineP l[i] ++ [10]) (by omega) (by simp; omega) fun n => ?_
      (conv => whnf)
      rw [i64_nat (by omega)]
      exact hnx
      · rw [List.take_succ_eq_append_getElem hc] at hr
        rcases List.mem_append.1 hr with hr | hr
        · exact h1 r hr
        · rw [List.mem_singleton.1 hr]; exact hb
    · (conv => whnf)
      exact hn (textB_at hc hb)
  · have hc := ge_of_decE hsl hc
    have e : i = l.length := by omega
    subst e
    rw [List.take_length] at ho
    (conv => whnf)
    refine sbString_calls nilP out (by rw [ho]; simp) ?_
    (conv => whnf)
    refine Sealed_calls out (by omega) fun d hd => ?_
    rw [ho] at hd
    (conv => whnf)
    exact hy (textB_all hp.symm h1) d hd
/-! ### the statements -/
theorem dfix19_calls {R} (h : R (.val (.bool true)) []) : ACalls Tryd.prog 5 [] [] R := by
  refine acalls_of_xwp (an := an5) tab_ok Tryd.func5 ?_
  (conv => whnf)
  refine ACalls.args (leL.cons (le_nil 7) leL.nil) (Text_calls [] (by simp) (by simp) (fun _ d hd => ?_) (fun hb => by cases hb))
  subst hd
  have h0 : Lib.decDigits 0 = [48] := Lib.decDigits_one (by omega)
  have hl : (ofB (textP [])).size = 22 := by
    rw [size_ofB]
    simp [textP, sealP, sum8_length, bodyP, textH, linesP, h0]
  (conv => whnf)
  refine HasPrefix_calls (textP []) [116, 101, 112, 104, 114, 97, 32, 48, 10, 115, 117, 109, 32] ?_
  have hp : Lib.hasPrefix (textP []) [116, 101, 112, 104, 114, 97, 32, 48, 10, 115, 117, 109, 32] = true := by
    simp [textP, sealP, bodyP, textH, linesP, h0, Lib.hasPrefix]
  rw [hp]
  (conv => whnf)
  rw [hl]
  exact h
theorem seal_dec (a b : B) : (decide (ofB (sealP a) = ofB (sealP b)) == decide (ofB a = ofB b)) = true := by
  by_cases hab : a = b
  · subst hab; simp
  · rw [decide_eq_false (fun e => hab (ofB_inj e)), decide_eq_false (fun e => hab (sealP_inj (ofB_inj e)))]; rfl
/-- What Text answers: the same twice. -/
def textA (l : List Rc) : ByteArray × Int := if textB l = true then (ofB (textP l), 0) else (ofB [], 1)
theorem Text_one (l : List Rc) (hl : l.length ≤ 30) (h : ∀ r ∈ l, Ok300 r) {R} (k : ∀ d n, (d, n) = textA l → R (.tup [.val (.string d), vi n]) []) : ACalls Tryd.prog 9 [.sl none 7 (recs l)] [] R :=
  Text_calls l hl h (fun hb d hd => k d 0 (by rw [textA, if_pos hb, hd])) (fun hb => k _ 1 (by rw [textA, if_neg (by simp [hb])]))
end Go.Abs
end

section
/- The statement DumpLines. -/
set_option maxRecDepth 100000
set_option maxHeartbeats 2000000
set_option linter.unusedVariables false
set_option linter.unusedSimpArgs false
namespace Go.Abs
open Go Go.Proofs
attribute [local irreducible] ibits byteAt strLt firstIdx

theorem Contains_none (s : B) (c : UInt8) (hc : c ∉ s) {R} (h : R (.val (.bool false)) []) : ACalls Tryd.prog 8 [vs s, vs [c]] [] R := by
  refine acalls_pure fun G w vals hW hA => ?_
  simp only [RepL, Rep] at hA
  obtain ⟨_, _, rfl, rfl, _, _, rfl, rfl, rfl⟩ := hA
  refine ⟨_, _, h, rfl, rfl, ?_⟩
  refine (Tryd.strings_Contains_one (ofB s) c w).mono fun e w' ⟨h1, h2⟩ => ⟨?_, by rw [h2]; exact Go.RowKit.Below.refl _ _⟩
  rw [h1]
  have : (ofB s).data.toList = s := by simp [ofB]
  rw [this]
  have h0 : ¬ 0 ≤ Lib.indexByte s c := fun h0 => by
    obtain ⟨o, ho⟩ := Int.eq_ofNat_of_zero_le h0
    exact hc (List.mem_of_getElem? (Lib.indexByte_some ho).1)
  rw [decide_eq_false h0]
def lineA (r : Rc) : B × Int := if lineB r = true then (lineP r, 0) else ([], 1)
theorem lineA_ten (r : Rc) : (10 : UInt8) ∉ (lineA r).1 := by
  unfold lineA
  split
  · exact lineP_ten r
  · simp
theorem Line_one (r : Rc) (h : Ok300 r) {R} (k : ∀ d n, (d, n) = lineA r → R (.tup [vs d, vi n]) []) : ACalls Tryd.prog 6 [.agg r.enc] [] R :=
  Line_calls r h (fun hb d hd => by subst hd; exact k _ 0 (by rw [lineA, if_pos hb])) (fun hb => k _ 1 (by rw [lineA, if_neg (by simp [hb])]))
theorem refLine_one (r : Rc) (h : Ok300 r) {R} (k : ∀ d n, (d, n) = lineA r → R (.tup [vs d, vi n]) []) : ACalls Tryd.prog 7 [.agg r.enc] [] R :=
  refLine_calls r h (fun hb d hd => by subst hd; exact k _ 0 (by rw [lineA, if_pos hb])) (fun hb => k _ 1 (by rw [lineA, if_neg (by simp [hb])]))
theorem DumpLines_thm (r : Rc) (hr : r.deps.length ≤ maxLen) {R} (h : R (.val (.bool true)) []) : ACalls Tryd.prog 3 [.agg r.enc] [] R := by
  refine acalls_of_xwp (an := an3) tab_ok Tryd.func3 ?_
  (conv => whnf)
  refine Great8_calls r hr fun b hb => ?_
  (conv => whnf)
  refine br_intro (fun g => ?_) (fun g => ?_)
  · (conv => whnf)
    refine dfix19_calls ?_
    (conv => whnf)
    exact h
  have hb : Ok300 r := hb g
  (conv => whnf)
  refine Line_one r hb fun d n e => ?_
  (conv => whnf)
  refine refLine_one r hb fun d2 n2 e2 => ?_
  rw [← e] at e2
  obtain ⟨rfl, rfl⟩ := Prod.mk.inj e2
  have ht := lineA_ten r
  rw [← e] at ht
  (conv => whnf)
  refine dfix19_calls ?_
  (conv => whnf)
  refine br_true (by simp) ?_
  (conv => whnf)
  refine br_true (by simp) ?_
  (conv => whnf)
  refine Contains_none _ 10 ht ?_
  (conv => whnf)
  exact h
theorem args_rec {ts : List TypeId} {l : List AV} (h : Args tab 12 (25 :: ts) l) : ∃ (x : Rc) (l' : List AV), l = .agg x.enc :: l' ∧ x.deps.length ≤ maxLen ∧ Args tab 12 ts l' := by
  obtain ⟨a, l', rfl, h1, h2⟩ := h
  obtain ⟨x, rfl, hx⟩ : ∃ x, a = .agg x ∧ Typed tab 12 25 x := h1
  obtain ⟨r, rfl, hr, _⟩ := typed_rec (n := 6) hx
  exact ⟨r, l', rfl, hr, h2⟩
theorem DumpLines_row (l : List AV) (h : Args tab 12 [25] l) : ACalls Tryd.prog 3 l [] fun r _ => r = .val (.bool true) := by
  obtain ⟨a, l1, rfl, h1, h2⟩ := args_rec h
  obtain rfl := args_nil h2
  exact DumpLines_thm a h1 rfl
end Go.Abs
end
