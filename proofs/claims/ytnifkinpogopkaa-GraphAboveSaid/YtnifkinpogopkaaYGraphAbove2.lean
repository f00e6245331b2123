/- Several texts of this claim, one behind the other: H2, H3, H4, H5, H7, K8. -/
import Derived.Test.YtnifkinpogopkaaYGraphAbove1
import Derived.Sort.Walk0

section
/- A map's values, in the order of its keys (fold's ordered map). -/
set_option maxRecDepth 100000
set_option linter.unusedVariables false
set_option linter.unusedSimpArgs false
namespace Go.Abs
open Go Go.Proofs Dig
attribute [local irreducible] ibits byteAt strLt firstIdx

theorem nodup_bound {l : List Nat} {n : Nat} (h : l.Nodup) (hb : ∀ x ∈ l, x < n) : l.length ≤ n := by
  have hp : l.Perm ((List.range n).filter fun x => decide (x ∈ l)) := by
    refine (List.perm_ext_iff_of_nodup h (List.nodup_range.filter _)).2 fun a => ?_
    simp
    exact fun ha => hb a ha
  rw [hp.length_eq]
  exact Nat.le_trans (List.length_filter_le _ _) (by simp)

abbrev RMap := List (B × Rc)
def rmap (mp : RMap) : List (ByteArray × AV) := mp.map fun p => (ofB p.1, .agg p.2.enc)
def keysM (mp : RMap) : List B := mp.map (·.1)
def lookM (mp : RMap) (k : B) : Option Rc := (mp.find? fun p => decide (p.1 = k)).map (·.2)
def lookZ (mp : RMap) (k : B) : Rc := (lookM mp k).getD zeroR
theorem rmap_find (mp : RMap) (k : B) : mapFind (rmap mp) (ofB k) = (lookM mp k).map fun r => .agg r.enc := by
  induction mp with
  | nil => rfl
  | cons p mp ih =>
    unfold rmap at ih ⊢
    simp only [List.map_cons, mapFind, lookM, List.find?_cons]
    by_cases h : p.1 = k
    · simp [h]
    · have : ofB p.1 ≠ ofB k := fun e => h (ofB_inj e)
      simp only [this, if_false, h, decide_false, ih]
      rfl
theorem lookM_mem {mp : RMap} {k : B} (h : k ∈ keysM mp) : ∃ r, lookM mp k = some r := by
  obtain ⟨p, hp, rfl⟩ := List.mem_map.1 h
  cases hf : mp.find? fun q => decide (q.1 = p.1) with
  | none => exact absurd (List.find?_eq_none.1 hf p hp) (by simp)
  | some q => exact ⟨q.2, by simp [lookM, hf]⟩

theorem values_calls (mp : RMap) (hm : mp.length < 1000000) {R} (h : ∀ ks, ks.Perm (keysM mp) → ks = sortB ks → R (.sl none 7 (recs (ks.map (lookZ mp)))) [.map (rmap mp)]) :
    ACalls Try.prog 50 [.mapv 0] [.map (rmap mp)] R := by
  refine acalls_of_xwp (an := an50) tab_ok Try.func50 ?_
  have hml : (rmap mp).length = mp.length := by simp [rmap]
  (conv => whnf)
  intro ms clock
  refine LoopP.ind2 (fun (seen : List Nat) (keys : List B) => [(3, .slv (nameOf 3) 1 keys.length 0 keys.length)]) (fun seen keys => [(0, .mapc (rmap mp) ms clock), (nameOf 3, .vec 9 1 (strs keys) keys.length), (nameOf 9, .iter 0 ms clock seen)])
    (fun seen _ => mp.length - seen.length) (fun seen keys => seen.Nodup ∧ (∀ i ∈ seen, i < mp.length) ∧ keys = seen.reverse.map fun i => ((mp[i]?).map (·.1)).getD []) [] [] rfl ⟨by simp, by simp, rfl⟩ ?_
  rintro seen keys ⟨hnd, hbd, hkeys⟩ IH
  have hkl : keys.length = seen.length := by rw [hkeys]; simp
  have hsb := nodup_bound hnd hbd
  have hsk := strs_length keys
  (conv => whnf)
  refine ⟨⟨rfl, rfl⟩, fun hall => ?_, fun i e he hns => ?_⟩
  · have hperm : keys.Perm (keysM mp) := by
      have h1 : seen.Perm (List.range mp.length) := (List.perm_ext_iff_of_nodup hnd List.nodup_range).2 fun a => by
        rw [List.mem_range]
        exact ⟨hbd a, fun ha => hall a (by rw [hml]; exact ha)⟩
      have h2 : (List.range mp.length).map (fun i => ((mp[i]?).map (·.1)).getD []) = keysM mp := by
        apply List.ext_getElem
        · simp [keysM]
        · intro i h1 h2
          have hi : i < mp.length := by simpa using h1
          simp [keysM, List.getElem?_eq_getElem hi]
      rw [hkeys, ← h2]
      exact ((List.reverse_perm seen).trans h1).map _
    clear IH
    (conv => whnf)
    refine Sort_calls keys keys.length (by omega) ?_
    generalize hks : sortB keys = ks
    have hkp : ks.Perm keys := by rw [← hks]; exact List.mergeSort_perm _ _
    have hkl2 : ks.length = keys.length := hkp.length_eq
    have hks2 : ks = sortB ks := by
      rw [← hks]
      exact (List.mergeSort_of_pairwise (List.pairwise_mergeSort (fun a b c h1 h2 => by simp at h1 h2 ⊢; exact List.le_trans h1 h2) (fun a b => by simp; exact List.le_total a b) keys)).symm
    have hskk := strs_length ks
    have hbt : (tab.ti 29).bytes = 88 := rfl
    (conv => whnf)
    refine LoopP.ind2 (fun (i : Nat) (out : List Rc) => [(5, .sl (some (nameOf 5)) 7 (recs out)), (22, vi i)]) (fun i out => [(0, .map (rmap mp)), (nameOf 3, .vec 9 1 (strs ks) keys.length), (nameOf 5, .row 29 7 out.length)])
      (fun i _ => ks.length - i) (fun i out => i ≤ ks.length ∧ out = (ks.take i).map (lookZ mp)) 0 [] rfl ⟨by omega, by simp⟩ ?_
    rintro i out ⟨h0, ho⟩ IH
    have hol := recs_length out
    have hoi : out.length = i := by rw [ho]; simp; omega
    (conv => whnf)
    refine br_intro (fun hc => ?_) (fun hc => ?_)
    · have hc : i < ks.length := by simp at hc; omega
      (conv => whnf); (repeat ((with_reducible refine must_intro ?_ ?_); exact decide_eq_true (by omega); (conv => whnf)))
      refine ⟨rfl, idxK_map_intro (show 0 + (i : Int).toNat < ks.length by simpa using hc) ?_⟩
      rw [show ks[0 + (i : Int).toNat]'(by simpa using hc) = ks[i] from by congr 1; simp]
      obtain ⟨r, hr⟩ := lookM_mem (mp := mp) (k := ks[i]) ((hkp.trans hperm).mem_iff.1 (List.getElem_mem hc))
      have hz : lookZ mp ks[i] = r := by rw [lookZ, hr]; rfl
      have hf : mapFind (rmap mp) (ofB ks[i]) = some (.agg r.enc) := by rw [rmap_find, hr]; rfl
      (conv => whnf)
      rw [hf]
      (conv => whnf)
      refine ⟨hol.symm, (by rw [hol]; show (out.length + 1) * (88 + 1) ≤ _; omega), ?_⟩
      (conv => whnf)
      have e1 : recs (out ++ [r]) = recs out ++ [r.enc] := by simp [recs]
      have e2 : (out ++ [r]).length = (recs out).length + [r.enc].length := by simp [hol]
      have := IH (i + 1) (out ++ [r]) ⟨by omega, by rw [List.take_succ_eq_append_getElem hc, List.map_append, ho]; simp [hz]⟩ (by omega)
      rw [e1, e2] at this
      rw [i64_nat (by omega)]
      exact this
    · have hc : ks.length ≤ i := by simp at hc; omega
      rw [List.take_of_length_le hc] at ho
      (conv => whnf)
      rw [ho]
      exact h ks (hkp.trans hperm) hks2
  · obtain ⟨p, hp, rfl⟩ : ∃ p, mp[i]? = some p ∧ (ofB p.1, AV.agg p.2.enc) = e := by
      unfold rmap at he
      rw [List.getElem?_map, Option.map_eq_some_iff] at he
      exact he
    have hil : i < mp.length := (List.getElem?_eq_some_iff.1 hp).1
    (conv => whnf)
    refine ⟨⟨rfl, rfl⟩, idxK_iff.2 ⟨_, he, ?_⟩⟩
    (conv => whnf)
    refine ⟨⟨rfl, rfl, Nat.le_of_eq hsk.symm⟩, (by show (keys.length + 1) * (16 + 1) ≤ _; omega), ?_⟩
    (conv => whnf)
    rw [List.take_of_length_le (Nat.le_of_eq hsk)]
    have e1 : strs keys ++ [[AV.val (Value.string (ofB p.1))]] = strs (keys ++ [p.1]) := by simp [strs, vs]
    have e2 : keys.length + [[AV.val (Value.string (ofB p.1))]].length = (keys ++ [p.1]).length := by simp
    rw [e1, e2, show keys.length + 1 = (keys ++ [p.1]).length by simp]
    refine IH (i :: seen) (keys ++ [p.1]) ⟨List.nodup_cons.2 ⟨hns, hnd⟩, ?_, ?_⟩ (by
      have := nodup_bound (n := mp.length) (List.nodup_cons.2 ⟨hns, hnd⟩) (by
        intro x hx
        rw [List.mem_cons] at hx
        rcases hx with rfl | hx
        · exact hil
        · exact hbd x hx)
      simp at this ⊢
      omega)
    · intro x hx
      rw [List.mem_cons] at hx
      rcases hx with rfl | hx
      · exact hil
      · exact hbd x hx
    · rw [List.reverse_cons, List.map_append, ← hkeys]
      simp [hp]
end Go.Abs
end

section
/- The fold's plain law: the ordered map's values are the document's sorted list. -/
set_option linter.unusedVariables false
set_option linter.unusedSimpArgs false
namespace Go.Abs
open Go Go.Proofs

theorem ltB_eq (a b : B) : ltB a b = decide (a < b) := bytesLess_eq a b
theorem b_total {a b : B} (h : ¬ a < b) (hn : b ≠ a) : b < a := by
  refine Classical.byContradiction fun h2 => hn ?_
  exact List.le_antisymm (show b ≤ a from h) (show a ≤ b from h2)

/-! ### the document's -/
def docLoop (r : Rc) : Bool → List Rc → List Rc
  | laid, [] => if laid = true then [] else [r]
  | laid, s :: S => (if (!laid && ltB r.target s.target) = true then [r] else []) ++ ((if s.target = r.target then [] else [s]) ++ docLoop r (laid || (!laid && ltB r.target s.target)) S)
def docPut (S : List Rc) (r : Rc) : List Rc := if r.kind ≠ 1 ∧ r.kind ≠ 2 then S else docLoop r (decide (r.kind = 2)) S
def docOf (l : List Rc) : List Rc := l.foldl docPut []
abbrev Srt (S : List Rc) : Prop := S.Pairwise fun a b => a.target < b.target

theorem mem_ite1 {p : Prop} [Decidable p] {x r : Rc} : x ∈ (if p then [r] else []) ↔ p ∧ x = r := by by_cases h : p <;> simp [h]
theorem mem_ite2 {p : Prop} [Decidable p] {x r : Rc} : x ∈ (if p then [] else [r]) ↔ ¬ p ∧ x = r := by by_cases h : p <;> simp [h]
theorem docLoop_mem (r : Rc) : ∀ (S : List Rc) (laid : Bool) (x : Rc), x ∈ docLoop r laid S ↔ (laid = false ∧ x = r) ∨ (x ∈ S ∧ x.target ≠ r.target) := by
  intro S
  induction S with
  | nil => intro laid x; cases laid <;> simp [docLoop]
  | cons s S ih =>
    intro laid x
    simp only [docLoop, List.mem_append, ih, List.mem_cons, mem_ite1, mem_ite2]
    generalize hL : (!laid && ltB r.target s.target) = L
    have h1 : L = true → laid = false := by
      intro e
      rw [e] at hL
      cases laid
      · rfl
      · simp at hL
    constructor
    · rintro (⟨h, rfl⟩ | ⟨h, rfl⟩ | ⟨h, rfl⟩ | ⟨h, h'⟩)
      · exact .inl ⟨h1 h, rfl⟩
      · exact .inr ⟨.inl rfl, h⟩
      · exact .inl ⟨by cases laid <;> simp_all, rfl⟩
      · exact .inr ⟨.inr h, h'⟩
    · rintro (⟨h, rfl⟩ | ⟨rfl | h, h'⟩)
      · cases hq : L
        · exact .inr (.inr (.inl ⟨by simp [h], rfl⟩))
        · exact .inl ⟨rfl, rfl⟩
      · exact .inr (.inl ⟨h', rfl⟩)
      · exact .inr (.inr (.inr ⟨h, h'⟩))
theorem docLoop_srt (r : Rc) : ∀ (S : List Rc) (laid : Bool), Srt S → (laid = true → ∀ s ∈ S, r.target < s.target ∨ s.target = r.target ∨ s.target < r.target) → Srt (docLoop r laid S) := by
  intro S
  induction S with
  | nil => intro laid _ _; cases laid <;> simp [docLoop, Srt]
  | cons s S ih =>
    intro laid hS hl
    have hS' := List.pairwise_cons.1 hS
    have hrec : ∀ b, Srt (docLoop r b S) := fun b => ih b hS'.2 fun _ x _ => by
      by_cases h1 : r.target < x.target
      · exact .inl h1
      · by_cases h2 : x.target = r.target
        · exact .inr (.inl h2)
        · exact .inr (.inr (b_total h1 h2))
    simp only [docLoop]
    cases hL : (!laid && ltB r.target s.target)
    · simp only [Bool.or_false, Bool.false_eq_true, if_false, List.nil_append]
      by_cases hs : s.target = r.target
      · simp only [hs, if_true, List.nil_append]
        exact hrec laid
      · simp only [hs, if_false, List.cons_append, List.nil_append]
        refine List.pairwise_cons.2 ⟨fun x hx => ?_, hrec laid⟩
        rcases (docLoop_mem r S laid x).1 hx with ⟨h, rfl⟩ | ⟨h, _⟩
        · rw [h] at hL
          simp only [Bool.not_false, Bool.true_and, ltB_eq, decide_eq_false_iff_not] at hL
          exact b_total hL hs
        · exact hS'.1 x h
    · have hlt : r.target < s.target := by
        simp only [Bool.and_eq_true, ltB_eq, decide_eq_true_eq] at hL
        exact hL.2
      have hs : ¬ s.target = r.target := fun e => List.lt_irrefl _ (e ▸ hlt)
      simp only [Bool.or_true, if_true, hs, if_false, List.cons_append, List.nil_append]
      have hnr : ∀ x ∈ docLoop r true S, x ∈ S := fun x hx => by
        rcases (docLoop_mem r S true x).1 hx with ⟨h, _⟩ | ⟨h, _⟩
        · cases h
        · exact h
      refine List.pairwise_cons.2 ⟨fun x hx => ?_, List.pairwise_cons.2 ⟨fun x hx => hS'.1 x (hnr x hx), hrec true⟩⟩
      rw [List.mem_cons] at hx
      rcases hx with rfl | hx
      · exact hlt
      · exact List.lt_trans hlt (hS'.1 x (hnr x hx))
theorem docPut_srt {S : List Rc} (r : Rc) (h : Srt S) : Srt (docPut S r) := by
  unfold docPut
  split
  · exact h
  · refine docLoop_srt r S _ h fun _ x _ => ?_
    by_cases h1 : r.target < x.target
    · exact .inl h1
    · by_cases h2 : x.target = r.target
      · exact .inr (.inl h2)
      · exact .inr (.inr (b_total h1 h2))

/-! ### the map -/
def putR : RMap → B → Rc → RMap
  | [], k, r => [(k, r)]
  | p :: mp, k, r => if p.1 = k then (k, r) :: mp else p :: putR mp k r
def delR : RMap → B → RMap
  | [], _ => []
  | p :: mp, k => if p.1 = k then mp else p :: delR mp k
def putM (mp : RMap) (r : Rc) : RMap := if r.kind = 1 then putR mp r.target r else if r.kind = 2 then delR mp r.target else mp
def ofM (l : List Rc) : RMap := l.foldl putM []
theorem rmap_put (mp : RMap) (k : B) (r : Rc) : rmap (putR mp k r) = mapPut (rmap mp) (ofB k) (.agg r.enc) := by
  induction mp with
  | nil => rfl
  | cons p mp ih =>
    simp only [putR, rmap, List.map_cons, mapPut]
    by_cases h : p.1 = k
    · simp [h]
    · have : ofB p.1 ≠ ofB k := fun e => h (ofB_inj e)
      simp only [h, if_false, this, List.map_cons]
      unfold rmap at ih
      rw [ih]
theorem rmap_del (mp : RMap) (k : B) : rmap (delR mp k) = mapDel (rmap mp) (ofB k) := by
  induction mp with
  | nil => rfl
  | cons p mp ih =>
    simp only [delR, rmap, List.map_cons, mapDel]
    by_cases h : p.1 = k
    · simp [h]
    · have : ofB p.1 ≠ ofB k := fun e => h (ofB_inj e)
      simp only [h, if_false, this, List.map_cons]
      unfold rmap at ih
      rw [ih]
def MOk (mp : RMap) : Prop := (keysM mp).Nodup ∧ ∀ p ∈ mp, p.2.target = p.1
theorem putR_mem {mp : RMap} (hn : (keysM mp).Nodup) (k : B) (r : Rc) (q : B × Rc) : q ∈ putR mp k r ↔ q = (k, r) ∨ (q ∈ mp ∧ q.1 ≠ k) := by
  induction mp with
  | nil => simp [putR]
  | cons p mp ih =>
    have hn' := List.nodup_cons.1 (show (p.1 :: keysM mp).Nodup from hn)
    simp only [putR]
    by_cases h : p.1 = k
    · simp only [h, if_true, List.mem_cons]
      constructor
      · rintro (h1 | h1)
        · exact .inl h1
        · refine .inr ⟨.inr h1, fun e => hn'.1 ?_⟩
          rw [h, ← e]
          exact List.mem_map_of_mem h1
      · rintro (h1 | ⟨rfl | h1, h2⟩)
        · exact .inl h1
        · exact absurd h h2
        · exact .inr h1
    · simp only [h, if_false, List.mem_cons, ih hn'.2]
      constructor
      · rintro (rfl | h1 | ⟨h1, h2⟩)
        · exact .inr ⟨.inl rfl, h⟩
        · exact .inl h1
        · exact .inr ⟨.inr h1, h2⟩
      · rintro (h1 | ⟨rfl | h1, h2⟩)
        · exact .inr (.inl h1)
        · exact .inl rfl
        · exact .inr (.inr ⟨h1, h2⟩)
theorem delR_mem {mp : RMap} (hn : (keysM mp).Nodup) (k : B) (q : B × Rc) : q ∈ delR mp k ↔ q ∈ mp ∧ q.1 ≠ k := by
  induction mp with
  | nil => simp [delR]
  | cons p mp ih =>
    have hn' := List.nodup_cons.1 (show (p.1 :: keysM mp).Nodup from hn)
    simp only [delR]
    by_cases h : p.1 = k
    · simp only [h, if_true, List.mem_cons]
      constructor
      · intro h1
        refine ⟨.inr h1, fun e => hn'.1 ?_⟩
        rw [h, ← e]
        exact List.mem_map_of_mem h1
      · rintro ⟨rfl | h1, h2⟩
        · exact absurd h h2
        · exact h1
    · simp only [h, if_false, List.mem_cons, ih hn'.2]
      constructor
      · rintro (rfl | ⟨h1, h2⟩)
        · exact ⟨.inl rfl, h⟩
        · exact ⟨.inr h1, h2⟩
      · rintro ⟨rfl | h1, h2⟩
        · exact .inl rfl
        · exact .inr ⟨h1, h2⟩
theorem putR_nodup {mp : RMap} (hn : (keysM mp).Nodup) (k : B) (r : Rc) : (keysM (putR mp k r)).Nodup := by
  induction mp with
  | nil => simp [putR, keysM]
  | cons p mp ih =>
    have hn' := List.nodup_cons.1 (show (p.1 :: keysM mp).Nodup from hn)
    simp only [putR]
    by_cases h : p.1 = k
    · simp only [h, if_true]
      exact List.nodup_cons.2 ⟨by rw [← h]; exact hn'.1, hn'.2⟩
    · simp only [h, if_false]
      refine List.nodup_cons.2 ⟨fun hm => ?_, ih hn'.2⟩
      obtain ⟨q, hq, e⟩ := List.mem_map.1 hm
      rcases (putR_mem hn'.2 k r q).1 hq with rfl | ⟨h1, _⟩
      · exact h e.symm
      · have e : q.1 = p.1 := e
        exact hn'.1 (by rw [← e]; exact List.mem_map_of_mem h1)
theorem delR_nodup {mp : RMap} (hn : (keysM mp).Nodup) (k : B) : (keysM (delR mp k)).Nodup := by
  induction mp with
  | nil => simp [delR, keysM]
  | cons p mp ih =>
    have hn' := List.nodup_cons.1 (show (p.1 :: keysM mp).Nodup from hn)
    simp only [delR]
    by_cases h : p.1 = k
    · simp only [h, if_true]
      exact hn'.2
    · simp only [h, if_false]
      refine List.nodup_cons.2 ⟨fun hm => ?_, ih hn'.2⟩
      obtain ⟨q, hq, e⟩ := List.mem_map.1 hm
      have h1 := (delR_mem hn'.2 k q).1 hq
      have e : q.1 = p.1 := e
      exact hn'.1 (by rw [← e]; exact List.mem_map_of_mem h1.1)
theorem putM_ok {mp : RMap} (h : MOk mp) (r : Rc) : MOk (putM mp r) := by
  unfold putM
  split
  · refine ⟨putR_nodup h.1 _ _, fun p hp => ?_⟩
    rcases (putR_mem h.1 _ _ p).1 hp with rfl | ⟨h1, _⟩
    · rfl
    · exact h.2 p h1
  · split
    · exact ⟨delR_nodup h.1 _, fun p hp => h.2 p ((delR_mem h.1 _ p).1 hp).1⟩
    · exact h

/-- One and the same. -/
structure Fits (mp : RMap) (S : List Rc) : Prop where
  ok : MOk mp
  srt : Srt S
  mem : ∀ x, x ∈ S ↔ (x.target, x) ∈ mp
theorem Fits.put {mp : RMap} {S : List Rc} (h : Fits mp S) (r : Rc) : Fits (putM mp r) (docPut S r) := by
  refine ⟨putM_ok h.ok r, docPut_srt r h.srt, fun x => ?_⟩
  unfold docPut putM
  by_cases h1 : r.kind = 1
  · have hk2 : decide (r.kind = 2) = false := by rw [h1]; rfl
    rw [if_neg (by simp [h1]), if_pos h1, docLoop_mem, hk2, putR_mem h.ok.1, h.mem]
    constructor
    · rintro (⟨_, rfl⟩ | h)
      · exact .inl rfl
      · exact .inr h
    · rintro (h | h)
      · exact .inl ⟨rfl, by injection h⟩
      · exact .inr h
  · by_cases h2 : r.kind = 2
    · rw [if_neg (by simp [h2]), if_neg h1, if_pos h2, docLoop_mem, delR_mem h.ok.1, h.mem]
      simp [h2]
    · rw [if_pos ⟨h1, h2⟩, if_neg h1, if_neg h2]
      exact h.mem x
theorem fits_of (l : List Rc) : Fits (ofM l) (docOf l) := by
  have : ∀ (l : List Rc) (mp : RMap) (S : List Rc), Fits mp S → Fits (l.foldl putM mp) (l.foldl docPut S) := by
    intro l
    induction l with
    | nil => intro mp S h; exact h
    | cons r l ih => intro mp S h; exact ih _ _ (h.put r)
  exact this l [] [] ⟨⟨by simp [keysM], by simp⟩, List.Pairwise.nil, by simp⟩

theorem srt_ext : ∀ {l m : List Rc}, Srt l → Srt m → (∀ x, x ∈ l ↔ x ∈ m) → l = m := by
  intro l
  induction l with
  | nil =>
    intro m _ _ h
    cases m with
    | nil => rfl
    | cons b m => exact absurd ((h b).2 (by simp)) (by simp)
  | cons a l ih =>
    intro m hl hm h
    cases m with
    | nil => exact absurd ((h a).1 (by simp)) (by simp)
    | cons b m =>
      have hl' := List.pairwise_cons.1 hl
      have hm' := List.pairwise_cons.1 hm
      have hab : a = b := by
        rcases List.mem_cons.1 ((h a).1 (by simp)) with e | h1
        · exact e
        · rcases List.mem_cons.1 ((h b).2 (by simp)) with e | h2
          · exact e.symm
          · exact absurd (hl'.1 b h2) (List.lt_asymm (hm'.1 a h1))
      subst hab
      congr 1
      refine ih hl'.2 hm'.2 fun x => ?_
      constructor
      · intro hx
        rcases List.mem_cons.1 ((h x).1 (by simp [hx])) with rfl | h1
        · exact absurd (hl'.1 _ hx) (List.lt_irrefl _)
        · exact h1
      · intro hx
        rcases List.mem_cons.1 ((h x).2 (by simp [hx])) with rfl | h1
        · exact absurd (hm'.1 _ hx) (List.lt_irrefl _)
        · exact h1

theorem lookM_of_mem {mp : RMap} (hn : (keysM mp).Nodup) {k : B} {r : Rc} (h : (k, r) ∈ mp) : lookM mp k = some r := by
  induction mp with
  | nil => simp at h
  | cons p mp ih =>
    have hn' := List.nodup_cons.1 (show (p.1 :: keysM mp).Nodup from hn)
    unfold lookM at ih ⊢
    simp only [List.find?_cons]
    rcases List.mem_cons.1 h with rfl | h
    · simp
    · have : p.1 ≠ k := fun e => hn'.1 (by rw [e]; exact List.mem_map_of_mem (f := (·.1)) h)
      simp only [this, decide_false]
      exact ih hn'.2 h
theorem mem_of_lookM {mp : RMap} {k : B} {r : Rc} (h : lookM mp k = some r) : (k, r) ∈ mp := by
  unfold lookM at h
  rw [Option.map_eq_some_iff] at h
  obtain ⟨p, h1, rfl⟩ := h
  have h2 := List.find?_some h1
  have : p.1 = k := by simpa using h2
  rw [← this]
  exact List.mem_of_find?_eq_some h1

/-- The map's values, its keys sorted, are the document's fold. -/
theorem values_doc {mp : RMap} {S : List Rc} (h : Fits mp S) {ks : List B} (hp : ks.Perm (keysM mp)) (hs : ks = sortB ks) : ks.map (lookZ mp) = S := by
  have hz : ∀ k ∈ ks, ∃ r, (k, r) ∈ mp ∧ lookZ mp k = r := fun k hk => by
    obtain ⟨r, hr⟩ := lookM_mem (mp := mp) (k := k) (hp.mem_iff.1 hk)
    exact ⟨r, mem_of_lookM hr, by rw [lookZ, hr]; rfl⟩
  have hle : ks.Pairwise (fun a b => a ≤ b) := by
    have := List.pairwise_mergeSort (le := fun x y : B => decide (x ≤ y)) (fun a b c h1 h2 => by simp at h1 h2 ⊢; exact List.le_trans h1 h2) (fun a b => by simp; exact List.le_total a b) ks
    rw [show ks.mergeSort (fun x y => decide (x ≤ y)) = ks from hs.symm] at this
    exact this.imp fun h => of_decide_eq_true h
  have hnd : ks.Nodup := hp.nodup_iff.2 h.ok.1
  refine srt_ext ?_ h.srt fun x => ?_
  · rw [Srt, List.pairwise_map]
    refine List.Pairwise.imp_of_mem ?_ (hle.and hnd)
    rintro a b ha hb ⟨h1, h2⟩
    obtain ⟨ra, a1, a2⟩ := hz a ha
    obtain ⟨rb, b1, b2⟩ := hz b hb
    rw [a2, b2, h.ok.2 _ a1, h.ok.2 _ b1]
    refine Classical.byContradiction fun hn => h2 ?_
    exact List.le_antisymm h1 (show b ≤ a from hn)
  · rw [h.mem, List.mem_map]
    constructor
    · rintro ⟨k, hk, rfl⟩
      obtain ⟨r, h1, h2⟩ := hz k hk
      rw [h2, h.ok.2 _ h1]
      exact h1
    · intro hx
      have hk : x.target ∈ ks := hp.mem_iff.2 (List.mem_map_of_mem (f := (·.1)) hx)
      refine ⟨x.target, hk, ?_⟩
      rw [lookZ, lookM_of_mem h.ok.1 hx]; rfl
end Go.Abs
end

section
/- fold.put, fold.Of; the document's Put, Of; All. -/
set_option maxRecDepth 100000
set_option maxHeartbeats 1000000
set_option linter.unusedVariables false
set_option linter.unusedSimpArgs false
namespace Go.Abs
open Go Go.Proofs Dig
attribute [local irreducible] ibits byteAt strLt firstIdx

theorem put_calls (mp : RMap) (r : Rc) (hr : r.deps.length < 1000000) {R} (h : R (.tup []) [.map (rmap (putM mp r))]) : ACalls Try.prog 49 [.mapv 0, .agg r.enc] [.map (rmap mp)] R := by
  refine acalls_of_xwp (an := an49) tab_ok Try.func49 ?_
  (conv => whnf)
  refine br_intro (fun h1 => ?_) (fun h1 => ?_)
  · have h1 : r.kind = 1 := by simpa using h1
    rw [putM, if_pos h1, rmap_put] at h
    (conv => whnf)
    refine Clone_calls r hr ?_
    (conv => whnf)
    exact h
  have h1 : ¬ r.kind = 1 := by simpa using h1
  (conv => whnf)
  refine br_intro (fun h2 => ?_) (fun h2 => ?_)
  · have h2 : r.kind = 2 := by simpa using h2
    rw [putM, if_neg h1, if_pos h2, rmap_del] at h
    (conv => whnf)
    exact h
  · have h2 : ¬ r.kind = 2 := by simpa using h2
    rw [putM, if_neg h1, if_neg h2] at h
    (conv => whnf)
    exact h

theorem ofM_len (l : List Rc) : (ofM l).length ≤ l.length := by
  have hp : ∀ (mp : RMap) (k : B) (r : Rc), (putR mp k r).length ≤ mp.length + 1 := by
    intro mp k r
    induction mp with
    | nil => simp [putR]
    | cons p mp ih => simp only [putR]; split <;> simp; omega
  have hd : ∀ (mp : RMap) (k : B), (delR mp k).length ≤ mp.length := by
    intro mp k
    induction mp with
    | nil => simp [delR]
    | cons p mp ih => simp only [delR]; split <;> simp; omega
  have : ∀ (l : List Rc) (mp : RMap), (l.foldl putM mp).length ≤ mp.length + l.length := by
    intro l
    induction l with
    | nil => intro mp; simp
    | cons r l ih =>
      intro mp
      have h1 := ih (putM mp r)
      have h2 : (putM mp r).length ≤ mp.length + 1 := by
        unfold putM
        split
        · exact hp _ _ _
        · split
          · have := hd mp r.target; omega
          · omega
      simp only [List.foldl_cons, List.length_cons]
      omega
  simpa [ofM] using this l []

theorem Of_records (l : List Rc) (hl : l.length < 1000000) (hd : ∀ r ∈ l, r.deps.length < 1000000) {R} (h : R (.sl none 7 (recs (docOf l))) []) : ACalls Try.prog 22 [.sl none 7 (recs l)] [] R := by
  refine acalls_of_xwp (an := an22) tab_ok Try.func22 ?_
  have hsl := recs_length l
  (conv => whnf)
  refine LoopP.ind2 (fun (i : Nat) (mp : RMap) => [(9, vi i)]) (fun i mp => [(nameOf 6, .map (rmap mp))]) (fun i _ => l.length - i) (fun i mp => i ≤ l.length ∧ mp = ofM (l.take i)) 0 [] rfl ⟨by omega, rfl⟩ ?_
  rintro i mp ⟨h0, hm⟩ IH
  (conv => whnf)
  refine br_intro (fun hc => ?_) (fun hc => ?_)
  · have hc := lt_of_decE hsl hc
    (conv => whnf); (repeat ((with_reducible refine must_intro ?_ ?_); exact decide_eq_true (by omega); (conv => whnf)))
    refine idxK_map_intro (show (i : Int).toNat < l.length by simpa using hc) ?_
    rw [show l[(i : Int).toNat]'(by simpa using hc) = l[i] from by congr 1]
    (conv => whnf)
    refine put_calls mp l[i] (hd _ (List.getElem_mem hc)) ?_
    (conv => whnf)
    rw [i64_nat (by omega)]
    refine IH (i + 1) (putM mp l[i]) ⟨by omega, ?_⟩ (by omega)
    rw [List.take_succ_eq_append_getElem hc, ofM, List.foldl_append, hm]; rfl
  · have hc := ge_of_decE hsl hc
    rw [List.take_of_length_le hc] at hm
    have hml := ofM_len l
    rw [← hm] at hml
    (conv => whnf)
    refine values_calls mp (by omega) fun ks h1 h2 => ?_
    rw [values_doc (by rw [hm]; exact fits_of l) h1 h2]
    (conv => whnf)
    exact h

theorem docPut_calls (S : List Rc) (hS : S.length < 1000000) (r : Rc) (hr : r.target.length < 1000000) (hT : ∀ s ∈ S, s.target.length < 1000000) {R} (h : R (.sl none 7 (recs (docPut S r))) []) : ACalls Try.prog 48 [.sl none 7 (recs S), .agg r.enc] [] R := by
  refine acalls_of_xwp (an := an48) tab_ok Try.func48 ?_
  have hsl := recs_length S
  (conv => whnf)
  refine br_intro (fun h1 => ?_) (fun h1 => ?_)
  · have h1 : r.kind ≠ 1 := by simpa using h1
    (conv => whnf)
    refine br_intro (fun h2 => ?_) (fun h2 => ?_)
    · have h2 : r.kind ≠ 2 := by simpa using h2
      rw [docPut, if_pos ⟨h1, h2⟩] at h
      (conv => whnf)
      exact h
    · have h2 : r.kind = 2 := by simpa using h2
      have hk : ¬ (r.kind ≠ 1 ∧ r.kind ≠ 2) := fun e => e.2 h2
      have hput : docPut S r = docLoop r (r.kind == 2) S := by
        rw [docPut, if_neg hk]
        congr 1
      rw [hput] at h
      (conv => whnf)
      refine LoopP.ind3 (fun (i : Nat) (out : List Rc) (laid : Bool) => [(5, .sl (some (nameOf 17)) 7 (recs out)), (6, .val (.bool laid)), (7, vi i)]) (fun i out laid => [(nameOf 17, .row 29 7 out.length)])
        (fun i _ _ => S.length - i) (fun i out laid => i ≤ S.length ∧ out.length ≤ 2 * i ∧ out ++ docLoop r laid (S.drop i) = docLoop r (r.kind == 2) S) 0 [] (r.kind == 2) rfl ⟨by omega, by simp, by simp⟩ ?_
      rintro i out laid ⟨h0, hlen, hD⟩ IH
      have hol := recs_length out
      (conv => whnf)
      refine br_intro (fun hc => ?_) (fun hc => ?_)
      · have hc := lt_of_decE hsl hc
        have hti := hT _ (List.getElem_mem hc)
        rw [List.drop_eq_getElem_cons hc, docLoop] at hD
        cases laid
        · simp only [Bool.not_false, Bool.true_and, Bool.false_or] at hD
          (conv => whnf); (repeat ((with_reducible refine must_intro ?_ ?_); exact decide_eq_true (by omega); (conv => whnf)))
          refine idxK_map_intro (show (i : Int).toNat < S.length by simpa using hc) ?_
          rw [show S[(i : Int).toNat]'(by simpa using hc) = S[i] from by congr 1]
          (conv => whnf)
          refine Less_calls r.target S[i].target hr hti fun p hp => ?_
          rw [← hp] at hD
          (conv => whnf)
          refine br_intro (fun hb => ?_) (fun hb => ?_)
          · rw [hb] at hD
            (conv => whnf)
            refine ⟨hol.symm, (by rw [hol]; show (out.length + 1) * (88 + 1) ≤ _; omega), ?_⟩
            (conv => whnf)
            have e1 : recs out ++ [[AV.val (Value.int IntKind.i64 r.kind), AV.val (Value.string (ofB r.target)), AV.val (Value.int IntKind.u64 (r.rule.toNat : Int)), AV.sl none 3 (dpsA r.deps), AV.val (Value.int IntKind.u64 (r.out.toNat : Int)), AV.val (Value.int IntKind.u64 (r.wen.toNat : Int)), AV.val (Value.string (ofB r.tag))]] = recs (out ++ [r]) := by simp [recs, Rc.enc, vi, vs, uv]
            have e2 : (recs out).length + [[AV.val (Value.int IntKind.i64 r.kind), AV.val (Value.string (ofB r.target)), AV.val (Value.int IntKind.u64 (r.rule.toNat : Int)), AV.sl none 3 (dpsA r.deps), AV.val (Value.int IntKind.u64 (r.out.toNat : Int)), AV.val (Value.int IntKind.u64 (r.wen.toNat : Int)), AV.val (Value.string (ofB r.tag))]].length = (out ++ [r]).length := by simp [hol]
            rw [e1, e2]
            generalize hq : out ++ [r] = out2
            obtain ⟨laid2, hlaid2⟩ : ∃ l : Bool, l = true := ⟨true, rfl⟩
            have hlen2 : out2.length ≤ 2 * i + 1 := by rw [← hq]; simp; omega
            have hD2 : out2 ++ ((if S[i].target = r.target then [] else [S[i]]) ++ docLoop r laid2 (S.drop (i + 1))) = docLoop r (r.kind == 2) S := by
              rw [← hD, ← hq, hlaid2]; simp
            have hol2 := recs_length out2
            (conv => whnf); (repeat ((with_reducible refine must_intro ?_ ?_); exact decide_eq_true (by omega); (conv => whnf)))
            refine idxK_map_intro (show (i : Int).toNat < S.length by simpa using hc) ?_
            rw [show S[(i : Int).toNat]'(by simpa using hc) = S[i] from by congr 1]
            (conv => whnf)
            refine br_intro (fun hne => ?_) (fun hne => ?_)
            · have hne : ¬ S[i].target = r.target := by simpa [ofB_eq] using hne
              rw [if_neg hne] at hD2
              (conv => whnf); (repeat ((with_reducible refine must_intro ?_ ?_); exact decide_eq_true (by omega); (conv => whnf)))
              refine idxK_map_intro (show (i : Int).toNat < S.length by simpa using hc) ?_
              rw [show S[(i : Int).toNat]'(by simpa using hc) = S[i] from by congr 1]
              (conv => whnf)
              refine ⟨hol2.symm, (by rw [hol2]; show (out2.length + 1) * (88 + 1) ≤ _; omega), ?_⟩
              (conv => whnf)
              have e1 : recs (out2 ++ [S[i]]) = recs out2 ++ [S[i].enc] := by simp [recs]
              have e2 : (out2 ++ [S[i]]).length = (recs out2).length + [S[i].enc].length := by simp [hol2]
              have := IH (i + 1) (out2 ++ [S[i]]) laid2 ⟨by omega, by simp; omega, by rw [← hD2]; simp⟩ (by omega)
              rw [e1, e2] at this
              rw [i64_nat (by omega)]
              subst hlaid2
              exact this
            · have hne : S[i].target = r.target := by simpa [ofB_eq] using hne
              rw [if_pos hne] at hD2
              (conv => whnf)
              rw [i64_nat (by omega)]
              have := IH (i + 1) out2 laid2 ⟨by omega, by omega, by rw [← hD2]; simp⟩ (by omega)
              subst hlaid2
              exact this
          · rw [hb] at hD
            obtain ⟨laid2, hlaid2⟩ : ∃ l : Bool, l = false := ⟨false, rfl⟩
            obtain ⟨out2, hq⟩ : ∃ o, o = out := ⟨_, rfl⟩
            have hlen2 : out2.length ≤ 2 * i + 1 := by rw [hq]; omega
            have hD2 : out2 ++ ((if S[i].target = r.target then [] else [S[i]]) ++ docLoop r laid2 (S.drop (i + 1))) = docLoop r (r.kind == 2) S := by
              rw [← hD, hq, hlaid2]; simp
            rw [← hq]
            have hol2 := recs_length out2
            (conv => whnf); (repeat ((with_reducible refine must_intro ?_ ?_); exact decide_eq_true (by omega); (conv => whnf)))
            refine idxK_map_intro (show (i : Int).toNat < S.length by simpa using hc) ?_
            rw [show S[(i : Int).toNat]'(by simpa using hc) = S[i] from by congr 1]
            (conv => whnf)
            refine br_intro (fun hne => ?_) (fun hne => ?_)
            · have hne : ¬ S[i].target = r.target := by simpa [ofB_eq] using hne
              rw [if_neg hne] at hD2
              (conv => whnf); (repeat ((with_reducible refine must_intro ?_ ?_); exact decide_eq_true (by omega); (conv => whnf)))
              refine idxK_map_intro (show (i : Int).toNat < S.length by simpa using hc) ?_
              rw [show S[(i : Int).toNat]'(by simpa using hc) = S[i] from by congr 1]
              (conv => whnf)
              refine ⟨hol2.symm, (by rw [hol2]; show (out2.length + 1) * (88 + 1) ≤ _; omega), ?_⟩
              (conv => whnf)
              have e1 : recs (out2 ++ [S[i]]) = recs out2 ++ [S[i].enc] := by simp [recs]
              have e2 : (out2 ++ [S[i]]).length = (recs out2).length + [S[i].enc].length := by simp [hol2]
              have := IH (i + 1) (out2 ++ [S[i]]) laid2 ⟨by omega, by simp; omega, by rw [← hD2]; simp⟩ (by omega)
              rw [e1, e2] at this
              rw [i64_nat (by omega)]
              subst hlaid2
              exact this
            · have hne : S[i].target = r.target := by simpa [ofB_eq] using hne
              rw [if_pos hne] at hD2
              (conv => whnf)
              rw [i64_nat (by omega)]
              have := IH (i + 1) out2 laid2 ⟨by omega, by omega, by rw [← hD2]; simp⟩ (by omega)
              subst hlaid2
              exact this
        · simp only [Bool.not_true, Bool.false_and, Bool.or_false, Bool.false_eq_true, if_false, List.nil_append] at hD
          obtain ⟨laid2, hlaid2⟩ : ∃ l : Bool, l = true := ⟨true, rfl⟩
          obtain ⟨out2, hq⟩ : ∃ o, o = out := ⟨_, rfl⟩
          have hlen2 : out2.length ≤ 2 * i + 1 := by rw [hq]; omega
          have hD2 : out2 ++ ((if S[i].target = r.target then [] else [S[i]]) ++ docLoop r laid2 (S.drop (i + 1))) = docLoop r (r.kind == 2) S := by
            rw [← hD, hq, hlaid2]
          rw [← hq]
          have hol2 := recs_length out2
          (conv => whnf); (repeat ((with_reducible refine must_intro ?_ ?_); exact decide_eq_true (by omega); (conv => whnf)))
          refine idxK_map_intro (show (i : Int).toNat < S.length by simpa using hc) ?_
          rw [show S[(i : Int).toNat]'(by simpa using hc) = S[i] from by congr 1]
          (conv => whnf)
          refine br_intro (fun hne => ?_) (fun hne => ?_)
          · have hne : ¬ S[i].target = r.target := by simpa [ofB_eq] using hne
            rw [if_neg hne] at hD2
            (conv => whnf); (repeat ((with_reducible refine must_intro ?_ ?_); exact decide_eq_true (by omega); (conv => whnf)))
            refine idxK_map_intro (show (i : Int).toNat < S.length by simpa using hc) ?_
            rw [show S[(i : Int).toNat]'(by simpa using hc) = S[i] from by congr 1]
            (conv => whnf)
            refine ⟨hol2.symm, (by rw [hol2]; show (out2.length + 1) * (88 + 1) ≤ _; omega), ?_⟩
            (conv => whnf)
            have e1 : recs (out2 ++ [S[i]]) = recs out2 ++ [S[i].enc] := by simp [recs]
            have e2 : (out2 ++ [S[i]]).length = (recs out2).length + [S[i].enc].length := by simp [hol2]
            have := IH (i + 1) (out2 ++ [S[i]]) laid2 ⟨by omega, by simp; omega, by rw [← hD2]; simp⟩ (by omega)
            rw [e1, e2] at this
            rw [i64_nat (by omega)]
            subst hlaid2
            exact this
          · have hne : S[i].target = r.target := by simpa [ofB_eq] using hne
            rw [if_pos hne] at hD2
            (conv => whnf)
            rw [i64_nat (by omega)]
            have := IH (i + 1) out2 laid2 ⟨by omega, by omega, by rw [← hD2]; simp⟩ (by omega)
            subst hlaid2
            exact this
      · have hc := ge_of_decE hsl hc
        rw [List.drop_eq_nil_of_le hc] at hD
        cases laid
        · (conv => whnf)
          refine ⟨hol.symm, (by rw [hol]; show (out.length + 1) * (88 + 1) ≤ _; omega), ?_⟩
          (conv => whnf)
          have e1 : recs out ++ [r.enc] = recs (docLoop r (r.kind == 2) S) := by rw [← hD]; simp [recs, docLoop]
          rw [← e1] at h
          exact h
        · (conv => whnf)
          rw [show recs out = recs (docLoop r (r.kind == 2) S) by rw [← hD]; simp [docLoop]]
          exact h
  · have h1 : r.kind = 1 := by simpa using h1
    have hk : ¬ (r.kind ≠ 1 ∧ r.kind ≠ 2) := fun e => e.1 h1
    have hput : docPut S r = docLoop r (r.kind == 2) S := by
      rw [docPut, if_neg hk]
      congr 1
    rw [hput] at h
    (conv => whnf)
    refine LoopP.ind3 (fun (i : Nat) (out : List Rc) (laid : Bool) => [(5, .sl (some (nameOf 17)) 7 (recs out)), (6, .val (.bool laid)), (7, vi i)]) (fun i out laid => [(nameOf 17, .row 29 7 out.length)])
      (fun i _ _ => S.length - i) (fun i out laid => i ≤ S.length ∧ out.length ≤ 2 * i ∧ out ++ docLoop r laid (S.drop i) = docLoop r (r.kind == 2) S) 0 [] (r.kind == 2) rfl ⟨by omega, by simp, by simp⟩ ?_
    rintro i out laid ⟨h0, hlen, hD⟩ IH
    have hol := recs_length out
    (conv => whnf)
    refine br_intro (fun hc => ?_) (fun hc => ?_)
    · have hc := lt_of_decE hsl hc
      have hti := hT _ (List.getElem_mem hc)
      rw [List.drop_eq_getElem_cons hc, docLoop] at hD
      cases laid
      · simp only [Bool.not_false, Bool.true_and, Bool.false_or] at hD
        (conv => whnf); (repeat ((with_reducible refine must_intro ?_ ?_); exact decide_eq_true (by omega); (conv => whnf)))
        refine idxK_map_intro (show (i : Int).toNat < S.length by simpa using hc) ?_
        rw [show S[(i : Int).toNat]'(by simpa using hc) = S[i] from by congr 1]
        (conv => whnf)
        refine Less_calls r.target S[i].target hr hti fun p hp => ?_
        rw [← hp] at hD
        (conv => whnf)
        refine br_intro (fun hb => ?_) (fun hb => ?_)
        · rw [hb] at hD
          (conv => whnf)
          refine ⟨hol.symm, (by rw [hol]; show (out.length + 1) * (88 + 1) ≤ _; omega), ?_⟩
          (conv => whnf)
          have e1 : recs out ++ [[AV.val (Value.int IntKind.i64 r.kind), AV.val (Value.string (ofB r.target)), AV.val (Value.int IntKind.u64 (r.rule.toNat : Int)), AV.sl none 3 (dpsA r.deps), AV.val (Value.int IntKind.u64 (r.out.toNat : Int)), AV.val (Value.int IntKind.u64 (r.wen.toNat : Int)), AV.val (Value.string (ofB r.tag))]] = recs (out ++ [r]) := by simp [recs, Rc.enc, vi, vs, uv]
          have e2 : (recs out).length + [[AV.val (Value.int IntKind.i64 r.kind), AV.val (Value.string (ofB r.target)), AV.val (Value.int IntKind.u64 (r.rule.toNat : Int)), AV.sl none 3 (dpsA r.deps), AV.val (Value.int IntKind.u64 (r.out.toNat : Int)), AV.val (Value.int IntKind.u64 (r.wen.toNat : Int)), AV.val (Value.string (ofB r.tag))]].length = (out ++ [r]).length := by simp [hol]
          rw [e1, e2]
          generalize hq : out ++ [r] = out2
          obtain ⟨laid2, hlaid2⟩ : ∃ l : Bool, l = true := ⟨true, rfl⟩
          have hlen2 : out2.length ≤ 2 * i + 1 := by rw [← hq]; simp; omega
          have hD2 : out2 ++ ((if S[i].target = r.target then [] else [S[i]]) ++ docLoop r laid2 (S.drop (i + 1))) = docLoop r (r.kind == 2) S := by
            rw [← hD, ← hq, hlaid2]; simp
          have hol2 := recs_length out2
          (conv => whnf); (repeat ((with_reducible refine must_intro ?_ ?_); exact decide_eq_true (by omega); (conv => whnf)))
          refine idxK_map_intro (show (i : Int).toNat < S.length by simpa using hc) ?_
          rw [show S[(i : Int).toNat]'(by simpa using hc) = S[i] from by congr 1]
          (conv => whnf)
          refine br_intro (fun hne => ?_) (fun hne => ?_)
          · have hne : ¬ S[i].target = r.target := by simpa [ofB_eq] using hne
            rw [if_neg hne] at hD2
            (conv => whnf); (repeat ((with_reducible refine must_intro ?_ ?_); exact decide_eq_true (by omega); (conv => whnf)))
            refine idxK_map_intro (show (i : Int).toNat < S.length by simpa using hc) ?_
            rw [show S[(i : Int).toNat]'(by simpa using hc) = S[i] from by congr 1]
            (conv => whnf)
            refine ⟨hol2.symm, (by rw [hol2]; show (out2.length + 1) * (88 + 1) ≤ _; omega), ?_⟩
            (conv => whnf)
            have e1 : recs (out2 ++ [S[i]]) = recs out2 ++ [S[i].enc] := by simp [recs]
            have e2 : (out2 ++ [S[i]]).length = (recs out2).length + [S[i].enc].length := by simp [hol2]
            have := IH (i + 1) (out2 ++ [S[i]]) laid2 ⟨by omega, by simp; omega, by rw [← hD2]; simp⟩ (by omega)
            rw [e1, e2] at this
            rw [i64_nat (by omega)]
            subst hlaid2
            exact this
          · have hne : S[i].target = r.target := by simpa [ofB_eq] using hne
            rw [if_pos hne] at hD2
            (conv => whnf)
            rw [i64_nat (by omega)]
            have := IH (i + 1) out2 laid2 ⟨by omega, by omega, by rw [← hD2]; simp⟩ (by omega)
            subst hlaid2
            exact this
        · rw [hb] at hD
          obtain ⟨laid2, hlaid2⟩ : ∃ l : Bool, l = false := ⟨false, rfl⟩
          obtain ⟨out2, hq⟩ : ∃ o, o = out := ⟨_, rfl⟩
          have hlen2 : out2.length ≤ 2 * i + 1 := by rw [hq]; omega
          have hD2 : out2 ++ ((if S[i].target = r.target then [] else [S[i]]) ++ docLoop r laid2 (S.drop (i + 1))) = docLoop r (r.kind == 2) S := by
            rw [← hD, hq, hlaid2]; simp
          rw [← hq]
          have hol2 := recs_length out2
          (conv => whnf); (repeat ((with_reducible refine must_intro ?_ ?_); exact decide_eq_true (by omega); (conv => whnf)))
          refine idxK_map_intro (show (i : Int).toNat < S.length by simpa using hc) ?_
          rw [show S[(i : Int).toNat]'(by simpa using hc) = S[i] from by congr 1]
          (conv => whnf)
          refine br_intro (fun hne => ?_) (fun hne => ?_)
          · have hne : ¬ S[i].target = r.target := by simpa [ofB_eq] using hne
            rw [if_neg hne] at hD2
            (conv => whnf); (repeat ((with_reducible refine must_intro ?_ ?_); exact decide_eq_true (by omega); (conv => whnf)))
            refine idxK_map_intro (show (i : Int).toNat < S.length by simpa using hc) ?_
            rw [show S[(i : Int).toNat]'(by simpa using hc) = S[i] from by congr 1]
            (conv => whnf)
            refine ⟨hol2.symm, (by rw [hol2]; show (out2.length + 1) * (88 + 1) ≤ _; omega), ?_⟩
            (conv => whnf)
            have e1 : recs (out2 ++ [S[i]]) = recs out2 ++ [S[i].enc] := by simp [recs]
            have e2 : (out2 ++ [S[i]]).length = (recs out2).length + [S[i].enc].length := by simp [hol2]
            have := IH (i + 1) (out2 ++ [S[i]]) laid2 ⟨by omega, by simp; omega, by rw [← hD2]; simp⟩ (by omega)
            rw [e1, e2] at this
            rw [i64_nat (by omega)]
            subst hlaid2
            exact this
          · have hne : S[i].target = r.target := by simpa [ofB_eq] using hne
            rw [if_pos hne] at hD2
            (conv => whnf)
            rw [i64_nat (by omega)]
            have := IH (i + 1) out2 laid2 ⟨by omega, by omega, by rw [← hD2]; simp⟩ (by omega)
            subst hlaid2
            exact this
      · simp only [Bool.not_true, Bool.false_and, Bool.or_false, Bool.false_eq_true, if_false, List.nil_append] at hD
        obtain ⟨laid2, hlaid2⟩ : ∃ l : Bool, l = true := ⟨true, rfl⟩
        obtain ⟨out2, hq⟩ : ∃ o, o = out := ⟨_, rfl⟩
        have hlen2 : out2.length ≤ 2 * i + 1 := by rw [hq]; omega
        have hD2 : out2 ++ ((if S[i].target = r.target then [] else [S[i]]) ++ docLoop r laid2 (S.drop (i + 1))) = docLoop r (r.kind == 2) S := by
          rw [← hD, hq, hlaid2]
        rw [← hq]
        have hol2 := recs_length out2
        (conv => whnf); (repeat ((with_reducible refine must_intro ?_ ?_); exact decide_eq_true (by omega); (conv => whnf)))
        refine idxK_map_intro (show (i : Int).toNat < S.length by simpa using hc) ?_
        rw [show S[(i : Int).toNat]'(by simpa using hc) = S[i] from by congr 1]
        (conv => whnf)
        refine br_intro (fun hne => ?_) (fun hne => ?_)
        · have hne : ¬ S[i].target = r.target := by simpa [ofB_eq] using hne
          rw [if_neg hne] at hD2
          (conv => whnf); (repeat ((with_reducible refine must_intro ?_ ?_); exact decide_eq_true (by omega); (conv => whnf)))
          refine idxK_map_intro (show (i : Int).toNat < S.length by simpa using hc) ?_
          rw [show S[(i : Int).toNat]'(by simpa using hc) = S[i] from by congr 1]
          (conv => whnf)
          refine ⟨hol2.symm, (by rw [hol2]; show (out2.length + 1) * (88 + 1) ≤ _; omega), ?_⟩
          (conv => whnf)
          have e1 : recs (out2 ++ [S[i]]) = recs out2 ++ [S[i].enc] := by simp [recs]
          have e2 : (out2 ++ [S[i]]).length = (recs out2).length + [S[i].enc].length := by simp [hol2]
          have := IH (i + 1) (out2 ++ [S[i]]) laid2 ⟨by omega, by simp; omega, by rw [← hD2]; simp⟩ (by omega)
          rw [e1, e2] at this
          rw [i64_nat (by omega)]
          subst hlaid2
          exact this
        · have hne : S[i].target = r.target := by simpa [ofB_eq] using hne
          rw [if_pos hne] at hD2
          (conv => whnf)
          rw [i64_nat (by omega)]
          have := IH (i + 1) out2 laid2 ⟨by omega, by omega, by rw [← hD2]; simp⟩ (by omega)
          subst hlaid2
          exact this
    · have hc := ge_of_decE hsl hc
      rw [List.drop_eq_nil_of_le hc] at hD
      cases laid
      · (conv => whnf)
        refine ⟨hol.symm, (by rw [hol]; show (out.length + 1) * (88 + 1) ≤ _; omega), ?_⟩
        (conv => whnf)
        have e1 : recs out ++ [r.enc] = recs (docLoop r (r.kind == 2) S) := by rw [← hD]; simp [recs, docLoop]
        rw [← e1] at h
        exact h
      · (conv => whnf)
        rw [show recs out = recs (docLoop r (r.kind == 2) S) by rw [← hD]; simp [docLoop]]
        exact h
end Go.Abs
end

section
/- The document's fold, All; compact.Records, Waste. -/
set_option maxRecDepth 100000
set_option maxHeartbeats 1000000
set_option linter.unusedVariables false
set_option linter.unusedSimpArgs false
namespace Go.Abs
open Go Go.Proofs Dig
attribute [local irreducible] ibits byteAt strLt firstIdx

theorem docLoop_len (r : Rc) : ∀ (S : List Rc) (laid : Bool), (docLoop r laid S).length ≤ S.length + (if laid = true then 0 else 1) := by
  intro S
  induction S with
  | nil => intro laid; cases laid <;> simp [docLoop]
  | cons s S ih =>
    intro laid
    simp only [docLoop, List.length_append, List.length_cons]
    have := ih (laid || (!laid && ltB r.target s.target))
    have h2 : (if s.target = r.target then [] else [s]).length ≤ 1 := by split <;> simp
    cases laid <;> cases hl : ltB r.target s.target <;> simp [hl] at this ⊢ <;> omega
theorem docPut_len (S : List Rc) (r : Rc) : (docPut S r).length ≤ S.length + 1 := by
  unfold docPut
  split
  · omega
  · have := docLoop_len r S (decide (r.kind = 2))
    split at this <;> omega
theorem docPut_sub {S : List Rc} {r x : Rc} (h : x ∈ docPut S r) : (x = r ∧ r.kind = 1) ∨ x ∈ S := by
  unfold docPut at h
  split at h
  · exact .inr h
  · rename_i hk
    rcases (docLoop_mem r S _ x).1 h with ⟨h1, h2⟩ | ⟨h1, _⟩
    · refine .inl ⟨h2, ?_⟩
      have h1 : ¬ r.kind = 2 := of_decide_eq_false h1
      exact Classical.byContradiction fun e => hk ⟨e, h1⟩
    · exact .inr h1
theorem docPut_mem1 {S : List Rc} {r : Rc} (hk : r.kind = 1) (x : Rc) : x ∈ docPut S r ↔ x = r ∨ (x ∈ S ∧ x.target ≠ r.target) := by
  have hk2 : decide (r.kind = 2) = false := by rw [hk]; rfl
  rw [docPut, if_neg (by simp [hk]), docLoop_mem, hk2]
  simp
theorem docOf_snoc (l : List Rc) (r : Rc) : docOf (l ++ [r]) = docPut (docOf l) r := by simp [docOf]
theorem docFold_len : ∀ (l S : List Rc), (l.foldl docPut S).length ≤ S.length + l.length := by
  intro l
  induction l with
  | nil => intro S; simp
  | cons r l ih =>
    intro S
    have := ih (docPut S r)
    have := docPut_len S r
    simp only [List.foldl_cons, List.length_cons]
    omega
theorem docOf_len (l : List Rc) : (docOf l).length ≤ l.length := by simpa [docOf] using docFold_len l []
theorem docFold_sub : ∀ (l S : List Rc) (x : Rc), x ∈ l.foldl docPut S → (x ∈ l ∧ x.kind = 1) ∨ x ∈ S := by
  intro l
  induction l with
  | nil => intro S x h; exact .inr h
  | cons r l ih =>
    intro S x h
    rcases ih _ x h with ⟨h, hk⟩ | h
    · exact .inl ⟨by simp [h], hk⟩
    · rcases docPut_sub h with ⟨rfl, hk⟩ | h
      · exact .inl ⟨by simp, hk⟩
      · exact .inr h
theorem docOf_sub {l : List Rc} {x : Rc} (h : x ∈ docOf l) : x ∈ l ∧ x.kind = 1 := by
  rcases docFold_sub l [] x h with h | h
  · exact h
  · simp at h
theorem docOf_srt (l : List Rc) : Srt (docOf l) := (fits_of l).srt
theorem docFold_all : ∀ (l S : List Rc), (∀ x ∈ l, x.kind = 1) → (l.Pairwise fun a b => a.target ≠ b.target) → (∀ a ∈ S, ∀ b ∈ l, a.target ≠ b.target) → ∀ x, x ∈ l.foldl docPut S ↔ x ∈ S ∨ x ∈ l := by
  intro l
  induction l with
  | nil => intro S _ _ _ x; simp
  | cons r l ih =>
    intro S hk hp hd x
    have hp' := List.pairwise_cons.1 hp
    rw [List.foldl_cons, ih _ (fun y hy => hk y (by simp [hy])) hp'.2 ?_ x, docPut_mem1 (hk r (by simp)), List.mem_cons]
    · constructor
      · rintro ((h | ⟨h, _⟩) | h)
        · exact .inr (.inl h)
        · exact .inl h
        · exact .inr (.inr h)
      · rintro (h | h | h)
        · exact .inl (.inr ⟨h, hd x h r (by simp)⟩)
        · exact .inl (.inl h)
        · exact .inr h
    · intro a ha b hb
      rcases (docPut_mem1 (hk r (by simp)) a).1 ha with rfl | ⟨h, _⟩
      · exact hp'.1 b hb
      · exact hd a h b (by simp [hb])
theorem docOf_right {S : List Rc} (hs : Srt S) (hk : ∀ x ∈ S, x.kind = 1) : docOf S = S :=
  srt_ext (docOf_srt S) hs fun x => by
    rw [docOf, docFold_all S [] hk (hs.imp fun {a b} (h : a.target < b.target) (e : a.target = b.target) => List.lt_irrefl _ (e ▸ h)) (by simp) x]
    simp
theorem docOf_docOf (l : List Rc) : docOf (docOf l) = docOf l := docOf_right (docOf_srt l) fun x hx => (docOf_sub hx).2

theorem docOf_calls (l : List Rc) (hl : l.length < 1000000) (hT : ∀ s ∈ l, s.target.length < 1000000) {R} (h : R (.sl none 7 (recs (docOf l))) []) : ACalls Try.prog 17 [.sl none 7 (recs l)] [] R := by
  refine acalls_of_xwp (an := an17) tab_ok Try.func17 ?_
  have hsl := recs_length l
  (conv => whnf)
  refine LoopP.ind2 (fun (i : Nat) (S : List Rc) => [(3, .sl none 7 (recs S)), (4, vi i)]) (fun _ _ => []) (fun i _ => l.length - i) (fun i S => i ≤ l.length ∧ S = docOf (l.take i)) 0 [] rfl ⟨by omega, rfl⟩ ?_
  rintro i S ⟨h0, hS⟩ IH
  (conv => whnf)
  refine br_intro (fun hc => ?_) (fun hc => ?_)
  · have hc := lt_of_decE hsl hc
    have hSl : S.length ≤ i := by rw [hS]; have := docOf_len (l.take i); simp at this; omega
    (conv => whnf); (repeat ((with_reducible refine must_intro ?_ ?_); exact decide_eq_true (by omega); (conv => whnf)))
    refine idxK_map_intro (show (i : Int).toNat < l.length by simpa using hc) ?_
    rw [show l[(i : Int).toNat]'(by simpa using hc) = l[i] from by congr 1]
    (conv => whnf)
    refine docPut_calls S (by omega) l[i] (hT _ (List.getElem_mem hc)) (fun s hs => ?_) ?_
    · rw [hS] at hs
      exact hT s (List.mem_of_mem_take (docOf_sub hs).1)
    (conv => whnf)
    rw [i64_nat (by omega)]
    refine IH (i + 1) (docPut S l[i]) ⟨by omega, ?_⟩ (by omega)
    rw [List.take_succ_eq_append_getElem hc, docOf_snoc, hS]
  · have hc := ge_of_decE hsl hc
    rw [List.take_of_length_le hc] at hS
    rw [← hS] at h
    (conv => whnf)
    exact h

theorem All_calls (a b : List Rc) (ha : a.length < 1000000) (had : ∀ r ∈ a, r.deps.length < 1000000) {R} (h : ∀ p, p = decide (a = b) → R (.val (.bool p)) []) : ACalls Try.prog 16 [.sl none 7 (recs a), .sl none 7 (recs b)] [] R := by
  refine acalls_of_xwp (an := an16) tab_ok Try.func16 ?_
  have hsa := recs_length a
  have hsb := recs_length b
  (conv => whnf)
  rw [hsa, hsb]
  refine br_intro (fun hc => ?_) (fun hc => ?_)
  · (conv => whnf)
    refine h false (decide_eq_false ?_).symm
    rintro rfl
    simp at hc
  have hlen : a.length = b.length := by simp at hc; omega
  (conv => whnf)
  refine LoopP.ind1 (fun (i : Nat) => [(5, vi i)]) (fun _ => []) (fun i => a.length - i) (fun i => i ≤ a.length ∧ a.take i = b.take i) 0 rfl ⟨by omega, by simp⟩ ?_
  rintro i ⟨h0, h1⟩ IH
  (conv => whnf)
  refine br_intro (fun hc => ?_) (fun hc => ?_)
  · have hc := lt_of_decE hsa hc
    have hcb : i < b.length := by omega
    (conv => whnf); (repeat ((with_reducible refine must_intro ?_ ?_); exact decide_eq_true (by omega); (conv => whnf)))
    refine idxK_map_intro (show (i : Int).toNat < a.length by simpa using hc) ?_
    rw [show a[(i : Int).toNat]'(by simpa using hc) = a[i] from by congr 1]
    (conv => whnf); (repeat ((with_reducible refine must_intro ?_ ?_); exact decide_eq_true (by omega); (conv => whnf)))
    refine idxK_map_intro (show (i : Int).toNat < b.length by simpa using hcb) ?_
    rw [show b[(i : Int).toNat]'(by simpa using hcb) = b[i] from by congr 1]
    (conv => whnf)
    refine Same8_calls a[i] b[i] (had _ (List.getElem_mem hc)) fun p hp => ?_
    (conv => whnf)
    refine br_intro (fun he => ?_) (fun he => ?_)
    · have he : ¬ a[i] = b[i] := by simpa [hp] using he
      (conv => whnf)
      refine h false (decide_eq_false ?_).symm
      rintro rfl
      exact he rfl
    · have he : a[i] = b[i] := by simpa [hp] using he
      (conv => whnf)
      rw [i64_nat (by omega)]
      refine IH (i + 1) ⟨by omega, ?_⟩ (by omega)
      rw [List.take_succ_eq_append_getElem hc, List.take_succ_eq_append_getElem hcb, h1, he]
  · have hc := ge_of_decE hsa hc
    rw [List.take_of_length_le hc, List.take_of_length_le (by omega)] at h1
    (conv => whnf)
    exact h true (decide_eq_true h1).symm
end Go.Abs
end

section
/- record.Same, fold.Same; the chapter's example; FoldFinds. -/
set_option maxRecDepth 100000
set_option maxHeartbeats 1000000
set_option linter.unusedVariables false
set_option linter.unusedSimpArgs false
namespace Go.Abs
open Go Go.Proofs Dig
attribute [local irreducible] ibits byteAt strLt firstIdx

def Rc.bare (r : Rc) : List AV := [vi r.kind, vs r.target, vs r.tag, uv r.rule, uv r.out, uv r.wen]
theorem of_calls (r : Rc) {R} (h : R (.agg r.bare) []) : ACalls Try.prog 81 [.agg r.enc] [] R := by
  refine acalls_of_xwp (an := an81) tab_ok Try.func81 ?_
  (conv => whnf)
  exact h
theorem dp_ne (a b : Dp) (h : (!(true && decide (ofB a.name = ofB b.name) && ((a.hash.toNat : Int) == (b.hash.toNat : Int)) && (a.order == b.order))) = true) : a ≠ b := by
  rintro rfl
  simp at h
theorem dp_eq (a b : Dp) (h : (!(true && decide (ofB a.name = ofB b.name) && ((a.hash.toNat : Int) == (b.hash.toNat : Int)) && (a.order == b.order))) = false) : a = b := by
  simp [ofB_eq] at h
  obtain ⟨⟨h1, h2⟩, h3⟩ := h
  have h2 : a.hash = b.hash := BitVec.eq_of_toNat_eq (by omega)
  cases a; cases b
  simp_all
theorem EqualD_calls (a b : List Dp) (ha : a.length < 1000000) {R} (h : ∀ p, p = decide (a = b) → R (.val (.bool p)) []) : ACalls Try.prog 82 [.sl none 3 (dpsA a), .sl none 3 (dpsA b)] [] R := by
  refine acalls_of_xwp (an := an82) tab_ok Try.func82 ?_
  have hsa := dpsA_length a
  have hsb := dpsA_length b
  (conv => whnf)
  rw [hsa, hsb]
  refine br_intro (fun hc => ?_) (fun hc => ?_)
  · (conv => whnf)
    refine h false (decide_eq_false ?_).symm
    rintro rfl
    simp at hc
  have hlen : a.length = b.length := by simp at hc; omega
  (conv => whnf)
  refine LoopP.ind1 (fun (i : Nat) => [(13, vi i)]) (fun _ => []) (fun i => a.length - i) (fun i => i ≤ a.length ∧ a.take i = b.take i) 0 rfl ⟨by omega, by simp⟩ ?_
  rintro i ⟨h0, h1⟩ IH
  (conv => whnf)
  refine br_intro (fun hc => ?_) (fun hc => ?_)
  · have hc := lt_of_decE hsa hc
    have hcb : i < b.length := by omega
    (conv => whnf); (repeat ((with_reducible refine must_intro ?_ ?_); exact decide_eq_true (by omega); (conv => whnf)))
    refine idxK_map_intro (show (i : Int).toNat < a.length by simpa using hc) ?_
    rw [show a[(i : Int).toNat]'(by simpa using hc) = a[i] from by congr 1]
    (conv => whnf); (repeat ((with_reducible refine must_intro ?_ ?_); exact decide_eq_true (by omega); (conv => whnf)))
    refine idxK_map_intro (show (i : Int).toNat < b.length by simpa using hcb) ?_
    rw [show b[(i : Int).toNat]'(by simpa using hcb) = b[i] from by congr 1]
    (conv => whnf)
    refine br_intro (fun he => ?_) (fun he => ?_)
    · have he := dp_ne _ _ he
      (conv => whnf)
      refine h false (decide_eq_false ?_).symm
      rintro rfl
      exact he rfl
    · have he := dp_eq _ _ he
      (conv => whnf)
      rw [i64_nat (by omega)]
      refine IH (i + 1) ⟨by omega, ?_⟩ (by omega)
      rw [List.take_succ_eq_append_getElem hc, List.take_succ_eq_append_getElem hcb, h1, he]
  · have hc := ge_of_decE hsa hc
    rw [List.take_of_length_le hc, List.take_of_length_le (by omega)] at h1
    (conv => whnf)
    exact h true (decide_eq_true h1).symm
theorem SameR_calls (a b : Rc) (ha : a.deps.length < 1000000) {R} (h : ∀ p, p = decide (a = b) → R (.val (.bool p)) []) : ACalls Try.prog 56 [.agg a.enc, .agg b.enc] [] R := by
  refine acalls_of_xwp (an := an56) tab_ok Try.func56 ?_
  (conv => whnf)
  refine of_calls a ?_
  (conv => whnf)
  refine of_calls b ?_
  (conv => whnf)
  refine br_intro (fun g => ?_) (fun g => ?_)
  · have g2 : a.kind = b.kind ∧ a.target = b.target ∧ a.tag = b.tag ∧ a.rule = b.rule ∧ a.out = b.out ∧ a.wen = b.wen := by
      simp [ofB_eq] at g
      obtain ⟨⟨⟨⟨⟨g1, g2⟩, g3⟩, g4⟩, g5⟩, g6⟩ := g
      exact ⟨g1, g2, g3, BitVec.eq_of_toNat_eq (by omega), BitVec.eq_of_toNat_eq (by omega), BitVec.eq_of_toNat_eq (by omega)⟩
    (conv => whnf)
    refine EqualD_calls a.deps b.deps ha fun p hp => ?_
    (conv => whnf)
    refine h _ ?_
    rw [hp]
    refine decide_eq_decide.2 ⟨fun e => ?_, fun e => by rw [e]⟩
    obtain ⟨g1, g2, g3, g4, g5, g6⟩ := g2
    cases a; cases b
    simp_all
  · (conv => whnf)
    refine h false (decide_eq_false ?_).symm
    rintro rfl
    simp at g
theorem SameL_calls (a b : List Rc) (ha : a.length < 1000000) (had : ∀ r ∈ a, r.deps.length < 1000000) {R} (h : ∀ p, p = decide (a = b) → R (.val (.bool p)) []) : ACalls Try.prog 29 [.sl none 7 (recs a), .sl none 7 (recs b)] [] R := by
  have key : ∀ {R}, (∀ p, p = decide (a = b) → R (.val (.bool p)) []) → ACalls Try.prog 55 [.sl none 7 (recs a), .sl none 7 (recs b), .fn (.func 56) [] []] [] R := by
    intro R h
    refine acalls_of_xwp (an := an55) tab_ok Try.func55 ?_
    have hsa := recs_length a
    have hsb := recs_length b
    (conv => whnf)
    rw [hsa, hsb]
    refine br_intro (fun hc => ?_) (fun hc => ?_)
    · (conv => whnf)
      refine h false (decide_eq_false ?_).symm
      rintro rfl
      simp at hc
    have hlen : a.length = b.length := by simp at hc; omega
    (conv => whnf)
    refine LoopP.ind1 (fun (i : Nat) => [(17, vi i)]) (fun _ => []) (fun i => a.length - i) (fun i => i ≤ a.length ∧ a.take i = b.take i) 0 rfl ⟨by omega, by simp⟩ ?_
    rintro i ⟨h0, h1⟩ IH
    (conv => whnf)
    refine br_intro (fun hc => ?_) (fun hc => ?_)
    · have hc := lt_of_decE hsa hc
      have hcb : i < b.length := by omega
      (conv => whnf); (repeat ((with_reducible refine must_intro ?_ ?_); exact decide_eq_true (by omega); (conv => whnf)))
      refine idxK_map_intro (show (i : Int).toNat < a.length by simpa using hc) ?_
      rw [show a[(i : Int).toNat]'(by simpa using hc) = a[i] from by congr 1]
      (conv => whnf); (repeat ((with_reducible refine must_intro ?_ ?_); exact decide_eq_true (by omega); (conv => whnf)))
      refine idxK_map_intro (show (i : Int).toNat < b.length by simpa using hcb) ?_
      rw [show b[(i : Int).toNat]'(by simpa using hcb) = b[i] from by congr 1]
      (conv => whnf)
      refine SameR_calls a[i] b[i] (had _ (List.getElem_mem hc)) fun p hp => ?_
      (conv => whnf)
      refine br_intro (fun he => ?_) (fun he => ?_)
      · have he : ¬ a[i] = b[i] := by simpa [hp] using he
        (conv => whnf)
        refine h false (decide_eq_false ?_).symm
        rintro rfl
        exact he rfl
      · have he : a[i] = b[i] := by simpa [hp] using he
        (conv => whnf)
        rw [i64_nat (by omega)]
        refine IH (i + 1) ⟨by omega, ?_⟩ (by omega)
        rw [List.take_succ_eq_append_getElem hc, List.take_succ_eq_append_getElem hcb, h1, he]
    · have hc := ge_of_decE hsa hc
      rw [List.take_of_length_le hc, List.take_of_length_le (by omega)] at h1
      (conv => whnf)
      exact h true (decide_eq_true h1).symm
  refine acalls_of_xwp (an := an29) tab_ok Try.func29 ?_
  (conv => whnf)
  refine key fun p hp => ?_
  (conv => whnf)
  exact h p hp

def ffA : Rc := ⟨1, [97], 0, [], 0, 0, []⟩
def ffB : Rc := ⟨1, [98], 0, [], 3, 0, []⟩
def ffC : Rc := ⟨2, [97], 0, [], 0, 0, []⟩
theorem ffix_of : docOf [ffA, ffB, ffC] = [ffB] := by decide +kernel
theorem le_rec2 (k : Int) (t : B) (u o w : U) (g : B) : leL [.val (.int .i64 k), .val (.string (ofB t)), .val (.int .u64 (u.toNat : Int)), .val (.slice none 0 0), .val (.int .u64 (o.toNat : Int)), .val (.int .u64 (w.toNat : Int)), .val (.string (ofB g))] (Rc.enc ⟨k, t, u, [], o, w, g⟩) :=
  leL.cons (.refl _) (leL.cons (.refl _) (leL.cons (.refl _) (leL.cons (le_nil 3) (leL.refl _))))
theorem ffix_calls {R} (h : R (.val (.bool true)) []) : ACalls Try.prog 21 [] [] R := by
  refine acalls_of_xwp (an := an21) tab_ok Try.func21 ?_
  have hle := leE.cons (le_rec2 1 [97] 0 0 0 []) rfl (leE.cons (le_rec2 1 [98] 0 3 0 []) rfl (leE.cons (le_rec2 2 [97] 0 0 0 []) rfl leE.nil))
  (conv => whnf)
  refine ACalls.args ?_ (Of_records [ffA, ffB, ffC] (by decide) (by decide) ?_)
  · exact leL.cons (le_sl _ _ hle) leL.nil
  rw [ffix_of]
  (conv => whnf)
  exact h

theorem FoldFinds_calls (l m : List Rc) (hl : l.length ≤ maxLen) (hd : ∀ r ∈ l, r.deps.length ≤ maxLen) (hl2 : m.length ≤ maxLen) (hd2 : ∀ r ∈ m, r.deps.length ≤ maxLen) (t : B) {R} (h : R (.val (.bool true)) []) :
    ACalls Try.prog 6 [.sl none 7 (recs l), .sl none 7 (recs m), vs t] [] R := by
  refine acalls_of_xwp (an := an6) tab_ok Try.func6 ?_
  (conv => whnf)
  refine Great10_calls l hl hd fun b hb => ?_
  (conv => whnf)
  refine br_intro (fun g => ?_) (fun g => ?_)
  · (conv => whnf)
    refine ffix_calls ?_
    (conv => whnf)
    exact h
  obtain ⟨c1, c2⟩ := hb g
  have hl : l.length < 1000000 := by omega
  have hd : ∀ r ∈ l, r.deps.length < 1000000 := fun r hr => by have := (c2 r hr).1; omega
  (conv => whnf)
  refine Great10_calls m hl2 hd2 fun b hb => ?_
  (conv => whnf)
  refine br_intro (fun g => ?_) (fun g => ?_)
  · (conv => whnf)
    refine ffix_calls ?_
    (conv => whnf)
    exact h
  have hrd := findR_deps hd t
  (conv => whnf)
  refine Find_calls l hl hd t ?_
  (conv => whnf)
  refine docFind_calls l hl t ?_
  (conv => whnf)
  refine ffix_calls ?_
  (conv => whnf)
  refine Same8_calls (findR l t) (findR l t) hrd fun p hp => ?_
  have hp : p = true := by rw [hp]; exact decide_eq_true rfl
  subst hp
  (conv => whnf)
  refine br_true (by simp) ?_
  (conv => whnf)
  refine SameL_calls l m hl hd fun p hp => ?_
  (conv => whnf)
  refine All_calls l m hl hd fun q hq => ?_
  (conv => whnf)
  refine br_true (by rw [hp, hq]; simp) ?_
  (conv => whnf)
  refine SameL_calls l l hl hd fun p hp => ?_
  have hp : p = true := by rw [hp]; exact decide_eq_true rfl
  subst hp
  (conv => whnf)
  exact h
theorem args_str {ts : List TypeId} {l : List AV} (h : Args tab 12 (9 :: ts) l) : ∃ (x : B) (l' : List AV), l = vs x :: l' ∧ x.length ≤ maxLen ∧ Args tab 12 ts l' := by
  obtain ⟨a, l', rfl, h1, h2⟩ := h
  obtain ⟨s, e, hs⟩ : ∃ s : ByteArray, [a] = [.val (.string s)] ∧ s.size ≤ maxLen := h1
  simp only [List.cons.injEq, and_true] at e
  refine ⟨bs s, l', by rw [e, vs, ofB_bs], ?_, h2⟩
  have := size_ofB (bs s)
  rw [ofB_bs] at this
  omega
theorem FoldFinds_row (l : List AV) (h : Args tab 12 [22, 22, 9] l) : ACalls Try.prog 6 l [] fun r _ => r = .val (.bool true) := by
  obtain ⟨a, l1, rfl, h1, h2, h3⟩ := args_recs h
  obtain ⟨b, l2, rfl, h4, h5, h6⟩ := args_recs h3
  obtain ⟨t, l3, rfl, h7, h8⟩ := args_str h6
  obtain rfl := args_nil h8
  exact FoldFinds_calls a b h1 h2 h4 h5 t rfl
end Go.Abs
end

section
/- The document's Above; the statement GraphAbove. -/
set_option maxRecDepth 100000
set_option maxHeartbeats 1000000
set_option linter.unusedVariables false
set_option linter.unusedSimpArgs false
namespace Go.Abs
open Go Go.Proofs
attribute [local irreducible] ibits byteAt strLt firstIdx

theorem putT_calls (l : List B) (s : B) (hl : l.length < 1000000) {R} (h : R (.sl none 1 (strs (tblP l s))) []) : ACalls Try.prog 70 [.sl none 1 (strs l), vs s] [] R := by
  refine acalls_of_xwp (an := an70) tab_ok Try.func70 ?_
  have hsl := strs_length l
  (conv => whnf)
  refine Place_calls l s hl rfl fun p hp => ?_
  (conv => whnf)
  refine br_intro (fun g => ?_) (fun g => ?_)
  · have hm : s ∈ l := by
      have : 0 ≤ p := by simpa using g
      rw [hp] at this
      exact Classical.byContradiction fun e => by have := placeI_neg.2 e; omega
    rw [tblP_some hm] at h
    (conv => whnf)
    exact h
  · have hm : s ∉ l := by
      have : p < 0 := by simpa using g
      rw [hp] at this
      exact placeI_neg.1 this
    rw [tblP_none hm] at h
    (conv => whnf)
    refine ⟨rfl, (by rw [bytes_str, hsl]; simp only [List.length_nil]; omega), ?_⟩
    (conv => whnf)
    refine ⟨by simp, (by rw [bytes_str]; simp only [List.length_append, List.length_cons, List.length_nil, hsl]; omega), ?_⟩
    (conv => whnf)
    rw [show [] ++ strs l ++ [[AV.val (Value.string (ofB s))]] = strs (l ++ [s]) from by simp [strs, vs]]
    exact h

theorem upSet_len {l : List Nd} {a : B} {D : List B} (hnd : D.Nodup) (hup : ∀ x ∈ D, Up l a x) : D.length ≤ l.length := by
  have := sub_len (l := l.map (·.name)) hnd fun x hx => by
    cases hup x hx with
    | base n hn _ => exact List.mem_map_of_mem hn
    | step n d hn _ _ => exact List.mem_map_of_mem hn
  simpa using this
def upClosed (l : List Nd) (a : B) (D : List B) : Prop := ∀ n ∈ l, (∃ d ∈ n.deps, upD a D d) → n.name ∈ D
theorem ltB_iff (a b : B) : ltB a b = decide (a < b) := bytesLess_eq a b

theorem refAbove_calls (l : List Nd) (hl : small l) (a : B) (ha : a.length < 10000) {R} (h : ∀ ss, (∀ x, x ∈ ss ↔ Up l a x) → ss.Pairwise (· < ·) → ss.length ≤ l.length → R (.sl none 1 (strs ss)) []) : ACalls Try.prog 42 [.sl none 4 (nds l), vs a] [] R := by
  refine acalls_of_xwp (an := an42) tab_ok Try.func42 ?_
  obtain ⟨hlen, hsm⟩ := hl
  have hsl := nds_length l
  (conv => whnf)
  refine LoopP.ind2 (fun (r : Nat) (D : List B) => [(5, .sl none 1 (strs D)), (6, vi r)]) (fun _ _ => []) (fun r _ => l.length + 1 - r)
    (fun r D => r ≤ l.length + 1 ∧ D.Nodup ∧ (∀ x ∈ D, Up l a x) ∧ (upClosed l a D ∨ r ≤ D.length)) 0 [] rfl ⟨by omega, by simp, by simp, .inr (by simp)⟩ ?_
  rintro r D ⟨hr0, hnd, hup, hcl⟩ IH
  (conv => whnf)
  refine br_intro (fun hc => ?_) (fun hc => ?_)
  · have hc : r ≤ l.length := by rw [hsl] at hc; simpa using hc
    have hDl := upSet_len hnd hup
    (conv => whnf)
    refine LoopP.ind2 (fun (i : Nat) (E : List B) => [(5, .sl none 1 (strs E)), (7, vi i)]) (fun _ _ => []) (fun i _ => l.length - i)
      (fun i E => i ≤ l.length ∧ E.Nodup ∧ (∀ x ∈ E, Up l a x) ∧ D.length ≤ E.length ∧ (upClosed l a D → E = D) ∧ (E.length = D.length → E = D ∧ ∀ n ∈ l.take i, (∃ d ∈ n.deps, upD a D d) → n.name ∈ D)) 0 D rfl ⟨by omega, hnd, hup, by omega, fun _ => rfl, fun _ => ⟨rfl, by simp⟩⟩ ?_
    rintro i E ⟨hi0, hndE, hupE, hDE, hcE, hsE⟩ IH1
    (conv => whnf)
    refine br_intro (fun hc1 => ?_) (fun hc1 => ?_)
    · have hc1 := lt_of_decE hsl hc1
      have hn := List.getElem_mem hc1
      obtain ⟨n, hne⟩ : ∃ n, n = l[i] := ⟨_, rfl⟩
      rw [← hne] at hn
      have hsd := strs_length n.deps
      (conv => whnf)
      refine LoopP.ind2 (fun (k : Nat) (E : List B) => [(5, .sl none 1 (strs E)), (8, vi k)]) (fun _ _ => []) (fun k _ => n.deps.length - k)
        (fun k E => k ≤ n.deps.length ∧ E.Nodup ∧ (∀ x ∈ E, Up l a x) ∧ D.length ≤ E.length ∧ (upClosed l a D → E = D) ∧ (E.length = D.length → E = D ∧ (∀ n ∈ l.take i, (∃ d ∈ n.deps, upD a D d) → n.name ∈ D) ∧ ((∃ d ∈ n.deps.take k, upD a D d) → n.name ∈ D))) 0 E rfl
        ⟨by omega, hndE, hupE, hDE, hcE, fun e => ⟨(hsE e).1, (hsE e).2, by simp⟩⟩ ?_
      rintro k E ⟨hk0, hndE, hupE, hDE, hcE, hsE⟩ IH2
      have hEl := upSet_len hndE hupE
      (conv => whnf); (repeat ((with_reducible refine must_intro ?_ ?_); exact decide_eq_true (by omega); (conv => whnf)))
      refine idxK_map_intro (show (i : Int).toNat < l.length by simpa using hc1) ?_
      rw [show l[(i : Int).toNat]'(by simpa using hc1) = n from by rw [hne]; congr 1]
      (conv => whnf)
      refine br_intro (fun hc2 => ?_) (fun hc2 => ?_)
      · have hc2 := lt_of_decE hsd hc2
        (conv => whnf); (repeat ((with_reducible refine must_intro ?_ ?_); exact decide_eq_true (by omega); (conv => whnf)))
        refine idxK_map_intro (show (i : Int).toNat < l.length by simpa using hc1) ?_
        rw [show l[(i : Int).toNat]'(by simpa using hc1) = n from by rw [hne]; congr 1]
        (conv => whnf); (repeat ((with_reducible refine must_intro ?_ ?_); exact decide_eq_true (by omega); (conv => whnf)))
        refine idxK_map_intro (show (k : Int).toNat < n.deps.length by simpa using hc2) ?_
        rw [show n.deps[(k : Int).toNat]'(by simpa using hc2) = n.deps[k] from by congr 1]
        obtain ⟨d, hd⟩ : ∃ d, d = n.deps[k] := ⟨_, rfl⟩
        have hdm : d ∈ n.deps := by rw [hd]; exact List.getElem_mem hc2
        rw [← hd]
        have put : upD a E d → (tblP E n.name).Nodup ∧ (∀ x ∈ tblP E n.name, Up l a x) ∧ D.length ≤ (tblP E n.name).length ∧ (upClosed l a D → tblP E n.name = D) ∧
            ((tblP E n.name).length = D.length → tblP E n.name = D ∧ (∀ n ∈ l.take i, (∃ d ∈ n.deps, upD a D d) → n.name ∈ D) ∧ ((∃ d ∈ n.deps.take (k + 1), upD a D d) → n.name ∈ D)) := by
          intro hup1
          by_cases hm : n.name ∈ E
          · rw [tblP_some hm]
            refine ⟨hndE, hupE, hDE, hcE, fun e => ?_⟩
            obtain ⟨rfl, h2, h3⟩ := hsE e
            exact ⟨rfl, h2, fun _ => hm⟩
          · rw [tblP_none hm]
            refine ⟨List.nodup_append.2 ⟨hndE, by simp, fun x hx y hy => by simp at hy; subst hy; exact fun e => hm (e ▸ hx)⟩, ?_, by simp; omega, fun hcl => ?_, fun e => by simp at e; omega⟩
            · intro x hx
              rw [List.mem_append, List.mem_singleton] at hx
              rcases hx with hx | rfl
              · exact hupE x hx
              · rcases hup1 with rfl | h2
                · exact .base n hn hdm
                · exact .step n d hn hdm (hupE d h2)
            · have hED := hcE hcl
              subst hED
              exact absurd (hcl n hn ⟨d, hdm, hup1⟩) hm
        have skip : ¬ upD a E d → (E.length = D.length → E = D ∧ (∀ n ∈ l.take i, (∃ d ∈ n.deps, upD a D d) → n.name ∈ D) ∧ ((∃ d ∈ n.deps.take (k + 1), upD a D d) → n.name ∈ D)) := by
          intro hno e
          obtain ⟨rfl, h2, h3⟩ := hsE e
          refine ⟨rfl, h2, ?_⟩
          rintro ⟨d', hd', hu⟩
          rw [List.take_succ_eq_append_getElem hc2, ← hd, List.mem_append, List.mem_singleton] at hd'
          rcases hd' with hd' | rfl
          · exact h3 ⟨d', hd', hu⟩
          · exact absurd hu hno
        (conv => whnf)
        refine br_intro (fun he => ?_) (fun he => ?_)
        · have he : d = a := by simpa [ofB_eq] using he
          obtain ⟨p1, p2, p3, p4, p5⟩ := put (.inl he)
          (conv => whnf); (repeat ((with_reducible refine must_intro ?_ ?_); exact decide_eq_true (by omega); (conv => whnf)))
          refine idxK_map_intro (show (i : Int).toNat < l.length by simpa using hc1) ?_
          rw [show l[(i : Int).toNat]'(by simpa using hc1) = n from by rw [hne]; congr 1]
          (conv => whnf)
          refine putT_calls E n.name (by omega) ?_
          (conv => whnf)
          rw [i64_nat (by have := (hsm n hn).1; omega)]
          exact IH2 (k + 1) _ ⟨by omega, p1, p2, p3, p4, p5⟩ (by omega)
        · have he : d ≠ a := by simpa [ofB_eq] using he
          (conv => whnf)
          refine Place_calls E d (by omega) rfl fun p hp => ?_
          (conv => whnf)
          refine br_intro (fun hg => ?_) (fun hg => ?_)
          · have hm : d ∈ E := by
              have : 0 ≤ p := by simpa using hg
              rw [hp] at this
              exact Classical.byContradiction fun e => by have := placeI_neg.2 e; omega
            obtain ⟨p1, p2, p3, p4, p5⟩ := put (.inr hm)
            (conv => whnf); (repeat ((with_reducible refine must_intro ?_ ?_); exact decide_eq_true (by omega); (conv => whnf)))
            refine idxK_map_intro (show (i : Int).toNat < l.length by simpa using hc1) ?_
            rw [show l[(i : Int).toNat]'(by simpa using hc1) = n from by rw [hne]; congr 1]
            (conv => whnf)
            refine putT_calls E n.name (by omega) ?_
            (conv => whnf)
            rw [i64_nat (by have := (hsm n hn).1; omega)]
            exact IH2 (k + 1) _ ⟨by omega, p1, p2, p3, p4, p5⟩ (by omega)
          · have hm : d ∉ E := by
              have : p < 0 := by simpa using hg
              rw [hp] at this
              exact placeI_neg.1 this
            (conv => whnf)
            rw [i64_nat (by have := (hsm n hn).1; omega)]
            exact IH2 (k + 1) E ⟨by omega, hndE, hupE, hDE, hcE, skip (fun x => x.elim he hm)⟩ (by omega)
      · have hc2 := ge_of_decE hsd hc2
        rw [List.take_of_length_le hc2] at hsE
        (conv => whnf)
        rw [i64_nat (by omega)]
        refine IH1 (i + 1) E ⟨by omega, hndE, hupE, hDE, hcE, fun e => ?_⟩ (by omega)
        obtain ⟨e1, h2, h3⟩ := hsE e
        refine ⟨e1, fun n' hn' hu => ?_⟩
        rw [List.take_succ_eq_append_getElem hc1, ← hne, List.mem_append, List.mem_singleton] at hn'
        rcases hn' with hn' | rfl
        · exact h2 n' hn' hu
        · exact h3 hu
    · have hc1 := ge_of_decE hsl hc1
      rw [List.take_of_length_le hc1] at hsE
      (conv => whnf)
      rw [i64_nat (by omega)]
      refine IH (r + 1) E ⟨by omega, hndE, hupE, ?_⟩ (by omega)
      by_cases he : E.length = D.length
      · obtain ⟨rfl, h2⟩ := hsE he
        exact .inl h2
      · rcases hcl with hcl | hcl
        · have := hcE hcl
          subst this
          exact absurd rfl he
        · exact .inr (by omega)
  · have hc : l.length < r := by rw [hsl] at hc; simp at hc; omega
    have hDl := upSet_len hnd hup
    have hcl : upClosed l a D := hcl.resolve_right (by omega)
    have hall : ∀ x, Up l a x → x ∈ D := fun x hx => by
      induction hx with
      | base n hn ha => exact hcl n hn ⟨a, ha, .inl rfl⟩
      | step n d hn hd _ ih => exact hcl n hn ⟨d, hd, .inr ih⟩
    have hlenD : ∀ s ∈ D, s.length < 10000 := fun s hs => by
      cases hup s hs with
      | base n hn _ => have := (hsm n hn).2.1; omega
      | step n d hn _ _ => have := (hsm n hn).2.1; omega
    have hsD := strs_length D
    clear IH
    (conv => whnf)
    refine LoopP.ind2 (fun (i : Nat) (S : List B) => [(10, .slv (nameOf 61) 1 (2 * i) 0 S.length), (11, vi i)]) (fun i S => [(nameOf 61, .vec 9 1 (strs S) (2 * i))]) (fun i _ => D.length - i)
      (fun i S => i ≤ D.length ∧ S.Perm (D.take i) ∧ S.Pairwise (· < ·)) 0 [] rfl ⟨by omega, by simp, by simp⟩ ?_
    rintro i S ⟨hi0, hperm, hsrt⟩ IH
    have hSl : S.length = i := by rw [hperm.length_eq]; simp; omega
    have hsS := strs_length S
    (conv => whnf)
    refine br_intro (fun hc1 => ?_) (fun hc1 => ?_)
    · have hc1 := lt_of_decE hsD hc1
      obtain ⟨x, hx⟩ : ∃ x, x = D[i] := ⟨_, rfl⟩
      have hxD : x ∈ D := by rw [hx]; exact List.getElem_mem hc1
      have hxS : x ∉ S := fun hm => by
        have hm := hperm.mem_iff.1 hm
        obtain ⟨j, hj, hjx⟩ := List.mem_take_iff_getElem.1 hm
        have := (List.getElem_inj (h₀ := by omega) (h₁ := hc1) hnd).1 (hjx.trans hx)
        omega
      (conv => whnf)
      refine LoopP.ind1 (fun (k : Nat) => [(12, vi k)]) (fun _ => [(nameOf 61, .vec 9 1 (strs S) (2 * i))]) (fun k => k) (fun k => k ≤ S.length ∧ ∀ y ∈ S.drop k, x < y) S.length rfl ⟨by omega, by simp⟩ ?_
      rintro k ⟨hk0, hk⟩ IH2
      have done : (∀ y ∈ S.take k, y < x) → ((S.take k ++ [x]) ++ S.drop k).Perm (D.take (i + 1)) ∧ ((S.take k ++ [x]) ++ S.drop k).Pairwise (· < ·) := fun hlt => by
        constructor
        · rw [List.take_succ_eq_append_getElem hc1, ← hx]
          have h1 : ((S.take k ++ [x]) ++ S.drop k).Perm (S ++ [x]) := by
            have h2 : (S ++ [x]).Perm ((S.take k ++ S.drop k) ++ [x]) := by rw [List.take_append_drop]
            refine (?_ : List.Perm _ _).trans h2.symm
            rw [List.append_assoc, List.append_assoc]
            exact (List.perm_append_comm).append_left _
          exact h1.trans (hperm.append_right _)
        · have h3 : (S.take k).Pairwise (· < ·) := hsrt.sublist (List.take_sublist _ _)
          have h4 : (S.drop k).Pairwise (· < ·) := hsrt.sublist (List.drop_sublist _ _)
          rw [List.append_assoc, List.singleton_append, List.pairwise_append, List.pairwise_cons]
          refine ⟨h3, ⟨hk, h4⟩, fun u hu v hv => ?_⟩
          rcases List.mem_cons.1 hv with rfl | hv
          · exact hlt u hu
          · exact List.lt_trans (hlt u hu) (hk v hv)
      (conv => whnf)
      refine br_intro (fun hpos => ?_) (fun hpos => ?_)
      · have hpos : 0 < k := by have := of_decide_eq_true hpos; omega
        (conv => whnf); (repeat ((with_reducible refine must_intro ?_ ?_); exact decide_eq_true (by omega); (conv => whnf)))
        refine idxK_map_intro (show (i : Int).toNat < D.length by simpa using hc1) ?_
        rw [show D[(i : Int).toNat]'(by simpa using hc1) = x from by rw [hx]; congr 1]
        (conv => whnf)
        rw [show IntKind.i64.wrap ((k : Int) - 1) = ((k - 1 : Nat) : Int) by rw [wrap_i64 (by omega) (by omega)]; omega]
        (conv => whnf); (repeat ((with_reducible refine must_intro ?_ ?_); exact decide_eq_true (by omega); (conv => whnf)))
        have hk1 : k - 1 < S.length := by omega
        refine ⟨rfl, idxK_map_intro (show 0 + ((k - 1 : Nat) : Int).toNat < S.length by simpa using hk1) ?_⟩
        rw [show S[0 + ((k - 1 : Nat) : Int).toNat]'(by simpa using hk1) = S[k - 1] from by congr 1; simp]
        obtain ⟨y, hy⟩ : ∃ y, y = S[k - 1] := ⟨_, rfl⟩
        have hyS : y ∈ S := by rw [hy]; exact List.getElem_mem hk1
        have hyD : y ∈ D := List.mem_of_mem_take (hperm.mem_iff.1 hyS)
        rw [← hy]
        (conv => whnf)
        refine Less_calls x y (by have := hlenD x hxD; omega) (by have := hlenD y hyD; omega) fun p hp => ?_
        (conv => whnf)
        refine br_intro (fun hp1 => ?_) (fun hp1 => ?_)
        · have hxy : x < y := by rw [hp, ltB_iff] at hp1; exact of_decide_eq_true hp1
          (conv => whnf)
          rw [show IntKind.i64.wrap ((k : Int) - 1) = ((k - 1 : Nat) : Int) by rw [wrap_i64 (by omega) (by omega)]; omega]
          refine IH2 (k - 1) ⟨by omega, fun z hz => ?_⟩ (by omega)
          have : S.drop (k - 1) = y :: S.drop k := by
            rw [List.drop_eq_getElem_cons hk1, ← hy]
            congr 2
            omega
          rw [this] at hz
          rcases List.mem_cons.1 hz with rfl | hz
          · exact hxy
          · exact hk z hz
        · have hxy : ¬ x < y := by rw [hp, ltB_iff] at hp1; exact of_decide_eq_false hp1
          have hyx : y < x := by
            refine Classical.byContradiction fun h2 => hxS ?_
            rw [show x = y from List.le_antisymm (show x ≤ y from h2) (show y ≤ x from hxy)]
            exact hyS
          obtain ⟨hd1, hd2⟩ := done fun z hz => by
            obtain ⟨q, hq, rfl⟩ := List.mem_take_iff_getElem.1 hz
            rcases Nat.lt_or_ge q (k - 1) with hqk | hqk
            · have := List.pairwise_iff_getElem.1 hsrt q (k - 1) (by omega) hk1 hqk
              rw [← hy] at this
              exact List.lt_trans this hyx
            · have : q = k - 1 := by omega
              subst this
              rw [← hy]; exact hyx
          (conv => whnf); (repeat ((with_reducible refine must_intro ?_ ?_); exact decide_eq_true (by omega); (conv => whnf)))
          refine ⟨⟨rfl, rfl⟩, (by rw [bytes_str]; simp only [List.length_nil]; omega), ?_⟩
          (conv => whnf); (repeat ((with_reducible refine must_intro ?_ ?_); exact decide_eq_true (by omega); (conv => whnf)))
          have hrest : [] ++ List.take (((S.length : Nat) : Int).toNat - ((k : Nat) : Int).toNat) (List.drop (0 + ((k : Nat) : Int).toNat) (strs S)) = strs (S.drop k) := by
            rw [List.nil_append, Nat.zero_add, Int.toNat_natCast, Int.toNat_natCast, List.take_of_length_le (by rw [List.length_drop, hsS]; exact Nat.le_refl _)]
            simp [strs, List.map_drop]
          rw [hrest]
          refine idxK_map_intro (show (i : Int).toNat < D.length by simpa using hc1) ?_
          rw [show D[(i : Int).toNat]'(by simpa using hc1) = x from by rw [hx]; congr 1]
          (conv => whnf); (repeat ((with_reducible refine must_intro ?_ ?_); exact decide_eq_true (by omega); (conv => whnf)))
          have hS1 : (S.take k ++ [x]).length = k + 1 := by simp; omega
          have e1 : List.take (((k : Nat) : Int).toNat - ((0 : Nat) : Int).toNat) (strs S) ++ [[AV.val (Value.string (ofB x))]] = strs (S.take k ++ [x]) := by simp [strs, vs, List.map_take]
          have e2 : ((k : Nat) : Int).toNat - ((0 : Nat) : Int).toNat + [[AV.val (Value.string (ofB x))]].length = (S.take k ++ [x]).length := by rw [hS1]; simp
          have hsS1 := strs_length (S.take k ++ [x])
          have hsd := strs_length (S.drop k)
          have hdl : (S.drop k).length = S.length - k := by simp
          refine ⟨⟨rfl, rfl, by rw [hsS]; simp; omega⟩, (by rw [e2, hS1, bytes_str]; omega), ?_⟩
          rw [e1, e2]
          (conv => whnf); (repeat ((with_reducible refine must_intro ?_ ?_); exact decide_eq_true (by omega); (conv => whnf)))
          refine ⟨⟨rfl, rfl, by rw [hsS1]; exact Nat.le_refl _⟩, (by rw [hS1, bytes_str, hsd]; omega), ?_⟩
          (conv => whnf)
          have e3 : List.take (S.take k ++ [x]).length (strs (S.take k ++ [x])) ++ strs (S.drop k) = strs (S.take k ++ [x] ++ S.drop k) := by
            rw [List.take_of_length_le (Nat.le_of_eq hsS1)]; simp [strs]
          have e4 : (S.take k ++ [x]).length + (strs (S.drop k)).length = (S.take k ++ [x] ++ S.drop k).length := by rw [hsd]; simp; omega
          rw [e3, e4, i64_nat (by omega), show 2 * i + 1 + 1 = 2 * (i + 1) by omega]
          exact IH (i + 1) _ ⟨by omega, hd1, hd2⟩ (by omega)
      · have hpos : k = 0 := by have := of_decide_eq_false hpos; omega
        obtain ⟨hd1, hd2⟩ := done (by rw [hpos]; simp)
        (conv => whnf); (repeat ((with_reducible refine must_intro ?_ ?_); exact decide_eq_true (by omega); (conv => whnf)))
        refine ⟨⟨rfl, rfl⟩, (by rw [bytes_str]; simp only [List.length_nil]; omega), ?_⟩
        (conv => whnf); (repeat ((with_reducible refine must_intro ?_ ?_); exact decide_eq_true (by omega); (conv => whnf)))
        have hrest : [] ++ List.take (((S.length : Nat) : Int).toNat - ((k : Nat) : Int).toNat) (List.drop (0 + ((k : Nat) : Int).toNat) (strs S)) = strs (S.drop k) := by
          rw [List.nil_append, Nat.zero_add, Int.toNat_natCast, Int.toNat_natCast, List.take_of_length_le (by rw [List.length_drop, hsS]; exact Nat.le_refl _)]
          simp [strs, List.map_drop]
        rw [hrest]
        refine idxK_map_intro (show (i : Int).toNat < D.length by simpa using hc1) ?_
        rw [show D[(i : Int).toNat]'(by simpa using hc1) = x from by rw [hx]; congr 1]
        (conv => whnf); (repeat ((with_reducible refine must_intro ?_ ?_); exact decide_eq_true (by omega); (conv => whnf)))
        have hS1 : (S.take k ++ [x]).length = k + 1 := by simp; omega
        have e1 : List.take (((k : Nat) : Int).toNat - ((0 : Nat) : Int).toNat) (strs S) ++ [[AV.val (Value.string (ofB x))]] = strs (S.take k ++ [x]) := by simp [strs, vs, List.map_take]
        have e2 : ((k : Nat) : Int).toNat - ((0 : Nat) : Int).toNat + [[AV.val (Value.string (ofB x))]].length = (S.take k ++ [x]).length := by rw [hS1]; simp
        have hsS1 := strs_length (S.take k ++ [x])
        have hsd := strs_length (S.drop k)
        have hdl : (S.drop k).length = S.length - k := by simp
        refine ⟨⟨rfl, rfl, by rw [hsS]; simp; omega⟩, (by rw [e2, hS1, bytes_str]; omega), ?_⟩
        rw [e1, e2]
        (conv => whnf); (repeat ((with_reducible refine must_intro ?_ ?_); exact decide_eq_true (by omega); (conv => whnf)))
        refine ⟨⟨rfl, rfl, by rw [hsS1]; exact Nat.le_refl _⟩, (by rw [hS1, bytes_str, hsd]; omega), ?_⟩
        (conv => whnf)
        have e3 : List.take (S.take k ++ [x]).length (strs (S.take k ++ [x])) ++ strs (S.drop k) = strs (S.take k ++ [x] ++ S.drop k) := by
          rw [List.take_of_length_le (Nat.le_of_eq hsS1)]; simp [strs]
        have e4 : (S.take k ++ [x]).length + (strs (S.drop k)).length = (S.take k ++ [x] ++ S.drop k).length := by rw [hsd]; simp; omega
        rw [e3, e4, i64_nat (by omega), show 2 * i + 1 + 1 = 2 * (i + 1) by omega]
        exact IH (i + 1) _ ⟨by omega, hd1, hd2⟩ (by omega)
    · have hc1 := ge_of_decE hsD hc1
      rw [List.take_of_length_le hc1] at hperm
      have fin := h S (fun x => (hperm.mem_iff).trans ⟨hup x, hall x⟩) hsrt (by rw [hperm.length_eq]; exact hDl)
      (conv => whnf)
      refine ⟨⟨rfl, rfl, hsS.symm⟩, ?_⟩
      (conv => whnf)
      exact fin

theorem sameT_calls (a b : List B) (ha : a.length < 1000000) {R} (h : ∀ p, p = decide (a = b) → R (.val (.bool p)) []) : ACalls Try.prog 38 [.sl none 1 (strs a), .sl none 1 (strs b)] [] R := by
  refine acalls_of_xwp (an := an38) tab_ok Try.func38 ?_
  have hsa := strs_length a
  have hsb := strs_length b
  (conv => whnf)
  rw [hsa, hsb]
  refine br_intro (fun hc => ?_) (fun hc => ?_)
  · (conv => whnf)
    refine h false (decide_eq_false ?_).symm
    rintro rfl
    simp at hc
  have hlen : a.length = b.length := by simp at hc; omega
  (conv => whnf)
  refine LoopP.ind1 (fun (i : Nat) => [(5, vi i)]) (fun _ => []) (fun i => a.length - i) (fun i => i ≤ a.length ∧ a.take i = b.take i) 0 rfl ⟨by omega, by simp⟩ ?_
  rintro i ⟨h0, h1⟩ IH
  (conv => whnf)
  refine br_intro (fun hc => ?_) (fun hc => ?_)
  · have hc := lt_of_decE hsa hc
    have hcb : i < b.length := by omega
    (conv => whnf); (repeat ((with_reducible refine must_intro ?_ ?_); exact decide_eq_true (by omega); (conv => whnf)))
    refine idxK_map_intro (show (i : Int).toNat < a.length by simpa using hc) ?_
    rw [show a[(i : Int).toNat]'(by simpa using hc) = a[i] from by congr 1]
    (conv => whnf); (repeat ((with_reducible refine must_intro ?_ ?_); exact decide_eq_true (by omega); (conv => whnf)))
    refine idxK_map_intro (show (i : Int).toNat < b.length by simpa using hcb) ?_
    rw [show b[(i : Int).toNat]'(by simpa using hcb) = b[i] from by congr 1]
    (conv => whnf)
    refine br_intro (fun he => ?_) (fun he => ?_)
    · have he : a[i] ≠ b[i] := by simpa [ofB_eq] using he
      (conv => whnf)
      refine h false (decide_eq_false ?_).symm
      rintro rfl
      exact he rfl
    · have he : a[i] = b[i] := by simpa [ofB_eq] using he
      (conv => whnf)
      rw [i64_nat (by omega)]
      refine IH (i + 1) ⟨by omega, ?_⟩ (by omega)
      rw [List.take_succ_eq_append_getElem hc, List.take_succ_eq_append_getElem hcb, h1, he]
  · have hc := ge_of_decE hsa hc
    rw [List.take_of_length_le hc, List.take_of_length_le (by omega)] at h1
    (conv => whnf)
    exact h true (decide_eq_true h1).symm
theorem sorted_uniq {a b : List B} (ha : a.Pairwise (· < ·)) (hb : b.Pairwise (· < ·)) (h : ∀ x, x ∈ a ↔ x ∈ b) : a = b := by
  have nd : ∀ {l : List B}, l.Pairwise (· < ·) → l.Nodup := fun h => h.imp fun {x y} hxy e => by subst e; exact List.lt_irrefl _ hxy
  have hp : a.Perm b := (List.perm_ext_iff_of_nodup (nd ha) (nd hb)).2 h
  exact hp.eq_of_pairwise (le := fun x y => x < y) (fun x y _ _ h1 h2 => absurd (List.lt_trans h1 h2) (List.lt_irrefl _)) ha hb

theorem GraphAbove_calls (l : List Nd) (hl : l.length ≤ maxLen) (hn : ∀ n ∈ l, n.deps.length ≤ maxLen) (a : B) {R} (h : R (.val (.bool true)) []) : ACalls Try.prog 10 [.sl none 4 (nds l), vs a] [] R := by
  refine acalls_of_xwp (an := an10) tab_ok Try.func10 ?_
  have hsa := size_ofB a
  (conv => whnf)
  refine Great_calls l hl hn fun b hb => ?_
  (conv => whnf)
  refine br_intro (fun g => ?_) (fun g => ?_)
  · (conv => whnf)
    refine gfixed_calls ?_
    (conv => whnf)
    exact h
  obtain ⟨b1, b2⟩ := hb g
  have hs : small l := ⟨by omega, fun n hn => by
    obtain ⟨g1, g2, g3⟩ := b2 n hn
    exact ⟨by omega, by omega, fun d hd => by have := g3 d hd; omega⟩⟩
  (conv => whnf)
  refine br_intro (fun g2 => ?_) (fun g2 => ?_)
  · (conv => whnf)
    refine gfixed_calls ?_
    (conv => whnf)
    exact h
  have g2 : a.length ≤ 100 := by have := of_decide_eq_false g2; omega
  (conv => whnf)
  refine gfixed_calls ?_
  (conv => whnf)
  refine Above_calls l hs a fun s1 h1 p1 l1 => ?_
  (conv => whnf)
  refine refAbove_calls l hs a (by omega) fun s2 h2 p2 l2 => ?_
  (conv => whnf)
  refine sameT_calls s1 s2 (by omega) fun p hp => ?_
  have hp : p = true := by rw [hp]; exact decide_eq_true (sorted_uniq p1 p2 fun x => (h1 x).trans (h2 x).symm)
  subst hp
  (conv => whnf)
  exact h
theorem GraphAbove_row (l : List AV) (h : Args tab 12 [53, 9] l) : ACalls Try.prog 10 l [] fun r _ => r = .val (.bool true) := by
  obtain ⟨a, l1, rfl, h1, h2, h3⟩ := args_nodes h
  obtain ⟨t, l2, rfl, _, h4⟩ := args_str h3
  obtain rfl := args_nil h4
  exact GraphAbove_calls a h1 h2 t rfl
end Go.Abs
end
