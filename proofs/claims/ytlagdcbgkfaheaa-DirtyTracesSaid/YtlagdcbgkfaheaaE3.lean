/- Graphs: what is wrong with a node by itself; places. -/
import Derived.Test.YtlagdcbgkfaheaaE2
set_option maxRecDepth 100000
set_option linter.unusedVariables false
set_option linter.unusedSimpArgs false
namespace Go.Abs
open Go Go.Proofs
attribute [local irreducible] ibits byteAt strLt firstIdx

theorem tblP_foldl : ∀ (l m : List B), (l.foldl tblP m).length ≤ m.length + l.length ∧ ((l.foldl tblP m).length = m.length + l.length ↔ l.Nodup ∧ ∀ x ∈ l, x ∉ m) := by
  intro l
  induction l with
  | nil => intro m; simp
  | cons a l ih =>
    intro m
    rw [List.foldl_cons]
    obtain ⟨h1, h2⟩ := ih (tblP m a)
    by_cases ha : a ∈ m
    · rw [tblP_some ha] at h1 h2 ⊢
      refine ⟨by simp; omega, ⟨fun h => by simp at h; omega, fun h => absurd ha (h.2 a (by simp))⟩⟩
    · rw [tblP_none ha] at h1 h2 ⊢
      simp only [List.length_append, List.length_cons, List.length_nil] at h1 h2 ⊢
      refine ⟨by omega, ?_⟩
      rw [show (List.foldl tblP (m ++ [a]) l).length = m.length + (l.length + 1) ↔ (List.foldl tblP (m ++ [a]) l).length = m.length + (0 + 1) + l.length by omega, h2]
      simp only [List.nodup_cons, List.mem_append, List.mem_cons, List.not_mem_nil, or_false, not_or]
      constructor
      · rintro ⟨g1, g2⟩
        exact ⟨⟨fun h => (g2 a h).2 rfl, g1⟩, fun x hx => by
          rcases hx with rfl | hx
          · exact ha
          · exact (g2 x hx).1⟩
      · rintro ⟨⟨g1, g2⟩, g3⟩
        exact ⟨g2, fun x hx => ⟨g3 x (.inr hx), fun e => g1 (e ▸ hx)⟩⟩
theorem tblN_len (l : List B) : ((tblN l).length : Int) = l.length ↔ l.Nodup := by
  have := (tblP_foldl l []).2
  unfold tblN
  rw [show (((List.foldl tblP [] l).length : Nat) : Int) = ((l.length : Nat) : Int) ↔ (List.foldl tblP [] l).length = ([] : List B).length + l.length by simp; omega, this]
  simp

def oneBad (n : Nd) : Bool := !nameOk n.name || (n.source && (decide (0 < n.deps.length) || !decide (n.rule = 0)))
def oneP (n : Nd) : Int := if oneBad n = true then 1 else if ¬ (n.name :: n.deps).Nodup then 1 else if 16 < n.deps.length then 5 else 0

theorem one_calls (n : Nd) (hn : n.deps.length < 10000) {R} (h : ∀ e, e = oneP n → R (vi e) []) : ACalls Try.prog 76 [.agg n.enc] [] R := by
  refine acalls_of_xwp (an := an76) tab_ok Try.func76 ?_
  have hsl := strs_length n.deps
  have bad : oneBad n = true → R (vi 1) [] := fun hb => h 1 (by simp [oneP, hb])
  have len : (strs n.deps).length = n.deps.length := strs_length _
  (conv => whnf)
  refine Name_calls n.name ?_
  (conv => whnf)
  refine br_intro (fun h1 => ?_) (fun h1 => ?_)
  · (conv => whnf)
    exact bad (by simp at h1; simp [oneBad, h1])
  have h1 : nameOk n.name = true := by simpa using h1
  have rest : oneBad n = false → (∀ m, m = tblN (n.name :: n.deps) → ((m.length : Int) = n.deps.length + 1 ↔ (n.name :: n.deps).Nodup)) := fun hb m hm => by
    subst hm
    have := tblN_len (n.name :: n.deps)
    rw [List.length_cons] at this
    push_cast at this
    exact this
  (conv => whnf)
  refine br_intro (fun h2 => ?_) (fun h2 => ?_)
  · (conv => whnf)
    refine br_intro (fun h3 => ?_) (fun h3 => ?_)
    · (conv => whnf)
      refine bad ?_
      have h3 : 0 < n.deps.length := by rw [len] at h3; simp at h3; omega
      simp [oneBad, h2, h3]
    · (conv => whnf)
      have h3 : n.deps.length = 0 := by rw [len] at h3; simpa using h3
      refine br_intro (fun h4 => ?_) (fun h4 => ?_)
      · (conv => whnf)
        refine bad ?_
        have h4 : ¬ n.rule = 0 := by
          rintro e
          rw [e] at h4
          simp at h4
        unfold oneBad
        rw [h1, h2, decide_eq_false h4]
        simp
      · (conv => whnf)
        have h4 : n.rule = 0 := by
          have : ((n.rule.toNat : Nat) : Int) = ((0 : U).toNat : Int) := by simpa using h4
          exact u_inj.1 this
        have hb : oneBad n = false := by
          unfold oneBad
          rw [h1, h2, h3, h4]
          simp
        refine ⟨rfl, (show (1 + (strs n.deps).length) * ((tab.ti 9).bytes + 1) ≤ 140737488355328 by rw [len, bytes_str]; omega), ?_⟩
        (conv => whnf)
        refine New_calls n.name n.deps (by omega) fun m hm => ?_
        have hm' := rest hb m hm
        (conv => whnf)
        refine Len_old m ?_
        (conv => whnf)
        have fin : ∀ p : Bool, p = decide (¬ (n.name :: n.deps).Nodup) → oneP n = (if p = true then 1 else if 16 < n.deps.length then 5 else 0) := by
          rintro p rfl
          unfold oneP
          rw [if_neg (by rw [hb]; simp)]
          by_cases hd : (n.name :: n.deps).Nodup
          · have hdd : decide (¬ (n.name :: n.deps).Nodup) = false := decide_eq_false (not_not_intro hd)
            rw [if_neg (not_not_intro hd)]
            simp only [hdd, Bool.false_eq_true, if_false]
          · rw [if_pos hd, if_pos (decide_eq_true hd)]
        rw [len, wrap_i64 (by omega) (by omega)]
        refine br_intro (fun g1 => ?_) (fun g1 => ?_)
        · (conv => whnf)
          refine h 1 ?_
          rw [fin true]
          · simp
          · symm
            apply decide_eq_true
            rw [← hm']
            intro e
            rw [e] at g1
            simp at g1
        · have g1 : (n.name :: n.deps).Nodup := by
            rw [← hm']
            simpa using g1
          have fin := fin false (by simp only [g1, not_true, decide_false])
          (conv => whnf)
          rw [len]
          refine br_intro (fun g2 => ?_) (fun g2 => ?_)
          · (conv => whnf)
            refine h 5 ?_
            rw [fin]
            have : 16 < n.deps.length := by simp at g2; omega
            simp [this]
          · (conv => whnf)
            refine h 0 ?_
            rw [fin]
            have : ¬ 16 < n.deps.length := by simp at g2; omega
            simp [this]
  · (conv => whnf)
    have hb : oneBad n = false := by
      unfold oneBad
      rw [h1, h2]
      simp
    refine ⟨rfl, (show (1 + (strs n.deps).length) * ((tab.ti 9).bytes + 1) ≤ 140737488355328 by rw [len, bytes_str]; omega), ?_⟩
    (conv => whnf)
    refine New_calls n.name n.deps (by omega) fun m hm => ?_
    have hm' := rest hb m hm
    (conv => whnf)
    refine Len_old m ?_
    (conv => whnf)
    have fin : ∀ p : Bool, p = decide (¬ (n.name :: n.deps).Nodup) → oneP n = (if p = true then 1 else if 16 < n.deps.length then 5 else 0) := by
      rintro p rfl
      unfold oneP
      rw [if_neg (by rw [hb]; simp)]
      by_cases hd : (n.name :: n.deps).Nodup
      · have hdd : decide (¬ (n.name :: n.deps).Nodup) = false := decide_eq_false (not_not_intro hd)
        rw [if_neg (not_not_intro hd)]
        simp only [hdd, Bool.false_eq_true, if_false]
      · rw [if_pos hd, if_pos (decide_eq_true hd)]
    rw [len, wrap_i64 (by omega) (by omega)]
    refine br_intro (fun g1 => ?_) (fun g1 => ?_)
    · (conv => whnf)
      refine h 1 ?_
      rw [fin true]
      · simp
      · symm
        apply decide_eq_true
        rw [← hm']
        intro e
        rw [e] at g1
        simp at g1
    · have g1 : (n.name :: n.deps).Nodup := by
        rw [← hm']
        simpa using g1
      have fin := fin false (by simp only [g1, not_true, decide_false])
      (conv => whnf)
      rw [len]
      refine br_intro (fun g2 => ?_) (fun g2 => ?_)
      · (conv => whnf)
        refine h 5 ?_
        rw [fin]
        have : 16 < n.deps.length := by simp at g2; omega
        simp [this]
      · (conv => whnf)
        refine h 0 ?_
        rw [fin]
        have : ¬ 16 < n.deps.length := by simp at g2; omega
        simp [this]

theorem nodup_take {a : B} {l : List B} {i : Nat} (hi : i < l.length) : (a :: l.take (i + 1)).Nodup ↔ (a :: l.take i).Nodup ∧ l[i] ≠ a ∧ l[i] ∉ l.take i := by
  rw [List.take_succ_eq_append_getElem hi]
  simp only [List.nodup_cons, List.mem_append, List.mem_singleton, not_or, List.nodup_append, List.nodup_nil, and_true, List.not_mem_nil, not_false_eq_true]
  constructor
  · rintro ⟨⟨h1, h2⟩, h3, h4, h5⟩
    exact ⟨⟨h1, h3⟩, fun e => h2 e.symm, fun hm => h5 _ hm _ rfl rfl⟩
  · rintro ⟨⟨h1, h3⟩, h2, h5⟩
    exact ⟨⟨h1, fun e => h2 e.symm⟩, h3, trivial, fun x hx y hy e => h5 (by rw [← hy, ← e]; exact hx)⟩

theorem refOne_calls (n : Nd) (hn : n.deps.length < 10000) {R} (h : ∀ e, e = oneP n → R (vi e) []) : ACalls Try.prog 73 [.agg n.enc] [] R := by
  refine acalls_of_xwp (an := an73) tab_ok Try.func73 ?_
  have bad : oneBad n = true → R (vi 1) [] := fun hb => h 1 (by simp [oneP, hb])
  have len : (strs n.deps).length = n.deps.length := strs_length _
  (conv => whnf)
  refine refName_calls n.name ?_
  (conv => whnf)
  refine br_intro (fun h1 => ?_) (fun h1 => ?_)
  · (conv => whnf)
    exact bad (by simp at h1; simp [oneBad, h1])
  have h1 : nameOk n.name = true := by simpa using h1
  (conv => whnf)
  refine br_intro (fun h2 => ?_) (fun h2 => ?_)
  · (conv => whnf)
    refine br_intro (fun h3 => ?_) (fun h3 => ?_)
    · (conv => whnf)
      refine bad ?_
      have h3 : 0 < n.deps.length := by rw [len] at h3; simp at h3; omega
      simp [oneBad, h2, h3]
    · (conv => whnf)
      have h3 : n.deps.length = 0 := by rw [len] at h3; simpa using h3
      refine br_intro (fun h4 => ?_) (fun h4 => ?_)
      · (conv => whnf)
        refine bad ?_
        have h4 : ¬ n.rule = 0 := by
          rintro e
          rw [e] at h4
          simp at h4
        unfold oneBad
        rw [h1, h2, decide_eq_false h4]
        simp
      · (conv => whnf)
        have h4 : n.rule = 0 := by
          have : ((n.rule.toNat : Nat) : Int) = ((0 : U).toNat : Int) := by simpa using h4
          exact u_inj.1 this
        have hb : oneBad n = false := by
          unfold oneBad
          rw [h1, h2, h3, h4]
          simp
        refine LoopP.ind1 (fun (i : Nat) => [(3, vi i)]) (fun _ => []) (fun i => n.deps.length - i) (fun i => i ≤ n.deps.length ∧ (n.name :: n.deps.take i).Nodup) 0 rfl ⟨by omega, by simp⟩ ?_
        rintro i ⟨h0, hd⟩ IH
        (conv => whnf)
        refine br_intro (fun hc => ?_) (fun hc => ?_)
        · have hc := lt_of_decE len hc
          have dup : ¬ (n.name :: n.deps.take (i + 1)).Nodup → R (vi 1) [] := by
            intro hn
            refine h 1 ?_
            have : ¬ (n.name :: n.deps).Nodup := by
              intro hd'
              apply hn
              have : (n.name :: n.deps.take (i + 1)).Sublist (n.name :: n.deps) := List.Sublist.cons_cons _ (List.take_sublist _ _)
              exact hd'.sublist this
            unfold oneP
            rw [if_neg (by rw [hb]; simp), if_pos this]
          (conv => whnf); (repeat ((with_reducible refine must_intro ?_ ?_); exact decide_eq_true (by omega); (conv => whnf)))
          refine idxK_map_intro (show (i : Int).toNat < n.deps.length by simpa using hc) ?_
          rw [show n.deps[(i : Int).toNat]'(by simpa using hc) = n.deps[i] from by congr 1]
          (conv => whnf)
          refine br_intro (fun he => ?_) (fun he => ?_)
          · have he : n.deps[i] = n.name := by simpa [ofB_eq] using he
            (conv => whnf)
            exact dup (by rw [nodup_take hc]; intro hh; exact hh.2.1 he)
          · have he : n.deps[i] ≠ n.name := by simpa [ofB_eq] using he
            (conv => whnf); (repeat ((with_reducible refine must_intro ?_ ?_); exact decide_eq_true (by omega); (conv => whnf)))
            refine idxK_map_intro (show (i : Int).toNat < n.deps.length by simpa using hc) ?_
            rw [show n.deps[(i : Int).toNat]'(by simpa using hc) = n.deps[i] from by congr 1]
            (conv => whnf)
            refine Place_calls (n.deps.take i) n.deps[i] (by simp; omega) (by simp [strs, List.map_take]) fun p hp => ?_
            (conv => whnf)
            refine br_intro (fun hg => ?_) (fun hg => ?_)
            · have hg : n.deps[i] ∈ n.deps.take i := by
                have : 0 ≤ p := by simpa using hg
                rw [hp] at this
                exact Classical.byContradiction fun e => by have := placeI_neg.2 e; omega
              (conv => whnf)
              exact dup (by rw [nodup_take hc]; intro hh; exact hh.2.2 hg)
            · have hg : n.deps[i] ∉ n.deps.take i := by
                have : p < 0 := by simpa using hg
                rw [hp] at this
                exact placeI_neg.1 this
              (conv => whnf)
              rw [i64_nat (by omega)]
              exact IH (i + 1) ⟨by omega, (nodup_take hc).2 ⟨hd, he, hg⟩⟩ (by omega)
        · have hc := ge_of_decE len hc
          rw [List.take_of_length_le hc] at hd
          have fin : oneP n = (if 16 < n.deps.length then 5 else 0) := by
            unfold oneP
            rw [if_neg (by rw [hb]; simp), if_neg (not_not_intro hd)]
          (conv => whnf)
          rw [len]
          refine br_intro (fun g2 => ?_) (fun g2 => ?_)
          · (conv => whnf)
            refine h 5 ?_
            rw [fin]
            have : 16 < n.deps.length := by simp at g2; omega
            simp [this]
          · (conv => whnf)
            refine h 0 ?_
            rw [fin]
            have : ¬ 16 < n.deps.length := by simp at g2; omega
            simp [this]
  · (conv => whnf)
    have hb : oneBad n = false := by
      unfold oneBad
      rw [h1, h2]
      simp
    refine LoopP.ind1 (fun (i : Nat) => [(3, vi i)]) (fun _ => []) (fun i => n.deps.length - i) (fun i => i ≤ n.deps.length ∧ (n.name :: n.deps.take i).Nodup) 0 rfl ⟨by omega, by simp⟩ ?_
    rintro i ⟨h0, hd⟩ IH
    (conv => whnf)
    refine br_intro (fun hc => ?_) (fun hc => ?_)
    · have hc := lt_of_decE len hc
      have dup : ¬ (n.name :: n.deps.take (i + 1)).Nodup → R (vi 1) [] := by
        intro hn
        refine h 1 ?_
        have : ¬ (n.name :: n.deps).Nodup := by
          intro hd'
          apply hn
          have : (n.name :: n.deps.take (i + 1)).Sublist (n.name :: n.deps) := List.Sublist.cons_cons _ (List.take_sublist _ _)
          exact hd'.sublist this
        unfold oneP
        rw [if_neg (by rw [hb]; simp), if_pos this]
      (conv => whnf); (repeat ((with_reducible refine must_intro ?_ ?_); exact decide_eq_true (by omega); (conv => whnf)))
      refine idxK_map_intro (show (i : Int).toNat < n.deps.length by simpa using hc) ?_
      rw [show n.deps[(i : Int).toNat]'(by simpa using hc) = n.deps[i] from by congr 1]
      (conv => whnf)
      refine br_intro (fun he => ?_) (fun he => ?_)
      · have he : n.deps[i] = n.name := by simpa [ofB_eq] using he
        (conv => whnf)
        exact dup (by rw [nodup_take hc]; intro hh; exact hh.2.1 he)
      · have he : n.deps[i] ≠ n.name := by simpa [ofB_eq] using he
        (conv => whnf); (repeat ((with_reducible refine must_intro ?_ ?_); exact decide_eq_true (by omega); (conv => whnf)))
        refine idxK_map_intro (show (i : Int).toNat < n.deps.length by simpa using hc) ?_
        rw [show n.deps[(i : Int).toNat]'(by simpa using hc) = n.deps[i] from by congr 1]
        (conv => whnf)
        refine Place_calls (n.deps.take i) n.deps[i] (by simp; omega) (by simp [strs, List.map_take]) fun p hp => ?_
        (conv => whnf)
        refine br_intro (fun hg => ?_) (fun hg => ?_)
        · have hg : n.deps[i] ∈ n.deps.take i := by
            have : 0 ≤ p := by simpa using hg
            rw [hp] at this
            exact Classical.byContradiction fun e => by have := placeI_neg.2 e; omega
          (conv => whnf)
          exact dup (by rw [nodup_take hc]; intro hh; exact hh.2.2 hg)
        · have hg : n.deps[i] ∉ n.deps.take i := by
            have : p < 0 := by simpa using hg
            rw [hp] at this
            exact placeI_neg.1 this
          (conv => whnf)
          rw [i64_nat (by omega)]
          exact IH (i + 1) ⟨by omega, (nodup_take hc).2 ⟨hd, he, hg⟩⟩ (by omega)
    · have hc := ge_of_decE len hc
      rw [List.take_of_length_le hc] at hd
      have fin : oneP n = (if 16 < n.deps.length then 5 else 0) := by
        unfold oneP
        rw [if_neg (by rw [hb]; simp), if_neg (not_not_intro hd)]
      (conv => whnf)
      rw [len]
      refine br_intro (fun g2 => ?_) (fun g2 => ?_)
      · (conv => whnf)
        refine h 5 ?_
        rw [fin]
        have : 16 < n.deps.length := by simp at g2; omega
        simp [this]
      · (conv => whnf)
        refine h 0 ?_
        rw [fin]
        have : ¬ 16 < n.deps.length := by simp at g2; omega
        simp [this]

/-! ### maps of texts, whatever stands in them -/
def KeyMap (Pv : AV → Prop) (es : List (ByteArray × AV)) (S : B → Prop) : Prop := ∀ s, (S s → ∃ v, mapFind es (ofB s) = some v ∧ Pv v) ∧ (¬ S s → mapFind es (ofB s) = none)
theorem mapFind_put (es : List (ByteArray × AV)) (k k' : ByteArray) (v : AV) : mapFind (mapPut es k v) k' = if k = k' then some v else mapFind es k' := by
  induction es with
  | nil => simp [mapPut, mapFind]
  | cons e es ih =>
    obtain ⟨s, u⟩ := e
    simp only [mapPut]
    by_cases h : s = k
    · subst h
      rw [if_pos rfl]
      simp only [mapFind]
      split <;> simp_all
    · rw [if_neg h]
      simp only [mapFind, ih]
      by_cases h1 : s = k'
      · subst h1
        rw [if_pos rfl, if_neg (Ne.symm h), if_pos rfl]
      · rw [if_neg h1, if_neg h1]
theorem KeyMap.nil (Pv : AV → Prop) : KeyMap Pv [] fun _ => False := fun s => ⟨fun h => h.elim, fun _ => rfl⟩
theorem KeyMap.put {Pv : AV → Prop} {es : List (ByteArray × AV)} {S S' : B → Prop} (h : KeyMap Pv es S) (k : B) {v : AV} (hv : Pv v) (hS : ∀ s, S' s ↔ S s ∨ s = k) : KeyMap Pv (mapPut es (ofB k) v) S' := by
  intro s
  rw [mapFind_put]
  by_cases e : k = s
  · subst e
    rw [if_pos rfl]
    exact ⟨fun _ => ⟨v, rfl, hv⟩, fun hn => absurd ((hS k).2 (.inr rfl)) hn⟩
  · rw [if_neg (fun e' => e (ofB_inj e'))]
    refine ⟨fun hs => (h s).1 (((hS s).1 hs).resolve_right (fun e' => e e'.symm)), fun hs => (h s).2 fun hs' => hs ((hS s).2 (.inl hs'))⟩

theorem places_calls (l : List Nd) (hl : l.length < 1000000) {R} (h : ∀ es, KeyMap (fun v => ∃ j, v = vi j) es (fun s => s ∈ l.map (·.name)) → R (.mapv 0) [.map es]) : ACalls Try.prog 77 [.sl none 4 (nds l)] [] R := by
  refine acalls_of_xwp (an := an77) tab_ok Try.func77 ?_
  have hsl := nds_length l
  (conv => whnf)
  refine LoopP.ind2 (fun (i : Nat) (es : List (ByteArray × AV)) => [(9, vi i)]) (fun _ es => [(nameOf 6, .map es)]) (fun i _ => l.length - i) (fun i es => i ≤ l.length ∧ KeyMap (fun v => ∃ j, v = vi j) es (fun s => s ∈ (l.take i).map (·.name))) 0 [] rfl ⟨by omega, by simpa using KeyMap.nil _⟩ ?_
  rintro i es ⟨h0, h1⟩ IH
  (conv => whnf)
  refine br_intro (fun hc => ?_) (fun hc => ?_)
  · have hc := lt_of_decE hsl hc
    (conv => whnf); (repeat ((with_reducible refine must_intro ?_ ?_); exact decide_eq_true (by omega); (conv => whnf)))
    refine idxK_map_intro (show (i : Int).toNat < l.length by simpa using hc) ?_
    rw [show l[(i : Int).toNat]'(by simpa using hc) = l[i] from by congr 1]
    (conv => whnf)
    rw [i64_nat (by omega)]
    refine IH (i + 1) (mapPut es (ofB l[i].name) (vi i)) ⟨by omega, ?_⟩ (by omega)
    refine h1.put l[i].name ⟨_, rfl⟩ fun s => ?_
    rw [List.take_succ_eq_append_getElem hc]
    simp only [List.map_append, List.map_cons, List.map_nil, List.mem_append, List.mem_singleton]
  · have hc := ge_of_decE hsl hc
    (conv => whnf)
    refine h es ?_
    rwa [List.take_of_length_le hc] at h1
end Go.Abs
