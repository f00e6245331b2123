/- Graphs: what is wrong with nodes. -/
import Derived.Test.YtlagdcbgkfaheaaE5
set_option maxRecDepth 100000
set_option linter.unusedVariables false
set_option linter.unusedSimpArgs false
namespace Go.Abs
open Go Go.Proofs
attribute [local irreducible] ibits byteAt strLt firstIdx

/-- What is wrong with nodes, one by one. -/
def chk1 : List Nd → List B → Int
  | [], _ => 0
  | n :: r, seen => if n.name ∈ seen then 1 else if oneP n ≠ 0 then oneP n else chk1 r (seen ++ [n.name])
def depsOk (l : List Nd) : Bool := l.all fun n => n.deps.all fun d => decide (d ∈ l.map (·.name))
def checkP (l : List Nd) : Int := if 64 < l.length then 5 else if chk1 l [] ≠ 0 then chk1 l [] else if depsOk l = false then 6 else if (rowP l).length < l.length then 9 else 0
theorem chk1_nodup : ∀ (l : List Nd) (seen : List B), chk1 l seen = 0 → (l.map (·.name)).Nodup ∧ ∀ n ∈ l, n.name ∉ seen := by
  intro l
  induction l with
  | nil => intro seen _; simp
  | cons n r ih =>
    intro seen h
    unfold chk1 at h
    split at h
    · cases h
    · rename_i hn
      split at h
      · rename_i h0; exact absurd h h0
      · obtain ⟨h1, h2⟩ := ih _ h
        refine ⟨?_, fun m hm => ?_⟩
        · rw [List.map_cons, List.nodup_cons]
          refine ⟨fun hm => ?_, h1⟩
          obtain ⟨m, hm, e⟩ := List.mem_map.1 hm
          exact h2 m hm (by rw [e]; simp)
        · rw [List.mem_cons] at hm
          rcases hm with rfl | hm
          · exact hn
          · exact fun hs => h2 m hm (by simp [hs])
/-- On from a place. -/
theorem chk1_drop {l : List Nd} {i : Nat} (hi : i < l.length) (seen : List B) : chk1 (l.drop i) seen = if l[i].name ∈ seen then 1 else if oneP l[i] ≠ 0 then oneP l[i] else chk1 (l.drop (i + 1)) (seen ++ [l[i].name]) := by
  rw [List.drop_eq_getElem_cons hi, chk1]
def names (l : List Nd) : List B := l.map (·.name)
theorem names_take {l : List Nd} {i : Nat} (hi : i < l.length) : names (l.take (i + 1)) = names (l.take i) ++ [l[i].name] := by
  unfold names
  rw [List.take_succ_eq_append_getElem hi, List.map_append]
  rfl

theorem depsOk_false {l : List Nd} {i j : Nat} (hi : i < l.length) (hj : j < l[i].deps.length) (h : l[i].deps[j] ∉ names l) : depsOk l = false := by
  unfold depsOk
  apply Bool.eq_false_iff.2
  intro hall
  have := List.all_eq_true.1 (List.all_eq_true.1 hall _ (List.getElem_mem hi)) _ (List.getElem_mem hj)
  exact h (of_decide_eq_true this)
theorem depsOk_true {l : List Nd} (h : ∀ n ∈ l, ∀ d ∈ n.deps, d ∈ names l) : depsOk l = true := by
  unfold depsOk
  rw [List.all_eq_true]
  intro n hn
  rw [List.all_eq_true]
  intro d hd
  exact decide_eq_true (h n hn d hd)


theorem Check_calls (l : List Nd) (hl : small l) {R} (h : ∀ e, e = checkP l → R (vi e) []) : ACalls Try.prog 46 [.sl none 4 (nds l)] [] R := by
  refine acalls_of_xwp (an := an46) tab_ok Try.func46 ?_
  have hl' := hl
  obtain ⟨hlen, hsm⟩ := hl
  have hsl := nds_length l
  (conv => whnf)
  refine br_intro (fun hc => ?_) (fun hc => ?_)
  · (conv => whnf)
    refine h 5 ?_
    have : 64 < l.length := by rw [hsl] at hc; simp at hc; omega
    simp [checkP, this]
  have h64 : ¬ 64 < l.length := by rw [hsl] at hc; simp at hc; omega
  have bad1 : ∀ e, e ≠ 0 → chk1 l [] = e → R (vi e) [] := fun e hb he => h _ (by unfold checkP; rw [if_neg h64, if_pos (by rw [he]; exact hb), he])
  (conv => whnf)
  refine New_nil ?_
  (conv => whnf)
  refine LoopP.step ?_
  (conv => whnf)
  refine br_intro (fun hc => ?_) (fun hc => ?_)
  · have hc : 0 < l.length := lt_of_decE (i := 0) hsl hc
    obtain ⟨hs1, hs2, hs3⟩ := hsm _ (List.getElem_mem hc)
    have hd0 := chk1_drop hc []
    rw [List.drop_zero, if_neg (by simp)] at hd0
    (conv => whnf); (repeat ((with_reducible refine must_intro ?_ ?_); exact decide_eq_true (by omega); (conv => whnf)))
    refine idxK_map_intro (show (0 : Int).toNat < l.length by simpa using hc) ?_
    rw [show l[(0 : Int).toNat]'(by simpa using hc) = l[0] from by congr 1]
    (conv => whnf)
    refine ID_new l[0].name ?_
    (conv => whnf)
    refine one_calls l[0] (by omega) fun e he => ?_
    (conv => whnf)
    refine br_intro (fun g => ?_) (fun g => ?_)
    · have g : e ≠ 0 := by simpa using g
      (conv => whnf)
      exact bad1 e g (by rw [hd0, ← he, if_pos g])
    · have g : e = 0 := by simpa using g
      rw [← he, if_neg (by rw [g]; simp)] at hd0
      have e0 : names (l.take 1) = [l[0].name] := names_take (i := 0) hc
      (conv => whnf)
      refine LoopP.ind1 (fun (i : Nat) => [(22, vi i)]) (fun i => [(freshN 19 0, tblO (freshN 30 0) (freshN 30 1) (names (l.take i))), (freshN 30 0, tblR (names (l.take i))), (freshN 30 1, tblM (names (l.take i)))]) (fun i => l.length - i) (fun i => i ≤ l.length ∧ chk1 (l.drop i) (names (l.take i)) = chk1 l []) 1 ?_ ⟨by omega, ?_⟩ ?_
      · rw [e0]; rfl
      · rw [e0]; exact hd0.symm
      rintro i ⟨h0, hch⟩ IH
      have hnl : (names (l.take i)).length ≤ l.length := by simp [names]; omega
      (conv => whnf)
      refine br_intro (fun hc => ?_) (fun hc => ?_)
      · have hc := lt_of_decE hsl hc
        obtain ⟨hs1, hs2, hs3⟩ := hsm _ (List.getElem_mem hc)
        rw [chk1_drop hc] at hch
        (conv => whnf); (repeat ((with_reducible refine must_intro ?_ ?_); exact decide_eq_true (by omega); (conv => whnf)))
        refine idxK_map_intro (show (i : Int).toNat < l.length by simpa using hc) ?_
        rw [show l[(i : Int).toNat]'(by simpa using hc) = l[i] from by congr 1]
        (conv => whnf)
        by_cases hm : l[i].name ∈ names (l.take i)
        · rw [if_pos hm] at hch
          refine ID_old _ _ hm fun j => ?_
          (conv => whnf)
          exact bad1 1 (by omega) hch.symm
        · rw [if_neg hm] at hch
          refine ID_more _ _ (by omega) hm fun j => ?_
          (conv => whnf)
          refine one_calls l[i] (by omega) fun e he => ?_
          rw [← he] at hch
          (conv => whnf)
          refine br_intro (fun g => ?_) (fun g => ?_)
          · have g : e ≠ 0 := by simpa using g
            rw [if_pos g] at hch
            (conv => whnf)
            exact bad1 e g hch.symm
          · have g : e = 0 := by simpa using g
            rw [if_neg (by rw [g]; simp), ← names_take hc] at hch
            (conv => whnf)
            rw [i64_nat (by omega), ← names_take hc]
            exact IH (i + 1) ⟨by omega, hch⟩ (by omega)
      · have hc := ge_of_decE hsl hc
        rw [List.drop_eq_nil_of_le hc, chk1] at hch
        have hchk := hch.symm
        (conv => whnf)
        refine places_calls l (by omega) fun es hes => ?_
        (conv => whnf)
        refine LoopP.ind1 (fun (i : Nat) => [(45, vi i)]) (fun _ => [(freshN 42 0, .map es)]) (fun i => l.length - i) (fun i => i ≤ l.length ∧ ∀ n ∈ l.take i, ∀ d ∈ n.deps, d ∈ names l) 0 rfl ⟨by omega, by simp⟩ ?_
        rintro i ⟨h0, hdo⟩ IH
        (conv => whnf)
        refine br_intro (fun hc => ?_) (fun hc => ?_)
        · have hc := lt_of_decE hsl hc
          have hsl3 := strs_length l[i].deps
          obtain ⟨hs1, hs2, hs3⟩ := hsm _ (List.getElem_mem hc)
          (conv => whnf); (repeat ((with_reducible refine must_intro ?_ ?_); exact decide_eq_true (by omega); (conv => whnf)))
          refine idxK_map_intro (show (i : Int).toNat < l.length by simpa using hc) ?_
          rw [show l[(i : Int).toNat]'(by simpa using hc) = l[i] from by congr 1]
          (conv => whnf)
          refine LoopP.ind1 (fun (j : Nat) => [(52, vi j)]) (fun _ => [(freshN 42 0, .map es)]) (fun j => l[i].deps.length - j) (fun j => j ≤ l[i].deps.length ∧ ∀ d ∈ l[i].deps.take j, d ∈ names l) 0 rfl ⟨by omega, by simp⟩ ?_
          rintro j ⟨hj0, hjo⟩ IH2
          (conv => whnf)
          refine br_intro (fun hc2 => ?_) (fun hc2 => ?_)
          · have hc2 := lt_of_decE hsl3 hc2
            (conv => whnf); (repeat ((with_reducible refine must_intro ?_ ?_); exact decide_eq_true (by omega); (conv => whnf)))
            refine idxK_map_intro (show (j : Int).toNat < l[i].deps.length by simpa using hc2) ?_
            rw [show l[i].deps[(j : Int).toNat]'(by simpa using hc2) = l[i].deps[j] from by congr 1]
            (conv => whnf)
            by_cases hm : l[i].deps[j] ∈ names l
            · obtain ⟨v, e1, x, rfl⟩ := (hes _).1 hm
              rw [e1]
              (conv => whnf)
              rw [i64_nat (by omega)]
              refine IH2 (j + 1) ⟨by omega, fun d hd => ?_⟩ (by omega)
              rw [List.take_succ_eq_append_getElem hc2, List.mem_append, List.mem_singleton] at hd
              rcases hd with hd | rfl
              · exact hjo d hd
              · exact hm
            · rw [(hes _).2 hm]
              (conv => whnf)
              refine h 6 ?_
              unfold checkP
              rw [if_neg h64, if_neg (by rw [hchk]; simp), if_pos (depsOk_false hc hc2 hm)]
          · have hc2 := ge_of_decE hsl3 hc2
            rw [List.take_of_length_le hc2] at hjo
            (conv => whnf)
            rw [i64_nat (by omega)]
            refine IH (i + 1) ⟨by omega, fun n hn => ?_⟩ (by omega)
            rw [List.take_succ_eq_append_getElem hc, List.mem_append, List.mem_singleton] at hn
            rcases hn with hn | rfl
            · exact hdo n hn
            · exact hjo
        · have hc := ge_of_decE hsl hc
          rw [List.take_of_length_le hc] at hdo
          (conv => whnf)
          refine row_calls l hl' fun r hr => ?_
          have hrl := ints_length r
          have fin : checkP l = if r.length < l.length then 9 else 0 := by
            unfold checkP
            rw [if_neg h64, if_neg (by rw [hchk]; simp), if_neg (by rw [depsOk_true hdo]; simp), hr]
          (conv => whnf)
          rw [hrl, hsl]
          refine br_intro (fun g2 => ?_) (fun g2 => ?_)
          · (conv => whnf)
            exact h 9 (by rw [fin, if_pos (lt_of_dec g2)])
          · (conv => whnf)
            exact h 0 (by rw [fin, if_neg (by have := ge_of_dec g2; omega)])
  · have hc : l.length ≤ 0 := ge_of_decE (i := 0) hsl hc
    have hnil : l = [] := List.eq_nil_of_length_eq_zero (by omega)
    have hchk : chk1 l [] = 0 := by rw [hnil]; rfl
    (conv => whnf)
    refine places_calls l (by omega) fun es hes => ?_
    (conv => whnf)
    refine LoopP.ind1 (fun (i : Nat) => [(45, vi i)]) (fun _ => [(freshN 42 0, .map es)]) (fun i => l.length - i) (fun i => i ≤ l.length ∧ ∀ n ∈ l.take i, ∀ d ∈ n.deps, d ∈ names l) 0 rfl ⟨by omega, by simp⟩ ?_
    rintro i ⟨h0, hdo⟩ IH
    (conv => whnf)
    refine br_intro (fun hc => ?_) (fun hc => ?_)
    · have hc := lt_of_decE hsl hc
      have hsl3 := strs_length l[i].deps
      obtain ⟨hs1, hs2, hs3⟩ := hsm _ (List.getElem_mem hc)
      (conv => whnf); (repeat ((with_reducible refine must_intro ?_ ?_); exact decide_eq_true (by omega); (conv => whnf)))
      refine idxK_map_intro (show (i : Int).toNat < l.length by simpa using hc) ?_
      rw [show l[(i : Int).toNat]'(by simpa using hc) = l[i] from by congr 1]
      (conv => whnf)
      refine LoopP.ind1 (fun (j : Nat) => [(52, vi j)]) (fun _ => [(freshN 42 0, .map es)]) (fun j => l[i].deps.length - j) (fun j => j ≤ l[i].deps.length ∧ ∀ d ∈ l[i].deps.take j, d ∈ names l) 0 rfl ⟨by omega, by simp⟩ ?_
      rintro j ⟨hj0, hjo⟩ IH2
      (conv => whnf)
      refine br_intro (fun hc2 => ?_) (fun hc2 => ?_)
      · have hc2 := lt_of_decE hsl3 hc2
        (conv => whnf); (repeat ((with_reducible refine must_intro ?_ ?_); exact decide_eq_true (by omega); (conv => whnf)))
        refine idxK_map_intro (show (j : Int).toNat < l[i].deps.length by simpa using hc2) ?_
        rw [show l[i].deps[(j : Int).toNat]'(by simpa using hc2) = l[i].deps[j] from by congr 1]
        (conv => whnf)
        by_cases hm : l[i].deps[j] ∈ names l
        · obtain ⟨v, e1, x, rfl⟩ := (hes _).1 hm
          rw [e1]
          (conv => whnf)
          rw [i64_nat (by omega)]
          refine IH2 (j + 1) ⟨by omega, fun d hd => ?_⟩ (by omega)
          rw [List.take_succ_eq_append_getElem hc2, List.mem_append, List.mem_singleton] at hd
          rcases hd with hd | rfl
          · exact hjo d hd
          · exact hm
        · rw [(hes _).2 hm]
          (conv => whnf)
          refine h 6 ?_
          unfold checkP
          rw [if_neg h64, if_neg (by rw [hchk]; simp), if_pos (depsOk_false hc hc2 hm)]
      · have hc2 := ge_of_decE hsl3 hc2
        rw [List.take_of_length_le hc2] at hjo
        (conv => whnf)
        rw [i64_nat (by omega)]
        refine IH (i + 1) ⟨by omega, fun n hn => ?_⟩ (by omega)
        rw [List.take_succ_eq_append_getElem hc, List.mem_append, List.mem_singleton] at hn
        rcases hn with hn | rfl
        · exact hdo n hn
        · exact hjo
    · have hc := ge_of_decE hsl hc
      rw [List.take_of_length_le hc] at hdo
      (conv => whnf)
      refine row_calls l hl' fun r hr => ?_
      have hrl := ints_length r
      have fin : checkP l = if r.length < l.length then 9 else 0 := by
        unfold checkP
        rw [if_neg h64, if_neg (by rw [hchk]; simp), if_neg (by rw [depsOk_true hdo]; simp), hr]
      (conv => whnf)
      rw [hrl, hsl]
      refine br_intro (fun g2 => ?_) (fun g2 => ?_)
      · (conv => whnf)
        exact h 9 (by rw [fin, if_pos (lt_of_dec g2)])
      · (conv => whnf)
        exact h 0 (by rw [fin, if_neg (by have := ge_of_dec g2; omega)])
end Go.Abs
