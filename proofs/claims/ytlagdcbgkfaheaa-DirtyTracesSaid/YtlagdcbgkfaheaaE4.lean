/- Graphs: the order. -/
import Derived.Test.YtlagdcbgkfaheaaE3
set_option maxRecDepth 100000
set_option linter.unusedVariables false
set_option linter.unusedSimpArgs false
namespace Go.Abs
open Go Go.Proofs
attribute [local irreducible] ibits byteAt strLt firstIdx

/-- The name of a place. -/
def nm (l : List Nd) (i : Nat) : B := ((l[i]?).map (·.name)).getD []
theorem nm_eq {l : List Nd} {i : Nat} (h : i < l.length) : nm l i = l[i].name := by simp [nm, List.getElem?_eq_getElem h]
def dps (l : List Nd) (i : Nat) : List B := ((l[i]?).map (·.deps)).getD []
theorem dps_eq {l : List Nd} {i : Nat} (h : i < l.length) : dps l i = l[i].deps := by simp [dps, List.getElem?_eq_getElem h]
def ready (l : List Nd) (D : List B) (i : Nat) : Bool := decide (nm l i ∉ D) && decide (∀ d ∈ dps l i, d ∈ D)
def bstep (l : List Nd) (D : List B) (best : Option Nat) (i : Nat) : Option Nat :=
  if ready l D i = true ∧ (∀ b, best = some b → ltB (nm l i) (nm l b) = true) then some i else best
def best (l : List Nd) (D : List B) (k : Nat) : Option Nat := (List.range k).foldl (bstep l D) none
theorem best_succ (l : List Nd) (D : List B) (k : Nat) : best l D (k + 1) = bstep l D (best l D k) k := by simp [best, List.range_succ]
theorem best_some {l : List Nd} {D : List B} : ∀ {k b : Nat}, best l D k = some b → b < k ∧ ready l D b = true := by
  intro k
  induction k with
  | zero => intro b h; simp [best] at h
  | succ k ih =>
    intro b h
    rw [best_succ] at h
    unfold bstep at h
    split at h
    · rename_i hc
      simp only [Option.some.injEq] at h
      subst h
      exact ⟨by omega, hc.1⟩
    · have := ih h
      exact ⟨by omega, this.2⟩
def bestI (o : Option Nat) : Int := match o with | none => -1 | some b => b
def rowFrom (l : List Nd) : Nat → List Nat → List Nat
  | 0, out => out
  | k + 1, out => match best l (out.map (nm l)) l.length with
    | none => out
    | some b => rowFrom l k (out ++ [b])
def rowP (l : List Nd) : List Nat := rowFrom l l.length []

/-! ### closures over what is done -/
abbrev isT (v : AV) : Prop := v = .val (.bool true)
theorem rowf_calls (s : B) (D : List B) (es : List (ByteArray × AV)) (hk : KeyMap isT es (· ∈ D)) {R} (h : R (.val (.bool (decide (s ∉ D)))) [.cells 71 [.mapv 1], .map es]) :
    ACalls Try.prog 97 [vs s, .ptr 0 0] [.cells 71 [.mapv 1], .map es] R := by
  refine acalls_of_xwp (an := an97) tab_ok Try.func97 ?_
  by_cases hs : s ∈ D
  · obtain ⟨v, h1, rfl⟩ := (hk s).1 hs
    (conv => whnf)
    rw [h1]
    rw [decide_eq_false (not_not_intro hs)] at h
    (conv => whnf)
    exact h
  · have h1 := (hk s).2 hs
    (conv => whnf)
    rw [h1]
    rw [decide_eq_true hs] at h
    (conv => whnf)
    exact h

theorem rowIdx_calls (l : List B) (hl : l.length < 1000000) (D : List B) (es : List (ByteArray × AV)) (hk : KeyMap isT es (· ∈ D)) {R} (h : ∀ p : Int, (0 ≤ p ↔ ∃ d ∈ l, d ∉ D) → R (vi p) [.cells 71 [.mapv 1], .map es]) :
    ACalls Try.prog 109 [.sl none 1 (strs l), .fn (.func 97) [] [.ptr 0 0]] [.cells 71 [.mapv 1], .map es] R := by
  refine acalls_of_xwp (an := an109) tab_ok Try.func109 ?_
  have hsl := strs_length l
  (conv => whnf)
  refine LoopP.ind1 (fun (i : Nat) => [(8, vi i)]) (fun _ => [(0, .cells 71 [.mapv 1]), (1, .map es)]) (fun i => l.length - i) (fun i => i ≤ l.length ∧ ∀ d ∈ l.take i, d ∈ D) 0 rfl ⟨by omega, by simp⟩ ?_
  rintro i ⟨h0, h1⟩ IH
  (conv => whnf)
  refine br_intro (fun hc => ?_) (fun hc => ?_)
  · have hc := lt_of_decE hsl hc
    (conv => whnf); (repeat ((with_reducible refine must_intro ?_ ?_); exact decide_eq_true (by omega); (conv => whnf)))
    refine idxK_map_intro (show (i : Int).toNat < l.length by simpa using hc) ?_
    rw [show l[(i : Int).toNat]'(by simpa using hc) = l[i] from by congr 1]
    (conv => whnf)
    refine rowf_calls l[i] D es hk ?_
    (conv => whnf)
    refine br_intro (fun he => ?_) (fun he => ?_)
    · have he : l[i] ∉ D := of_decide_eq_true he
      (conv => whnf)
      exact h _ ⟨fun _ => ⟨_, List.getElem_mem hc, he⟩, fun _ => by omega⟩
    · have he : l[i] ∈ D := by simpa using he
      (conv => whnf)
      rw [i64_nat (by omega)]
      refine IH (i + 1) ⟨by omega, fun d hd => ?_⟩ (by omega)
      rw [List.take_succ_eq_append_getElem hc, List.mem_append, List.mem_singleton] at hd
      rcases hd with hd | rfl
      · exact h1 d hd
      · exact he
  · have hc := ge_of_decE hsl hc
    rw [List.take_of_length_le hc] at h1
    (conv => whnf)
    exact h (-1) ⟨fun hh => by omega, fun ⟨d, hd, hn⟩ => absurd (h1 d hd) hn⟩

theorem rowAny_calls (l : List B) (hl : l.length < 1000000) (D : List B) (es : List (ByteArray × AV)) (hk : KeyMap isT es (· ∈ D)) {R} (h : ∀ b, b = decide (∃ d ∈ l, d ∉ D) → R (.val (.bool b)) [.cells 71 [.mapv 1], .map es]) :
    ACalls Try.prog 96 [.sl none 1 (strs l), .fn (.func 97) [] [.ptr 0 0]] [.cells 71 [.mapv 1], .map es] R := by
  refine acalls_of_xwp (an := an96) tab_ok Try.func96 ?_
  (conv => whnf)
  refine rowIdx_calls l hl D es hk fun p hp => ?_
  (conv => whnf)
  refine h _ ?_
  exact decide_eq_decide.2 hp

def small (l : List Nd) : Prop := l.length < 100000 ∧ ∀ n ∈ l, n.deps.length < 10000 ∧ n.name.length < 10000 ∧ ∀ d ∈ n.deps, d.length < 10000

theorem row_calls (l : List Nd) (hl : small l) {R} (h : ∀ r, r = rowP l → R (.sl none 1 (ints r)) []) : ACalls Try.prog 71 [.sl none 4 (nds l)] [] R := by
  refine acalls_of_xwp (an := an71) tab_ok Try.func71 ?_
  obtain ⟨hlen, hsm⟩ := hl
  have hsl := nds_length l
  (conv => whnf)
  refine LoopP.ind2 (fun (out : List Nat) (es : List (ByteArray × AV)) => [(4, .sl (some (nameOf 4)) 1 (ints out)), (12, vi out.length)]) (fun out es => [(nameOf 3, .cells 71 [.mapv (nameOf 9)]), (nameOf 4, .row 3 1 out.length), (nameOf 9, .map es)])
    (fun out _ => l.length - out.length) (fun out es => out.length ≤ l.length ∧ rowFrom l (l.length - out.length) out = rowP l ∧ KeyMap isT es (· ∈ out.map (nm l)) ∧ ∀ b ∈ out, b < l.length) [] [] rfl ⟨by simp, rfl, by simpa using KeyMap.nil _, by simp⟩ ?_
  rintro out es ⟨h0, h1, hk, hb⟩ IH
  have hol := ints_length out
  (conv => whnf)
  refine br_intro (fun hc => ?_) (fun hc => ?_)
  · have hc := lt_of_decE hsl hc
    (conv => whnf)
    refine LoopP.ind1 (fun (k : Nat) => [(5, vi (bestI (best l (out.map (nm l)) k))), (16, vi k)]) (fun _ => [(nameOf 3, .cells 71 [.mapv (nameOf 9)]), (nameOf 4, .row 3 1 out.length), (nameOf 9, .map es)]) (fun k => l.length - k) (fun k => k ≤ l.length) 0 rfl (by omega) ?_
    rintro k hk0 IH2
    (conv => whnf)
    refine br_intro (fun hc2 => ?_) (fun hc2 => ?_)
    · have hc2 := lt_of_decE hsl hc2
      (conv => whnf); (repeat ((with_reducible refine must_intro ?_ ?_); exact decide_eq_true (by omega); (conv => whnf)))
      refine idxK_map_intro (show (k : Int).toNat < l.length by simpa using hc2) ?_
      rw [show l[(k : Int).toNat]'(by simpa using hc2) = l[k] from by congr 1]
      (conv => whnf)
      have same : ready l (out.map (nm l)) k = false → bestI (best l (out.map (nm l)) k) = bestI (best l (out.map (nm l)) (k + 1)) := by
        intro hr
        rw [best_succ]
        unfold bstep
        rw [if_neg (by rw [hr]; simp)]
      by_cases hs : l[k].name ∈ out.map (nm l)
      · obtain ⟨v, e1, rfl⟩ := (hk _).1 hs
        have hr : ready l (out.map (nm l)) k = false := by
          unfold ready
          rw [nm_eq hc2, decide_eq_false (not_not_intro hs), Bool.false_and]
        rw [e1, same hr]
        (conv => whnf)
        rw [i64_nat (by omega)]
        exact IH2 (k + 1) (by omega) (by omega)
      · rw [(hk _).2 hs]
        (conv => whnf)
        refine rowAny_calls l[k].deps (by have := (hsm _ (List.getElem_mem hc2)).1; omega) (out.map (nm l)) es hk fun b hbq => ?_
        (conv => whnf)
        refine br_intro (fun hb1 => ?_) (fun hb1 => ?_)
        · have hb1 : b = false := by simpa using hb1
          have hr : ready l (out.map (nm l)) k = true := by
            unfold ready
            rw [nm_eq hc2, dps_eq hc2, decide_eq_true hs, Bool.true_and]
            apply decide_eq_true
            intro d hd
            rw [hb1] at hbq
            have := of_decide_eq_false hbq.symm
            exact Classical.byContradiction fun hn => this ⟨d, hd, hn⟩
          cases hbk : best l (out.map (nm l)) k with
          | none =>
            have e2 : best l (out.map (nm l)) (k + 1) = some k := by
              rw [best_succ, hbk]
              unfold bstep
              rw [if_pos ⟨hr, fun b hb => by cases hb⟩]
            (conv => whnf)
            rw [i64_nat (by omega)]
            have := IH2 (k + 1) (by omega) (by omega)
            rw [e2] at this
            exact this
          | some b0 =>
            obtain ⟨g1, g2⟩ := best_some hbk
            have g1 : b0 < l.length := by omega
            rw [show bestI (some b0) = (b0 : Int) from rfl]
            (conv => whnf); (repeat ((with_reducible refine must_intro ?_ ?_); exact decide_eq_true (by omega); (conv => whnf)))
            refine idxK_map_intro (show (b0 : Int).toNat < l.length by simpa using g1) ?_
            rw [show l[(b0 : Int).toNat]'(by simpa using g1) = l[b0] from by congr 1]
            (conv => whnf)
            rw [strLt_ofB]
            refine br_intro (fun hlt => ?_) (fun hlt => ?_)
            · have e2 : best l (out.map (nm l)) (k + 1) = some k := by
                rw [best_succ, hbk]
                unfold bstep
                rw [if_pos ⟨hr, fun b hb => by cases hb; rw [nm_eq hc2, nm_eq g1]; exact hlt⟩]
              (conv => whnf)
              rw [i64_nat (by omega)]
              have := IH2 (k + 1) (by omega) (by omega)
              rw [e2] at this
              exact this
            · have e2 : best l (out.map (nm l)) (k + 1) = some b0 := by
                rw [best_succ, hbk]
                unfold bstep
                rw [if_neg (fun hh => by have := hh.2 b0 rfl; rw [nm_eq hc2, nm_eq g1, hlt] at this; cases this)]
              (conv => whnf)
              rw [i64_nat (by omega)]
              have := IH2 (k + 1) (by omega) (by omega)
              rw [e2] at this
              exact this
        · have hb1 : b = true := by simpa using hb1
          have hr : ready l (out.map (nm l)) k = false := by
            unfold ready
            rw [dps_eq hc2, Bool.and_eq_false_iff]
            right
            apply decide_eq_false
            intro hall
            rw [hb1] at hbq
            obtain ⟨d, hd, hn⟩ := of_decide_eq_true hbq.symm
            exact hn (hall d hd)
          rw [same hr]
          (conv => whnf)
          rw [i64_nat (by omega)]
          exact IH2 (k + 1) (by omega) (by omega)
    · have hc2 := ge_of_decE hsl hc2
      obtain rfl : k = l.length := by omega
      obtain ⟨j, hj⟩ : ∃ j, l.length - out.length = j + 1 := ⟨l.length - out.length - 1, by omega⟩
      rw [hj, rowFrom] at h1
      cases hbk : best l (out.map (nm l)) l.length with
      | none =>
        rw [hbk] at h1
        (conv => whnf)
        exact h _ h1
      | some b =>
        rw [hbk] at h1
        obtain ⟨g1, g2⟩ := best_some hbk
        rw [show bestI (some b) = (b : Int) from rfl]
        (conv => whnf); (repeat ((with_reducible refine must_intro ?_ ?_); exact decide_eq_true (by omega); (conv => whnf)))
        refine idxK_map_intro (show (b : Int).toNat < l.length by simpa using g1) ?_
        rw [show l[(b : Int).toNat]'(by simpa using g1) = l[b] from by congr 1]
        (conv => whnf)
        refine ⟨hol.symm, ?_, ?_⟩
        · rw [hol]
          show (out.length + 1) * (8 + 1) ≤ _
          omega
        (conv => whnf)
        have e1 : ints out ++ [[AV.val (Value.int IntKind.i64 (b : Int))]] = ints (out ++ [b]) := by simp [ints, vi]
        have e2 : (ints out).length + [[AV.val (Value.int IntKind.i64 (b : Int))]].length = (out ++ [b]).length := by simp [hol]
        rw [e1, e2, i64_nat (by omega), show out.length + 1 = (out ++ [b]).length by simp]
        refine IH (out ++ [b]) (mapPut es (ofB l[b].name) (.val (.bool true))) ⟨by simp; omega, ?_, ?_, ?_⟩ (by simp; omega)
        · rw [← h1]
          congr 1
          simp; omega
        · refine hk.put l[b].name rfl fun s => ?_
          simp only [List.map_append, List.map_cons, List.map_nil, List.mem_append, List.mem_singleton, nm_eq g1]
        · intro x hx
          rw [List.mem_append, List.mem_singleton] at hx
          rcases hx with hx | rfl
          · exact hb x hx
          · exact g1
  · have hc := ge_of_decE hsl hc
    (conv => whnf)
    refine h out ?_
    rw [show l.length - out.length = 0 by omega] at h1
    exact h1
end Go.Abs
