/- slices.Clone of deps, record.Clone; slices.Backward's closure (records): its contract as an iterator. -/
import Derived.Test.YtlagdcbgkfaheaaF7
import Derived.Shelf.Abstract
import Derived.WalkKit
import Derived.OwnWalkIn
import Derived.TacticsInMore
import Derived.LoopNIn
import Derived.LoopIn
set_option maxRecDepth 100000
set_option maxHeartbeats 2000000
set_option linter.unusedVariables false
set_option linter.unusedSimpArgs false
namespace Go.Abs
open Go Go.Proofs Go.RowKit
attribute [local go_sem] Oper.semAt_some

theorem CloneD_calls (l : List Dp) (hl : l.length < 1000000) {R} (h : R (.sl none 3 (dpsA l)) []) : ACalls Try.prog 106 [.sl none 3 (dpsA l)] [] R := by
  refine ACalls.res ?_
  refine acalls_of_xwp (an := an106) tab_ok Try.func106 ?_
  have hsl := dpsA_length l
  (conv => whnf)
  intro b hb
  refine br_intro (fun g => ?_) (fun g => ?_)
  · have e := hb g
    rw [e] at h
    (conv => whnf)
    exact res_le (le_nil 3) rfl h
  · (conv => whnf)
    refine ⟨rfl, (by show (0 + (dpsA l).length) * (32 + 1) ≤ _; omega), ?_⟩
    (conv => whnf)
    refine res_same ?_
    exact h
theorem Clone_calls (r : Rc) (hl : r.deps.length < 1000000) {R} (h : R (.agg r.enc) []) : ACalls Try.prog 91 [.agg r.enc] [] R := by
  refine acalls_of_xwp (an := an91) tab_ok Try.func91 ?_
  (conv => whnf)
  refine CloneD_calls r.deps hl ?_
  (conv => whnf)
  exact h

def backsR (l : List Rc) : List (List AV) := l.zipIdx.reverse.map fun p => [.val (.int .i64 p.2), .agg p.1.enc]
theorem Rc.enc_ok (r : Rc) : okCells r.enc = true := rfl

theorem back_iterR (l : List Rc) (hl : l.length < 1000000) : AIter Try.prog 105 [.cptr [.sl none 7 (recs l)] 0] (backsR l) := by
  refine ⟨fun args w => run_callFunc (by kernel_rfl), fun G w lb hk hr => ?_⟩
  simp only [RepL, Rep, RepC] at hr
  obtain ⟨_, _, rfl, ⟨b, o, rfl, ⟨⟨v, hv, ⟨A, c, rfl, hc, hE⟩, _⟩, _⟩, _⟩, rfl⟩ := hr
  have hval : ∀ i : Nat, ∃ vs : List Value, ∀ s, l[i]? = some s → RepL ⟨G.K, fun _ => none⟩ s.enc vs ∧ ∃ b o, A = some ⟨b, o, none⟩ ∧ ∀ j v, vs[j]? = some v → G.K b (o + i * 7 + j) = some v := by
    intro i
    cases hs : l[i]? with
    | none => exact ⟨[], fun s h => by cases h⟩
    | some s =>
      obtain ⟨b', o', hA, _, _, hC⟩ := hE.get (i := i) (e := s.enc) (by rw [recs, List.getElem?_map, hs]; rfl)
      obtain ⟨vs, h1, h2⟩ := hC.vals
      refine ⟨vs, fun s' h => ?_⟩
      cases h
      refine ⟨RepL.nameless (G := G) (G' := ⟨G.K, fun _ => none⟩) (fun _ _ _ h => h) _ _ rfl h1, b', o', hA, fun j v hj => ?_⟩
      have := h2 j v hj
      simpa using this
  obtain ⟨f, hf⟩ := Classical.skolem.1 hval
  refine ⟨l.zipIdx.reverse.map fun p => #[.int .i64 p.2, .agg (f p.2).toArray], by simp [backsR], ?_, ?_⟩
  · intro i x e hx he
    unfold backsR at hx
    rw [List.getElem?_map, Option.map_eq_some_iff] at hx he
    obtain ⟨p, hp, rfl⟩ := hx
    obtain ⟨p', hp', rfl⟩ := he
    rw [hp] at hp'
    cases hp'
    have hm : p ∈ l.zipIdx := by rw [← List.mem_reverse]; exact List.mem_of_getElem? hp
    have hg : l[p.2]? = some p.1 := List.mk_mem_zipIdx_iff_getElem?.1 hm
    have := (hf p.2 p.1 hg).1
    simp only [RepL, Rep]
    exact ⟨_, _, rfl, rfl, _, _, rfl, ⟨_, rfl, this⟩, rfl⟩
  · intro lp n J Jx hY hJ h0
    rw [show FW none = Fence.wide from rfl] at hY ⊢
    refine callsIn_of_wp Try.func105 rfl trivial ?_ rfl
    simp only [Try.ntmps105, List.size_toArray, List.length_cons, List.length_nil, Nat.reduceAdd, Nat.reduceSub, Array.replicate_succ, Array.replicate_zero, List.push_toArray, List.append_toArray, List.nil_append, List.cons_append, Nat.add_zero]
    have hb := hJ 0 w h0 _ _ _ hv
    have hlen : (recs l).length = l.length := recs_length l
    rw [hlen] at hb hv hc
    have hNb : (l.length : Int) < 1000000 := by omega
    clear hl
    gi_wp2
    gi_loopw [3] (fun i wr => ∃ k : Nat, k ≤ l.length ∧ i = .int .i64 ((l.length : Int) - 1 - k) ∧ J k wr) (fun i _ => (intOf i + 1).toNat)
    case atStart => exact ⟨0, Nat.zero_le _, by simp, h0⟩
    case round =>
      obtain ⟨k, hk', rfl, hJs⟩ := hrel
      by_cases hlt : k < l.length
      · obtain ⟨i, hi⟩ : ∃ i : Nat, i + k + 1 = l.length := ⟨l.length - 1 - k, by omega⟩
        have hil : i < l.length := by omega
        have ei : (l.length : Int) - 1 - k = (i : Int) := by omega
        rw [ei]
        clear ei
        obtain ⟨s, hs⟩ : ∃ s, l[i]? = some s := ⟨l[i], List.getElem?_eq_getElem hil⟩
        have hb' := hJ k wr hJs _ _ _ hv
        obtain ⟨hR1, b', o', hA, hK⟩ := hf i s hs
        subst hA
        have hes : (l.zipIdx.reverse.map fun p => (#[.int .i64 p.2, .agg (f p.2).toArray] : Array Value))[k]? = some #[.int .i64 i, .agg (f i).toArray] := by
          have hk : k < l.zipIdx.length := by simp; omega
          rw [List.getElem?_map, List.getElem?_reverse hk]
          have e : l.zipIdx.length - 1 - k = i := by simp; omega
          rw [e, List.getElem?_zipIdx, hs]
          simp
        generalize hfi : f i = vs at hR1 hK hes
        have hvl : vs.length = 7 := by rw [hR1.length]; rfl
        obtain ⟨v0, v1, v2, v3, v4, v5, v6, rfl⟩ : ∃ v0 v1 v2 v3 v4 v5 v6, vs = [v0, v1, v2, v3, v4, v5, v6] := by
          match vs, hvl with
          | [v0, v1, v2, v3, v4, v5, v6], _ => exact ⟨_, _, _, _, _, _, _, rfl⟩
        have d0 := hJ k wr hJs _ _ _ (hK 0 v0 rfl)
        have d1 := hJ k wr hJs _ _ _ (hK 1 v1 rfl)
        have d2 := hJ k wr hJs _ _ _ (hK 2 v2 rfl)
        have d3 := hJ k wr hJs _ _ _ (hK 3 v3 rfl)
        have d4 := hJ k wr hJs _ _ _ (hK 4 v4 rfl)
        have d5 := hJ k wr hJs _ _ _ (hK 5 v5 rfl)
        have d6 := hJ k wr hJs _ _ _ (hK 6 v6 rfl)
        simp only [Nat.add_zero] at d0
        obtain ⟨fn, tmps, assign, body, hy, hR⟩ := hY (n - 1) k #[.int .i64 i, .agg #[v0, v1, v2, v3, v4, v5, v6]] wr hes hJs
        have hi0 : (0 : Int) ≤ i := by omega
        clear hY hJ h0 hE hb hf hval hR1 hK
        gi_wp2
        refine ⟨fun h => by simp [Fence.wide] at h, hR.mono ?_⟩
        rintro e W3 (⟨rfl, hJ3⟩ | ⟨rfl, hJx3⟩)
        · clear hR hy
          gi_wp2
          go_roundw
          case rel => exact ⟨k + 1, by omega, by congr 1 <;> (try push_cast) <;> omega, hJ3⟩
          case measure => first | (simp [intOf]; done) | (simp [intOf]; omega)
        · clear hR hy
          gi_wp2
          refine bodyPost_ret (results_none rfl _ _ _) rfl ?_
          exact ⟨⟨_, rfl⟩, .inr ⟨_, hJx3⟩⟩
      · have ek : k = l.length := by omega
        have e1 : (l.length : Int) - 1 - k = -1 := by omega
        rw [e1]
        have hJe : J l.length wr := ek ▸ hJs
        clear e1 ek hJs hlt hk' hY h0 hE hb hf hval
        gi_wp2
        go_end0
        refine ⟨⟨_, rfl⟩, .inl ?_⟩
        simpa using hJe
end Go.Abs
