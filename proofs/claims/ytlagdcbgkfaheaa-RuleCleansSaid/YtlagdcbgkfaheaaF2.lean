/- slices.Backward's closure (steps): its contract as an iterator. -/
import Derived.Test.YtlagdcbgkfaheaaF1
import Derived.Shelf.Abstract
import Derived.WalkKit
import Derived.OwnWalkIn
import Derived.TacticsInMore
import Derived.LoopNIn
import Derived.LoopIn
set_option maxRecDepth 100000
set_option maxHeartbeats 2000000
set_option linter.unusedVariables false
set_option linter.unusedSimpArgs false
namespace Go.Abs
open Go Go.Proofs Go.RowKit
attribute [local go_sem] Oper.semAt_some

def stepVal (s : StepV) : Value := .agg #[.string s.name, .bool s.ran, .int .u64 s.con]

theorem es_get {l : List StepV} {i k : Nat} {s : StepV} (hs : l[i]? = some s) (hi : i + k + 1 = l.length) : (l.zipIdx.reverse.map fun p => (#[.int .i64 p.2, stepVal p.1] : Array Value))[k]? = some #[.int .i64 i, stepVal s] := by
  have hk : k < l.zipIdx.length := by simp; omega
  rw [List.getElem?_map, List.getElem?_reverse hk]
  have e : l.zipIdx.length - 1 - k = i := by simp; omega
  rw [e, List.getElem?_zipIdx, hs]
  simp

theorem back_iter (l : List StepV) (hl : l.length < 1000000) : AIter Try.prog 103 [.cptr [.sl none 3 (l.map stepC)] 0] (backs l) := by
  refine ⟨fun args w => run_callFunc (by kernel_rfl), fun G w lb hk hr => ?_⟩
  simp only [RepL, Rep, RepC] at hr
  obtain ⟨_, _, rfl, ⟨b, o, rfl, ⟨⟨v, hv, ⟨A, c, rfl, hc, hE⟩, _⟩, _⟩, _⟩, rfl⟩ := hr
  refine ⟨l.zipIdx.reverse.map fun p => #[.int .i64 p.2, stepVal p.1], by simp [backs], ?_, ?_⟩
  · intro i x e hx he
    unfold backs at hx
    rw [List.getElem?_map, Option.map_eq_some_iff] at hx he
    obtain ⟨p, hp, rfl⟩ := hx
    obtain ⟨p', hp', rfl⟩ := he
    rw [hp] at hp'
    cases hp'
    simp only [RepL, Rep, stepC, stepVal]
    exact ⟨_, _, rfl, rfl, _, _, rfl, ⟨_, rfl, _, _, rfl, rfl, _, _, rfl, rfl, _, _, rfl, rfl, rfl⟩, rfl⟩
  · intro lp n J Jx hY hJ h0
    rw [show FW none = Fence.wide from rfl] at hY ⊢
    refine callsIn_of_wp Try.func103 rfl trivial ?_ rfl
    simp only [Try.ntmps103, List.size_toArray, List.length_cons, List.length_nil, Nat.reduceAdd, Nat.reduceSub, Array.replicate_succ, Array.replicate_zero, List.push_toArray, List.append_toArray, List.nil_append, List.cons_append, Nat.add_zero]
    have hb := hJ 0 w h0 _ _ _ hv
    have hlen : (List.map stepC l).length = l.length := by simp
    rw [hlen] at hb hv hc
    have hNb : (l.length : Int) < 1000000 := by omega
    clear hl
    gi_wp2
    gi_loopw [3] (fun i wr => ∃ k : Nat, k ≤ l.length ∧ i = .int .i64 ((l.length : Int) - 1 - k) ∧ J k wr) (fun i _ => (intOf i + 1).toNat)
    case atStart => exact ⟨0, Nat.zero_le _, by simp, h0⟩
    case round =>
      obtain ⟨k, hk', rfl, hJs⟩ := hrel
      by_cases hlt : k < l.length
      · obtain ⟨i, hi⟩ : ∃ i : Nat, i + k + 1 = l.length := ⟨l.length - 1 - k, by omega⟩
        have hil : i < l.length := by omega
        have ei : (l.length : Int) - 1 - k = (i : Int) := by omega
        rw [ei]
        clear ei
        obtain ⟨s, hs⟩ : ∃ s, l[i]? = some s := ⟨l[i], List.getElem?_eq_getElem hil⟩
        have hb' := hJ k wr hJs _ _ _ hv
        obtain ⟨b', o', hA, _, _, hC⟩ := hE.get (i := i) (e := stepC s) (by rw [List.getElem?_map, hs]; rfl)
        subst hA
        simp only [stepC, RepC, Rep, Nat.zero_add, Nat.add_zero] at hC
        obtain ⟨⟨_, c0, rfl⟩, ⟨_, c1, rfl⟩, ⟨_, c2, rfl⟩, _⟩ := hC
        have d0 := hJ k wr hJs _ _ _ c0
        have d1 := hJ k wr hJs _ _ _ c1
        have d2 := hJ k wr hJs _ _ _ c2
        obtain ⟨fn, tmps, assign, body, hy, hR⟩ := hY (n - 1) k #[.int .i64 i, stepVal s] wr (es_get hs hi) hJs
        dsimp only [stepVal] at hy
        have hi0 : (0 : Int) ≤ i := by omega
        clear hY hJ h0 hE hb
        gi_wp2
        refine ⟨fun h => by simp [Fence.wide] at h, hR.mono ?_⟩
        rintro e W3 (⟨rfl, hJ3⟩ | ⟨rfl, hJx3⟩)
        · clear hR hy
          gi_wp2
          go_roundw
          case rel => exact ⟨k + 1, by omega, by congr 1 <;> (try push_cast) <;> omega, hJ3⟩
          case measure => first | (simp [intOf]; done) | (simp [intOf]; omega)
        · clear hR hy
          gi_wp2
          refine bodyPost_ret (results_none rfl _ _ _) rfl ?_
          exact ⟨⟨_, rfl⟩, .inr ⟨_, hJx3⟩⟩
      · have ek : k = l.length := by omega
        have e1 : (l.length : Int) - 1 - k = -1 := by omega
        rw [e1]
        have hJe : J l.length wr := ek ▸ hJs
        clear e1 ek hJs hlt hk' hY h0 hE hb
        gi_wp2
        go_end0
        refine ⟨⟨_, rfl⟩, .inl ?_⟩
        simpa using hJe

theorem Given_x (l : List StepV) (hl : l.length < 1000000) (name : ByteArray) {R}
    (h : ∀ d : Int, d = (match l.reverse.find? (fun s => decide (s.name = name)) with | some s => s.con | none => 0) → R (.val (.int .u64 d)) []) :
    ACalls Try.prog 55 [.sl none 3 (l.map stepC), .val (.string name)] [] R := Given_of l (back_iter l hl) name h
end Go.Abs
