/- what becomes of a build of any graph, by a store of any records, whichever act fails or falls, and what stands in its files then, is the document's; so is what is planned, and why each is to be run. -/
import Derived.Test.YtnjeogcgfoabhaaGreatRows
import Derived.Test.YtnjeogcgfoabhaaGreatChecked
import Derived.Test.YtnjeogcgfoabhaaGreatYBuildRuns5
set_option linter.unusedVariables false
set_option linter.unusedSimpArgs false
namespace Go.Proofs.YtnjeogcgfoabhaaGreat.buildRunsDone
open Go.ChangeShapes Go.WideShapes Go.ChangeAt Go.RowKit Go.Abs

theorem own : ownKnob Tryz.prog.godebug = none := by kernel_rfl
theorem laidOut : laidOutB Tryz.prog = true := by kernel_rfl

theorem lenList {α : Type} {n : Nat} : ∀ {l : List α}, l.length = n → l.length = n := id

set_option maxRecDepth 100000 in
theorem lifted (os : Os) (started : os.Started) (H : Type) (enc : TypeId × Value → H) :
  ReturnsInHanded {} Tryz.checked os 6 .any (Rows.buildRunsSpec.pre6 enc Tryz.prog Tryz.f6 Rows.buildRunsRow.domain false) (Rows.buildRunsSpec.post enc Tryz.prog Tryz.f6 false true false false) := by
 refine returnsInHanded_of_change (C := Tryz.checked) own started (by kernel_rfl) Tryz.func6
  (ChangeSpec.witness6 (enc := enc) (C := Tryz.checked) false ⟨#[], #[.slice none 0 0, .agg #[.slice none 0 0, .slice none 0 0, .int .u64 0], .agg #[.int .i64 0, .int .i64 0, .int .i64 0]], []⟩ 8 (by kernel_rfl) (by kernel_rfl) (by kernel_rfl) (by kernel_rfl)) ?_
 intro W base args ds gs before hval0 hW hcnd _
 have hval : ∀ (j : Nat) t v, Tryz.f6.params[j]? = some t → args[j]? = some v → Value.okWide Tryz.prog W .any base t v := hval0
 have hW' := hW
 obtain ⟨p, q, hA0, hV, rfl, hfz, hnd⟩ := hW
 have hA : DataW.TrodAll enc Tryz.prog W 0 (fun _ => true) true Tryz.f6.params.toList args.toList ds p := hA0
 rw [Tryz.params6] at hA hval
 obtain ⟨rfl, rfl⟩ := trodVars_none hV
 clear hA0 hval0
 refine (calls_of_acalls (n := 12) tab_ok (by kernel_rfl) hA (fun j t v ht hv => hval j t v (by simpa using ht) (by simpa using hv)) BuildRuns_row ⟨rfl, rfl⟩).mono fun e W' ⟨he, bel⟩ => ?_
 subst he
 have hA' := trodAll_stay laidOut bel _ _ _ _ (by kernel_rfl) hA
 obtain ⟨v0, vs0, d0, ds0, p0, q0, ha0, rfl, rfl, h0, r0⟩ := trodAll_cons hA
 obtain ⟨v1, vs1, d1, ds1, p1, q1, ha1, rfl, rfl, h1, r1⟩ := trodAll_cons r0
 obtain ⟨v2, vs2, d2, ds2, p2, q2, ha2, rfl, rfl, h2, r2⟩ := trodAll_cons r1
 obtain ⟨_, rfl, rfl⟩ := trodAll_nil r2
 exact ⟨_, rfl, _, _, _, [], _, [], hW', trodAll_mk1 (shut_bool Tryz.underlying4 _), hA', rfl, bel.frame _, fun h => by cases h⟩

theorem over : Rows.buildRunsRow.holds Tryz.pinned (OpenSpec.ofChange Rows.buildRunsSpec) :=
 OpenClaim.holds_of_wide 6 Tryz.f6 rfl rfl rfl rfl rfl rfl rfl ⟨rfl, rfl, rfl, rfl, rfl⟩ rfl rfl rfl rfl rfl (by kernel_rfl) Tryz.func6 (by kernel_rfl)
  (of_decide_eq_true (by kernel_rfl)) (by unfold Func.isWrapper; first | (rw [if_pos (by decide +kernel)]; kernel_rfl) | (rw [if_neg (by decide +kernel)]; exact ⟨rfl, rfl⟩))
  (fun os started H enc _ => lifted os started H enc)
end Go.Proofs.YtnjeogcgfoabhaaGreat.buildRunsDone
namespace Go.Proofs.YtnjeogcgfoabhaaGreat
theorem buildRuns_holds : Rows.BuildRunsSaid := buildRunsDone.over
end Go.Proofs.YtnjeogcgfoabhaaGreat
