/- an act that is asked to fail, or at which it falls, answers so and changes nothing but by an Append at which it falls. -/
import Derived.Test.YthgjcmfbfigpbaaRows
import Derived.Test.YthgjcmfbfigpbaaChecked
import Derived.Test.YthgjcmfbfigpbaaYVfsFails1
set_option linter.unusedVariables false
set_option linter.unusedSimpArgs false
namespace Go.Proofs.Ythgjcmfbfigpbaa.vfsFailsDone
open Go.ChangeShapes Go.WideShapes Go.ChangeAt Go.RowKit Go.Abs

theorem own : ownKnob Try.prog.godebug = none := by kernel_rfl
theorem laidOut : laidOutB Try.prog = true := by kernel_rfl

theorem lenList {α : Type} {n : Nat} : ∀ {l : List α}, l.length = n → l.length = n := id

set_option maxRecDepth 100000 in
theorem lifted (os : Os) (started : os.Started) (H : Type) (enc : TypeId × Value → H) :
    ReturnsInHanded {} Try.checked os 4 .any (Rows.vfsFailsSpec.pre6 enc Try.prog Try.f4 Rows.vfsFailsRow.domain false) (Rows.vfsFailsSpec.post enc Try.prog Try.f4 false true false false) := by
  refine returnsInHanded_of_change (C := Try.checked) own started (by kernel_rfl) Try.func4
    (ChangeSpec.witness6 (enc := enc) (C := Try.checked) false ⟨#[], #[.slice none 0 0, .int .u8 0, .bool false], []⟩ 8 (by kernel_rfl) (by kernel_rfl) (by kernel_rfl) (by kernel_rfl)) ?_
  intro W base args ds gs before hval0 hW hcnd _
  have hval : ∀ (j : Nat) t v, Try.f4.params[j]? = some t → args[j]? = some v → Value.okWide Try.prog W .any base t v := hval0
  have hW' := hW
  obtain ⟨p, q, hA0, hV, rfl, hfz, hnd⟩ := hW
  have hA : DataW.TrodAll enc Try.prog W 0 (fun _ => true) true Try.f4.params.toList args.toList ds p := hA0
  rw [Try.params4] at hA hval
  obtain ⟨rfl, rfl⟩ := trodVars_none hV
  clear hA0 hval0
  refine (calls_of_acalls (n := 12) tab_ok (by kernel_rfl) hA (fun j t v ht hv => hval j t v (by simpa using ht) (by simpa using hv)) VfsFails_row ⟨rfl, rfl⟩).mono fun e W' ⟨he, bel⟩ => ?_
  subst he
  have hA' := trodAll_stay laidOut bel _ _ _ _ (by kernel_rfl) hA
  obtain ⟨v0, vs0, d0, ds0, p0, q0, ha0, rfl, rfl, h0, r0⟩ := trodAll_cons hA
  obtain ⟨v1, vs1, d1, ds1, p1, q1, ha1, rfl, rfl, h1, r1⟩ := trodAll_cons r0
  obtain ⟨v2, vs2, d2, ds2, p2, q2, ha2, rfl, rfl, h2, r2⟩ := trodAll_cons r1
  obtain ⟨_, rfl, rfl⟩ := trodAll_nil r2
  exact ⟨_, rfl, _, _, _, [], _, [], hW', trodAll_mk1 (shut_bool Try.underlying4 _), hA', rfl, bel.frame _, fun h => by cases h⟩

theorem over : Rows.vfsFailsRow.holds Try.pinned (OpenSpec.ofChange Rows.vfsFailsSpec) :=
  OpenClaim.holds_of_wide 4 Try.f4 rfl rfl rfl rfl rfl rfl rfl ⟨rfl, rfl, rfl, rfl, rfl⟩ rfl rfl rfl rfl rfl (by kernel_rfl) Try.func4 (by kernel_rfl)
    (of_decide_eq_true (by kernel_rfl)) (by unfold Func.isWrapper; first | (rw [if_pos (by decide +kernel)]; kernel_rfl) | (rw [if_neg (by decide +kernel)]; exact ⟨rfl, rfl⟩))
    (fun os started H enc _ => lifted os started H enc)
end Go.Proofs.Ythgjcmfbfigpbaa.vfsFailsDone
namespace Go.Proofs.Ythgjcmfbfigpbaa
theorem vfsFails_holds : Rows.VfsFailsSaid := vfsFailsDone.over
end Go.Proofs.Ythgjcmfbfigpbaa
