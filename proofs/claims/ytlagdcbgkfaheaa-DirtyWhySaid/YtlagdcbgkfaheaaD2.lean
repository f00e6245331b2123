/- The digest's functions, and the document's, on. -/
import Derived.Test.YtlagdcbgkfaheaaD1
set_option maxRecDepth 100000
set_option linter.unusedVariables false
set_option linter.unusedSimpArgs false
namespace Go.Abs
open Go Go.Proofs Dig
attribute [local irreducible] ibits byteAt strLt

theorem parts_calls (n : U) {R} (h : ∀ e, Does [e] (· * back n) → R e []) : ACalls Try.prog 61 [uv n] [] R := by
  refine acalls_of_xwp (an := an61) tab_ok Try.func61 ?_
  have st : ∀ b : U, IntKind.u64.wrap ((b.toNat : Int) * IntKind.u64.wrap (2 - IntKind.u64.wrap ((n.toNat : Int) * (b.toNat : Int)))) = ((b * (2 - n * b) : U).toNat : Int) := by
    intro b
    rw [u_mul, show (2 : Int) = ((2 : U).toNat : Int) from rfl, u_sub, u_mul]
  conv => whnf
  refine LoopP.step ?_
  conv => whnf
  rw [st]
  refine LoopP.step ?_
  conv => whnf
  rw [st]
  refine LoopP.step ?_
  conv => whnf
  rw [st]
  refine LoopP.step ?_
  conv => whnf
  rw [st]
  refine LoopP.step ?_
  conv => whnf
  rw [st]
  refine LoopP.step ?_
  conv => whnf
  rw [st]
  refine LoopP.step ?_
  conv => whnf
  exact times_calls _ (h _ (times_does _))

theorem idx_some {α : Type} {l : List α} {i : Int} (h0 : 0 ≤ i) (h1 : i < (l.length : Int)) : i.toNat < l.length := by omega

theorem run_calls (x : U) (l : List (List AV)) (gs : List (U → U)) (hl : l.length = gs.length) (hlen : l.length < 1000) (hd : ∀ i (h : i < l.length), Does l[i] (gs[i]'(by omega))) (own : Option Nm) {R} (h : R (uv (gs.foldl (fun h g => g h) x)) []) :
    ACalls Try.prog 57 [uv x, .sl none 1 l] [] R := by
  refine acalls_of_xwp (an := an57) tab_ok Try.func57 ?_
  conv => whnf
  refine LoopP.ind (α := Int × Int) (fun p => [(0, .val (.int .u64 p.2)), (9, .val (.int .i64 p.1))]) (fun _ => []) (fun p => l.length - p.1.toNat)
    (fun p => 0 ≤ p.1 ∧ p.1 ≤ l.length ∧ ∃ y : U, p.2 = (y.toNat : Int) ∧ (gs.drop p.1.toNat).foldl (fun h g => g h) y = gs.foldl (fun h g => g h) x) (0, (x.toNat : Int)) rfl ⟨by simp, by simp, x, rfl, by simp⟩ ?_
  rintro ⟨i, yy⟩ ⟨h0, h1, y, rfl, hy⟩ IH
  simp only at h0 h1 hy IH
  conv => whnf
  refine br_intro (fun hc => ?_) (fun hc => ?_)
  · have hc : i < (l.length : Int) := by simpa using hc
    conv => whnf
    refine must_intro (by simpa using h0) ?_
    refine idxK_intro (idx_some h0 hc) ?_
    obtain ⟨f, cs, e1, e2, e3⟩ := hd i.toNat (idx_some h0 hc)
    rw [e1]
    conv => whnf
    refine must_intro e2 ?_
    refine e3 y _ ?_
    conv => whnf
    rw [wrap_i64 (by omega) (by omega)]
    refine IH (i + 1, _) ⟨?_, ?_, _, rfl, ?_⟩ ?_
    · simp only; omega
    · simp only; omega
    · simp only
      rw [← hy, show (i + 1).toNat = i.toNat + 1 by omega, List.drop_eq_getElem_cons (show i.toNat < gs.length by omega), List.foldl_cons]
    · simp only; omega
  · have hc : i = (l.length : Int) := by simp at hc; omega
    conv => whnf
    have : gs.drop i.toNat = [] := List.drop_eq_nil_of_le (by omega)
    rw [this] at hy
    simp only [List.foldl_nil] at hy
    rw [hy]
    exact h

theorem Of_calls (n : U) {R} (h : ∀ d, d = dig n → R (uv d) []) : ACalls Try.prog 16 [uv n] [] R := by
  refine acalls_of_xwp (an := an16) tab_ok Try.func16 ?_
  conv => whnf
  refine down_calls _ ?_
  conv => whnf
  refine times_calls _ ?_
  conv => whnf
  refine down_calls _ ?_
  conv => whnf
  refine times_calls _ ?_
  conv => whnf
  refine down_calls _ ?_
  conv => whnf
  rw [show (11400714819323198485 : Int) = (plus.toNat : Int) from rfl, u_add]
  refine run_calls _ _ [down 30, (· * first), down 27, (· * other), down 31] rfl (by simp) (fun i hi => ?_) none ?_
  · match i, hi with
    | 0, _ => exact down_does 30 (by omega)
    | 1, _ => exact times_does first
    | 2, _ => exact down_does 27 (by omega)
    | 3, _ => exact times_does other
    | 4, _ => exact down_does 31 (by omega)
  · conv => whnf
    exact h _ rfl

theorem Back_calls (n : U) {R} (h : ∀ d, d = dBack n → R (uv d) []) : ACalls Try.prog 19 [uv n] [] R := by
  refine acalls_of_xwp (an := an19) tab_ok Try.func19 ?_
  conv => whnf
  refine up_calls _ ?_
  conv => whnf
  refine parts_calls other fun e1 h1 => ?_
  obtain ⟨f1, c1, he1, h1', h1''⟩ := h1
  injection he1 with he1
  subst he1
  conv => whnf
  refine up_calls _ ?_
  conv => whnf
  refine parts_calls first fun e2 h2 => ?_
  obtain ⟨f2, c2, he2, h2', h2''⟩ := h2
  injection he2 with he2
  subst he2
  conv => whnf
  refine up_calls _ ?_
  conv => whnf
  refine run_calls _ _ [up 31, (· * back other), up 27, (· * back first), up 30] rfl (by simp) (fun i hi => ?_) none ?_
  · match i, hi with
    | 0, _ => exact up_does 31 (by omega)
    | 1, _ => exact ⟨f1, c1, rfl, h1', h1''⟩
    | 2, _ => exact up_does 27 (by omega)
    | 3, _ => exact ⟨f2, c2, rfl, h2', h2''⟩
    | 4, _ => exact up_does 30 (by omega)
  · conv => whnf
    rw [show (11400714819323198485 : Int) = (plus.toNat : Int) from rfl, u_sub]
    exact h _ rfl

/-- Numbers, read out of a slice. -/
def nums (l : List U) : List (List AV) := l.map fun x => [uv x]

theorem Fold_calls (n : U) (l : List U) (hl : l.length ≤ 1000000) {X : List (List AV)} (hX : X = nums l) {R} (h : ∀ d, d = fold n l → R (uv d) []) : ACalls Try.prog 17 [uv n, .sl none 1 X] [] R := by
  subst hX
  refine acalls_of_xwp (an := an17) tab_ok Try.func17 ?_
  have hnl : (nums l).length = l.length := by simp [nums]
  conv => whnf
  refine Of_calls n fun d0 hd0 => ?_
  conv => whnf
  refine LoopP.ind (α := Int × U) (fun p => [(5, uv p.2), (12, .val (.int .i64 p.1))]) (fun _ => []) (fun p => l.length - p.1.toNat)
    (fun p => 0 ≤ p.1 ∧ p.1 ≤ l.length ∧ (l.drop p.1.toNat).foldl (fun h x => dig (h ^^^ x)) p.2 = fold n l) (0, d0) rfl ⟨by simp, by simp, by simp [fold, hd0]⟩ ?_
  rintro ⟨i, y⟩ ⟨h0, h1, hy⟩ IH
  simp only at h0 h1 hy IH
  conv => whnf
  refine br_intro (fun hc => ?_) (fun hc => ?_)
  · have hc : i < (l.length : Int) := by simpa [hnl] using hc
    conv => whnf
    refine must_intro (by simpa using h0) ?_
    refine idxK_map_intro (idx_some h0 hc) ?_
    conv => whnf
    rw [u_xor]
    refine Of_calls _ fun d hd => ?_
    conv => whnf
    rw [wrap_i64 (by omega) (by omega)]
    refine IH (i + 1, _) ⟨?_, ?_, ?_⟩ ?_
    · simp only; omega
    · simp only; omega
    · show List.foldl _ _ (List.drop (i + 1).toNat l) = _
      rw [← hy, show (i + 1).toNat = i.toNat + 1 by omega, List.drop_eq_getElem_cons (idx_some h0 hc), List.foldl_cons, ← hd]
    · simp only; omega
  · have hc : i = (l.length : Int) := by simp [hnl] at hc; omega
    conv => whnf
    rw [List.drop_eq_nil_of_le (by omega)] at hy
    simp only [List.foldl_nil] at hy
    exact h _ hy

/-! ### the document's -/
theorem u_div (x : U) (k : Nat) (hk : k < 63) {c : Int} (hc : c = 2 ^ k) : IntKind.u64.wrap ((x.toNat : Int).tdiv c) = ((x >>> k).toNat : Int) := by
  subst hc
  rw [wrap_u64]
  have h1 : (x.toNat : Int).tdiv (2 ^ k) = ((x >>> k).toNat : Int) := by
    rw [BitVec.toNat_ushiftRight, Nat.shiftRight_eq_div_pow]
    rw [Int.tdiv_eq_ediv_of_nonneg (by omega)]
    simp
  rw [h1]
  have := (x >>> k).isLt
  omega

theorem refOf_calls (n : U) {R} (h : ∀ d, d = dig n → R (uv d) []) : ACalls Try.prog 18 [uv n] [] R := by
  refine acalls_of_xwp (an := an18) tab_ok Try.func18 ?_
  conv => whnf
  rw [show (11400714819323198485 : Int) = (plus.toNat : Int) from rfl, show (13787848793156543929 : Int) = (first.toNat : Int) from rfl, show (10723151780598845931 : Int) = (other.toNat : Int) from rfl]
  have e30 := fun x => u_div x 30 (by omega) (c := 1073741824) rfl
  have e27 := fun x => u_div x 27 (by omega) (c := 134217728) rfl
  have e31 := fun x => u_div x 31 (by omega) (c := 2147483648) rfl
  rw [u_add, e30, u_xor, u_mul, e27, u_xor, u_mul, e31, u_xor]
  exact h _ rfl

theorem refFold_calls (n : U) (l : List U) (hl : l.length ≤ 1000000) {X : List (List AV)} (hX : X = nums l) {R} (h : ∀ d, d = fold n l → R (uv d) []) : ACalls Try.prog 20 [uv n, .sl none 1 X] [] R := by
  subst hX
  refine acalls_of_xwp (an := an20) tab_ok Try.func20 ?_
  have hnl : (nums l).length = l.length := by simp [nums]
  conv => whnf
  refine refOf_calls n fun d0 hd0 => ?_
  conv => whnf
  refine LoopP.ind (α := Int × U) (fun p => [(5, uv p.2), (6, .val (.int .i64 p.1))]) (fun _ => []) (fun p => l.length - p.1.toNat)
    (fun p => 0 ≤ p.1 ∧ p.1 ≤ l.length ∧ (l.drop p.1.toNat).foldl (fun h x => dig (h ^^^ x)) p.2 = fold n l) (0, d0) rfl ⟨by simp, by simp, by simp [fold, hd0]⟩ ?_
  rintro ⟨i, y⟩ ⟨h0, h1, hy⟩ IH
  simp only at h0 h1 hy IH
  conv => whnf
  refine br_intro (fun hc => ?_) (fun hc => ?_)
  · have hc : i < (l.length : Int) := by simpa [hnl] using hc
    conv => whnf
    refine must_intro (by simpa using h0) ?_
    refine idxK_map_intro (idx_some h0 hc) ?_
    conv => whnf
    rw [u_xor]
    refine refOf_calls _ fun d hd => ?_
    conv => whnf
    rw [wrap_i64 (by omega) (by omega)]
    refine IH (i + 1, _) ⟨?_, ?_, ?_⟩ ?_
    · simp only; omega
    · simp only; omega
    · show List.foldl _ _ (List.drop (i + 1).toNat l) = _
      rw [← hy, show (i + 1).toNat = i.toNat + 1 by omega, List.drop_eq_getElem_cons (idx_some h0 hc), List.foldl_cons, ← hd]
    · simp only; omega
  · have hc : i = (l.length : Int) := by simp [hnl] at hc; omega
    conv => whnf
    rw [List.drop_eq_nil_of_le (by omega)] at hy
    simp only [List.foldl_nil] at hy
    exact h _ hy
end Go.Abs
