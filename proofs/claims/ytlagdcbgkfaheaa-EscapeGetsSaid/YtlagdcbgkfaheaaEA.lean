/- Words of texts (escape): Put and Get. -/
import Derived.Test.YtlagdcbgkfaheaaE9
set_option maxRecDepth 100000
set_option linter.unusedVariables false
set_option linter.unusedSimpArgs false
namespace Go.Abs
open Go Go.Proofs
attribute [local irreducible] ibits byteAt strLt firstIdx

def plainP (c : UInt8) : Bool := decide (33 ≤ c.toNat) && (decide (c.toNat ≤ 126) && decide (c ≠ 92))
def noneP (_ : UInt8) : Bool := false
theorem u8_ne {c : UInt8} {n : Nat} (hn : n < 256) : (((c.toNat : Nat) : Int) != (n : Int)) = decide (c ≠ UInt8.ofNat n) := by
  rw [Bool.eq_iff_iff, bne_iff_ne, decide_eq_true_iff]
  constructor
  · intro h e
    apply h
    rw [e]
    simp
    omega
  · intro h e
    apply h
    have : c.toNat = n := by omega
    rw [← this]
    simp
theorem plain_calls (c : UInt8) (R : AV → List AObj → Prop) (h : R (.val (.bool (plainP c))) []) : ACalls Try.prog 64 [.val (.int .u8 c.toNat)] [] R := by
  refine acalls_of_xwp (an := an64) tab_ok Try.func64 ?_
  have e3 : (((c.toNat : Nat) : Int) != 92) = decide (c ≠ 92) := u8_ne (n := 92) (by omega)
  (conv => whnf)
  refine br_intro (fun g1 => ?_) (fun g1 => ?_)
  · have g1 : 33 ≤ c.toNat := by simp at g1; omega
    (conv => whnf)
    refine br_intro (fun g2 => ?_) (fun g2 => ?_)
    · have g2 : c.toNat ≤ 126 := by simp at g2; omega
      (conv => whnf)
      rw [e3]
      have : plainP c = decide (c ≠ 92) := by simp [plainP, g1, g2]
      rw [this] at h
      exact h
    · have g2 : ¬ c.toNat ≤ 126 := by simp at g2; omega
      (conv => whnf)
      have : plainP c = false := by simp [plainP, g2]
      rw [this] at h
      exact h
  · have g1 : ¬ 33 ≤ c.toNat := by simp at g1; omega
    (conv => whnf)
    have : plainP c = false := by simp [plainP, g1]
    rw [this] at h
    exact h
theorem put1_calls (c : UInt8) (R : AV → List AObj → Prop) (h : R (.val (.bool (noneP c))) []) : ACalls Try.prog 63 [.val (.int .u8 c.toNat)] [] R := by
  refine acalls_of_xwp (an := an63) tab_ok Try.func63 ?_
  (conv => whnf)
  exact h

def putP (s : B) : B := if s = [] then [45] else signsP (if s = [45] then noneP else plainP) s
theorem Put_calls (s : B) (hs : s.length < 100000) {R} (h : ∀ d, d = ofB (putP s) → R (.val (.string d)) []) : ACalls Try.prog 26 [vs s] [] R := by
  refine acalls_of_xwp (an := an26) tab_ok Try.func26 ?_
  (conv => whnf)
  refine br_intro (fun g => ?_) (fun g => ?_)
  · have g : ofB s = ofB [] := of_decide_eq_true g
    have g := ofB_inj g
    (conv => whnf)
    refine h _ ?_
    rw [putP, if_pos g]
    rfl
  · have g : s ≠ [] := by
      rintro rfl
      exact of_decide_eq_false g rfl
    (conv => whnf)
    refine br_intro (fun g2 => ?_) (fun g2 => ?_)
    · have g2 : ofB s = ofB [45] := of_decide_eq_true g2
      have g2 := ofB_inj g2
      (conv => whnf)
      refine signs_calls 63 rfl noneP put1_calls s g hs fun d hd => ?_
      (conv => whnf)
      refine h _ ?_
      rw [hd, putP, if_neg g, if_pos g2]
    · have g2 : s ≠ [45] := by
        rintro rfl
        exact of_decide_eq_false g2 rfl
      (conv => whnf)
      refine signs_calls 64 rfl plainP plain_calls s g hs fun d hd => ?_
      (conv => whnf)
      refine h _ ?_
      rw [hd, putP, if_neg g, if_neg g2]

/-! ### what is read -/
def dec : B → Option B
  | [] => some []
  | c :: r => if c ≠ 92 then (dec r).map (c :: ·) else
    match r with
    | a :: b :: r' => (match hexv a, hexv b with
      | some x, some y => (dec r').map (UInt8.ofNat (16 * x + y) :: ·)
      | _, _ => none)
    | _ => none
theorem dec_plain {w : B} {i : Nat} (hi : i < w.length) (h : w[i] ≠ 92) : dec (w.drop i) = (dec (w.drop (i + 1))).map (w[i] :: ·) := by
  rw [List.drop_eq_getElem_cons hi]
  conv => lhs; unfold dec
  rw [if_pos h]
theorem dec_esc {w : B} {i : Nat} (hi : i + 2 < w.length) (h : w[i] = 92) : dec (w.drop i) = (match hexv w[i + 1], hexv w[i + 2] with
      | some x, some y => (dec (w.drop (i + 3))).map (UInt8.ofNat (16 * x + y) :: ·)
      | _, _ => none) := by
  rw [List.drop_eq_getElem_cons (show i < w.length by omega), List.drop_eq_getElem_cons (show i + 1 < w.length by omega), List.drop_eq_getElem_cons (show i + 1 + 1 < w.length by omega), dec, if_neg (not_not_intro h)]
theorem dec_short {w : B} {i : Nat} (hi : i < w.length) (hs : w.length < i + 3) (h : w[i] = 92) : dec (w.drop i) = none := by
  rw [List.drop_eq_getElem_cons hi]
  unfold dec
  rw [if_neg (not_not_intro h)]
  rcases hd : w.drop (i + 1) with _ | ⟨a, _ | ⟨b, r⟩⟩
  · rfl
  · rfl
  · exfalso
    have := congrArg List.length hd
    simp at this
    omega
def getP (w : B) : Option B := match dec w with
  | none => none
  | some o => (fun s : B => if putP s = w then some s else none) (if w = [45] then [] else o)
def vgets (o : Option B) : AV := .tup [vs (o.getD []), .val (.bool o.isSome)]
theorem nib0 : (List.range 16).all (fun x => (List.range 16).all fun y => decide (IntKind.u8.wrap (ibits .or .i64 (IntKind.i64.wrap ((x : Int) * 2 ^ min ((4 : Int)).toNat IntKind.i64.bits)) (y : Int)) = (((UInt8.ofNat (16 * x + y)).toNat : Nat) : Int))) = true := by decide +kernel
theorem nib {x y : Nat} (hx : x < 16) (hy : y < 16) : IntKind.u8.wrap (ibits .or .i64 (IntKind.i64.wrap ((x : Int) * 2 ^ min ((4 : Int)).toNat IntKind.i64.bits)) (y : Int)) = (((UInt8.ofNat (16 * x + y)).toNat : Nat) : Int) :=
  of_decide_eq_true (List.all_eq_true.1 (List.all_eq_true.1 nib0 x (List.mem_range.2 hx)) y (List.mem_range.2 hy))
theorem dec_len : ∀ (n : Nat) (w o : B), w.length ≤ n → dec w = some o → o.length ≤ w.length := by
  intro n
  induction n with
  | zero =>
    intro w o hw h
    have : w = [] := List.eq_nil_of_length_eq_zero (by omega)
    subst this
    simp [dec] at h
    simp [← h]
  | succ n ih =>
    intro w o hw h
    rcases w with _ | ⟨c, r⟩
    · simp [dec] at h; simp [← h]
    · unfold dec at h
      split at h
      · obtain ⟨o', h1, rfl⟩ := Option.map_eq_some_iff.1 h
        have := ih r o' (by simpa using hw) h1
        simpa using this
      · split at h
        · split at h
          · obtain ⟨o', h1, rfl⟩ := Option.map_eq_some_iff.1 h
            have := ih _ o' (by simp at hw; omega) h1
            simp; omega
          · cases h
        · cases h

theorem Get_calls (w : B) (hw : w.length < 10000) {R} (h : ∀ o, o = getP w → R (vgets o) []) : ACalls Try.prog 27 [vs w] [] R := by
  refine acalls_of_xwp (an := an27) tab_ok Try.func27 ?_
  have hsz : (ofB w).size = w.length := size_ofB w
  have no : dec w = none → R (vgets none) [] := fun hd => h none (by rw [getP, hd])
  (conv => whnf)
  refine LoopP.ind2 (fun (i : Nat) (out : B) => [(4, .sl (some (nameOf 4)) 1 (byteEls out)), (5, vi i)]) (fun _ out => [(nameOf 4, .row 5 1 out.length)]) (fun i _ => w.length - i)
    (fun i out => i ≤ w.length ∧ out.length ≤ i ∧ dec w = (dec (w.drop i)).map (out ++ ·)) 0 [] rfl ⟨by omega, by simp, by simp⟩ ?_
  rintro i out ⟨h0, h1, h2⟩ IH
  have hbl := byteEls_length out
  (conv => whnf)
  refine br_intro (fun hc => ?_) (fun hc => ?_)
  · have hc := lt_of_decE hsz hc
    have hb : byteAt (ofB w) ((i : Int)).toNat = ((w[i]).toNat : Int) := by rw [Int.toNat_natCast, byteAt_ofB w hc]
    have hne : (((w[i]).toNat : Int) != 92) = decide (w[i] ≠ 92) := u8_ne (n := 92) (by omega)
    (conv => whnf); (repeat ((with_reducible refine must_intro ?_ ?_); exact decide_eq_true (by omega); (conv => whnf)))
    rw [hb, hne]
    refine br_intro (fun g1 => ?_) (fun g1 => ?_)
    · have g1 : w[i] ≠ 92 := of_decide_eq_true g1
      (conv => whnf); (repeat ((with_reducible refine must_intro ?_ ?_); exact decide_eq_true (by omega); (conv => whnf)))
      try rw [hb]
      refine ⟨hbl.symm, by rw [hbl, bytes_u8]; show (out.length + 1) * (1 + 1) ≤ _; omega, ?_⟩
      (conv => whnf)
      have e1 : byteEls out ++ [[AV.val (.int .u8 (w[i]).toNat)]] = byteEls (out ++ [w[i]]) := (byteEls_append out [w[i]]).symm
      have e2 : (byteEls out).length + [[AV.val (.int .u8 ((w[i]).toNat : Int))]].length = (out ++ [w[i]]).length := by simp [byteEls_length]
      rw [e1, e2, i64_nat (by omega)]
      refine IH (i + 1) (out ++ [w[i]]) ⟨by omega, by simp; omega, ?_⟩ (by omega)
      rw [h2, dec_plain hc g1]
      cases dec (w.drop (i + 1)) <;> simp
    · have g1 : w[i] = 92 := by simpa using g1
      (conv => whnf)
      rw [hsz, wrap_i64 (by omega) (by omega)]
      refine br_intro (fun g2 => ?_) (fun g2 => ?_)
      · have g2 : w.length < i + 3 := by simp at g2; omega
        (conv => whnf)
        refine no ?_
        rw [h2, dec_short hc g2 g1]
        rfl
      · have g2 : i + 2 < w.length := by simp at g2; omega
        rw [dec_esc g2 g1] at h2
        (conv => whnf)
        rw [wrap_i64 (x := (i : Int) + 1) (by omega) (by omega)]
        (conv => whnf); (repeat ((with_reducible refine must_intro ?_ ?_); exact decide_eq_true (by omega); (conv => whnf)))
        refine IndexByte_calls _ _ fun r1 hr1 => ?_
        rw [show ((i : Int) + 1).toNat = i + 1 by omega, byteAt_ofB w (show i + 1 < w.length by omega), u8_back] at hr1
        have hr1 : r1 = hexi w[i + 1] := hr1.trans (idx_signs _)
        (conv => whnf)
        rw [wrap_i64 (x := (i : Int) + 2) (by omega) (by omega)]
        (conv => whnf); (repeat ((with_reducible refine must_intro ?_ ?_); exact decide_eq_true (by omega); (conv => whnf)))
        refine IndexByte_calls _ _ fun r2 hr2 => ?_
        rw [show ((i : Int) + 2).toNat = i + 2 by omega, byteAt_ofB w (show i + 2 < w.length by omega), u8_back] at hr2
        have hr2 : r2 = hexi w[i + 2] := hr2.trans (idx_signs _)
        (conv => whnf)
        refine br_intro (fun g3 => ?_) (fun g3 => ?_)
        · have g3 : hexv w[i + 1] = none := by
            rw [← hexi_lo, ← hr1]
            simpa using g3
          rw [g3] at h2
          (conv => whnf)
          exact no h2
        · obtain ⟨x, hx⟩ : ∃ x, hexv w[i + 1] = some x := by
            cases e : hexv w[i + 1] with
            | none => rw [← hexi_lo, ← hr1] at e; simp at g3; omega
            | some x => exact ⟨x, rfl⟩
          have hx16 := (hexc_hexv hx).2
          have hrx : r1 = (x : Int) := by rw [hr1]; simp [hexi, hx]
          subst hrx
          rw [hx] at h2
          (conv => whnf)
          refine br_intro (fun g4 => ?_) (fun g4 => ?_)
          · have g4 : hexv w[i + 2] = none := by
              rw [← hexi_lo, ← hr2]
              simpa using g4
            rw [g4] at h2
            (conv => whnf)
            exact no h2
          · obtain ⟨y, hy⟩ : ∃ y, hexv w[i + 2] = some y := by
              cases e : hexv w[i + 2] with
              | none => rw [← hexi_lo, ← hr2] at e; simp at g4; omega
              | some y => exact ⟨y, rfl⟩
            have hy16 := (hexc_hexv hy).2
            have hry : r2 = (y : Int) := by rw [hr2]; simp [hexi, hy]
            subst hry
            rw [hy] at h2
            (conv => whnf)
            rw [nib hx16 hy16]
            refine ⟨hbl.symm, by rw [hbl, bytes_u8]; show (out.length + 1) * (1 + 1) ≤ _; omega, ?_⟩
            (conv => whnf)
            have e1 : byteEls out ++ [[AV.val (.int .u8 (UInt8.ofNat (16 * x + y)).toNat)]] = byteEls (out ++ [UInt8.ofNat (16 * x + y)]) := (byteEls_append out [_]).symm
            have e2 : (byteEls out).length + [[AV.val (.int .u8 ((UInt8.ofNat (16 * x + y)).toNat : Int))]].length = (out ++ [UInt8.ofNat (16 * x + y)]).length := by simp [byteEls_length]
            rw [e1, e2, wrap_i64 (x := (i : Int) + 2) (by omega) (by omega), wrap_i64 (by omega) (by omega), show (i : Int) + 2 + 1 = ((i + 3 : Nat) : Int) by omega]
            refine IH (i + 3) (out ++ [UInt8.ofNat (16 * x + y)]) ⟨by omega, by simp; omega, ?_⟩ (by omega)
            rw [h2]
            simp only
            cases dec (w.drop (i + 3)) <;> simp
  · have hc := ge_of_decE hsz hc
    rw [List.drop_eq_nil_of_le hc, dec, Option.map_some, List.append_nil] at h2
    (conv => whnf)
    refine ⟨out.map fun c => (c.toNat : Int), by simp [byteEls], ?_⟩
    rw [strOfNums_ofB]
    (conv => whnf)
    refine br_intro (fun g => ?_) (fun g => ?_)
    · have g : ofB w = ofB [45] := of_decide_eq_true g
      have g := ofB_inj g
      (conv => whnf)
      refine Put_calls [] (by simp) fun d hd => ?_
      have hd : d = ofB w := by rw [hd, g]; rfl
      (conv => whnf)
      refine br_false (by rw [hd]; simp) ?_
      (conv => whnf)
      have hk := h (some []) (by rw [getP, h2]; simp only [g, if_pos rfl]; rfl)
      exact hk
    · have g : w ≠ [45] := by
        rintro rfl
        exact of_decide_eq_false g rfl
      (conv => whnf)
      refine Put_calls out (by omega) fun d hd => ?_
      (conv => whnf)
      refine br_intro (fun g2 => ?_) (fun g2 => ?_)
      · have g2 : putP out ≠ w := by
          intro e
          rw [hd, e] at g2
          simp at g2
        (conv => whnf)
        refine h none ?_
        rw [getP, h2]
        simp only [if_neg g, if_neg g2]
      · have g2 : putP out = w := by
          have : d = ofB w := by simpa using g2
          exact ofB_inj (hd.symm.trans this)
        (conv => whnf)
        have hk := h (some out) (by rw [getP, h2]; simp only [if_neg g, if_pos g2])
        exact hk
end Go.Abs
