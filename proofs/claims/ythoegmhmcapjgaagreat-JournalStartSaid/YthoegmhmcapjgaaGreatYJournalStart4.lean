/- Several texts of this claim, one behind the other: L8, L9, LA, LB, LC, PF, PG, PH, PI. -/
import Derived.Test.YthoegmhmcapjgaaGreatYJournalStart3
import Derived.Test.YthoegmhmcapjgaaGreatC1

section
/- The file system's crash. -/
set_option maxRecDepth 100000
set_option maxHeartbeats 2000000
set_option linter.unusedVariables false
set_option linter.unusedSimpArgs false
namespace Go.Abs
open Go Go.Proofs
attribute [local irreducible] ibits byteAt strLt firstIdx

theorem crashF_same {n : B} {l : List B} {keep : List Int} {m : FM} (h : (gF m n).safe = (gF m n).b.length) : crashF (n :: l) keep m = crashF l keep m := by
  conv => lhs; unfold crashF
  rw [if_pos h]
theorem crashF_none {n : B} {l : List B} {m : FM} (h : ¬ (gF m n).safe = (gF m n).b.length) : crashF (n :: l) [] m = crashF l [] (pt m n ⟨(gF m n).b.take (gF m n).safe, (gF m n).safe⟩) := by
  conv => lhs; unfold crashF
  rw [if_neg h]
theorem crashF_more {n : B} {l : List B} {k : Int} {keep : List Int} {m : FM} (h : ¬ (gF m n).safe = (gF m n).b.length) (hs : (gF m n).safe ≤ (gF m n).b.length) {z : Nat} (hz : (z : Int) = (gF m n).safe + min (max k 0) ((gF m n).b.length - (gF m n).safe : Int)) :
    crashF (n :: l) (k :: keep) m = crashF l keep (pt m n ⟨(gF m n).b.take z, z⟩) := by
  conv => lhs; unfold crashF
  rw [if_neg h]
  have : z = (gF m n).safe + (min (max k 0) ((gF m n).b.length - (gF m n).safe : Int)).toNat := by omega
  rw [this]
theorem Crash_calls (s : FSt) (keep : List Int) {nb fb : Nat} (ho : FOk s nb fb) (hnb : nb < 1000000) (hfb : fb < 100000000) (hk : keep.length < 1000000) {R} (h : R (.tup []) [fsC (s.crash keep) 1, fsM (s.crash keep)]) : ACalls Tryz.prog 19 [.ptr 0 0, .sl none 1 (intsZ keep)] [fsC s 1, fsM s] R := by
  refine acalls_of_xwp (an := an19) tab_ok Tryz.func19 ?_
  have hsl := strs_length s.names
  have hnl : s.names.length = s.fs.length := by rw [(names_perm s).length_eq]; simp [kys]
  have hll := ho.m.len
  (conv => whnf)
  refine fsNames_calls s (by omega) ho.m.names ho.m.nodup ?_
  (conv => whnf)
  refine LoopP.ind3 (fun (i : Nat) (kp : List Int) (m : FM) => [(1, .sl none 1 (intsZ kp)), (12, vi i)]) (fun i kp m => [(0, fsC s 1), (1, .map (amap fEnc m))]) (fun i _ _ => s.names.length - i)
    (fun i kp m => i ≤ s.names.length ∧ FMOk m nb fb ∧ kys m = kys s.fs ∧ kp.length ≤ keep.length ∧ crashF (s.names.drop i) kp m = crashF s.names keep s.fs) 0 keep s.fs rfl ⟨by omega, ho.m, rfl, by omega, rfl⟩ ?_
  rintro i kp m ⟨h0, hm, hky, hkl, hcr⟩ IH
  have hil := intsZ_length kp
  (conv => whnf)
  refine br_intro (fun hc => ?_) (fun hc => ?_)
  · have hc := lt_of_decE hsl hc
    rw [List.drop_eq_getElem_cons hc] at hcr
    have hin : s.names[i] ∈ kys m := by rw [hky]; exact (names_perm s).mem_iff.1 (List.getElem_mem hc)
    obtain ⟨v, e⟩ := lk_mem hin
    have ev : gF m s.names[i] = v := by simp [gF, e]
    have hg := hm.get s.names[i]
    rw [ev] at hg
    have hvl := bel_length v.b
    (conv => whnf); (repeat ((with_reducible refine must_intro ?_ ?_); exact decide_eq_true (by omega); (conv => whnf)))
    refine idxK_map_intro (show (i : Int).toNat < s.names.length by simpa using hc) ?_
    rw [show s.names[(i : Int).toNat]'(by simpa using hc) = s.names[i] from by congr 1]
    (conv => whnf)
    rw [amap_find, e]
    (conv => whnf)
    rw [hvl]
    refine br_intro (fun g => ?_) (fun g => ?_)
    · have g : (v.safe : Int) = (v.b.length : Int) := by simpa using g
      rw [crashF_same (by rw [ev]; omega)] at hcr
      (conv => whnf)
      rw [i64_nat (by omega)]
      exact IH (i + 1) kp m ⟨by omega, hm, hky, hkl, hcr⟩ (by omega)
    have g : ¬ (v.safe : Int) = (v.b.length : Int) := by simpa using g
    have g' : ¬ (gF m s.names[i]).safe = (gF m s.names[i]).b.length := by rw [ev]; omega
    have put : ∀ (z : Nat), v.safe ≤ z → z ≤ v.b.length → FMOk (pt m s.names[i] ⟨v.b.take z, z⟩) nb fb ∧ kys (pt m s.names[i] ⟨v.b.take z, z⟩) = kys s.fs := fun z z1 z2 =>
      ⟨hm.put_old hin (by simp; omega) (by simp; omega) (by omega), by rw [kys_pt hin, hky]⟩
    cases kp with
    | nil =>
      rw [crashF_none g', ev] at hcr
      have ew : IntKind.i64.wrap ((v.safe : Int) + 0) = v.safe := by rw [wrap_i64 (by omega) (by omega)]; omega
      have eqm := amap_put fEnc m s.names[i] ⟨v.b.take v.safe, v.safe⟩
      have hnx := IH (i + 1) [] (pt m s.names[i] ⟨v.b.take v.safe, v.safe⟩) ⟨by omega, (put v.safe (by omega) hg.1).1, (put v.safe (by omega) hg.1).2, by simp, hcr⟩ (by omega)
      dsimp only at hnx
      rw [← eqm] at hnx
      (conv => whnf)
      refine must_intro (decide_eq_true (by rw [ew]; omega)) ?_
      (conv => whnf)
      refine must_intro (decide_eq_true (by rw [ew]; omega)) ?_
      (conv => whnf)
      refine must_intro (decide_eq_true (by rw [ew]; omega)) ?_
      rw [ew]
      (conv => whnf)
      rw [i64_nat (by omega)]
      simp only [fEnc, ← bel_take] at hnx
      exact hnx
    | cons k kp =>
      have w1 : IntKind.i64.wrap (((byteEls v.b).length : Int) - v.safe) = (v.b.length : Int) - v.safe := by rw [hvl, wrap_i64 (by omega) (by omega)]
      obtain ⟨z, hz⟩ : ∃ z : Nat, (z : Int) = v.safe + min (max k 0) (v.b.length - v.safe : Int) := ⟨((v.safe : Int) + min (max k 0) (v.b.length - v.safe : Int)).toNat, by omega⟩
      have hz1 : v.safe ≤ z ∧ z ≤ v.b.length := by omega
      have ew : IntKind.i64.wrap ((v.safe : Int) + if IntKind.i64.wrap (((byteEls v.b).length : Int) - v.safe) < if k < 0 then 0 else k then IntKind.i64.wrap (((byteEls v.b).length : Int) - v.safe) else if k < 0 then 0 else k) = z := by
        rw [w1]
        have : ((v.safe : Int) + if ((v.b.length : Int) - v.safe) < if k < 0 then 0 else k then ((v.b.length : Int) - v.safe) else if k < 0 then 0 else k) = z := by
          rw [hz]
          split <;> split <;> omega
        rw [this, wrap_i64 (by omega) (by omega)]
      have et : List.drop (Int.toNat 1) (List.take (((intsZ (k :: kp)).length : Int)).toNat (intsZ (k :: kp))) = intsZ kp := by
        rw [Int.toNat_natCast, List.take_length]; rfl
      rw [crashF_more g' (by rw [ev]; exact hg.1) (z := z) (by rw [ev]; exact hz), ev] at hcr
      have eqm := amap_put fEnc m s.names[i] ⟨v.b.take z, z⟩
      have hnx := IH (i + 1) kp (pt m s.names[i] ⟨v.b.take z, z⟩) ⟨by omega, (put z hz1.1 hz1.2).1, (put z hz1.1 hz1.2).2, by simp at hkl; omega, hcr⟩ (by omega)
      dsimp only at hnx
      rw [← eqm] at hnx
      (conv => whnf)
      refine br_true (decide_eq_true (by rw [hil]; simp)) ?_
      (conv => whnf)
      refine must_intro (decide_eq_true (by rw [hil]; simp; omega)) ?_
      (conv => whnf)
      refine must_intro (decide_eq_true (by omega)) ?_
      (conv => whnf)
      refine must_intro (decide_eq_true (by rw [ew]; omega)) ?_
      (conv => whnf)
      refine must_intro (decide_eq_true (by rw [ew]; omega)) ?_
      (conv => whnf)
      refine must_intro (decide_eq_true (by rw [ew]; omega)) ?_
      rw [ew, et]
      (conv => whnf)
      rw [i64_nat (by omega)]
      simp only [fEnc, ← bel_take] at hnx
      exact hnx
  · have hc := ge_of_decE hsl hc
    rw [List.drop_eq_nil_of_le hc] at hcr
    have hcr : m = crashF s.names keep s.fs := hcr
    (conv => whnf)
    rw [hcr]
    exact h
end Go.Abs
end

section
/- Acts upon a file system; are two the same. -/
set_option maxRecDepth 100000
set_option maxHeartbeats 4000000
set_option linter.unusedVariables false
set_option linter.unusedSimpArgs false
namespace Go.Abs
open Go Go.Proofs
attribute [local irreducible] ibits byteAt strLt firstIdx

theorem sameV_calls (a b : List B) (ha : a.length < 1000000) {R} (h : ∀ p, p = decide (a = b) → R (.val (.bool p)) []) : ACalls Tryz.prog 95 [.sl none 1 (strs a), .sl none 1 (strs b)] [] R := by
  refine acalls_of_xwp (an := an95) tab_ok Tryz.func95 ?_
  have hsa := strs_length a
  have hsb := strs_length b
  (conv => whnf)
  rw [hsa, hsb]
  refine br_intro (fun hc => ?_) (fun hc => ?_)
  · (conv => whnf)
    refine h false (decide_eq_false ?_).symm
    rintro rfl
    simp at hc
  have hlen : a.length = b.length := by simp at hc; omega
  (conv => whnf)
  refine LoopP.ind1 (fun (i : Nat) => [(5, vi i)]) (fun _ => []) (fun i => a.length - i) (fun i => i ≤ a.length ∧ a.take i = b.take i) 0 rfl ⟨by omega, by simp⟩ ?_
  rintro i ⟨h0, h1⟩ IH
  (conv => whnf)
  refine br_intro (fun hc => ?_) (fun hc => ?_)
  · have hc := lt_of_decE hsa hc
    have hcb : i < b.length := by omega
    (conv => whnf); (repeat ((with_reducible refine must_intro ?_ ?_); exact decide_eq_true (by omega); (conv => whnf)))
    refine idxK_map_intro (show (i : Int).toNat < a.length by simpa using hc) ?_
    rw [show a[(i : Int).toNat]'(by simpa using hc) = a[i] from by congr 1]
    (conv => whnf); (repeat ((with_reducible refine must_intro ?_ ?_); exact decide_eq_true (by omega); (conv => whnf)))
    refine idxK_map_intro (show (i : Int).toNat < b.length by simpa using hcb) ?_
    rw [show b[(i : Int).toNat]'(by simpa using hcb) = b[i] from by congr 1]
    (conv => whnf)
    refine br_intro (fun he => ?_) (fun he => ?_)
    · have he : a[i] ≠ b[i] := by simpa [ofB_eq] using he
      (conv => whnf)
      refine h false (decide_eq_false ?_).symm
      rintro rfl
      exact he rfl
    · have he : a[i] = b[i] := by simpa [ofB_eq] using he
      (conv => whnf)
      rw [i64_nat (by omega)]
      refine IH (i + 1) ⟨by omega, ?_⟩ (by omega)
      rw [List.take_succ_eq_append_getElem hc, List.take_succ_eq_append_getElem hcb, h1, he]
  · have hc := ge_of_decE hsa hc
    rw [List.take_of_length_le hc, List.take_of_length_le (by omega)] at h1
    (conv => whnf)
    exact h true (decide_eq_true h1).symm

theorem str_bytes (b : B) : ∃ ns : List Int, byteEls b = ns.map (fun n => [AV.val (.int .u8 n)]) ∧ strOfNums ns = ofB b := ⟨b.map fun c => (c.toNat : Int), by simp [byteEls], strOfNums_ofB b⟩
end Go.Abs
end

section
/- The statements of vfs: how much is gone through; the chapter's example; arguments. -/
set_option maxRecDepth 100000
set_option maxHeartbeats 4000000
set_option linter.unusedVariables false
set_option linter.unusedSimpArgs false
namespace Go.Abs
open Go Go.Proofs
attribute [local irreducible] ibits byteAt strLt firstIdx

/-! ### arguments -/
theorem wf_i64 {x : Int} (h : (Lit.int .i64 x).wf = true) : -9223372036854775808 ≤ x ∧ x < 9223372036854775808 := by
  simp only [Lit.wf, Bool.and_eq_true, decide_eq_true_eq] at h
  have e1 : IntKind.i64.min = -9223372036854775808 := rfl
  have e2 : IntKind.i64.max = 9223372036854775807 := rfl
  rw [e1, e2] at h
  omega
theorem wf_u8 {x : Int} (h : (Lit.int .u8 x).wf = true) : x = ((UInt8.ofNat x.toNat).toNat : Int) := by
  simp only [Lit.wf, Bool.and_eq_true, decide_eq_true_eq] at h
  have e1 : IntKind.u8.min = 0 := rfl
  have e2 : IntKind.u8.max = 255 := rfl
  rw [e1, e2] at h
  rw [UInt8.toNat_ofNat']
  omega
theorem typed_u8s {l : List (List AV)} (h : ∀ x ∈ l, ∃ y, x = [.val (.int .u8 y)] ∧ (Lit.int .u8 y).wf = true) : ∃ b : B, l = byteEls b := by
  induction l with
  | nil => exact ⟨[], rfl⟩
  | cons x l ih =>
    obtain ⟨ns, rfl⟩ := ih fun y hy => h y (by simp [hy])
    obtain ⟨y, rfl, hy⟩ := h x (by simp)
    exact ⟨UInt8.ofNat y.toNat :: ns, by simp only [byteEls, List.map_cons]; rw [← wf_u8 hy]⟩
theorem typed_ints {l : List (List AV)} (h : ∀ x ∈ l, ∃ y, x = [.val (.int .i64 y)] ∧ (Lit.int .i64 y).wf = true) : ∃ ns : List Int, l = intsZ ns := by
  induction l with
  | nil => exact ⟨[], rfl⟩
  | cons x l ih =>
    obtain ⟨ns, rfl⟩ := ih fun y hy => h y (by simp [hy])
    obtain ⟨y, rfl, hy⟩ := h x (by simp)
    exact ⟨y :: ns, rfl⟩
theorem args_ints {ts : List TypeId} {l : List AV} (h : Args tab 12 (35 :: ts) l) : ∃ (x : List Int) (l' : List AV), l = .sl none 1 (intsZ x) :: l' ∧ x.length ≤ maxLen ∧ Args tab 12 ts l' := by
  obtain ⟨a, l', rfl, h1, h2⟩ := h
  obtain ⟨x, e, hl, hx⟩ : ∃ x : List (List AV), [a] = [.sl none 1 x] ∧ x.length ≤ maxLen ∧ ∀ y ∈ x, Typed tab 11 3 y := h1
  obtain ⟨ns, rfl⟩ := typed_ints (l := x) hx
  simp only [List.cons.injEq, and_true] at e
  subst e
  exact ⟨ns, l', rfl, by simpa [intsZ] using hl, h2⟩

/-! ### the chapter's example -/
def fx1 : FSt := ⟨[([120], ⟨[97, 98], 0⟩)], -1, -1, false⟩
def fx2 : FSt := ⟨[([120], ⟨[97, 98], 2⟩)], -1, -1, false⟩
def fx3 : FSt := ⟨[([120], ⟨[97, 98, 99, 100], 2⟩)], -1, -1, false⟩
def fx4 : FSt := ⟨[([120], ⟨[97, 98, 99], 3⟩)], -1, -1, false⟩
theorem fx_1 : fs0.append [120] [97, 98] = (fx1, 0) := rfl
theorem fx_2 : fx1.sync [120] = (fx2, 0) := rfl
theorem fx_3 : fx2.append [120] [99, 100] = (fx3, 0) := rfl
theorem fx_4 : fx3.crash [1] = fx4 := by
  have hn : fx3.names = [[120]] := by simp [FSt.names, sortB, fx3, kys]
  unfold FSt.crash
  rw [hn]
  rfl
theorem fx3_ok : FOk fx3 1 4 := ⟨⟨by decide, by simp [fx3], by simp [fx3], by simp [fx3], by simp [fx3, kys]⟩, (by decide : -1 ≤ (-1 : Int) ∧ (-1 : Int) < 9223372036854775808), (by decide : -1 ≤ (-1 : Int) ∧ (-1 : Int) < 9223372036854775808)⟩
end Go.Abs
end

section
/- The statements VfsSafe and VfsFails. -/
set_option maxRecDepth 100000
set_option maxHeartbeats 8000000
set_option linter.unusedVariables false
set_option linter.unusedSimpArgs false
namespace Go.Abs
open Go Go.Proofs
attribute [local irreducible] ibits byteAt strLt firstIdx

theorem fs0_ok : FOk fs0 0 0 := ⟨⟨by decide, by simp [fs0], by simp [fs0], by simp [fs0], by simp [fs0, kys]⟩, (by decide : -1 ≤ (-1 : Int) ∧ (-1 : Int) < 9223372036854775808), (by decide : -1 ≤ (-1 : Int) ∧ (-1 : Int) < 9223372036854775808)⟩
end Go.Abs
end

section
/- The statement VfsFails. -/
set_option maxRecDepth 100000
set_option maxHeartbeats 8000000
set_option linter.unusedVariables false
set_option linter.unusedSimpArgs false
namespace Go.Abs
open Go Go.Proofs
attribute [local irreducible] ibits byteAt strLt firstIdx

/-- What may come of an act, in plain cases. -/
inductive Outc (s r : FSt) (e : Int) (n c c' : Nat) (falls k0 : Bool) : Prop where
  | down (d : s.down = true) (e7 : e = 7) (hc : c' = c) (hf : r.fs = s.fs) (hd : r.down = true)
  | no (d : s.down = false) (e16 : e = 1 ∨ e = 6) (hc : c' = c) (hf : r.fs = s.fs) (hd : r.down = false)
  | fell (d : s.down = false) (e7 : e = 7) (hc : c' = c + 1) (hn : c = n) (hs : falls = true) (hf : k0 = false → r.fs = s.fs) (hd : r.down = true)
  | fail (d : s.down = false) (e8 : e = 8) (hc : c' = c + 1) (hn : c = n) (hs : falls = false) (hf : r.fs = s.fs) (hd : r.down = false)
  | done (d : s.down = false) (e0 : e = 0) (hc : c' = c + 1) (hn : c ≠ n) (hd : r.down = false)
theorem outc {s r : FSt} {e : Int} {n c : Nat} {falls late : Bool} (hc : Cnt s n falls c) (h : Did s late (r, e)) : ∃ c', Outc s r e n c c' falls late ∧ Cnt r n falls c' ∧ c' ≤ c + 1 := by
  obtain ⟨c', a1, a2, a3, a4, a5, a6, a7⟩ := asks hc h
  simp only at a1 a3 a4 a5 a6 a7
  have hle : c' ≤ c + 1 := by omega
  have hne : ∀ {x : Nat}, c' = c → ¬ c' = c + 1 := fun h => by omega
  refine ⟨c', ?_, a1, hle⟩
  cases h with
  | no hs he =>
    simp only at hs he
    rcases he with ⟨he, hd⟩ | ⟨he, hd⟩
    · have h0 : ¬ e = 0 := by omega
      have h7 : ¬ e = 7 := by omega
      have h8 : ¬ e = 8 := by omega
      rw [decide_eq_false h0, decide_eq_false h7, decide_eq_false h8] at a3
      have : ¬ c' = c + 1 := by simpa using a3
      exact .no hd he (by omega) (by rw [hs]) (by rw [a6, decide_eq_false h7])
    · subst he
      rw [hd] at a3
      have : ¬ c' = c + 1 := by simpa using a3
      exact .down hd rfl (by omega) (by rw [hs]) (by rw [a6]; rfl)
  | act hd g he =>
    have hcases : e = 0 ∨ e = 7 ∨ e = 8 := by
      have := congrArg Prod.snd he
      unfold FSt.act at this
      simp only at this
      split at this
      · exact .inr (.inl this)
      · split at this
        · exact .inr (.inr this)
        · exact .inl this
    rw [hd] at a3 a5
    rcases hcases with rfl | rfl | rfl
    · have hc' : c' = c + 1 := by simpa using a3
      subst hc'
      refine .done hd rfl rfl ?_ (by rw [a6]; rfl)
      intro hcn
      subst hcn
      cases falls <;> simp at a4 a5
    · have hc' : c' = c + 1 := by simpa using a3
      subst hc'
      simp at a5
      exact .fell hd rfl rfl a5.1 a5.2 (fun hk => a7 (.inl ⟨by omega, by rw [hk]; simp⟩)) (by rw [a6]; rfl)
    · have hc' : c' = c + 1 := by simpa using a3
      subst hc'
      simp at a4
      exact .fail hd rfl rfl a4.1 a4.2 (a7 (.inr rfl)) (by rw [a6]; rfl)
theorem Down_one (s : FSt) {R} (h : ∀ d, d = s.down → R (.val (.bool d)) [fsC s 1, fsM s]) : ACalls Tryz.prog 79 [.ptr 0 0] [fsC s 1, fsM s] R := Down_calls s (h _ rfl)
theorem args_bool {ts : List TypeId} {l : List AV} (h : Args tab 12 (4 :: ts) l) : ∃ (x : Bool) (l' : List AV), l = .val (.bool x) :: l' ∧ Args tab 12 ts l' := by
  obtain ⟨a, l', rfl, h1, h2⟩ := h
  obtain ⟨x, e⟩ : ∃ x : Bool, [a] = [.val (.bool x)] := h1
  simp only [List.cons.injEq, and_true] at e
  exact ⟨x, l', by rw [e], h2⟩
end Go.Abs
end

section
/- journal.Start. -/
set_option maxRecDepth 100000
set_option maxHeartbeats 4000000
set_option linter.unusedVariables false
set_option linter.unusedSimpArgs false
namespace Go.Abs
open Go Go.Proofs Dig
attribute [local irreducible] ibits byteAt strLt firstIdx

theorem sIndex_calls (l : List B) (s : B) (hl : l.length < 1000000) {R} (h : ∀ p, p = placeI l s → R (vi p) []) : ACalls Tryz.prog 108 [.sl none 1 (strs l), vs s] [] R := by
  refine acalls_of_xwp (an := an108) tab_ok Tryz.func108 ?_
  have hsl := strs_length l
  (conv => whnf)
  refine LoopP.ind1 (fun (i : Nat) => [(8, vi i)]) (fun i => []) (fun i => l.length - i) (fun i => i ≤ l.length ∧ ∀ j, j < i → l[j]? ≠ some s) 0 rfl ⟨by omega, fun j hj => by omega⟩ ?_
  rintro i ⟨h0, h1⟩ IH
  (conv => whnf)
  refine br_intro (fun hc => ?_) (fun hc => ?_)
  · have hc := lt_of_decE hsl hc
    (conv => whnf); (repeat ((with_reducible refine must_intro ?_ ?_); exact decide_eq_true (by omega); (conv => whnf)))
    refine idxK_map_intro (show (i : Int).toNat < l.length by simpa using hc) ?_
    rw [show l[(i : Int).toNat]'(by simpa using hc) = l[i] from by congr 1]
    (conv => whnf)
    refine br_intro (fun g => ?_) (fun g => ?_)
    · have g : s = l[i] := by
        have g : ofB s = ofB l[i] := of_decide_eq_true g
        exact ofB_inj g
      (conv => whnf)
      refine h _ ?_
      rw [placeI, placeOf_of (by rw [List.getElem?_eq_getElem hc, g]) h1]
    · have g : s ≠ l[i] := by
        have g : ¬ ofB s = ofB l[i] := of_decide_eq_false g
        exact fun e => g (by rw [e])
      (conv => whnf)
      rw [i64_nat (by omega)]
      refine IH (i + 1) ⟨hc, fun j hj => ?_⟩ (by omega)
      rcases Nat.lt_succ_iff_lt_or_eq.1 hj with hj | rfl
      · exact h1 j hj
      · rw [List.getElem?_eq_getElem hc]
        exact fun e => g (Option.some.inj e).symm
  · have hc := ge_of_decE hsl hc
    (conv => whnf)
    refine h _ ?_
    rw [placeI, placeOf_none.2]
    intro hm
    obtain ⟨j, hj, e⟩ := List.getElem_of_mem hm
    exact h1 j (by omega) (by rw [List.getElem?_eq_getElem hj, e])
theorem sContains_calls (l : List B) (s : B) (hl : l.length < 1000000) {R} (h : R (.val (.bool (decide (s ∈ l)))) []) : ACalls Tryz.prog 58 [.sl none 1 (strs l), vs s] [] R := by
  refine acalls_of_xwp (an := an58) tab_ok Tryz.func58 ?_
  (conv => whnf)
  refine sIndex_calls l s hl fun p hp => ?_
  have e : decide (p ≥ 0) = decide (s ∈ l) := by
    have := placeI_neg (l := l) (s := s)
    rw [← hp] at this
    by_cases hm : s ∈ l
    · rw [decide_eq_true hm, decide_eq_true]
      refine Classical.byContradiction fun hn => this.1 (by omega) hm
    · rw [decide_eq_false hm, decide_eq_false]
      have := this.2 hm
      omega
  (conv => whnf)
  rw [e]
  exact h

/-! ### the acts -/
def bxO : AObj := .cells 26 [.ptr 1 0]
def byO (b : B) : AObj := .cells 31 [.sl none 1 (byteEls b)]
theorem st1_calls (s : FSt) (aside : B) (h1 : okN s.fail) (h2 : okN s.fall) {R} (h : R (vi (s.remove aside).2) [bxO, fsC (s.remove aside).1 2, fsM (s.remove aside).1]) :
    ACalls Tryz.prog 60 [.ptr 0 0, .cptr [vs aside] 0] [bxO, fsC s 2, fsM s] R := by
  refine acalls_of_xwp (an := an60) tab_ok Tryz.func60 ?_
  (conv => whnf)
  refine Remove_calls s aside h1 h2 ?_
  (conv => whnf)
  exact h
theorem st2_calls (s : FSt) (aside b : B) (h1 : okN s.fail) (h2 : okN s.fall) (hb : b.length < 1000000) (hg : (gF s.fs aside).b.length < 100000000) {R} (h : R (vi (s.append aside b).2) [bxO, fsC (s.append aside b).1 2, fsM (s.append aside b).1, byO b]) :
    ACalls Tryz.prog 62 [.ptr 0 0, .cptr [vs aside] 0, .ptr 3 0] [bxO, fsC s 2, fsM s, byO b] R := by
  refine acalls_of_xwp (an := an62) tab_ok Tryz.func62 ?_
  (conv => whnf)
  refine Append_calls s aside b h1 h2 hb hg ?_
  (conv => whnf)
  exact h
theorem st3_calls (s : FSt) (aside : B) (h1 : okN s.fail) (h2 : okN s.fall) {R} (h : R (vi (s.sync aside).2) [bxO, fsC (s.sync aside).1 2, fsM (s.sync aside).1]) :
    ACalls Tryz.prog 63 [.ptr 0 0, .cptr [vs aside] 0] [bxO, fsC s 2, fsM s] R := by
  refine acalls_of_xwp (an := an63) tab_ok Tryz.func63 ?_
  (conv => whnf)
  refine Sync_calls s aside h1 h2 ?_
  (conv => whnf)
  exact h
theorem st4_calls (s : FSt) (aside name : B) (h1 : okN s.fail) (h2 : okN s.fall) {R} (h : R (vi (s.rename aside name).2) [bxO, fsC (s.rename aside name).1 2, fsM (s.rename aside name).1]) :
    ACalls Tryz.prog 64 [.ptr 0 0, .cptr [vs aside] 0, .cptr [vs name] 0] [bxO, fsC s 2, fsM s] R := by
  refine acalls_of_xwp (an := an64) tab_ok Tryz.func64 ?_
  (conv => whnf)
  refine Rename_calls s aside name h1 h2 ?_
  (conv => whnf)
  exact h
/-- The acts, up to the first that answers an error. -/
def run3 (s : FSt) (name aside b : B) : FSt × Int :=
  if (s.append aside b).2 ≠ 0 then s.append aside b
  else if ((s.append aside b).1.sync aside).2 ≠ 0 then (s.append aside b).1.sync aside
  else ((s.append aside b).1.sync aside).1.rename aside name
def startP (s : FSt) (name aside b : B) : FSt × Int :=
  if aside ∈ s.names then (if (s.remove aside).2 ≠ 0 then s.remove aside else run3 (s.remove aside).1 name aside b) else run3 s name aside b
def fn1 (aside : B) : AV := .fn (.func 60) [] [.ptr 1 0, .cptr [vs aside] 0]
def fn2 (aside : B) : AV := .fn (.func 62) [] [.ptr 1 0, .cptr [vs aside] 0, .ptr 4 0]
def fn3 (aside : B) : AV := .fn (.func 63) [] [.ptr 1 0, .cptr [vs aside] 0]
def fn4 (aside name : B) : AV := .fn (.func 64) [] [.ptr 1 0, .cptr [vs aside] 0, .cptr [vs name] 0]
def bx1 : AObj := .cells 26 [.ptr 2 0]
theorem run3_calls (s : FSt) (name aside b : B) {nb fb : Nat} (hk : FOk s nb fb) (hfb : fb ≤ 90000000) (hna : aside.length < 1000000) (hb : b.length < 1000000) {R}
    (h : R (vi (run3 s name aside b).2) [.fns 95 [fn2 aside, fn3 aside, fn4 aside name] 0, bx1, fsC (run3 s name aside b).1 3, fsM (run3 s name aside b).1, byO b]) :
    ACalls Tryz.prog 66 [.slv 0 0 0 0 3] [.fns 95 [fn2 aside, fn3 aside, fn4 aside name] 0, bx1, fsC s 3, fsM s, byO b] R := by
  refine acalls_of_xwp (an := an66) tab_ok Tryz.func66 ?_
  (conv => whnf)
  refine LoopP.step ?_
  (conv => whnf)
  refine ⟨rfl, ?_⟩
  (conv => whnf)
  refine st2_calls s aside b hk.fail hk.fall hb (by have := (hk.m.get aside).2; omega) ?_
  have hk2 := append_ok hk (name := aside) (b := b) hna
  (conv => whnf)
  refine br_intro (fun g => ?_) (fun g => ?_)
  · have g : (s.append aside b).2 ≠ 0 := by simpa using g
    rw [run3, if_pos g] at h
    (conv => whnf)
    exact h
  have g : ¬ (s.append aside b).2 ≠ 0 := by simpa using g
  rw [run3, if_neg g] at h
  generalize (s.append aside b).1 = s1 at h hk2 ⊢
  (conv => whnf)
  refine LoopP.step ?_
  (conv => whnf)
  refine ⟨rfl, ?_⟩
  (conv => whnf)
  refine st3_calls s1 aside hk2.fail hk2.fall ?_
  have hk3 := sync_ok hk2 (name := aside)
  (conv => whnf)
  refine br_intro (fun g2 => ?_) (fun g2 => ?_)
  · have g2 : (s1.sync aside).2 ≠ 0 := by simpa using g2
    rw [if_pos g2] at h
    (conv => whnf)
    exact h
  have g2 : ¬ (s1.sync aside).2 ≠ 0 := by simpa using g2
  rw [if_neg g2] at h
  generalize (s1.sync aside).1 = s2 at h hk3 ⊢
  (conv => whnf)
  refine LoopP.step ?_
  (conv => whnf)
  refine ⟨rfl, ?_⟩
  (conv => whnf)
  refine st4_calls s2 aside name hk3.fail hk3.fall ?_
  (conv => whnf)
  refine br_intro (fun g3 => ?_) (fun g3 => ?_)
  · (conv => whnf)
    exact h
  have g3 : (s2.rename aside name).2 = 0 := by simpa using g3
  rw [g3] at h
  (conv => whnf)
  refine LoopP.step ?_
  (conv => whnf)
  exact h
theorem run4_calls (s : FSt) (name aside b : B) {nb fb : Nat} (hk : FOk s nb fb) (hfb : fb ≤ 90000000) (hna : aside.length < 1000000) (hb : b.length < 1000000) {R}
    (h : R (vi (if (s.remove aside).2 ≠ 0 then s.remove aside else run3 (s.remove aside).1 name aside b).2) [.fns 95 [fn1 aside, fn2 aside, fn3 aside, fn4 aside name] 1, bx1, fsC (if (s.remove aside).2 ≠ 0 then s.remove aside else run3 (s.remove aside).1 name aside b).1 3, fsM (if (s.remove aside).2 ≠ 0 then s.remove aside else run3 (s.remove aside).1 name aside b).1, byO b]) :
    ACalls Tryz.prog 66 [.slv 0 0 1 0 4] [.fns 95 [fn1 aside, fn2 aside, fn3 aside, fn4 aside name] 1, bx1, fsC s 3, fsM s, byO b] R := by
  refine acalls_of_xwp (an := an66) tab_ok Tryz.func66 ?_
  (conv => whnf)
  refine LoopP.step ?_
  (conv => whnf)
  refine ⟨rfl, ?_⟩
  (conv => whnf)
  refine st1_calls s aside hk.fail hk.fall ?_
  have hk0 := remove_ok hk (name := aside)
  (conv => whnf)
  refine br_intro (fun g => ?_) (fun g => ?_)
  · have g : (s.remove aside).2 ≠ 0 := by simpa using g
    rw [if_pos g] at h
    (conv => whnf)
    exact h
  have g : ¬ (s.remove aside).2 ≠ 0 := by simpa using g
  rw [if_neg g] at h
  clear hk
  generalize (s.remove aside).1 = s at h hk0 ⊢
  have hk := hk0
  clear hk0
  (conv => whnf)
  refine LoopP.step ?_
  (conv => whnf)
  refine ⟨rfl, ?_⟩
  (conv => whnf)
  refine st2_calls s aside b hk.fail hk.fall hb (by have := (hk.m.get aside).2; omega) ?_
  have hk2 := append_ok hk (name := aside) (b := b) hna
  (conv => whnf)
  refine br_intro (fun g => ?_) (fun g => ?_)
  · have g : (s.append aside b).2 ≠ 0 := by simpa using g
    rw [run3, if_pos g] at h
    (conv => whnf)
    exact h
  have g : ¬ (s.append aside b).2 ≠ 0 := by simpa using g
  rw [run3, if_neg g] at h
  generalize (s.append aside b).1 = s1 at h hk2 ⊢
  (conv => whnf)
  refine LoopP.step ?_
  (conv => whnf)
  refine ⟨rfl, ?_⟩
  (conv => whnf)
  refine st3_calls s1 aside hk2.fail hk2.fall ?_
  have hk3 := sync_ok hk2 (name := aside)
  (conv => whnf)
  refine br_intro (fun g2 => ?_) (fun g2 => ?_)
  · have g2 : (s1.sync aside).2 ≠ 0 := by simpa using g2
    rw [if_pos g2] at h
    (conv => whnf)
    exact h
  have g2 : ¬ (s1.sync aside).2 ≠ 0 := by simpa using g2
  rw [if_neg g2] at h
  generalize (s1.sync aside).1 = s2 at h hk3 ⊢
  (conv => whnf)
  refine LoopP.step ?_
  (conv => whnf)
  refine ⟨rfl, ?_⟩
  (conv => whnf)
  refine st4_calls s2 aside name hk3.fail hk3.fall ?_
  (conv => whnf)
  refine br_intro (fun g3 => ?_) (fun g3 => ?_)
  · (conv => whnf)
    exact h
  have g3 : (s2.rename aside name).2 = 0 := by simpa using g3
  rw [g3] at h
  (conv => whnf)
  refine LoopP.step ?_
  (conv => whnf)
  exact h
theorem Start_nil (name aside : B) (v : Int) (l : List Rc) {R} (h : R (vi 1) []) : ACalls Tryz.prog 18 [.val (.pointer none), vs name, vs aside, vi v, .sl none 7 (recs l)] [] R := by
  refine acalls_of_xwp (an := an18) tab_ok Tryz.func18 ?_
  (conv => whnf)
  exact h
theorem Start_err (s : FSt) (name aside : B) (v : Int) (l : List Rc) (e : Int) (he : e ≠ 0) (hput : ∀ {R : AV → List AObj → Prop}, R (.tup [.val (.slice none 0 0), vi e]) [] → ACalls Tryz.prog 57 [vi v, .sl none 7 (recs l)] [] R) {R} (h : R (vi e) [fsC s 1, fsM s]) :
    ACalls Tryz.prog 18 [.ptr 0 0, vs name, vs aside, vi v, .sl none 7 (recs l)] [fsC s 1, fsM s] R := by
  refine acalls_of_xwp (an := an18) tab_ok Tryz.func18 ?_
  (conv => whnf)
  refine hput ?_
  (conv => whnf)
  refine br_true (by simpa using he) ?_
  (conv => whnf)
  exact h
theorem Start_ok (s : FSt) (name aside b : B) (hne : name ≠ aside) (v : Int) (l : List Rc) {nb fb : Nat} (hk : FOk s nb fb) (hnb : nb ≤ 900000) (hfb : fb ≤ 80000000) (hna : aside.length < 1000000) (hb : b.length < 1000000)
    (hput : ∀ {R : AV → List AObj → Prop}, R (.tup [.sl none 1 (byteEls b), vi 0]) [] → ACalls Tryz.prog 57 [vi v, .sl none 7 (recs l)] [] R) {R} (h : R (vi (startP s name aside b).2) [fsC (startP s name aside b).1 1, fsM (startP s name aside b).1]) :
    ACalls Tryz.prog 18 [.ptr 0 0, vs name, vs aside, vi v, .sl none 7 (recs l)] [fsC s 1, fsM s] R := by
  refine acalls_of_xwp (an := an18) tab_ok Tryz.func18 ?_
  have hlen := hk.m.len
  have hnl : s.names.length ≤ nb := by
    rw [(names_perm s).length_eq]
    simpa [kys] using hlen
  (conv => whnf)
  refine hput ?_
  (conv => whnf)
  refine br_false (decide_eq_false (fun e => hne (ofB_inj e))) ?_
  (conv => whnf)
  refine fsNames_calls s (by omega) hk.m.names hk.m.nodup ?_
  (conv => whnf)
  refine sContains_calls s.names aside (by omega) ?_
  (conv => whnf)
  refine br_intro (fun g => ?_) (fun g => ?_)
  · have g := of_decide_eq_true g
    unfold startP at h
    rw [if_pos g] at h
    (conv => whnf)
    refine ⟨by simp only [List.length_cons, List.length_nil]; decide, ?_⟩
    (conv => whnf)
    refine ⟨⟨rfl, rfl⟩, by simp only [List.length_cons, List.length_nil]; decide, ?_⟩
    (conv => whnf)
    refine run4_calls s name aside b hk (by omega) hna hb ?_
    (conv => whnf)
    exact h
  · have g := of_decide_eq_false g
    unfold startP at h
    rw [if_neg g] at h
    (conv => whnf)
    refine ⟨by simp only [List.length_cons, List.length_nil]; decide, ?_⟩
    (conv => whnf)
    refine run3_calls s name aside b hk (by omega) hna hb ?_
    (conv => whnf)
    exact h
end Go.Abs
end

section
/- journal.Open; the chapter's example; JournalNil. -/
set_option maxRecDepth 100000
set_option maxHeartbeats 4000000
set_option linter.unusedVariables false
set_option linter.unusedSimpArgs false
namespace Go.Abs
open Go Go.Proofs Dig
attribute [local irreducible] ibits byteAt strLt firstIdx

/-- No file. -/
def zF : AV := .agg [vi 0, nlA, nlA, vi 0]
theorem Open_nil (name : B) {R} (h : R (.tup [zF, vi 1]) []) : ACalls Tryz.prog 20 [.val (.pointer none), vs name] [] R := by
  refine acalls_of_xwp (an := an20) tab_ok Tryz.func20 ?_
  (conv => whnf)
  exact h
theorem Open_ok (s : FSt) (name : B) (v : Int) (l : List Rc) (hin : name ∈ kys s.fs) (hb : (gF s.fs name).b = fileP v l) (hlen : (fileP v l).length < 1000000)
    (hget : ∀ {R : AV → List AObj → Prop}, R (.tup [.agg (fileA v l), vi 0]) [] → ACalls Tryz.prog 67 [.sl none 1 (byteEls (fileP v l))] [] R) {R} (h : R (.tup [.agg (fileA v l), vi 0]) [fsC s 1, fsM s]) :
    ACalls Tryz.prog 20 [.ptr 0 0, vs name] [fsC s 1, fsM s] R := by
  refine acalls_of_xwp (an := an20) tab_ok Tryz.func20 ?_
  have hbl := bel_length (fileP v l)
  (conv => whnf)
  refine fsRead_calls s name (by rw [hb]; omega) (fun _ => ?_) (fun hno => absurd hin hno)
  rw [hb]
  (conv => whnf)
  refine hget ?_
  (conv => whnf)
  refine br_false (decide_eq_false (by rw [hbl]; omega)) ?_
  (conv => whnf)
  exact h
theorem jAppend_nil (name : B) (v : Int) (r : Rc) {R} (h : R (.tup [zF, vi 1]) []) : ACalls Tryz.prog 23 [.val (.pointer none), vs name, .agg [vi v, nlA, nlA, vi 0], .agg r.enc] [] R := by
  refine acalls_of_xwp (an := an23) tab_ok Tryz.func23 ?_
  (conv => whnf)
  exact h
def jr : Rc := ⟨1, [97], 0, [], 7, 0, []⟩
theorem jr_may : ∀ r ∈ [jr], mayP 2 r = true := by decide +kernel
theorem jr_len : (fileP 2 [jr]).length < 1000000 := by
  have h := paysP_frames (v := 2) (l := [jr]) (t := []) (fun r hr => may_all (jr_may r hr)) (by simp)
  rw [fileP_len]
  simp at h
  omega
theorem fs0_fok : FOk fs0 0 0 := ⟨⟨by decide, by simp [fs0], by simp [fs0], by simp [fs0], by simp [fs0, kys]⟩, (by decide : -1 ≤ (-1 : Int) ∧ (-1 : Int) < 9223372036854775808), (by decide : -1 ≤ (-1 : Int) ∧ (-1 : Int) < 9223372036854775808)⟩
/-- A journal begun on an empty file system. -/
theorem start_fs0 (name aside b : B) (hne : name ≠ aside) : startP fs0 name aside b = (⟨[(name, ⟨b, b.length⟩)], -1, -1, false⟩, 0) := by
  have h1 : fs0.append aside b = (⟨[(aside, ⟨b, 0⟩)], -1, -1, false⟩, 0) := rfl
  have h2 : (FSt.mk [(aside, ⟨b, 0⟩)] (-1) (-1) false).sync aside = (⟨[(aside, ⟨b, b.length⟩)], -1, -1, false⟩, 0) := by
    simp [FSt.sync, FSt.may, FSt.act, lk, syncF, pt, gF, cnt]
  have h3 : (FSt.mk [(aside, ⟨b, b.length⟩)] (-1) (-1) false).rename aside name = (⟨[(name, ⟨b, b.length⟩)], -1, -1, false⟩, 0) := by
    simp [FSt.rename, FSt.may, FSt.act, lk, renF, pt, dl, gF, cnt]
  have hn : aside ∉ fs0.names := by simp [FSt.names, sortB, fs0, kys]
  unfold startP run3
  rw [if_neg hn, h1]
  simp only [h2, h3, ne_eq, not_true_eq_false, if_false]
theorem fixed14_calls {R} (h : R (.val (.bool true)) []) : ACalls Tryz.prog 13 [] [] R := by
  refine acalls_of_xwp (an := an13) tab_ok Tryz.func13 ?_
  have hle := leE.cons (le_rec2 1 [97] 0 7 0 []) rfl leE.nil
  have hs := start_fs0 [120] [121] (fileP 2 [jr]) (by decide)
  have hl := jr_len
  (conv => whnf)
  refine fsNew_calls ?_
  (conv => whnf)
  refine ACalls.args ?_ (Start_ok fs0 [120] [121] (fileP 2 [jr]) (by decide) 2 [jr] fs0_fok (by omega) (by omega) (by simp) hl (fun hR => cPut_2 [jr] (by simp) (by simp [jr]) (fun _ => hR) (fun hno => absurd jr_may hno)) ?_)
  · exact leL.cons (.refl _) (leL.cons (.refl _) (leL.cons (.refl _) (leL.cons (.refl _) (leL.cons (le_sl _ _ hle) leL.nil))))
  rw [hs]
  (conv => whnf)
  refine Open_ok ⟨[([120], ⟨fileP 2 [jr], (fileP 2 [jr]).length⟩)], -1, -1, false⟩ [120] 2 [jr] (by simp [kys]) rfl hl (fun hR => cGet_2 [jr] jr_may (by simp) hR) ?_
  (conv => whnf)
  exact h
theorem JournalNil_calls (v : Int) (r : Rc) (hr : r.deps.length ≤ maxLen) {R} (h : R (.val (.bool true)) []) : ACalls Tryz.prog 4 [vi v, .agg r.enc] [] R := by
  refine acalls_of_xwp (an := an4) tab_ok Tryz.func4 ?_
  (conv => whnf)
  refine Great8_calls r hr fun b hb => ?_
  cases b with
  | true =>
    (conv => whnf)
    refine fixed14_calls ?_
    (conv => whnf)
    exact h
  | false =>
    (conv => whnf)
    refine Open_nil [108, 111, 103] ?_
    (conv => whnf)
    refine jAppend_nil [108, 111, 103] v r ?_
    (conv => whnf)
    refine Start_nil [108, 111, 103] [110, 101, 119] v [r] ?_
    (conv => whnf)
    refine fixed14_calls ?_
    (conv => whnf)
    exact h
theorem args_int {ts : List TypeId} {l : List AV} (h : Args tab 12 (3 :: ts) l) : ∃ (x : Int) (l' : List AV), l = vi x :: l' ∧ Args tab 12 ts l' := by
  obtain ⟨a, l', rfl, h1, h2⟩ := h
  obtain ⟨x, e, hx⟩ : ∃ x, [a] = [.val (.int .i64 x)] ∧ (Lit.int .i64 x).wf = true := h1
  simp only [List.cons.injEq, and_true] at e
  exact ⟨x, l', by rw [e]; rfl, h2⟩
theorem args_recJ {ts : List TypeId} {l : List AV} (h : Args tab 12 (45 :: ts) l) : ∃ (x : Rc) (l' : List AV), l = .agg x.enc :: l' ∧ x.deps.length ≤ maxLen ∧ Args tab 12 ts l' := by
  obtain ⟨a, l', rfl, h1, h2⟩ := h
  obtain ⟨x, rfl, hx⟩ : ∃ x, a = .agg x ∧ Typed tab 12 45 x := h1
  obtain ⟨r, rfl, hr, _⟩ := typed_rec (n := 6) hx
  exact ⟨r, l', rfl, hr, h2⟩
theorem JournalNil_row (l : List AV) (h : Args tab 12 [3, 45] l) : ACalls Tryz.prog 4 l [] fun r _ => r = .val (.bool true) := by
  obtain ⟨v, l1, rfl, h1⟩ := args_int h
  obtain ⟨r, l2, rfl, hr, h2⟩ := args_recJ h1
  obtain rfl := args_nil h2
  exact JournalNil_calls v r hr rfl
end Go.Abs
end

section
/- Whatever act of Start fails, or falls: the journal that was there, or the new one, whole (plain; no program in sight). -/
set_option maxRecDepth 100000
set_option linter.unusedVariables false
set_option linter.unusedSimpArgs false
namespace Go.Abs
open Go Go.Proofs Dig

theorem act_cases (s : FSt) (late : Bool) (g : FM → FM) : ((s.act late g).2 = 0 ∧ (s.act late g).1.fs = g s.fs) ∨ ((s.act late g).2 ≠ 0 ∧ ((s.act late g).1.fs = s.fs ∨ (late = true ∧ (s.act late g).1.fs = g s.fs))) := by
  unfold FSt.act
  split
  · refine .inr ⟨(by decide : (7 : Int) ≠ 0), ?_⟩
    cases late
    · exact .inl rfl
    · exact .inr ⟨rfl, rfl⟩
  · split
    · exact .inr ⟨(by decide : (8 : Int) ≠ 0), .inl rfl⟩
    · exact .inl ⟨rfl, rfl⟩
/-- A file that is there, all of it safe. -/
def Whole (s : FSt) (name : B) (b : B) : Prop := lk s.fs name = some ⟨b, b.length⟩
theorem append_cases (s : FSt) {log new F0 b : B} (hne : log ≠ new) (h : Whole s log F0) (hn : lk s.fs new = none) :
    ((s.append new b).2 = 0 ∧ Whole (s.append new b).1 log F0 ∧ lk (s.append new b).1.fs new = some ⟨b, 0⟩) ∨ ((s.append new b).2 ≠ 0 ∧ Whole (s.append new b).1 log F0) := by
  have hg : lk (addF new b s.fs) log = lk s.fs log ∧ lk (addF new b s.fs) new = some ⟨b, 0⟩ := by
    unfold addF
    rw [lk_pt, lk_pt, if_neg (Ne.symm hne), if_pos rfl]
    refine ⟨rfl, ?_⟩
    simp [gF, hn, flZ]
  unfold FSt.append
  split
  · exact .inr ⟨by simp, h⟩
  · rcases act_cases s true (addF new b) with ⟨e, f⟩ | ⟨e, f | ⟨_, f⟩⟩
    · refine .inl ⟨e, ?_, ?_⟩
      · unfold Whole; rw [f, hg.1]; exact h
      · rw [f]; exact hg.2
    · refine .inr ⟨e, ?_⟩
      unfold Whole; rw [f]; exact h
    · refine .inr ⟨e, ?_⟩
      unfold Whole; rw [f, hg.1]; exact h
theorem sync_cases (s : FSt) {log new F0 b : B} {k : Nat} (hne : log ≠ new) (h : Whole s log F0) (hn : lk s.fs new = some ⟨b, k⟩) :
    ((s.sync new).2 = 0 ∧ Whole (s.sync new).1 log F0 ∧ lk (s.sync new).1.fs new = some ⟨b, b.length⟩) ∨ ((s.sync new).2 ≠ 0 ∧ Whole (s.sync new).1 log F0) := by
  have hg : lk (syncF new s.fs) log = lk s.fs log ∧ lk (syncF new s.fs) new = some ⟨b, b.length⟩ := by
    unfold syncF
    rw [lk_pt, lk_pt, if_neg (Ne.symm hne), if_pos rfl]
    refine ⟨rfl, ?_⟩
    simp [gF, hn]
  unfold FSt.sync
  split
  · rename_i hm
    exact .inr ⟨hm, h⟩
  · rcases act_cases s false (syncF new) with ⟨e, f⟩ | ⟨e, f | ⟨hl, _⟩⟩
    · refine .inl ⟨e, ?_, ?_⟩
      · unfold Whole; rw [f, hg.1]; exact h
      · rw [f]; exact hg.2
    · refine .inr ⟨e, ?_⟩
      unfold Whole; rw [f]; exact h
    · cases hl
theorem rename_cases (s : FSt) {log new F0 b : B} (h : Whole s log F0) (hn : lk s.fs new = some ⟨b, b.length⟩) :
    ((s.rename new log).2 = 0 ∧ Whole (s.rename new log).1 log b) ∨ ((s.rename new log).2 ≠ 0 ∧ Whole (s.rename new log).1 log F0) := by
  have hg : lk (renF new log s.fs) log = some ⟨b, b.length⟩ := by
    unfold renF
    rw [lk_pt, if_pos rfl]
    simp [gF, hn]
  unfold FSt.rename
  split
  · rename_i hm
    exact .inr ⟨hm, h⟩
  · rcases act_cases s false (renF new log) with ⟨e, f⟩ | ⟨e, f | ⟨hl, _⟩⟩
    · refine .inl ⟨e, ?_⟩
      unfold Whole; rw [f]; exact hg
    · refine .inr ⟨e, ?_⟩
      unfold Whole; rw [f]; exact h
    · cases hl
theorem remove_cases (s : FSt) {log new F0 : B} (hnd : (kys s.fs).Nodup) (hne : log ≠ new) (h : Whole s log F0) :
    ((s.remove new).2 = 0 ∧ Whole (s.remove new).1 log F0 ∧ lk (s.remove new).1.fs new = none) ∨ ((s.remove new).2 ≠ 0 ∧ Whole (s.remove new).1 log F0) := by
  have hg : lk (dl s.fs new) log = lk s.fs log ∧ lk (dl s.fs new) new = none := by
    rw [lk_dl hnd, lk_dl hnd, if_neg (Ne.symm hne), if_pos rfl]
    exact ⟨rfl, rfl⟩
  unfold FSt.remove
  split
  · rename_i hm
    exact .inr ⟨hm, h⟩
  · rcases act_cases s false (fun m => dl m new) with ⟨e, f⟩ | ⟨e, f | ⟨hl, _⟩⟩
    · refine .inl ⟨e, ?_, ?_⟩
      · unfold Whole; rw [f, hg.1]; exact h
      · rw [f]; exact hg.2
    · refine .inr ⟨e, ?_⟩
      unfold Whole; rw [f]; exact h
    · cases hl
theorem run3_log (s : FSt) {log new F0 b : B} (hne : log ≠ new) (h : Whole s log F0) (hn : lk s.fs new = none) :
    ((run3 s log new b).2 = 0 ∧ Whole (run3 s log new b).1 log b) ∨ ((run3 s log new b).2 ≠ 0 ∧ Whole (run3 s log new b).1 log F0) := by
  unfold run3
  rcases append_cases s (b := b) hne h hn with ⟨e, h1, n1⟩ | ⟨e, h1⟩
  · rw [if_neg (not_not_intro e)]
    rcases sync_cases _ hne h1 n1 with ⟨e2, h2, n2⟩ | ⟨e2, h2⟩
    · rw [if_neg (not_not_intro e2)]
      exact rename_cases _ h2 n2
    · rw [if_pos e2]
      exact .inr ⟨e2, h2⟩
  · rw [if_pos e]
    exact .inr ⟨e, h1⟩
/-- There is the journal that was there, or the new one. -/
theorem start_log (s : FSt) {log new F0 b : B} (hnd : (kys s.fs).Nodup) (hne : log ≠ new) (h : Whole s log F0) :
    ((startP s log new b).2 = 0 ∧ Whole (startP s log new b).1 log b) ∨ ((startP s log new b).2 ≠ 0 ∧ Whole (startP s log new b).1 log F0) := by
  unfold startP
  split
  · rcases remove_cases s hnd hne h with ⟨e, h1, n1⟩ | ⟨e, h1⟩
    · rw [if_neg (not_not_intro e)]
      exact run3_log _ hne h1 n1
    · rw [if_pos e]
      exact .inr ⟨e, h1⟩
  · rename_i hin
    refine run3_log s hne h (lk_none.2 fun hk => hin ((names_perm s).mem_iff.2 hk))
theorem run3_ok {s : FSt} {nb fb : Nat} (h : FOk s nb fb) {name aside b : B} (hn : name.length < 1000000) (ha : aside.length < 1000000) : FOk (run3 s name aside b).1 (nb + 2) (fb + b.length) := by
  unfold run3
  have h1 := append_ok h (b := b) ha
  have h2 := sync_ok h1 (name := aside)
  have h3 := rename_ok h2 (a := aside) hn
  split
  · exact h1.mono (by omega) (by omega)
  · split
    · exact h2.mono (by omega) (by omega)
    · exact h3
theorem start_ok {s : FSt} {nb fb : Nat} (h : FOk s nb fb) {name aside b : B} (hn : name.length < 1000000) (ha : aside.length < 1000000) : FOk (startP s name aside b).1 (nb + 2) (fb + b.length) := by
  unfold startP
  split
  · split
    · exact (remove_ok h).mono (by omega) (by omega)
    · exact run3_ok (remove_ok h) hn ha
  · exact run3_ok h hn ha
/-- A whole file outlives any crash. -/
theorem crash_whole {s : FSt} {nb fb : Nat} (h : FOk s nb fb) {name b : B} (hw : Whole s name b) (keep : List Int) : name ∈ kys (s.crash keep).fs ∧ (gF (s.crash keep).fs name).b = b := by
  obtain ⟨_, hk, hg⟩ := crash_spec h keep
  have hin : name ∈ kys s.fs := lk_key hw
  obtain ⟨k, h1, h2, h3⟩ := hg name hin
  have e : gF s.fs name = ⟨b, b.length⟩ := by unfold gF; rw [hw]; rfl
  rw [e] at h1 h2 h3
  refine ⟨by rw [hk]; exact hin, ?_⟩
  rw [h3]
  have : k = b.length := Nat.le_antisymm h2 h1
  rw [this]
  exact List.take_length
end Go.Abs
end

section
/- JournalStart. -/
set_option maxRecDepth 100000
set_option maxHeartbeats 4000000
set_option linter.unusedVariables false
set_option linter.unusedSimpArgs false
namespace Go.Abs
open Go Go.Proofs Dig
attribute [local irreducible] ibits byteAt strLt firstIdx

def logB : B := [108, 111, 103]
def newB : B := [110, 101, 119]
def is3 (v : Int) : Prop := v = 1 ∨ v = 2 ∨ v = 3
theorem cPut_any {v : Int} (hv : is3 v) (l : List Rc) (hl : l.length ≤ 1000) (hd : ∀ r ∈ l, r.deps.length < 100000) {R} (hy : (∀ r ∈ l, mayP v r = true) → R (.tup [.sl none 1 (byteEls (fileP v l)), vi 0]) []) (hn : (¬ ∀ r ∈ l, mayP v r = true) → R (.tup [.val (.slice none 0 0), vi 1]) []) :
    ACalls Tryz.prog 57 [vi v, .sl none 7 (recs l)] [] R := by
  rcases hv with rfl | rfl | rfl
  · exact cPut_1 l hl hd hy hn
  · exact cPut_2 l hl hd hy hn
  · exact cPut_3 l hl hd hy hn
theorem cGet_any {v : Int} (hv : is3 v) (l : List Rc) (hm : ∀ r ∈ l, mayP v r = true) (hl : l.length ≤ 300) {R} (h : R (.tup [.agg (fileA v l), vi 0]) []) : ACalls Tryz.prog 67 [.sl none 1 (byteEls (fileP v l))] [] R := by
  rcases hv with rfl | rfl | rfl
  · exact cGet_1 l hm hl h
  · exact cGet_2 l hm hl h
  · exact cGet_3 l hm hl h
theorem fileP_small {v : Int} {l : List Rc} (hm : ∀ r ∈ l, mayP v r = true) (hl : l.length ≤ 300) : (fileP v l).length < 1000000 := by
  have h := paysP_frames (v := v) (l := l) (t := []) (fun r hr => may_all (hm r hr)) (by simp; omega)
  rw [fileP_len]
  omega
theorem log_new : logB ≠ newB := by decide
/-- Start, on a file system with a whole journal. -/
theorem start_any {s : FSt} {nb fb : Nat} (hk : FOk s nb fb) (hnb : nb ≤ 800000) (hfb : fb ≤ 70000000) {F0 : B} (hw : Whole s logB F0) {v : Int} (hv : is3 v) (l : List Rc) (hl : l.length ≤ 300) (hd : ∀ r ∈ l, r.deps.length < 100000) {R}
    (h : ∀ (s' : FSt) (e : Int), FOk s' (nb + 2) (fb + 1000000) → ((e = 0 ∧ (∀ r ∈ l, mayP v r = true) ∧ Whole s' logB (fileP v l)) ∨ (e ≠ 0 ∧ Whole s' logB F0)) → R (vi e) [fsC s' 1, fsM s']) :
    ACalls Tryz.prog 18 [.ptr 0 0, vs logB, vs newB, vi v, .sl none 7 (recs l)] [fsC s 1, fsM s] R := by
  by_cases hm : ∀ r ∈ l, mayP v r = true
  · have hs := fileP_small hm hl
    refine Start_ok s logB newB (fileP v l) log_new v l hk (by omega) (by omega) (by decide) hs (fun hR => cPut_any hv l (by omega) hd (fun _ => hR) (fun hno => absurd hm hno)) ?_
    refine h _ _ ((start_ok hk (by decide) (by decide)).mono (by omega) (by omega)) ?_
    rcases start_log s (b := fileP v l) hk.m.nodup log_new hw with ⟨e, h1⟩ | ⟨e, h1⟩
    · exact .inl ⟨e, hm, h1⟩
    · exact .inr ⟨e, h1⟩
  · refine Start_err s logB newB v l 1 (by decide) (fun hR => cPut_any hv l (by omega) hd (fun hy => absurd hy hm) (fun _ => hR)) ?_
    exact h _ _ (hk.mono (by omega) (by omega)) (.inr ⟨by decide, hw⟩)
def fsL (F : B) : FSt := ⟨[(logB, ⟨F, F.length⟩)], -1, -1, false⟩
theorem fsL_ok (F : B) : FOk (fsL F) 1 F.length := ⟨⟨by simp [fsL, kys], by simp [fsL], by simp [fsL], by simp [fsL], by simp [fsL, kys, logB]⟩, (by decide : -1 ≤ (-1 : Int) ∧ (-1 : Int) < 9223372036854775808), (by decide : -1 ≤ (-1 : Int) ∧ (-1 : Int) < 9223372036854775808)⟩
theorem fsL_whole (F : B) : Whole (fsL F) logB F := by simp [Whole, fsL, lk]
theorem begun_calls {v : Int} (hv : is3 v) (l : List Rc) (hl : l.length ≤ 300) (hd : ∀ r ∈ l, r.deps.length < 100000) {R}
    (hy : (∀ r ∈ l, mayP v r = true) → R (.tup [.ptr 0 0, .val (.bool true)]) [fsC (fsL (fileP v l)) 1, fsM (fsL (fileP v l))]) (hn : (¬ ∀ r ∈ l, mayP v r = true) → R (.tup [.ptr 0 0, .val (.bool false)]) [fsC fs0 1, fsM fs0]) :
    ACalls Tryz.prog 14 [vi v, .sl none 7 (recs l)] [] R := by
  refine acalls_of_xwp (an := an14) tab_ok Tryz.func14 ?_
  (conv => whnf)
  refine fsNew_calls ?_
  (conv => whnf)
  by_cases hm : ∀ r ∈ l, mayP v r = true
  · have hs := fileP_small hm hl
    have hst := start_fs0 logB newB (fileP v l) log_new
    refine Start_ok fs0 logB newB (fileP v l) log_new v l fs0_fok (by omega) (by omega) (by decide) hs (fun hR => cPut_any hv l (by omega) hd (fun _ => hR) (fun hno => absurd hm hno)) ?_
    rw [hst]
    (conv => whnf)
    exact hy hm
  · refine Start_err fs0 logB newB v l 1 (by decide) (fun hR => cPut_any hv l (by omega) hd (fun hy => absurd hy hm) (fun _ => hR)) ?_
    (conv => whnf)
    exact hn hm
/-- Whatever is written behind another name. -/
theorem append_whole {s : FSt} {F0 b : B} (h : Whole s logB F0) : Whole (s.append newB b).1 logB F0 := by
  have hg : lk (addF newB b s.fs) logB = lk s.fs logB := by
    unfold addF
    rw [lk_pt, if_neg (by decide)]
  unfold FSt.append
  split
  · exact h
  · rcases act_cases s true (addF newB b) with ⟨e, f⟩ | ⟨e, f | ⟨_, f⟩⟩
    all_goals unfold Whole; rw [f]
    · rw [hg]; exact h
    · exact h
    · rw [hg]; exact h
theorem mod3 {a : Int} (h : 0 ≤ a ∧ a ≤ 255) : is3 (IntKind.i64.wrap (1 + IntKind.i64.wrap (a.tmod 3))) := by
  obtain ⟨n, rfl⟩ := Int.eq_ofNat_of_zero_le h.1
  have e : (n : Int).tmod 3 = ((n % 3 : Nat) : Int) := by
    rw [Int.tmod_eq_emod_of_nonneg (Int.natCast_nonneg _)]
    omega
  rw [e, wrap_i64 (x := ((n % 3 : Nat) : Int)) (by omega) (by omega), wrap_i64 (by omega) (by omega)]
  unfold is3
  omega
theorem fail_ok {s : FSt} {nb fb : Nat} (h : FOk s nb fb) {n : Int} (hn : -9223372036854775808 ≤ n ∧ n < 9223372036854775808) : FOk ⟨s.fs, capN n, s.fall, s.down⟩ nb fb := ⟨h.m, capN_ok hn, h.fall⟩
theorem fall_ok {s : FSt} {nb fb : Nat} (h : FOk s nb fb) {n : Int} (hn : -9223372036854775808 ≤ n ∧ n < 9223372036854775808) : FOk ⟨s.fs, s.fail, capN n, s.down⟩ nb fb := ⟨h.m, h.fail, capN_ok hn⟩
theorem mod6 {c : Int} (h : 0 ≤ c ∧ c ≤ 255) : -9223372036854775808 ≤ IntKind.i64.wrap (c.tmod 6) ∧ IntKind.i64.wrap (c.tmod 6) < 9223372036854775808 := by
  obtain ⟨n, rfl⟩ := Int.eq_ofNat_of_zero_le h.1
  have e : (n : Int).tmod 6 = ((n % 6 : Nat) : Int) := by
    rw [Int.tmod_eq_emod_of_nonneg (Int.natCast_nonneg _)]
    omega
  rw [e, wrap_i64 (x := ((n % 6 : Nat) : Int)) (by omega) (by omega)]
  omega
theorem JournalStart_calls (old l : List Rc) (ho : old.length ≤ maxLen) (hod : ∀ r ∈ old, r.deps.length ≤ maxLen) (hl : l.length ≤ maxLen) (hld : ∀ r ∈ l, r.deps.length ≤ maxLen) (a b c d : Int) (ha : 0 ≤ a ∧ a ≤ 255) (hb : 0 ≤ b ∧ b ≤ 255) (hc : 0 ≤ c ∧ c ≤ 255) (hd : 0 ≤ d ∧ d ≤ 255) {R} (h : R (.val (.bool true)) []) :
    ACalls Tryz.prog 3 [.sl none 7 (recs old), .sl none 7 (recs l), .agg [.val (.int .u8 a), .val (.int .u8 b), .val (.int .u8 c), .val (.int .u8 d)]] [] R := by
  refine acalls_of_xwp (an := an3) tab_ok Tryz.func3 ?_
  have hv := mod3 ha
  have hw := mod3 hb
  (conv => whnf)
  refine Great10_calls old ho hod fun g1 hg1 => ?_
  cases g1 with
  | true =>
    (conv => whnf)
    refine fixed14_calls ?_
    (conv => whnf)
    exact h
  | false =>
  obtain ⟨ho30, hodl⟩ := hg1 rfl
  (conv => whnf)
  refine Great10_calls l hl hld fun g2 hg2 => ?_
  cases g2 with
  | true =>
    (conv => whnf)
    refine fixed14_calls ?_
    (conv => whnf)
    exact h
  | false =>
  obtain ⟨hl30, hldl⟩ := hg2 rfl
  clear hg1 hg2
  (conv => whnf)
  generalize IntKind.i64.wrap (1 + IntKind.i64.wrap (a.tmod 3)) = v at hv ⊢
  generalize IntKind.i64.wrap (1 + IntKind.i64.wrap (b.tmod 3)) = w at hw ⊢
  refine begun_calls hv old (by omega) (fun r hr => by have := (hodl r hr).1; omega) ?_ ?_
  · intro hmo
    have hwh := fsL_whole (fileP v old)
    have hk := fsL_ok (fileP v old)
    have hfs := fileP_small hmo (show old.length ≤ 300 by omega)
    have hk0 := hk.mono (nb' := 1) (fb' := 1000000) (by omega) (by omega)
    clear hk
    generalize hF : fileP v old = F0 at hwh hk0 hfs ⊢
    generalize fsL F0 = s at hwh hk0 ⊢
    (conv => whnf)
    refine br_intro (fun g1 => ?_) (fun g1 => ?_)
    · (conv => whnf)
      refine Append_calls s newB [114, 101, 115, 116] hk0.fail hk0.fall (by decide) (by have := (hk0.m.get newB).2; omega) ?_
      have hk1 := append_ok hk0 (name := newB) (b := [114, 101, 115, 116]) (by decide)
      have hwh1 := append_whole (b := [114, 101, 115, 116]) hwh
      generalize (s.append newB [114, 101, 115, 116]) = se at hk1 hwh1 ⊢
      clear hwh hk0
      obtain ⟨s, e0⟩ := se
      have hk := hk1.mono (nb' := 2) (fb' := 2000000) (by omega) (by simp)
      have hwh : Whole s logB F0 := hwh1
      (conv => whnf)
      refine br_intro (fun g2 => ?_) (fun g2 => ?_)
      · (conv => whnf)
        refine Fail_calls s _ ?_
        have hk2 := fail_ok hk (mod6 hc)
        have hwh2 : Whole _ logB F0 := (show Whole ⟨s.fs, capN (IntKind.i64.wrap (c.tmod 6)), s.fall, s.down⟩ logB F0 from hwh)
        generalize hs1 : (FSt.mk s.fs (capN (IntKind.i64.wrap (c.tmod 6))) s.fall s.down) = s1 at hk2 hwh2 ⊢
        have hsf : fsM s = fsM s1 := by rw [← hs1]; rfl
        rw [hsf]
        clear hk hwh hs1 hsf
        have hk := hk2
        have hwh := hwh2
        clear hk2 hwh2
        (conv => whnf)
        refine start_any hk (by omega) (by omega) hwh hw l (by omega) (fun r hr => by have := (hldl r hr).1; omega) ?_
        intro s' e hk' hcase
        (conv => whnf)
        refine Crash_calls s' [_, _] hk' (by omega) (by omega) (by simp) ?_
        generalize hkp : [IntKind.i64.wrap c, IntKind.i64.wrap d] = keep
        rcases hcase with ⟨rfl, hmn, hwn⟩ | ⟨he, hwo⟩
        · obtain ⟨hin, hbf⟩ := crash_whole hk' hwn keep
          generalize s'.crash keep = s2 at hin hbf ⊢
          (conv => whnf)
          refine Open_ok s2 logB w l hin hbf (fileP_small hmn (by omega)) (fun hR => cGet_any hw l hmn (by omega) hR) ?_
          (conv => whnf)
          refine br_true (by simp) ?_
          (conv => whnf)
          refine All_calls l l (by omega) (fun r hr => by have := (hldl r hr).1; omega) fun p hp => ?_
          obtain rfl : p = true := by simp [hp]
          (conv => whnf)
          refine fixed14_calls ?_
          (conv => whnf)
          exact h
        · obtain ⟨hin, hbf⟩ := crash_whole hk' hwo keep
          generalize s'.crash keep = s2 at hin hbf ⊢
          (conv => whnf)
          refine Open_ok s2 logB v old hin (hbf.trans hF.symm) (hF ▸ hfs) (fun hR => cGet_any hv old hmo (by omega) hR) ?_
          (conv => whnf)
          refine br_intro (fun g3 => ?_) (fun g3 => ?_)
          · (conv => whnf)
            refine All_calls old l (by omega) (fun r hr => by have := (hodl r hr).1; omega) fun p hp => ?_
            clear hp
            cases p with
            | true =>
              (conv => whnf)
              refine fixed14_calls ?_
              (conv => whnf)
              exact h
            | false =>
              (conv => whnf)
              refine fixed14_calls ?_
              (conv => whnf)
              refine br_true (by simpa using he) ?_
              (conv => whnf)
              refine br_true (by simp) ?_
              (conv => whnf)
              refine All_calls old old (by omega) (fun r hr => by have := (hodl r hr).1; omega) fun p hp => ?_
              obtain rfl : p = true := by simp [hp]
              (conv => whnf)
              exact h
          · (conv => whnf)
            refine fixed14_calls ?_
            (conv => whnf)
            refine br_true (by simpa using he) ?_
            (conv => whnf)
            refine br_true (by simp) ?_
            (conv => whnf)
            refine All_calls old old (by omega) (fun r hr => by have := (hodl r hr).1; omega) fun p hp => ?_
            obtain rfl : p = true := by simp [hp]
            (conv => whnf)
            exact h
      · (conv => whnf)
        refine Fall_calls s _ ?_
        have hk2 := fall_ok hk (mod6 hc)
        have hwh2 : Whole _ logB F0 := (show Whole ⟨s.fs, s.fail, capN (IntKind.i64.wrap (c.tmod 6)), s.down⟩ logB F0 from hwh)
        generalize hs1 : (FSt.mk s.fs s.fail (capN (IntKind.i64.wrap (c.tmod 6))) s.down) = s1 at hk2 hwh2 ⊢
        have hsf : fsM s = fsM s1 := by rw [← hs1]; rfl
        rw [hsf]
        clear hk hwh hs1 hsf
        have hk := hk2
        have hwh := hwh2
        clear hk2 hwh2
        (conv => whnf)
        refine start_any hk (by omega) (by omega) hwh hw l (by omega) (fun r hr => by have := (hldl r hr).1; omega) ?_
        intro s' e hk' hcase
        (conv => whnf)
        refine Crash_calls s' [_, _] hk' (by omega) (by omega) (by simp) ?_
        generalize hkp : [IntKind.i64.wrap c, IntKind.i64.wrap d] = keep
        rcases hcase with ⟨rfl, hmn, hwn⟩ | ⟨he, hwo⟩
        · obtain ⟨hin, hbf⟩ := crash_whole hk' hwn keep
          generalize s'.crash keep = s2 at hin hbf ⊢
          (conv => whnf)
          refine Open_ok s2 logB w l hin hbf (fileP_small hmn (by omega)) (fun hR => cGet_any hw l hmn (by omega) hR) ?_
          (conv => whnf)
          refine br_true (by simp) ?_
          (conv => whnf)
          refine All_calls l l (by omega) (fun r hr => by have := (hldl r hr).1; omega) fun p hp => ?_
          obtain rfl : p = true := by simp [hp]
          (conv => whnf)
          refine fixed14_calls ?_
          (conv => whnf)
          exact h
        · obtain ⟨hin, hbf⟩ := crash_whole hk' hwo keep
          generalize s'.crash keep = s2 at hin hbf ⊢
          (conv => whnf)
          refine Open_ok s2 logB v old hin (hbf.trans hF.symm) (hF ▸ hfs) (fun hR => cGet_any hv old hmo (by omega) hR) ?_
          (conv => whnf)
          refine br_intro (fun g3 => ?_) (fun g3 => ?_)
          · (conv => whnf)
            refine All_calls old l (by omega) (fun r hr => by have := (hodl r hr).1; omega) fun p hp => ?_
            clear hp
            cases p with
            | true =>
              (conv => whnf)
              refine fixed14_calls ?_
              (conv => whnf)
              exact h
            | false =>
              (conv => whnf)
              refine fixed14_calls ?_
              (conv => whnf)
              refine br_true (by simpa using he) ?_
              (conv => whnf)
              refine br_true (by simp) ?_
              (conv => whnf)
              refine All_calls old old (by omega) (fun r hr => by have := (hodl r hr).1; omega) fun p hp => ?_
              obtain rfl : p = true := by simp [hp]
              (conv => whnf)
              exact h
          · (conv => whnf)
            refine fixed14_calls ?_
            (conv => whnf)
            refine br_true (by simpa using he) ?_
            (conv => whnf)
            refine br_true (by simp) ?_
            (conv => whnf)
            refine All_calls old old (by omega) (fun r hr => by have := (hodl r hr).1; omega) fun p hp => ?_
            obtain rfl : p = true := by simp [hp]
            (conv => whnf)
            exact h
    · have hk := hk0.mono (nb' := 2) (fb' := 2000000) (by omega) (by omega)
      clear hk0
      (conv => whnf)
      refine br_intro (fun g2 => ?_) (fun g2 => ?_)
      · (conv => whnf)
        refine Fail_calls s _ ?_
        have hk2 := fail_ok hk (mod6 hc)
        have hwh2 : Whole _ logB F0 := (show Whole ⟨s.fs, capN (IntKind.i64.wrap (c.tmod 6)), s.fall, s.down⟩ logB F0 from hwh)
        generalize hs1 : (FSt.mk s.fs (capN (IntKind.i64.wrap (c.tmod 6))) s.fall s.down) = s1 at hk2 hwh2 ⊢
        have hsf : fsM s = fsM s1 := by rw [← hs1]; rfl
        rw [hsf]
        clear hk hwh hs1 hsf
        have hk := hk2
        have hwh := hwh2
        clear hk2 hwh2
        (conv => whnf)
        refine start_any hk (by omega) (by omega) hwh hw l (by omega) (fun r hr => by have := (hldl r hr).1; omega) ?_
        intro s' e hk' hcase
        (conv => whnf)
        refine Crash_calls s' [_, _] hk' (by omega) (by omega) (by simp) ?_
        generalize hkp : [IntKind.i64.wrap c, IntKind.i64.wrap d] = keep
        rcases hcase with ⟨rfl, hmn, hwn⟩ | ⟨he, hwo⟩
        · obtain ⟨hin, hbf⟩ := crash_whole hk' hwn keep
          generalize s'.crash keep = s2 at hin hbf ⊢
          (conv => whnf)
          refine Open_ok s2 logB w l hin hbf (fileP_small hmn (by omega)) (fun hR => cGet_any hw l hmn (by omega) hR) ?_
          (conv => whnf)
          refine br_true (by simp) ?_
          (conv => whnf)
          refine All_calls l l (by omega) (fun r hr => by have := (hldl r hr).1; omega) fun p hp => ?_
          obtain rfl : p = true := by simp [hp]
          (conv => whnf)
          refine fixed14_calls ?_
          (conv => whnf)
          exact h
        · obtain ⟨hin, hbf⟩ := crash_whole hk' hwo keep
          generalize s'.crash keep = s2 at hin hbf ⊢
          (conv => whnf)
          refine Open_ok s2 logB v old hin (hbf.trans hF.symm) (hF ▸ hfs) (fun hR => cGet_any hv old hmo (by omega) hR) ?_
          (conv => whnf)
          refine br_intro (fun g3 => ?_) (fun g3 => ?_)
          · (conv => whnf)
            refine All_calls old l (by omega) (fun r hr => by have := (hodl r hr).1; omega) fun p hp => ?_
            clear hp
            cases p with
            | true =>
              (conv => whnf)
              refine fixed14_calls ?_
              (conv => whnf)
              exact h
            | false =>
              (conv => whnf)
              refine fixed14_calls ?_
              (conv => whnf)
              refine br_true (by simpa using he) ?_
              (conv => whnf)
              refine br_true (by simp) ?_
              (conv => whnf)
              refine All_calls old old (by omega) (fun r hr => by have := (hodl r hr).1; omega) fun p hp => ?_
              obtain rfl : p = true := by simp [hp]
              (conv => whnf)
              exact h
          · (conv => whnf)
            refine fixed14_calls ?_
            (conv => whnf)
            refine br_true (by simpa using he) ?_
            (conv => whnf)
            refine br_true (by simp) ?_
            (conv => whnf)
            refine All_calls old old (by omega) (fun r hr => by have := (hodl r hr).1; omega) fun p hp => ?_
            obtain rfl : p = true := by simp [hp]
            (conv => whnf)
            exact h
      · (conv => whnf)
        refine Fall_calls s _ ?_
        have hk2 := fall_ok hk (mod6 hc)
        have hwh2 : Whole _ logB F0 := (show Whole ⟨s.fs, s.fail, capN (IntKind.i64.wrap (c.tmod 6)), s.down⟩ logB F0 from hwh)
        generalize hs1 : (FSt.mk s.fs s.fail (capN (IntKind.i64.wrap (c.tmod 6))) s.down) = s1 at hk2 hwh2 ⊢
        have hsf : fsM s = fsM s1 := by rw [← hs1]; rfl
        rw [hsf]
        clear hk hwh hs1 hsf
        have hk := hk2
        have hwh := hwh2
        clear hk2 hwh2
        (conv => whnf)
        refine start_any hk (by omega) (by omega) hwh hw l (by omega) (fun r hr => by have := (hldl r hr).1; omega) ?_
        intro s' e hk' hcase
        (conv => whnf)
        refine Crash_calls s' [_, _] hk' (by omega) (by omega) (by simp) ?_
        generalize hkp : [IntKind.i64.wrap c, IntKind.i64.wrap d] = keep
        rcases hcase with ⟨rfl, hmn, hwn⟩ | ⟨he, hwo⟩
        · obtain ⟨hin, hbf⟩ := crash_whole hk' hwn keep
          generalize s'.crash keep = s2 at hin hbf ⊢
          (conv => whnf)
          refine Open_ok s2 logB w l hin hbf (fileP_small hmn (by omega)) (fun hR => cGet_any hw l hmn (by omega) hR) ?_
          (conv => whnf)
          refine br_true (by simp) ?_
          (conv => whnf)
          refine All_calls l l (by omega) (fun r hr => by have := (hldl r hr).1; omega) fun p hp => ?_
          obtain rfl : p = true := by simp [hp]
          (conv => whnf)
          refine fixed14_calls ?_
          (conv => whnf)
          exact h
        · obtain ⟨hin, hbf⟩ := crash_whole hk' hwo keep
          generalize s'.crash keep = s2 at hin hbf ⊢
          (conv => whnf)
          refine Open_ok s2 logB v old hin (hbf.trans hF.symm) (hF ▸ hfs) (fun hR => cGet_any hv old hmo (by omega) hR) ?_
          (conv => whnf)
          refine br_intro (fun g3 => ?_) (fun g3 => ?_)
          · (conv => whnf)
            refine All_calls old l (by omega) (fun r hr => by have := (hodl r hr).1; omega) fun p hp => ?_
            clear hp
            cases p with
            | true =>
              (conv => whnf)
              refine fixed14_calls ?_
              (conv => whnf)
              exact h
            | false =>
              (conv => whnf)
              refine fixed14_calls ?_
              (conv => whnf)
              refine br_true (by simpa using he) ?_
              (conv => whnf)
              refine br_true (by simp) ?_
              (conv => whnf)
              refine All_calls old old (by omega) (fun r hr => by have := (hodl r hr).1; omega) fun p hp => ?_
              obtain rfl : p = true := by simp [hp]
              (conv => whnf)
              exact h
          · (conv => whnf)
            refine fixed14_calls ?_
            (conv => whnf)
            refine br_true (by simpa using he) ?_
            (conv => whnf)
            refine br_true (by simp) ?_
            (conv => whnf)
            refine All_calls old old (by omega) (fun r hr => by have := (hodl r hr).1; omega) fun p hp => ?_
            obtain rfl : p = true := by simp [hp]
            (conv => whnf)
            exact h
  · intro hno
    (conv => whnf)
    refine fixed14_calls ?_
    (conv => whnf)
    exact h
theorem typed_four {x : List AV} (h : Typed tab 12 23 x) : ∃ a b c d : Int, x = [.val (.int .u8 a), .val (.int .u8 b), .val (.int .u8 c), .val (.int .u8 d)] ∧ (0 ≤ a ∧ a ≤ 255) ∧ (0 ≤ b ∧ b ≤ 255) ∧ (0 ≤ c ∧ c ≤ 255) ∧ (0 ≤ d ∧ d ≤ 255) := by
  have h : TypedF (Typed tab 11) [5, 5, 5, 5] x := h
  have k : ∀ z : List AV, Typed tab 11 5 z → ∃ a : Int, z = [.val (.int .u8 a)] ∧ (0 ≤ a ∧ a ≤ 255) := fun z hz => by
    obtain ⟨x, e, hx⟩ : ∃ x, z = [.val (.int .u8 x)] ∧ (Lit.int .u8 x).wf = true := hz
    simp only [Lit.wf, Bool.and_eq_true, decide_eq_true_eq] at hx
    have e1 : IntKind.u8.min = 0 := rfl
    have e2 : IntKind.u8.max = 255 := rfl
    rw [e1, e2] at hx
    exact ⟨x, e, hx⟩
  obtain ⟨p, q, rfl, h1, r, s, rfl, h2, t, u, rfl, h3, v, w, rfl, h4, rfl⟩ := h
  obtain ⟨a, rfl, ha⟩ := k p h1
  obtain ⟨b, rfl, hb⟩ := k r h2
  obtain ⟨c, rfl, hc⟩ := k t h3
  obtain ⟨d, rfl, hd⟩ := k v h4
  exact ⟨a, b, c, d, rfl, ha, hb, hc, hd⟩
theorem JournalStart_row (l : List AV) (h : Args tab 12 [22, 22, 23] l) : ACalls Tryz.prog 3 l [] fun r _ => r = .val (.bool true) := by
  obtain ⟨a, l1, rfl, h1, h2, h3⟩ := args_recs h
  obtain ⟨b, l2, rfl, g1, g2, g3⟩ := args_recs h3
  obtain ⟨v, l3, rfl, ⟨w, rfl, hw⟩, h4⟩ := g3
  obtain ⟨x, y, z, u, rfl, hx, hy, hz, hu⟩ := typed_four hw
  obtain rfl := args_nil h4
  exact JournalStart_calls a b h1 h2 g1 g2 x y z u hx hy hz hu rfl
end Go.Abs
end
