/- Several texts of this claim, one behind the other: SE, SF. -/
import Derived.Test.YthoegmhmcapjgaaGreatYStoreFails3

section
/- law15's do. -/
set_option maxRecDepth 100000
set_option maxHeartbeats 4000000
set_option linter.unusedVariables false
set_option linter.unusedSimpArgs false
namespace Go.Abs
open Go Go.Proofs Dig
attribute [local irreducible] ibits byteAt strLt firstIdx

theorem Delete_by (s : FSt) {nb fb : Nat} (hk : FOk s nb fb) (hfb : fb ≤ 80000000) (l : List Rc) (hl : l.length ≤ 300) (hm : ∀ r ∈ l, mayP 3 r = true) (t : B) {R}
    (h0 : ∀ e : Int, e = 1 ∨ e = 6 → ¬ (nameOk t = true ∧ (findP (docOf l) t).isSome = true) → R (vi e) [stO false 1 3 l, fsC s 2, fsM s])
    (h1 : nameOk t = true → (findP (docOf l) t).isSome = true → (putS 3 s l (goneT t)).2 ≠ 0 → R (vi (putS 3 s l (goneT t)).2) [stO ((putS 3 s l (goneT t)).2 == 7) 1 3 l, fsC (putS 3 s l (goneT t)).1 2, fsM (putS 3 s l (goneT t)).1])
    (h2 : nameOk t = true → (findP (docOf l) t).isSome = true → (putS 3 s l (goneT t)).2 = 0 → R (vi 0) [stO false 1 3 (l ++ [goneT t]), fsC (putS 3 s l (goneT t)).1 2, fsM (putS 3 s l (goneT t)).1]) :
    ACalls Tryz.prog 83 [.ptr 0 0, vs t] [stO false 1 3 l, fsC s 2, fsM s] R := by
  refine acalls_of_xwp (an := an83) tab_ok Tryz.func83 ?_
  have hd : ∀ r ∈ l, r.deps.length < 1000000 := fun r hr => by have := (may_all (hm r hr)).deps; omega
  (conv => whnf)
  refine stFind_calls false 3 l (by omega) hd s t ?_
  generalize findR (docOf l) t = fr
  generalize (findP (docOf l) t).isSome = fp at h0 h1 h2 ⊢
  (conv => whnf)
  refine Name_calls t ?_
  cases hn : nameOk t with
  | false =>
    (conv => whnf)
    exact h0 1 (.inl rfl) (fun hx => by rw [hn] at hx; cases hx.1)
  | true =>
  cases fp with
  | false =>
    (conv => whnf)
    exact h0 6 (.inr rfl) (fun hx => by cases hx.2)
  | true =>
  (conv => whnf)
  refine ACalls.args ?_ (sput_3 s hk hfb l hl hm (goneT t) (gone_may hn) (fun he => ?_) (fun he => ?_))
  · exact leL.cons (.refl _) (leL.cons (le_agg (leL.cons (.refl _) (leL.cons (.refl _) (leL.cons (.refl _) (leL.cons (le_nil 3) (leL.refl _)))))) leL.nil)
  · have h1 := h1 hn rfl he
    generalize putS 3 s l (goneT t) = se at h1 ⊢
    obtain ⟨s2, e⟩ := se
    (conv => whnf)
    exact h1
  · have h2 := h2 hn rfl he
    generalize putS 3 s l (goneT t) = se at h2 ⊢
    obtain ⟨s2, e⟩ := se
    (conv => whnf)
    exact h2
theorem do_calls (s : FSt) {nb fb : Nat} (hk : FOk s nb fb) (hnb : nb ≤ 800000) (hfb : fb ≤ 70000000) (l : List Rc) (hl : l.length ≤ 300) (hm : ∀ r ∈ l, mayP 3 r = true) (o : Sp) (ho : SpOk o) (h03 : 0 ≤ o.kind ∧ o.kind ≤ 3) {R}
    (h0 : ∀ e : Int, e ≠ 7 → e ≠ 8 → e ≠ 0 → ¬ accS l o → R (vi e) [stO false 1 3 l, fsC s 2, fsM s])
    (h1 : accS l o → (doS s l o).2 ≠ 0 → R (vi (doS s l o).2) [stO ((doS s l o).2 == 7) 1 3 l, fsC (doS s l o).1 2, fsM (doS s l o).1])
    (h2 : accS l o → (doS s l o).2 = 0 → R (vi 0) [stO false 1 (newV o) (newL l o), fsC (doS s l o).1 2, fsM (doS s l o).1]) :
    ACalls Tryz.prog 34 [.ptr 0 0, .agg o.enc] [stO false 1 3 l, fsC s 2, fsM s] R := by
  refine acalls_of_xwp (an := an34) tab_ok Tryz.func34 ?_
  obtain ⟨⟨r1, r2, r3, r4⟩, o2, o3, o4⟩ := ho
  obtain ⟨kind, r, name, ol, ver, n⟩ := o
  have h03 : 0 ≤ kind ∧ kind ≤ 3 := h03
  have hkk : kind = 0 ∨ kind = 1 ∨ kind = 2 ∨ kind = 3 := by omega
  rcases hkk with rfl | rfl | rfl | rfl
  · by_cases ha : accS l ⟨0, r, name, ol, ver, n⟩
    · have hb : r.kind = 1 ∧ mayP 3 r = true := ha
      have h1 := h1 ha
      have h2 := h2 ha
      rw [show doS s l ⟨0, r, name, ol, ver, n⟩ = putS 3 s l r from rfl] at h1 h2
      (conv => whnf)
      refine sPut_3 s hk (by omega) l hl hm r hb.1 hb.2 (fun he => ?_) (fun he => ?_)
      · have h1 := h1 he
        generalize putS 3 s l r = se at h1 ⊢
        obtain ⟨s2, e⟩ := se
        (conv => whnf)
        exact h1
      · have h2 := h2 he
        generalize putS 3 s l r = se at h2 ⊢
        obtain ⟨s2, e⟩ := se
        (conv => whnf)
        exact h2
    · (conv => whnf)
      refine sPut_no false s 3 l r (by have : r.deps.length ≤ 60 := r1; omega) (fun _ => ?_) (fun e => by cases e) (fun _ => ?_)
      · by_cases hkd : r.kind = 1
        · exact .inr (by cases hmm : mayP 3 r with | false => rfl | true => exact absurd ⟨hkd, hmm⟩ ha)
        · exact .inl hkd
      (conv => whnf)
      exact h0 1 (by decide) (by decide) (by decide) ha
  · rw [show doS s l ⟨1, r, name, ol, ver, n⟩ = putS 3 s l (goneT name) from rfl] at h1 h2
    (conv => whnf)
    refine Delete_by s hk (by omega) l hl hm name (fun e he hna => ?_) (fun hn hf he => ?_) (fun hn hf he => ?_)
    · have hh := h0 e (by omega) (by omega) (by omega) hna
      (conv => whnf)
      exact hh
    · have h1 := h1 ⟨hn, hf⟩ he
      generalize putS 3 s l (goneT name) = se at h1 ⊢
      obtain ⟨s2, e⟩ := se
      (conv => whnf)
      exact h1
    · have h2 := h2 ⟨hn, hf⟩ he
      generalize putS 3 s l (goneT name) = se at h2 ⊢
      obtain ⟨s2, e⟩ := se
      (conv => whnf)
      exact h2
  · have h1 := h1 trivial
    have h2 := h2 trivial
    rw [show doS s l ⟨2, r, name, ol, ver, n⟩ = s.sync logB from rfl] at h1 h2
    (conv => whnf)
    refine Commit_calls 3 l s hk.fail hk.fall ?_
    generalize s.sync logB = se at h1 h2 ⊢
    obtain ⟨s2, e⟩ := se
    by_cases he : e = 0
    · subst he
      have h2 := h2 rfl
      (conv => whnf)
      exact h2
    · have h1 := h1 he
      (conv => whnf)
      exact h1
  · rw [show doS s l ⟨3, r, name, ol, ver, n⟩ = startP s logB newB (fileP ver ol) from rfl] at h1 h2
    (conv => whnf)
    refine Rewrite_calls s hk hnb hfb 3 l ver ol (by have : ol.length ≤ 30 := o2; omega) (fun q hq => by have := (o3 q hq).1; omega) (fun e he hna => ?_) (fun hw hmm he => ?_) (fun hw hmm he => ?_)
    · have hh := h0 e (by omega) (by omega) (by omega) (fun hx => by rcases hna with h | h; exact h hx.1; exact h hx.2)
      (conv => whnf)
      exact hh
    · have h1 := h1 ⟨hw, hmm⟩ he
      generalize startP s logB newB (fileP ver ol) = se at h1 ⊢
      obtain ⟨s2, e⟩ := se
      (conv => whnf)
      exact h1
    · have h2 := h2 ⟨hw, hmm⟩ he
      generalize startP s logB newB (fileP ver ol) = se at h2 ⊢
      obtain ⟨s2, e⟩ := se
      (conv => whnf)
      exact h2
end Go.Abs
end

section
/- StoreFails. -/
set_option maxRecDepth 100000
set_option maxHeartbeats 4000000
set_option linter.unusedVariables false
set_option linter.unusedSimpArgs false
namespace Go.Abs
open Go Go.Proofs Dig
attribute [local irreducible] ibits byteAt strLt firstIdx

/-- What stands ahead of each Put. -/
structure FInv (l : List Rc) (i : Nat) (s : FSt) (L : List Rc) : Prop where
  hi : i ≤ l.length
  hL : L.length ≤ i
  hm : ∀ r ∈ L, mayP 3 r = true
  hc : Calm s
  hok : FOk s (2 + i) (1000000 + 3000 * i)
  hin : logB ∈ kys s.fs
theorem more_len {L : List Rc} (hl : L.length ≤ 300) (hm : ∀ r ∈ L, mayP 3 r = true) {r : Rc} (hr : mayP 3 r = true) : (moreP 3 L r).length ≤ 3000 := by
  have htl := tblL_len (v := 3) (l := L) (t := []) (fun y hy => may_all (hm y hy))
  simp at htl
  exact payP_frames (may_all hr) (by omega)
theorem doS_ok {s : FSt} {nb fb : Nat} (hk : FOk s nb fb) {l : List Rc} (hl : l.length ≤ 300) (hm : ∀ r ∈ l, mayP 3 r = true) {o : Sp} (ho : SpOk o) (ha : accS l o) : FOk (doS s l o).1 (nb + 2) (fb + 1000000) := by
  unfold accS at ha
  unfold doS putS
  by_cases h0 : o.kind = 0
  · rw [if_pos h0] at ha ⊢
    have := more_len hl hm ha.2
    exact (append_ok hk (by decide)).mono (by omega) (by omega)
  · rw [if_neg h0] at ha ⊢
    by_cases h1 : o.kind = 1
    · rw [if_pos h1] at ha ⊢
      have := more_len hl hm (gone_may ha.1)
      exact (append_ok hk (by decide)).mono (by omega) (by unfold goneT; omega)
    · rw [if_neg h1] at ha ⊢
      by_cases h2 : o.kind = 2
      · rw [if_pos h2]
        exact (sync_ok hk).mono (by omega) (by omega)
      · rw [if_neg h2] at ha ⊢
        have hs := fileP_small ha.2 (show o.l.length ≤ 300 by have := ho.2.1; omega)
        exact (start_ok hk (by decide) (by decide)).mono (by omega) (by omega)
theorem mod4 {c : Int} (h : 0 ≤ c ∧ c ≤ 255) : -9223372036854775808 ≤ IntKind.i64.wrap (c.tmod 4) ∧ IntKind.i64.wrap (c.tmod 4) < 9223372036854775808 := by
  obtain ⟨n, rfl⟩ := Int.eq_ofNat_of_zero_le h.1
  have e : (n : Int).tmod 4 = ((n % 4 : Nat) : Int) := by
    rw [Int.tmod_eq_emod_of_nonneg (Int.natCast_nonneg _)]
    omega
  rw [e, wrap_i64 (x := ((n % 4 : Nat) : Int)) (by omega) (by omega)]
  omega
theorem StoreFails_calls (l : List Rc) (hl : l.length ≤ maxLen) (hld : ∀ r ∈ l, r.deps.length ≤ maxLen) (o : Sp) (ho : o.r.deps.length ≤ maxLen ∧ o.l.length ≤ maxLen ∧ ∀ r ∈ o.l, r.deps.length ≤ maxLen) (a : Int) (ha : 0 ≤ a ∧ a ≤ 255) {R} (h : R (.val (.bool true)) []) :
    ACalls Tryz.prog 6 [.sl none 7 (recs l), .agg o.enc, .val (.int .u8 a)] [] R := by
  refine acalls_of_xwp (an := an6) tab_ok Tryz.func6 ?_
  have hsl := recs_length l
  (conv => whnf)
  refine Great10_calls l hl hld fun g1 hg1 => ?_
  cases g1 with
  | true =>
    (conv => whnf)
    refine fixed15_calls ?_
    (conv => whnf)
    exact h
  | false =>
  obtain ⟨hl30, hlr⟩ := hg1 rfl
  clear hg1
  (conv => whnf)
  refine Great15_calls [o] (by show 1 ≤ maxLen; decide) (by simpa using ho) fun g2 hg2 => ?_
  cases g2 with
  | true =>
    (conv => whnf)
    refine fixed15_calls ?_
    (conv => whnf)
    exact h
  | false =>
  have hoo := (hg2 rfl).2 o (by simp)
  clear hg2
  (conv => whnf)
  refine br_intro (fun g3 => ?_) (fun g3 => ?_)
  · (conv => whnf)
    refine fixed15_calls ?_
    (conv => whnf)
    exact h
  (conv => whnf)
  refine br_intro (fun g4 => ?_) (fun g4 => ?_)
  · (conv => whnf)
    refine fixed15_calls ?_
    (conv => whnf)
    exact h
  have h03 : 0 ≤ o.kind ∧ o.kind ≤ 3 := by
    have g3 := of_decide_eq_false g3
    have g4 := of_decide_eq_false g4
    omega
  clear g3 g4
  (conv => whnf)
  refine fsNew_calls ?_
  (conv => whnf)
  refine stOpen_fs0 3 (.inr (.inr rfl)) ?_
  have hk := fsL_ok (fileP 3 [])
  have hs := fileP_small (v := 3) (l := []) (by simp) (by simp)
  have hin := (fsL_whole (fileP 3 [])).key
  have hcalm : Calm (fsL (fileP 3 [])) := ⟨rfl, rfl, rfl⟩
  generalize fsL (fileP 3 []) = s0 at hk hin hcalm ⊢
  (conv => whnf)
  refine LoopP.ind3 (fun (i : Nat) (s : FSt) (L : List Rc) => [(51, vi i)]) (fun i s L => [(freshN 37 0, fsC s (freshN 37 1)), (freshN 40 0, stO false (freshN 37 0) 3 L), (freshN 37 1, fsM s)]) (fun i _ _ => l.length - i) (fun i s L => FInv l i s L) 0 s0 [] rfl
    ⟨by omega, by simp, by simp, hcalm, hk.mono (by omega) (by omega), hin⟩ ?_
  clear hk hs hin hcalm
  rintro i s L hI IH
  (conv => whnf)
  refine br_intro (fun hc => ?_) (fun hc => ?_)
  · have hc := lt_of_decE hsl hc
    have hLl := hI.hL
    obtain ⟨q1, q2⟩ := hlr _ (List.getElem_mem hc)
    (conv => whnf); (repeat ((with_reducible refine must_intro ?_ ?_); exact decide_eq_true (by omega); (conv => whnf)))
    refine idxK_map_intro (show (i : Int).toNat < l.length by simpa using hc) ?_
    rw [show l[(i : Int).toNat]'(by simpa using hc) = l[i] from by congr 1]
    generalize l[i] = r at q1 q2 ⊢
    (conv => whnf)
    by_cases hr : r.kind = 1 ∧ mayP 3 r = true
    · obtain ⟨e1, e2, e3⟩ := append_calm hI.hc logB (moreP 3 L r)
      have hml := more_len (by omega) hI.hm hr.2
      have hok' := append_ok hI.hok (name := logB) (b := moreP 3 L r) (by decide)
      refine sPut_3 s hI.hok (by omega) L (by omega) hI.hm r hr.1 hr.2 (fun he => absurd e1 he) (fun _ => ?_)
      have hin' : logB ∈ kys (s.append logB (moreP 3 L r)).1.fs := by rw [e2]; exact addF_in _ _ _
      rw [show putS 3 s L r = s.append logB (moreP 3 L r) from rfl]
      generalize (s.append logB (moreP 3 L r)).1 = s' at e3 hok' hin' ⊢
      have IH := IH (i + 1) s' (L ++ [r]) ⟨hc, by simp; omega, fun y hy => by
        rcases List.mem_append.1 hy with hy | hy
        · exact hI.hm y hy
        · rw [List.mem_singleton.1 hy]; exact hr.2, e3, hok'.mono (by omega) (by omega), hin'⟩ (by omega)
      (conv => whnf)
      rw [i64_nat (by omega)]
      exact IH
    · refine sPut_no false s 3 L r (by omega) (fun _ => ?_) (fun e => by cases e) (fun _ => ?_)
      · by_cases hkd : r.kind = 1
        · exact .inr (by cases hmm : mayP 3 r with | false => rfl | true => exact absurd ⟨hkd, hmm⟩ hr)
        · exact .inl hkd
      have IH := IH (i + 1) s L ⟨hc, by omega, hI.hm, hI.hc, hI.hok.mono (by omega) (by omega), hI.hin⟩ (by omega)
      (conv => whnf)
      rw [i64_nat (by omega)]
      exact IH
  · have hc := ge_of_decE hsl hc
    obtain ⟨hi, hL, hm, hcs, hok, hin⟩ := hI
    have hLd : ∀ r ∈ L, r.deps.length < 1000000 := fun r hr => by have := (may_all (hm r hr)).deps; omega
    have hDd : ∀ r ∈ docOf L, r.deps.length < 1000000 := fun r hr => hLd r (docOf_sub hr).1
    have hDl := docOf_len L
    have hok0 := hok.mono (nb' := 40) (fb' := 2000000) (by omega) (by omega)
    clear hok IH
    have hbl := (hok0.m.get logB).2
    (conv => whnf)
    refine Records_calls false 3 L (by omega) hLd s ?_
    (conv => whnf)
    refine stAll_calls false 3 L (by omega) hLd s ?_
    (conv => whnf)
    refine fsRead_calls s logB (by omega) (fun _ => ?_) (fun hno => absurd hin hno)
    (conv => whnf)
    refine Fail_calls s _ ?_
    have hk1 := fail_ok hok0 (mod4 ha)
    have hf1 : Firm ⟨s.fs, capN (IntKind.i64.wrap (a.tmod 4)), s.fall, s.down⟩ := ⟨hcs.2.1, hcs.2.2⟩
    generalize hs1 : (FSt.mk s.fs (capN (IntKind.i64.wrap (a.tmod 4))) s.fall s.down) = s1 at hk1 hf1 ⊢
    have hsf : fsM s = fsM s1 := by rw [← hs1]; rfl
    have hfs : s.fs = s1.fs := by rw [← hs1]
    rw [hsf]
    rw [hfs] at hin hbl ⊢
    clear hs1 hsf hok0 hcs hfs
    generalize hB : (gF s1.fs logB).b = bb at hbl ⊢
    (conv => whnf)
    refine do_calls s1 hk1 (by omega) (by omega) L (by omega) hm o hoo h03 (fun e h7 h8 h00 hna => ?_) (fun hacc he => ?_) (fun hacc he => ?_)
    · (conv => whnf)
      refine br_true (by simpa using h8) ?_
      (conv => whnf)
      refine fixed15_calls ?_
      (conv => whnf)
      rw [show (e != 7) = true from by simpa using h7]
      exact h
    · have hd8 := (doS_firm hf1 hk1 hin L o).resolve_right he
      have hk2 := doS_ok hk1 (by omega) hm hoo hacc
      obtain ⟨e8, hg2, hin2, hc2⟩ := hd8
      rw [e8, show ((8 : Int) == 7) = false from rfl]
      clear e8 he
      generalize (doS s1 L o).1 = s2 at hk2 hg2 hin2 hc2 ⊢
      have hB2 : (gF s2.fs logB).b = bb := by rw [hg2, hB]
      (conv => whnf)
      refine fsRead_calls s2 logB (by rw [hB2]; omega) (fun _ => ?_) (fun hno => absurd hin2 hno)
      rw [hB2]
      obtain ⟨ns, n1, n2⟩ := str_of bb
      (conv => whnf)
      refine ⟨ns, n1, ?_⟩
      rw [n2]
      (conv => whnf)
      refine ⟨ns, n1, ?_⟩
      rw [n2]
      (conv => whnf)
      refine br_false (by simp) ?_
      (conv => whnf)
      refine Records_calls false 3 L (by omega) hLd s2 ?_
      (conv => whnf)
      refine All_calls L L (by omega) hLd fun p hp => ?_
      obtain rfl : p = true := by simp [hp]
      (conv => whnf)
      refine stAll_calls false 3 L (by omega) hLd s2 ?_
      (conv => whnf)
      refine All_calls (docOf L) (docOf L) (by omega) hDd fun p hp => ?_
      obtain rfl : p = true := by simp [hp]
      (conv => whnf)
      refine stVersion_calls false 3 L s2 ?_
      (conv => whnf)
      refine Over_calls false 3 L s2 ?_
      (conv => whnf)
      refine fixed15_calls ?_
      (conv => whnf)
      refine do_calls s2 hk2 (by omega) (by omega) L (by omega) hm o hoo h03 (fun e _ _ _ hna => absurd hacc hna) (fun _ he => absurd (doS_calm hc2 hin2 L o) he) (fun _ _ => ?_)
      generalize (doS s2 L o).1 = s3
      (conv => whnf)
      exact h
    · generalize (doS s1 L o).1 = s2
      (conv => whnf)
      refine fixed15_calls ?_
      (conv => whnf)
      exact h
theorem typed_op {n : Nat} {x : List AV} (h : Typed tab (n + 8) 55 x) : ∃ o : Sp, x = o.enc ∧ o.r.deps.length ≤ maxLen ∧ o.l.length ≤ maxLen ∧ ∀ r ∈ o.l, r.deps.length ≤ maxLen := by
  obtain ⟨a0, r0, rfl, ⟨k, rfl, hk⟩, a1, r1, rfl, hrec, a2, r2, rfl, ⟨u, rfl, hu⟩, a3, r3, rfl, ⟨l, rfl, hl, hx⟩, a4, r4, rfl, ⟨v, rfl, hv⟩, a5, r5, rfl, ⟨w, rfl, hw⟩, rfl⟩ :
      ∃ a r, x = a ++ r ∧ (∃ y, a = [.val (.int .i64 y)] ∧ (Lit.int .i64 y).wf = true) ∧ ∃ a r', r = a ++ r' ∧ Typed tab (n + 7) 45 a ∧
      ∃ a r'', r' = a ++ r'' ∧ (∃ s : ByteArray, a = [.val (.string s)] ∧ s.size ≤ maxLen) ∧
      ∃ a r3, r'' = a ++ r3 ∧ (∃ l : List (List AV), a = [.sl none 7 l] ∧ l.length ≤ maxLen ∧ ∀ x ∈ l, Typed tab (n + 6) 45 x) ∧
      ∃ a r4, r3 = a ++ r4 ∧ (∃ y, a = [.val (.int .i64 y)] ∧ (Lit.int .i64 y).wf = true) ∧
      ∃ a r5, r4 = a ++ r5 ∧ (∃ y, a = [.val (.int .i64 y)] ∧ (Lit.int .i64 y).wf = true) ∧ r5 = [] := h
  obtain ⟨r, rfl, hr, _⟩ := typed_rec (n := n + 1) hrec
  obtain ⟨m, rfl, hm⟩ := typed_recs (n := n) hx
  refine ⟨⟨k, r, bs u, m, v, w⟩, ?_, hr, by simpa [recs] using hl, hm⟩
  simp only [Sp.enc, Rc.enc, vs, vi, ofB_bs, uv, List.cons_append, List.nil_append]
theorem args_op {ts : List TypeId} {l : List AV} (h : Args tab 12 (55 :: ts) l) : ∃ (o : Sp) (l' : List AV), l = .agg o.enc :: l' ∧ (o.r.deps.length ≤ maxLen ∧ o.l.length ≤ maxLen ∧ ∀ r ∈ o.l, r.deps.length ≤ maxLen) ∧ Args tab 12 ts l' := by
  obtain ⟨a, l', rfl, h1, h2⟩ := h
  obtain ⟨x, rfl, hx⟩ : ∃ x, a = .agg x ∧ Typed tab 12 55 x := h1
  obtain ⟨o, rfl, ho⟩ := typed_op (n := 4) hx
  exact ⟨o, l', rfl, ho, h2⟩
theorem StoreFails_row (l : List AV) (h : Args tab 12 [22, 55, 5] l) : ACalls Tryz.prog 6 l [] fun r _ => r = .val (.bool true) := by
  obtain ⟨a, l1, rfl, h1, h2, h3⟩ := args_recs h
  obtain ⟨o, l2, rfl, ho, h4⟩ := args_op h3
  obtain ⟨x, l3, rfl, hx, h5⟩ := args_u8 h4
  obtain rfl := args_nil h5
  exact StoreFails_calls a h1 h2 o ho x hx rfl
end Go.Abs
end
