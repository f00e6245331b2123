/- Several texts of this claim, one behind the other: SC, SD, SE, TA, TB, TC, TD, TE, TF, SF, TG. -/
import Derived.Test.YteholccmcgbelaaGreatYStoreKept3

section
/- store.Open on nothing; the chapter's example; Great, do. -/
set_option maxRecDepth 100000
set_option maxHeartbeats 4000000
set_option linter.unusedVariables false
set_option linter.unusedSimpArgs false
namespace Go.Abs
open Go Go.Proofs Dig
attribute [local irreducible] ibits byteAt strLt firstIdx

theorem stOpen_fs0 (v : Int) (hv : is3 v) {R} (h : R (.tup [.ptr 2 0, vi 0]) [fsC (fsL (fileP v [])) 1, fsM (fsL (fileP v [])), stO false 0 v []]) :
    ACalls Tryz.prog 24 [.ptr 0 0, vi v] [fsC fs0 1, fsM fs0] R := by
  refine acalls_of_xwp (an := { an24 with cst := [] }) tab_ok Tryz.func24 ?_
  have hm0 : ∀ r ∈ ([] : List Rc), mayP v r = true := by simp
  have hs := fileP_small (v := v) (l := []) hm0 (by simp)
  have hst := start_fs0 logB newB (fileP v []) log_new
  have hg1 : ¬ v < 1 := by unfold is3 at hv; omega
  have hg2 : ¬ 3 < v := by unfold is3 at hv; omega
  (conv => whnf)
  refine br_false (decide_eq_false hg1) ?_
  (conv => whnf)
  refine br_false (decide_eq_false hg2) ?_
  (conv => whnf)
  refine Down_calls fs0 ?_
  (conv => whnf)
  refine fsNames_calls fs0 (by simp [fs0]) (by simp [fs0, kys]) (by simp [fs0, kys]) ?_
  rw [show fs0.names = [] from by simp [FSt.names, sortB, fs0, kys]]
  (conv => whnf)
  refine sContains_calls [] newB (by simp) ?_
  (conv => whnf)
  refine sContains_calls [] logB (by simp) ?_
  (conv => whnf)
  refine ACalls.args ?_ (Start_ok fs0 logB newB (fileP v []) log_new v [] fs0_fok (by omega) (by omega) (by decide) hs (fun hR => cPut_any hv [] (by simp) (by simp) (fun _ => hR) (fun hno => absurd hm0 hno)) ?_)
  · exact leL.cons (.refl _) (leL.cons (.refl _) (leL.cons (.refl _) (leL.cons (.refl _) (leL.cons (le_nil 7) leL.nil))))
  rw [hst]
  have hw := fsL_whole (fileP v [])
  have hh : R (.tup [.ptr 2 0, vi 0]) [fsC ⟨[(logB, ⟨fileP v [], (fileP v []).length⟩)], -1, -1, false⟩ 1, fsM ⟨[(logB, ⟨fileP v [], (fileP v []).length⟩)], -1, -1, false⟩, stO false 0 v []] := h
  have hw : Whole ⟨[(logB, ⟨fileP v [], (fileP v []).length⟩)], -1, -1, false⟩ logB (fileP v []) := hw
  generalize (FSt.mk [(logB, ⟨fileP v [], (fileP v []).length⟩)] (-1) (-1) false) = s at hh hw ⊢
  (conv => whnf)
  refine Open_ok s logB v [] hw.key (by rw [hw.get]) hs (fun hR => cGet_any hv [] hm0 (by simp) hR) ?_
  (conv => whnf)
  exact hh
theorem fsL_append (F b : B) : (fsL F).append logB b = (⟨[(logB, ⟨F ++ b, F.length⟩)], -1, -1, false⟩, 0) := by
  simp [FSt.append, FSt.act, fsL, addF, pt, gF, lk, cnt]
theorem find_jr : (findP (docOf ([] ++ [jr])) [97]).isSome = true ∧ (findR (docOf ([] ++ [jr])) [97]).out = 7 := by decide +kernel
theorem fixed15_calls {R} (h : R (.val (.bool true)) []) : ACalls Tryz.prog 22 [] [] R := by
  refine acalls_of_xwp (an := an22) tab_ok Tryz.func22 ?_
  have hap := fsL_append (fileP 2 []) (moreP 2 [] jr)
  have hk := fsL_ok (fileP 2 [])
  have hs := fileP_small (v := 2) (l := []) (by simp) (by simp)
  (conv => whnf)
  refine fsNew_calls ?_
  (conv => whnf)
  refine stOpen_fs0 2 (.inr (.inl rfl)) ?_
  (conv => whnf)
  refine ACalls.args ?_ (sPut_2 (fsL (fileP 2 [])) hk (by omega) [] (by simp) (by simp) jr rfl (jr_may jr (by simp)) (fun he => ?_) (fun he => ?_))
  · exact leL.cons (.refl _) (leL.cons (le_agg (le_rec2 1 [97] 0 7 0 [])) leL.nil)
  · exact absurd (by show (putS 2 (fsL (fileP 2 [])) [] jr).2 = 0; unfold putS; rw [hap]) he
  generalize (putS 2 (fsL (fileP 2 [])) [] jr).1 = s2
  (conv => whnf)
  refine stFind_calls false 2 ([] ++ [jr]) (by simp) (by simp [jr]) s2 [97] ?_
  obtain ⟨f1, f2⟩ := find_jr
  rw [f1]
  generalize findR (docOf ([] ++ [jr])) [97] = fr at f2 ⊢
  (conv => whnf)
  refine br_true (by rw [f2]; rfl) ?_
  (conv => whnf)
  refine stVersion_calls false 2 ([] ++ [jr]) s2 ?_
  (conv => whnf)
  exact h
/-- What is done. -/
structure Sp where
  kind : Int
  r : Rc
  name : B
  l : List Rc
  version : Int
  n : Int
def Sp.enc (o : Sp) : List AV := [vi o.kind, vi o.r.kind, vs o.r.target, uv o.r.rule, .sl none 3 (dpsA o.r.deps), uv o.r.out, uv o.r.wen, vs o.r.tag, vs o.name, .sl none 7 (recs o.l), vi o.version, vi o.n]
def sps (l : List Sp) : List (List AV) := l.map Sp.enc
theorem sps_length (l : List Sp) : (sps l).length = l.length := by simp [sps]
def G8 (r : Rc) : Prop := r.deps.length ≤ 60 ∧ r.target.length ≤ 300 ∧ r.tag.length ≤ 300 ∧ ∀ d ∈ r.deps, d.name.length ≤ 300
def SpOk (o : Sp) : Prop := G8 o.r ∧ o.l.length ≤ 30 ∧ (∀ r ∈ o.l, G8 r) ∧ o.name.length ≤ 300
theorem Great15_calls (l : List Sp) (hl : l.length ≤ maxLen) (hr : ∀ o ∈ l, o.r.deps.length ≤ maxLen ∧ o.l.length ≤ maxLen ∧ ∀ r ∈ o.l, r.deps.length ≤ maxLen) {R} (h : ∀ b : Bool, (b = false → l.length ≤ 40 ∧ ∀ o ∈ l, SpOk o) → R (.val (.bool b)) []) :
    ACalls Tryz.prog 21 [.sl none 12 (sps l)] [] R := by
  refine acalls_of_xwp (an := an21) tab_ok Tryz.func21 ?_
  have hsl := sps_length l
  have hmx : maxLen ≤ 9223372036854775807 := by decide
  have yes : R (.val (.bool true)) [] := h true (fun e => by cases e)
  (conv => whnf)
  refine LoopP.ind1 (fun (i : Nat) => [(7, vi i)]) (fun _ => []) (fun i => l.length - i) (fun i => i ≤ l.length ∧ ∀ o ∈ l.take i, SpOk o) 0 rfl ⟨by omega, by simp⟩ ?_
  rintro i ⟨h0, hdo⟩ IH
  (conv => whnf)
  refine br_intro (fun hc => ?_) (fun hc => ?_)
  · have hc := lt_of_decE hsl hc
    obtain ⟨q1, q2, q3⟩ := hr _ (List.getElem_mem hc)
    have q4 := size_ofB l[i].name
    (conv => whnf); (repeat ((with_reducible refine must_intro ?_ ?_); exact decide_eq_true (by omega); (conv => whnf)))
    refine idxK_map_intro (show (i : Int).toNat < l.length by simpa using hc) ?_
    rw [show l[(i : Int).toNat]'(by simpa using hc) = l[i] from by congr 1]
    (conv => whnf)
    refine Great8_calls l[i].r q1 fun b hb => ?_
    cases b with
    | true =>
      (conv => whnf)
      exact yes
    | false =>
    have hb := hb rfl
    (conv => whnf)
    refine Great10_calls l[i].l q2 q3 fun b2 hb2 => ?_
    cases b2 with
    | true =>
      (conv => whnf)
      exact yes
    | false =>
    have hb2 := hb2 rfl
    (conv => whnf)
    refine br_intro (fun g => ?_) (fun g => ?_)
    · (conv => whnf)
      exact yes
    have g1 : l[i].name.length ≤ 300 := by rw [q4] at g; simp at g; omega
    have IH := IH (i + 1) ⟨hc, fun o ho => by
      rw [List.take_succ_eq_append_getElem hc] at ho
      rcases List.mem_append.1 ho with ho | ho
      · exact hdo o ho
      · rw [List.mem_singleton.1 ho]; exact ⟨hb, hb2.1, hb2.2, g1⟩⟩ (by omega)
    (conv => whnf)
    rw [wrap_i64 (by omega) (by omega), show (i : Int) + 1 = ((i + 1 : Nat) : Int) by omega]
    exact IH
  · have hc := ge_of_decE hsl hc
    rw [List.take_of_length_le hc] at hdo
    (conv => whnf)
    exact h _ fun e => ⟨by rw [hsl] at e; simp at e; omega, hdo⟩
end Go.Abs
end

section
/- law15's do; acts that may fail, but never fall (plain). -/
set_option maxRecDepth 100000
set_option maxHeartbeats 4000000
set_option linter.unusedVariables false
set_option linter.unusedSimpArgs false
namespace Go.Abs
open Go Go.Proofs Dig
attribute [local irreducible] ibits byteAt strLt firstIdx

theorem act_calm0 {s : FSt} (h : Calm s) (late : Bool) (g : FM → FM) : (s.act late g).2 = 0 ∧ (s.act late g).1.fs = g s.fs ∧ Calm (s.act late g).1 := by
  obtain ⟨h0, h1, h2⟩ := h
  unfold FSt.act
  rw [if_neg (by rw [h1]; decide), if_neg (by rw [h0]; decide)]
  exact ⟨rfl, rfl, by show cnt s.fail = -1; rw [h0]; rfl, by show cnt s.fall = -1; rw [h1]; rfl, h2⟩
theorem may0 {s : FSt} (hd : s.down = false) {name : B} (h : name ∈ kys s.fs) : s.may name = 0 := by
  unfold FSt.may
  rw [hd]
  cases e : lk s.fs name with
  | none => exact absurd h (lk_none.1 e)
  | some f => rfl
theorem remove_calm {s : FSt} (h : Calm s) {a : B} (hn : a ∈ kys s.fs) : (s.remove a).2 = 0 ∧ Calm (s.remove a).1 := by
  unfold FSt.remove
  rw [if_neg (by rw [may0 h.2.2 hn]; decide)]
  exact ⟨(act_calm0 h false _).1, (act_calm0 h false _).2.2⟩
end Go.Abs
end

section
/- law15's do. -/
set_option maxRecDepth 100000
set_option maxHeartbeats 4000000
set_option linter.unusedVariables false
set_option linter.unusedSimpArgs false
namespace Go.Abs
open Go Go.Proofs Dig
attribute [local irreducible] ibits byteAt strLt firstIdx

end Go.Abs
end

section
/- journal.Append at version 1: no table of texts. -/
set_option maxRecDepth 100000
set_option maxHeartbeats 4000000
set_option linter.unusedVariables false
set_option linter.unusedSimpArgs false
namespace Go.Abs
open Go Go.Proofs Dig
attribute [local irreducible] ibits byteAt strLt firstIdx

theorem table_1 (l : List Rc) (hl : l.length ≤ 1000) (hm : ∀ r ∈ l, mayP 1 r = true) (x : AV) (hx : x = .sl none 1 (ints (endsR 1 l))) (n : Int) {R} (h : R (.tup [.ptr 0 0, vi 0]) [tblF]) :
    ACalls Tryz.prog 144 [.agg [vi 1, .sl none 7 (recs l), x, vi n]] [] R := by
  subst hx
  refine acalls_of_xwp (an := an144) tab_ok Tryz.func144 ?_
  have hsl := recs_length l
  (conv => whnf)
  refine New_nil ?_
  (conv => whnf)
  refine LoopP.ind1 (fun (i : Nat) => [(13, vi i)]) (fun i => [(freshN 9 0, tblF)]) (fun i => l.length - i) (fun i => i ≤ l.length) 0 rfl (by omega) ?_
  intro i h0 IH
  (conv => whnf)
  refine br_intro (fun hc => ?_) (fun hc => ?_)
  · have hi := lt_of_decE hsl hc
    have IH := IH (i + 1) hi (by omega)
    (conv => whnf); (repeat ((with_reducible refine must_intro ?_ ?_); exact decide_eq_true (by omega); (conv => whnf)))
    refine idxK_map_intro (show (i : Int).toNat < l.length by simpa using hi) ?_
    rw [show l[(i : Int).toNat]'(by simpa using hi) = l[i] from by congr 1]
    (conv => whnf)
    refine sPut_1 l[i] (hm _ (List.getElem_mem hi)) ?_
    (conv => whnf)
    rw [i64_nat (by omega)]
    exact IH
  · (conv => whnf)
    exact h
theorem payP_one (t : List B) (r : Rc) : payP 1 t r = [lastW 1 t r] := by simp [payP, defsP, addT]
theorem jframes_1 (r : Rc) (hm : mayP 1 r = true) (t : List B) (ht0 : t = []) {R} (h : R (.tup [.sl none 1 (byteEls (framesP (payP 1 t r))), vi 0]) [tblF]) :
    ACalls Tryz.prog 145 [vi 1, .ptr 0 0, .agg r.enc] [tblF] R := by
  subst ht0
  refine acalls_of_xwp (an := an145) tab_ok Tryz.func145 ?_
  have hpl := payP_lens (t := []) (may_all hm) (by simp)
  rw [payP_one] at hpl h
  have hpl := hpl _ (List.mem_singleton.2 rfl)
  have hfr : framesP [lastW 1 [] r] = [] ++ frameP (lastW 1 [] r) := by simp [framesP]
  rw [hfr] at h
  (conv => whnf)
  refine sPut_1 r hm ?_
  rw [payP_one]
  generalize lastW 1 [] r = p at hpl h ⊢
  have hrl := rowsB_length [p]
  (conv => whnf)
  refine LoopP.step ?_
  (conv => whnf)
  refine ACalls.args (leL.cons (le_nil 1) (leL.refl _)) (framePut_calls [] p (by simp) hpl.1 hpl.2 ?_)
  (conv => whnf)
  refine LoopP.step ?_
  (conv => whnf)
  exact h
theorem jAppend_1 (s : FSt) (name : B) (hn : name.length < 1000000) {nb fb : Nat} (hk : FOk s nb fb) (hfb : fb ≤ 80000000) (l : List Rc) (hl : l.length ≤ 300) (hm : ∀ r ∈ l, mayP 1 r = true) (r : Rc) (hr : mayP 1 r = true) {R}
    (h1 : (s.append name (moreP 1 l r)).2 ≠ 0 → R (.tup [zF, vi (s.append name (moreP 1 l r)).2]) [fsC (s.append name (moreP 1 l r)).1 1, fsM (s.append name (moreP 1 l r)).1])
    (h2 : (s.append name (moreP 1 l r)).2 = 0 → R (.tup [.agg (fileA 1 (l ++ [r])), vi 0]) [fsC (s.append name (moreP 1 l r)).1 1, fsM (s.append name (moreP 1 l r)).1]) :
    ACalls Tryz.prog 115 [.ptr 0 0, vs name, .agg (fileA 1 l), .agg r.enc] [fsC s 1, fsM s] R := by
  refine ACalls.res ?_
  refine acalls_of_xwp (an := an115) tab_ok Tryz.func115 ?_
  have hM : ∀ x ∈ l, MayR 1 x := fun x hx => may_all (hm x hx)
  have hMr := may_all hr
  have hfl := fileP_small hm hl
  have htl := tblL_len (v := 1) (l := l) (t := []) hM
  simp at htl
  have hpf := payP_frames (v := 1) (t := tblL 1 [] l) hMr (by omega)
  have hsl := recs_length l
  have hel := endsR_length 1 l
  have hil := ints_length (endsR 1 l)
  have hml : (moreP 1 l r).length ≤ 3000 := hpf
  (conv => whnf)
  refine table_1 l (by omega) hm _ rfl _ ?_
  obtain ⟨T, hT⟩ : ∃ T, T = tblL 1 [] l := ⟨_, rfl⟩
  have hmo : moreP 1 l r = framesP (payP 1 T r) := by rw [hT]; rfl
  rw [← hT] at htl
  rw [hmo] at h1 h2 hml
  have hl0 : T = [] := by rw [hT]; exact tblL_one _ _
  have hend : IntKind.i64.wrap (((fileP 1 l).length : Int) + ((byteEls (framesP (payP 1 T r))).length : Int)) = ((fileP 1 (l ++ [r])).length : Int) := by
    rw [fileP_snoc, hmo, List.length_append, bel_length, wrap_i64 (by omega) (by omega)]
    omega
  (conv => whnf)
  refine jframes_1 r hr T hl0 ?_
  (conv => whnf)
  refine Append_calls s name (framesP (payP 1 T r)) hk.fail hk.fall (by omega) (by have := (hk.m.get name).2; omega) ?_
  (conv => whnf)
  refine br_intro (fun g => ?_) (fun g => ?_)
  · (conv => whnf)
    exact res_same (h1 (by simpa using g))
  have h2 := h2 (by simpa using g)
  generalize framesP (payP 1 T r) = F at hml hend h2 ⊢
  (conv => whnf)
  rw [hend]
  refine rCloneO_calls l (by omega) (fun e => ?_) ?_
  · (conv => whnf)
    refine Clone_calls r (by have := hMr.deps; omega) ?_
    (conv => whnf)
    refine ⟨by rw [bytes_rec]; simp only [List.length_cons, List.length_nil]; decide, ?_⟩
    (conv => whnf)
    obtain ⟨X, hXX⟩ : ∃ X, X = [r.enc] := ⟨_, rfl⟩
    have hX : recs (l ++ [r]) = X := by rw [recs_snoc, e, hXX]; rfl
    refine iCloneO_calls (endsR 1 l) (by omega) (fun e2 => ?_) ?_
    · (conv => whnf)
      refine ⟨by rw [bytes_int]; simp only [List.length_cons, List.length_nil]; decide, ?_⟩
      (conv => whnf)
      have er : fileA 1 (l ++ [r]) = [vi 1, .sl none 7 X, .sl none 1 [[vi ((fileP 1 (l ++ [r])).length : Int)]], vi ((fileP 1 (l ++ [r])).length : Int)] := by
        unfold fileA
        rw [endsR_snoc, e2, ← hX]
        rfl
      rw [er, hXX] at h2
      exact res_same h2
    · (conv => whnf)
      refine ⟨hil.symm, by rw [hil, hel, bytes_int]; simp only [List.length_cons, List.length_nil]; omega, ?_⟩
      (conv => whnf)
      have er : fileA 1 (l ++ [r]) = [vi 1, .sl none 7 X, .sl none 1 (ints (endsR 1 l) ++ [[vi ((fileP 1 (l ++ [r])).length : Int)]]), vi ((fileP 1 (l ++ [r])).length : Int)] := by
        unfold fileA
        rw [← hX, endsR_snoc, ints_snoc]
      rw [er, hXX] at h2
      exact res_same h2
  · (conv => whnf)
    refine Clone_calls r (by have := hMr.deps; omega) ?_
    (conv => whnf)
    refine ⟨rfl, by rw [bytes_rec, hsl]; simp only [List.length_cons, List.length_nil]; omega, ?_⟩
    (conv => whnf)
    obtain ⟨X, hXX⟩ : ∃ X, X = recs l ++ [r.enc] := ⟨_, rfl⟩
    have hX : recs (l ++ [r]) = X := by rw [recs_snoc, hXX]
    refine iCloneO_calls (endsR 1 l) (by omega) (fun e2 => ?_) ?_
    · (conv => whnf)
      refine ⟨by rw [bytes_int]; simp only [List.length_cons, List.length_nil]; decide, ?_⟩
      (conv => whnf)
      have er : fileA 1 (l ++ [r]) = [vi 1, .sl none 7 X, .sl none 1 [[vi ((fileP 1 (l ++ [r])).length : Int)]], vi ((fileP 1 (l ++ [r])).length : Int)] := by
        unfold fileA
        rw [endsR_snoc, e2, ← hX]
        rfl
      rw [er, hXX] at h2
      exact res_same h2
    · (conv => whnf)
      refine ⟨hil.symm, by rw [hil, hel, bytes_int]; simp only [List.length_cons, List.length_nil]; omega, ?_⟩
      (conv => whnf)
      have er : fileA 1 (l ++ [r]) = [vi 1, .sl none 7 X, .sl none 1 (ints (endsR 1 l) ++ [[vi ((fileP 1 (l ++ [r])).length : Int)]]), vi ((fileP 1 (l ++ [r])).length : Int)] := by
        unfold fileA
        rw [← hX, endsR_snoc, ints_snoc]
      rw [er, hXX] at h2
      exact res_same h2
theorem jAppend_any {v : Int} (hv : is3 v) (s : FSt) (name : B) (hn : name.length < 1000000) {nb fb : Nat} (hk : FOk s nb fb) (hfb : fb ≤ 80000000) (l : List Rc) (hl : l.length ≤ 300) (hm : ∀ r ∈ l, mayP v r = true) (r : Rc) (hr : mayP v r = true) {R}
    (h1 : (s.append name (moreP v l r)).2 ≠ 0 → R (.tup [zF, vi (s.append name (moreP v l r)).2]) [fsC (s.append name (moreP v l r)).1 1, fsM (s.append name (moreP v l r)).1])
    (h2 : (s.append name (moreP v l r)).2 = 0 → R (.tup [.agg (fileA v (l ++ [r])), vi 0]) [fsC (s.append name (moreP v l r)).1 1, fsM (s.append name (moreP v l r)).1]) :
    ACalls Tryz.prog 115 [.ptr 0 0, vs name, .agg (fileA v l), .agg r.enc] [fsC s 1, fsM s] R := by
  rcases hv with rfl | rfl | rfl
  · exact jAppend_1 s name hn hk hfb l hl hm r hr h1 h2
  · exact jAppend_2 s name hn hk hfb l hl hm r hr h1 h2
  · exact jAppend_3 s name hn hk hfb l hl hm r hr h1 h2
end Go.Abs
end

section
/- journal.Open on a file that was cut off, at any version. -/
set_option maxRecDepth 100000
set_option maxHeartbeats 4000000
set_option linter.unusedVariables false
set_option linter.unusedSimpArgs false
namespace Go.Abs
open Go Go.Proofs Dig
attribute [local irreducible] ibits byteAt strLt firstIdx

theorem paysP_one : ∀ (l : List Rc) (T : List B), paysP 1 T l = l.map (lastW 1 T) := by
  intro l
  induction l with
  | nil => intro T; rfl
  | cons r l ih =>
    intro T
    rw [paysP, List.map_cons, addT_one, ih]
    simp [payP, defsP, addT]
theorem cut_recs_any {v : Int} (l : List Rc) (T : List B) (c : Nat) (hM : ∀ r ∈ l, MayR v r) (hc : c ≤ (paysP v T l).length) :
    ∃ (j : Nat) (ms : List B), j ≤ l.length ∧ (paysP v T l).take c = paysP v T (l.take j) ++ ms.map defP ∧ (v = 1 → ms = []) ∧ ms.length < 100 ∧ (∀ m ∈ ms, m.length ≤ 64) ∧ ∀ i, i ≤ l.length → (paysP v T (l.take i)).length ≤ c → i ≤ j := by
  by_cases hv : v = 1
  · subst hv
    rw [paysP_one] at hc ⊢
    simp only [List.length_map] at hc
    refine ⟨c, [], hc, ?_, fun _ => rfl, by simp, by simp, fun i hi hle => ?_⟩
    · rw [paysP_one, List.map_take]; simp
    · rw [paysP_one] at hle
      simp at hle
      omega
  · obtain ⟨j, ms, h1, h2, h3, h4, h5⟩ := cut_recs hv l T c hM hc
    exact ⟨j, ms, h1, h2, fun e => absurd e hv, h3, h4, h5⟩
theorem cut_any {v : Int} {l : List Rc} (hm : ∀ r ∈ l, mayP v r = true) (hl : l.length ≤ 300) {m : Nat} (h8 : 8 ≤ m) (hle : m ≤ (fileP v l).length) :
    ∃ (j : Nat) (ms : List B) (t : B), j ≤ l.length ∧ (fileP v l).take m = fileP v (l.take j) ++ framesP (ms.map defP) ++ t ∧ (v = 1 → ms = []) ∧ ms.length < 100 ∧ (∀ m ∈ ms, m.length ≤ 64) ∧ EndAt t ∧ t.length < 3000 ∧ ∀ i, i ≤ l.length → (fileP v (l.take i)).length ≤ m → i ≤ j := by
  have hM : ∀ r ∈ l, MayR v r := fun r hr => may_all (hm r hr)
  have hlens := paysP_lens (v := v) (l := l) (t := []) hM (by simp; omega)
  obtain ⟨m', rfl⟩ : ∃ m', m = 8 + m' := ⟨m - 8, by omega⟩
  rw [fileP_len] at hle
  obtain ⟨c, t, c1, c2, c3, c4, c5⟩ := cut_frames (paysP v [] l) m' hlens (by omega)
  obtain ⟨j, ms, j1, j2, j0, j3, j4, j5⟩ := cut_recs_any l [] c hM c1
  refine ⟨j, ms, t, j1, ?_, j0, j3, j4, c3, c4, fun i hi hil => j5 i hi ?_⟩
  · unfold fileP
    rw [show 8 + m' = (headP v).length + m' from by rw [headP_length], List.take_length_add_append, c2, j2, framesP_append]
    simp only [List.append_assoc]
  · refine Nat.le_of_not_lt fun hlt => ?_
    have e : paysP v [] l = paysP v [] (l.take i) ++ paysP v (tblL v [] (l.take i)) (l.drop i) := by rw [← paysP_append, List.take_append_drop]
    have hlen : (paysP v [] (l.take i)).length ≤ (paysP v [] l).length := by rw [e, List.length_append]; omega
    have h1 := c5 (by omega)
    have h2 : (paysP v [] l).take (c + 1) = (paysP v [] (l.take i)).take (c + 1) := by
      rw [e, List.take_append_of_le_length (by omega)]
    rw [h2] at h1
    have h3 := framesP_part (paysP v [] (l.take i)) (c + 1)
    rw [fileP_len] at hil
    omega
theorem cGetT_any {v : Int} (hv : is3 v) (l : List Rc) (hm : ∀ r ∈ l, mayP v r = true) (hl : l.length ≤ 300) (ms : List B) (hms : v = 1 → ms = []) (hml : ms.length < 100) (hmf : ∀ m ∈ ms, m.length ≤ 64) (t : B) (ht : EndAt t) (htl : t.length < 3000) {R} (h : R (.tup [.agg (fileA v l), vi 0]) []) : ACalls Tryz.prog 83 [.sl none 1 (byteEls (fileP v l ++ framesP (ms.map defP) ++ t))] [] R := by
  rcases hv with rfl | rfl | rfl
  · exact cGetT_1 l hm hl ms hms hml hmf t ht htl h
  · exact cGetT_2 l hm hl ms hms hml hmf t ht htl h
  · exact cGetT_3 l hm hl ms hms hml hmf t ht htl h
/-- What a file may hold behind a crash: whole records, and the begin of one more. -/
structure CutF (v : Int) (l : List Rc) (b : B) : Prop where
  hm : ∀ r ∈ l, mayP v r = true
  hl : l.length ≤ 300
  cut : ∃ (ms : List B) (t : B), b = fileP v l ++ framesP (ms.map defP) ++ t ∧ (v = 1 → ms = []) ∧ ms.length < 100 ∧ (∀ m ∈ ms, m.length ≤ 64) ∧ EndAt t ∧ t.length < 3000
theorem CutF.len {v : Int} {l : List Rc} {b : B} (h : CutF v l b) : b.length < 2000000 ∧ (fileP v l).length < 1000000 ∧ (fileP v l).length ≤ b.length := by
  obtain ⟨hm, hl, ms, t, hb, _, hml, hmf, _, htl⟩ := h
  have hs := fileP_small hm hl
  have hfm := framesP_len (l := ms.map defP) (k := 65) (fun p hp => by
    obtain ⟨m, hm1, rfl⟩ := List.mem_map.1 hp
    have := hmf m hm1
    simp [defP]; omega) (by omega)
  rw [List.length_map] at hfm
  rw [hb, List.length_append, List.length_append]
  omega
theorem OpenCut (s : FSt) (name : B) {nb fb : Nat} (hk : FOk s nb fb) (hc : Calm s) {v : Int} (hv : is3 v) {l : List Rc} {b : B} (hcf : CutF v l b)
    (hw : Whole s name b) {R} (h : ∀ s', FOk s' nb fb → Calm s' → Whole s' name (fileP v l) → R (.tup [.agg (fileA v l), vi 0]) [fsC s' 1, fsM s']) :
    ACalls Tryz.prog 64 [.ptr 0 0, vs name] [fsC s 1, fsM s] R := by
  refine acalls_of_xwp (an := an64) tab_ok Tryz.func64 ?_
  obtain ⟨hb1, hs, hb2⟩ := hcf.len
  obtain ⟨hm, hl, ms, t, hb, hms, hml, hmf, ht, htl⟩ := hcf
  have hin := hw.key
  have hg := hw.get
  have hget := fun R hR => cGetT_any hv l hm hl ms hms hml hmf t ht htl (R := R) hR
  rw [← hb] at hget
  have hbl := bel_length b
  (conv => whnf)
  refine fsRead_calls s name (by rw [hg]; show b.length < _; omega) (fun _ => ?_) (fun hno => absurd hin hno)
  rw [hg]
  show _
  (conv => whnf)
  refine hget _ ?_
  (conv => whnf)
  refine br_intro (fun g => ?_) (fun g => ?_)
  · have g := of_decide_eq_true g
    obtain ⟨e1, e2, e3⟩ := trunc_spec hc hw (n := (fileP v l).length) (by omega)
    have htk : b.take (fileP v l).length = fileP v l := by rw [hb, List.append_assoc]; exact List.take_left
    rw [htk] at e2
    have hk2 := truncate_ok hk (name := name) (size := ((fileP v l).length : Int))
    (conv => whnf)
    refine Truncate_calls s name _ hk.fail hk.fall (by rw [hg]; show b.length < _; omega) ?_
    rw [e1]
    have hh := h _ hk2 e3 e2
    generalize (s.truncate name ((fileP v l).length : Int)).1 = s2 at hh ⊢
    (conv => whnf)
    exact hh
  · have g := of_decide_eq_false g
    rw [hbl] at g
    have hbl2 : b.length = (fileP v l).length + (framesP (ms.map defP)).length + t.length := by rw [hb, List.length_append, List.length_append]
    have e1 : framesP (ms.map defP) = [] := List.length_eq_zero_iff.1 (by omega)
    have e2 : t = [] := List.length_eq_zero_iff.1 (by omega)
    have e3 : b = fileP v l := by rw [hb, e1, e2]; simp
    rw [e3] at hw
    (conv => whnf)
    exact h s hk hc hw
end Go.Abs
end

section
/- store: put, Put, Delete at any version; Open on what is there. -/
set_option maxRecDepth 100000
set_option maxHeartbeats 4000000
set_option linter.unusedVariables false
set_option linter.unusedSimpArgs false
namespace Go.Abs
open Go Go.Proofs Dig
attribute [local irreducible] ibits byteAt strLt firstIdx

theorem gone_any {v : Int} (hv : is3 v) {t : B} (h : nameOk t = true) : mayP v (goneT t) = true := by
  unfold mayP goneT
  have h1 : ¬ v < 1 := by unfold is3 at hv; omega
  have h2 : ¬ 3 < v := by unfold is3 at hv; omega
  rw [if_neg (by simp [h, h1, h2]), if_neg (by show ¬ (2 : Int) = 1; decide), if_pos rfl]
  exact decide_eq_true rfl
theorem sput_any {v : Int} (hv : is3 v) (s : FSt) {nb fb : Nat} (hk : FOk s nb fb) (hfb : fb ≤ 80000000) (l : List Rc) (hl : l.length ≤ 300) (hm : ∀ r ∈ l, mayP v r = true) (r : Rc) (hr : mayP v r = true) {R}
    (h1 : (putS v s l r).2 ≠ 0 → R (vi (putS v s l r).2) [stO ((putS v s l r).2 == 7) 1 v l, fsC (putS v s l r).1 2, fsM (putS v s l r).1])
    (h2 : (putS v s l r).2 = 0 → R (vi 0) [stO false 1 v (l ++ [r]), fsC (putS v s l r).1 2, fsM (putS v s l r).1]) :
    ACalls Tryz.prog 75 [.ptr 0 0, .agg r.enc] [stO false 1 v l, fsC s 2, fsM s] R := by
  refine acalls_of_xwp (an := { an75 with anyo := [1] }) tab_ok Tryz.func75 ?_
  unfold putS at h1 h2
  (conv => whnf)
  repeat' first | exact trivial | apply And.intro | ((fail_if_success (refine (show ACalls _ _ _ _ _ from ?_))); (fail_if_success (refine br_true ?_ ?_)); (conv => whnf))
  all_goals refine jAppend_any hv s logB (by decide) hk hfb l hl hm r hr ?_ ?_
  all_goals generalize s.append logB (moreP v l r) = se at h1 h2 ⊢
  all_goals obtain ⟨s2, e⟩ := se
  all_goals intro he
  all_goals first | (have he : e ≠ 0 := he) | (have he : e = 0 := he; subst he)
  all_goals (repeat' first | exact trivial | apply And.intro | ((fail_if_success (refine (show ACalls _ _ _ _ _ from ?_))); (fail_if_success (refine br_true ?_ ?_)); (conv => whnf)))
  all_goals first | refine br_false (by simpa using he) ?_ | skip
  all_goals (repeat' first | exact trivial | apply And.intro | ((fail_if_success (refine (show ACalls _ _ _ _ _ from ?_))); (fail_if_success (refine br_true ?_ ?_)); (conv => whnf)))
  all_goals first | refine met_calls 0 v (l ++ [r]) s2 ?_ | refine met_calls e v l s2 ?_
  all_goals (conv => whnf)
  all_goals first | exact h2 rfl | exact h1 he
theorem sPut_any {v : Int} (hv : is3 v) (s : FSt) {nb fb : Nat} (hk : FOk s nb fb) (hfb : fb ≤ 80000000) (l : List Rc) (hl : l.length ≤ 300) (hm : ∀ r ∈ l, mayP v r = true) (r : Rc) (hkd : r.kind = 1) (hr : mayP v r = true) {R}
    (h1 : (putS v s l r).2 ≠ 0 → R (vi (putS v s l r).2) [stO ((putS v s l r).2 == 7) 1 v l, fsC (putS v s l r).1 2, fsM (putS v s l r).1])
    (h2 : (putS v s l r).2 = 0 → R (vi 0) [stO false 1 v (l ++ [r]), fsC (putS v s l r).1 2, fsM (putS v s l r).1]) :
    ACalls Tryz.prog 44 [.ptr 0 0, .agg r.enc] [stO false 1 v l, fsC s 2, fsM s] R := by
  refine acalls_of_xwp (an := an44) tab_ok Tryz.func44 ?_
  have hd := (may_all hr).deps
  (conv => whnf)
  refine br_false (by simpa using hkd) ?_
  (conv => whnf)
  refine May_calls v r (by omega) fun p hp => ?_
  rw [hr] at hp
  subst hp
  (conv => whnf)
  refine sput_any hv s hk hfb l hl hm r hr (fun he => ?_) (fun he => ?_)
  · have h1 := h1 he
    generalize putS v s l r = se at h1 he ⊢
    obtain ⟨s2, e⟩ := se
    (conv => whnf)
    exact h1
  · have h2 := h2 he
    generalize putS v s l r = se at h2 he ⊢
    obtain ⟨s2, e⟩ := se
    (conv => whnf)
    exact h2
theorem Delete_any {v : Int} (hv : is3 v) (s : FSt) {nb fb : Nat} (hk : FOk s nb fb) (hfb : fb ≤ 80000000) (l : List Rc) (hl : l.length ≤ 300) (hm : ∀ r ∈ l, mayP v r = true) (t : B) {R}
    (h0 : ∀ e : Int, e = 1 ∨ e = 6 → ¬ (nameOk t = true ∧ (findP (docOf l) t).isSome = true) → R (vi e) [stO false 1 v l, fsC s 2, fsM s])
    (h1 : nameOk t = true → (findP (docOf l) t).isSome = true → (putS v s l (goneT t)).2 ≠ 0 → R (vi (putS v s l (goneT t)).2) [stO ((putS v s l (goneT t)).2 == 7) 1 v l, fsC (putS v s l (goneT t)).1 2, fsM (putS v s l (goneT t)).1])
    (h2 : nameOk t = true → (findP (docOf l) t).isSome = true → (putS v s l (goneT t)).2 = 0 → R (vi 0) [stO false 1 v (l ++ [goneT t]), fsC (putS v s l (goneT t)).1 2, fsM (putS v s l (goneT t)).1]) :
    ACalls Tryz.prog 42 [.ptr 0 0, vs t] [stO false 1 v l, fsC s 2, fsM s] R := by
  refine acalls_of_xwp (an := an42) tab_ok Tryz.func42 ?_
  have hd : ∀ r ∈ l, r.deps.length < 1000000 := fun r hr => by have := (may_all (hm r hr)).deps; omega
  (conv => whnf)
  refine stFind_calls false v l (by omega) hd s t ?_
  generalize findR (docOf l) t = fr
  generalize (findP (docOf l) t).isSome = fp at h0 h1 h2 ⊢
  (conv => whnf)
  refine Name_calls t ?_
  cases hn : nameOk t with
  | false =>
    (conv => whnf)
    exact h0 1 (.inl rfl) (fun hx => by rw [hn] at hx; cases hx.1)
  | true =>
  cases fp with
  | false =>
    (conv => whnf)
    exact h0 6 (.inr rfl) (fun hx => by cases hx.2)
  | true =>
  (conv => whnf)
  refine ACalls.args ?_ (sput_any hv s hk hfb l hl hm (goneT t) (gone_any hv hn) (fun he => ?_) (fun he => ?_))
  · exact leL.cons (.refl _) (leL.cons (le_agg (leL.cons (.refl _) (leL.cons (.refl _) (leL.cons (.refl _) (leL.cons (le_nil 3) (leL.refl _)))))) leL.nil)
  · have h1 := h1 hn rfl he
    generalize putS v s l (goneT t) = se at h1 ⊢
    obtain ⟨s2, e⟩ := se
    (conv => whnf)
    exact h1
  · have h2 := h2 hn rfl he
    generalize putS v s l (goneT t) = se at h2 ⊢
    obtain ⟨s2, e⟩ := se
    (conv => whnf)
    exact h2
theorem stOpen_cut (s : FSt) {nb fb : Nat} (hk : FOk s nb fb) (hnb : nb ≤ 900000) (hfb : fb ≤ 80000000) (hc : Calm s) {v : Int} (hv : is3 v) {l : List Rc} {b : B} (hcf : CutF v l b) (hw : Whole s logB b) (u : Int) (hu : is3 u) {R}
    (h : ∀ s', FOk s' nb fb → Calm s' → Whole s' logB (fileP v l) → R (.tup [.ptr 2 0, vi 0]) [fsC s' 1, fsM s', stO false 0 v l]) :
    ACalls Tryz.prog 24 [.ptr 0 0, vi u] [fsC s 1, fsM s] R := by
  refine acalls_of_xwp (an := { an24 with cst := [] }) tab_ok Tryz.func24 ?_
  have hg1 : ¬ u < 1 := by unfold is3 at hu; omega
  have hg2 : ¬ 3 < u := by unfold is3 at hu; omega
  have hlen := hk.m.len
  have hnl : s.names.length ≤ nb := by
    rw [(names_perm s).length_eq]
    simpa [kys] using hlen
  have hlog : logB ∈ s.names := (names_perm s).mem_iff.2 hw.key
  (conv => whnf)
  refine br_false (decide_eq_false hg1) ?_
  (conv => whnf)
  refine br_false (decide_eq_false hg2) ?_
  (conv => whnf)
  refine Down_calls s ?_
  rw [hc.2.2]
  (conv => whnf)
  refine fsNames_calls s (by omega) hk.m.names hk.m.nodup ?_
  (conv => whnf)
  refine sContains_calls s.names newB (by omega) ?_
  (conv => whnf)
  refine br_intro (fun g => ?_) (fun g => ?_)
  · have g := (names_perm s).mem_iff.1 (of_decide_eq_true g)
    obtain ⟨e1, e2⟩ := remove_calm hc g
    have hk2 := remove_ok hk (name := newB)
    have hw2 : Whole (s.remove newB).1 logB b := by
      rcases remove_cases s hk.m.nodup log_new hw with ⟨_, h1, _⟩ | ⟨h0, _⟩
      · exact h1
      · exact absurd e1 h0
    (conv => whnf)
    refine Remove_calls s newB hk.fail hk.fall ?_
    rw [e1]
    generalize hnm : s.names = nm at hlog hnl ⊢
    generalize (s.remove newB).1 = s1 at e2 hk2 hw2 ⊢
    (conv => whnf)
    refine sContains_calls nm logB (by omega) ?_
    rw [decide_eq_true hlog]
    (conv => whnf)
    refine OpenCut s1 logB hk2 e2 hv hcf hw2 fun s2 hk3 hc3 hw3 => ?_
    have hh := h s2 hk3 hc3 hw3
    (conv => whnf)
    exact hh
  · generalize hnm : s.names = nm at hlog hnl ⊢
    (conv => whnf)
    refine sContains_calls nm logB (by omega) ?_
    rw [decide_eq_true hlog]
    (conv => whnf)
    refine OpenCut s logB hk hc hv hcf hw fun s2 hk3 hc3 hw3 => ?_
    have hh := h s2 hk3 hc3 hw3
    (conv => whnf)
    exact hh
end Go.Abs
end

section
/- law15's kept: fits. -/
set_option maxRecDepth 100000
set_option maxHeartbeats 4000000
set_option linter.unusedVariables false
set_option linter.unusedSimpArgs false
namespace Go.Abs
open Go Go.Proofs Dig
attribute [local irreducible] ibits byteAt strLt firstIdx

/-- What a store is to have. -/
def kA (v : Int) (l : List Rc) (n : Nat) (last : List (List AV)) : List AV := [vi v, .sl none 7 (recs l), vi (n : Int), .sl none 4 last]
theorem recs_ok (l : List Rc) : ∀ x ∈ recs l, okCells x = true := by
  intro x hx
  obtain ⟨r, _, rfl⟩ := List.mem_map.1 hx
  rfl
theorem recs_cut {l m : List Rc} (h : m = l.take m.length) (hl : m.length ≤ l.length) : List.drop ((0 : Nat) : Int).toNat (List.take (((recs m).length : Nat) : Int).toNat (recs l)) = recs m := by
  rw [Int.toNat_natCast, Int.toNat_natCast, List.drop_zero, recs_length]
  conv => rhs; rw [h]
  unfold recs
  rw [List.map_take]
theorem fits_yes (v : Int) (l : List Rc) (n : Nat) (x : List (List AV)) (m : List Rc) (h1 : n ≤ m.length) (h2 : m.length ≤ l.length) (h3 : m = l.take m.length) (hm : m.length < 100000) (hd : ∀ r ∈ m, r.deps.length < 1000000) (o : Bool) (s : FSt) {R} (h : R (.val (.bool true)) [stO o 1 v m, fsC s 2, fsM s]) :
    ACalls Tryz.prog 27 [.agg [vi v, .sl none 7 (recs l), vi (n : Int), .sl none 4 x], .ptr 0 0] [stO o 1 v m, fsC s 2, fsM s] R := by
  refine acalls_of_xwp (an := an27) tab_ok Tryz.func27 ?_
  have hsl := recs_length l
  have hsm := recs_length m
  have hcut := recs_cut h3 h2
  (conv => whnf)
  refine Records_calls o v m hm hd s ?_
  (conv => whnf)
  refine stVersion_calls o v m s ?_
  (conv => whnf)
  refine br_true (by simp) ?_
  (conv => whnf)
  refine br_true (decide_eq_true (by rw [hsm]; omega)) ?_
  (conv => whnf)
  refine br_true (decide_eq_true (by rw [hsm, hsl]; omega)) ?_
  (conv => whnf)
  refine must_intro (decide_eq_true (by rw [hsm, hsl]; omega)) ?_
  (conv => whnf)
  refine (show ACalls Tryz.prog 18 [.sl none 7 (recs m), .sl none 7 (List.drop ((0 : Nat) : Int).toNat (List.take (((recs m).length : Nat) : Int).toNat (recs l)))] [] _ from ?_)
  rw [hcut]
  refine All_calls m m (by omega) hd fun p hp => ?_
  obtain rfl : p = true := by simp [hp]
  (conv => whnf)
  exact h
theorem fits_last (v : Int) (l : List Rc) (n : Nat) (l2 : List Rc) (n2 : Nat) (m : List Rc) (h0 : l.length < m.length) (h1 : n2 ≤ m.length) (h2 : m.length ≤ l2.length) (h3 : m = l2.take m.length) (hm : m.length < 100000) (hd : ∀ r ∈ m, r.deps.length < 1000000) (o : Bool) (s : FSt) {R} (h : R (.val (.bool true)) [stO o 1 v m, fsC s 2, fsM s]) :
    ACalls Tryz.prog 27 [.agg (kA v l n [kA v l2 n2 []]), .ptr 0 0] [stO o 1 v m, fsC s 2, fsM s] R := by
  refine acalls_of_xwp (an := an27) tab_ok Tryz.func27 ?_
  have hsl := recs_length l
  have hsm := recs_length m
  (conv => whnf)
  refine Records_calls o v m hm hd s ?_
  (conv => whnf)
  refine stVersion_calls o v m s ?_
  (conv => whnf)
  refine br_true (by simp) ?_
  (conv => whnf)
  refine br_intro (fun g => ?_) (fun g => ?_)
  · (conv => whnf)
    refine br_false (decide_eq_false (by rw [hsm, hsl]; omega)) ?_
    (conv => whnf)
    refine LoopP.step ?_
    (conv => whnf)
    refine fits_yes v l2 n2 [] m h1 h2 h3 hm hd o s ?_
    (conv => whnf)
    exact h
  · (conv => whnf)
    refine LoopP.step ?_
    (conv => whnf)
    refine fits_yes v l2 n2 [] m h1 h2 h3 hm hd o s ?_
    (conv => whnf)
    exact h
theorem kdo_0a (s : FSt) {nb fb : Nat} (hk : FOk s nb fb) (hnb : nb ≤ 800000) (hfb : fb ≤ 70000000) {v : Int} (hv : is3 v) (l : List Rc) (n : Nat) (hl : l.length ≤ 300) (hm : ∀ r ∈ l, mayP v r = true) (o : Sp) (ho : SpOk o) (h0k : o.kind = 0) (hno : ¬ (o.r.kind = 1 ∧ mayP v o.r = true)) {R}
    (h : R (.tup [.agg (kA v l n []), .val (.bool true)]) [stO false 1 v l, fsC s 2, fsM s]) :
    ACalls Tryz.prog 25 [.agg (kA v l n []), .ptr 0 0, .agg o.enc] [stO false 1 v l, fsC s 2, fsM s] R := by
  refine ACalls.res ?_
  refine acalls_of_xwp (an := { an25 with cst := [3, 5] }) tab_ok Tryz.func25 ?_
  obtain ⟨⟨r1, r2, r3, r4⟩, o2, o3, o4⟩ := ho
  obtain ⟨kind, r, name, ol, ver, n4⟩ := o
  have h0k : kind = 0 := h0k
  subst h0k
  have hd : ∀ r ∈ l, r.deps.length < 1000000 := fun r hr => by have := (may_all (hm r hr)).deps; omega
  have hsl := recs_length l
  (conv => whnf)
  refine sPut_no false s v l r (by have : r.deps.length ≤ 60 := r1; omega) (fun _ => ?_) (fun e => by cases e) (fun _ => ?_)
  · by_cases hkd : r.kind = 1
    · exact .inr (by cases hmm : mayP v r with | false => rfl | true => exact absurd ⟨hkd, hmm⟩ hno)
    · exact .inl hkd
  (conv => whnf)
  refine ⟨rfl, by rw [hsl, bytes_rec]; simp only [List.length_nil]; omega, ?_⟩
  (conv => whnf)
  refine ⟨by simp, by rw [bytes_rec]; simp only [List.length_cons, List.length_nil, List.nil_append, hsl]; omega, ?_⟩
  (conv => whnf)
  refine Records_calls false v l (by omega) hd s ?_
  (conv => whnf)
  refine All_calls l l (by omega) hd fun p hp => ?_
  obtain rfl : p = true := by simp [hp]
  (conv => whnf)
  refine stVersion_calls false v l s ?_
  (conv => whnf)
  rw [beq_self_eq_true]
  exact res_same h
theorem kdo_0b (s : FSt) {nb fb : Nat} (hk : FOk s nb fb) (hnb : nb ≤ 800000) (hfb : fb ≤ 70000000) {v : Int} (hv : is3 v) (l : List Rc) (n : Nat) (hl : l.length ≤ 300) (hm : ∀ r ∈ l, mayP v r = true) (o : Sp) (ho : SpOk o) (h0k : o.kind = 0) (hy : o.r.kind = 1 ∧ mayP v o.r = true) (s2 : FSt) (e : Int) (he : putS v s l o.r = (s2, e)) (e0 : e ≠ 0) (e7 : e ≠ 7) {R}
    (h : R (.tup [.agg (kA v l n []), .val (.bool true)]) [stO false 1 v l, fsC s2 2, fsM s2]) :
    ACalls Tryz.prog 25 [.agg (kA v l n []), .ptr 0 0, .agg o.enc] [stO false 1 v l, fsC s 2, fsM s] R := by
  refine ACalls.res ?_
  refine acalls_of_xwp (an := { an25 with cst := [3, 5] }) tab_ok Tryz.func25 ?_
  obtain ⟨⟨r1, r2, r3, r4⟩, o2, o3, o4⟩ := ho
  obtain ⟨kind, r, name, ol, ver, n4⟩ := o
  have h0k : kind = 0 := h0k
  subst h0k
  have hd : ∀ r ∈ l, r.deps.length < 1000000 := fun r hr => by have := (may_all (hm r hr)).deps; omega
  have hsl := recs_length l
  have he : putS v s l r = (s2, e) := he
  (conv => whnf)
  refine sPut_any hv s hk (by omega) l hl hm r hy.1 hy.2 (fun he' => ?_) (fun he' => ?_)
  · rw [he] at he' ⊢
    rw [show ((s2, e).2 == 7) = false from by simpa using e7]
    (conv => whnf)
    refine ⟨rfl, by rw [hsl, bytes_rec]; simp only [List.length_nil]; omega, ?_⟩
    (conv => whnf)
    refine ⟨by simp, by rw [bytes_rec]; simp only [List.length_cons, List.length_nil, List.nil_append, hsl]; omega, ?_⟩
    (conv => whnf)
    refine br_false (by simpa using e0) ?_
    (conv => whnf)
    refine br_false (by simpa using e7) ?_
    (conv => whnf)
    refine Records_calls false v l (by omega) hd s2 ?_
    (conv => whnf)
    refine All_calls l l (by omega) hd fun p hp => ?_
    obtain rfl : p = true := by simp [hp]
    (conv => whnf)
    refine stVersion_calls false v l s2 ?_
    (conv => whnf)
    rw [beq_self_eq_true]
    exact res_same h
  · rw [he] at he'
    exact absurd he' e0
theorem kdo_0c (s : FSt) {nb fb : Nat} (hk : FOk s nb fb) (hnb : nb ≤ 800000) (hfb : fb ≤ 70000000) {v : Int} (hv : is3 v) (l : List Rc) (n : Nat) (hl : l.length ≤ 300) (hm : ∀ r ∈ l, mayP v r = true) (o : Sp) (ho : SpOk o) (h0k : o.kind = 0) (hy : o.r.kind = 1 ∧ mayP v o.r = true) (s2 : FSt) (he : putS v s l o.r = (s2, 0)) {R}
    (h : R (.tup [.agg (kA v (l ++ [o.r]) n []), .val (.bool true)]) [stO false 1 v (l ++ [o.r]), fsC s2 2, fsM s2]) :
    ACalls Tryz.prog 25 [.agg (kA v l n []), .ptr 0 0, .agg o.enc] [stO false 1 v l, fsC s 2, fsM s] R := by
  refine ACalls.res ?_
  refine acalls_of_xwp (an := { an25 with cst := [5], frz2 := [(8, 8), (43, 3), (53, 3), (62, 3), (86, 3)] }) tab_ok Tryz.func25 ?_
  obtain ⟨⟨r1, r2, r3, r4⟩, o2, o3, o4⟩ := ho
  obtain ⟨kind, r, name, ol, ver, n4⟩ := o
  have h0k : kind = 0 := h0k
  subst h0k
  have hd : ∀ r ∈ l, r.deps.length < 1000000 := fun r hr => by have := (may_all (hm r hr)).deps; omega
  have hsl := recs_length l
  have he : putS v s l r = (s2, 0) := he
  have hl2 : (l ++ [r]).length ≤ 301 := by simp; omega
  have hd2 : ∀ q ∈ l ++ [r], q.deps.length < 1000000 := fun q hq => by
    rcases List.mem_append.1 hq with hq | hq
    · exact hd q hq
    · rw [List.mem_singleton.1 hq]; have hq2 : r.deps.length ≤ 16 := (may_all hy.2).deps; omega
  (conv => whnf)
  refine sPut_any hv s hk (by omega) l hl hm r hy.1 hy.2 (fun he' => ?_) (fun he' => ?_)
  · rw [he] at he'
    exact absurd rfl he'
  · rw [he]
    (conv => whnf)
    refine ⟨rfl, by rw [hsl, bytes_rec]; simp only [List.length_nil]; omega, ?_⟩
    (conv => whnf)
    refine ⟨by simp, by rw [bytes_rec]; simp only [List.length_cons, List.length_nil, List.nil_append, hsl]; omega, ?_⟩
    (conv => whnf)
    have hrs : ∀ x, x = ([] ++ recs l) ++ [Rc.enc r] → x = recs (l ++ [r]) := fun x hx => by rw [hx, recs_snoc]; rfl
    refine Records_calls false v (l ++ [r]) (by omega) hd2 s2 ?_
    (conv => whnf)
    refine (show ACalls Tryz.prog 18 [.sl none 7 (recs (l ++ [r])), .sl none 7 (([] ++ recs l) ++ [Rc.enc r])] [] _ from ?_)
    rw [hrs _ rfl]
    refine All_calls (l ++ [r]) (l ++ [r]) (by omega) hd2 fun p hp => ?_
    obtain rfl : p = true := by simp [hp]
    (conv => whnf)
    refine stVersion_calls false v (l ++ [r]) s2 ?_
    (conv => whnf)
    rw [beq_self_eq_true]
    have hA : kA v (l ++ [r]) n [] = [vi v, .sl none 7 (([] ++ recs l) ++ [Rc.enc r]), vi (n : Int), .sl none 4 []] := by unfold kA; rw [recs_snoc]; rfl
    have h : R (.tup [.agg (kA v (l ++ [r]) n []), .val (.bool true)]) [stO false 1 v (l ++ [r]), fsC s2 2, fsM s2] := h
    rw [hA] at h
    exact res_same h
theorem kdo_1a (s : FSt) {nb fb : Nat} (hk : FOk s nb fb) (hnb : nb ≤ 800000) (hfb : fb ≤ 70000000) {v : Int} (hv : is3 v) (l : List Rc) (n : Nat) (hl : l.length ≤ 300) (hm : ∀ r ∈ l, mayP v r = true) (o : Sp) (ho : SpOk o) (h0k : o.kind = 1) (hno : ¬ (nameOk o.name = true ∧ (findP (docOf l) o.name).isSome = true)) {R}
    (h : R (.tup [.agg (kA v l n []), .val (.bool true)]) [stO false 1 v l, fsC s 2, fsM s]) :
    ACalls Tryz.prog 25 [.agg (kA v l n []), .ptr 0 0, .agg o.enc] [stO false 1 v l, fsC s 2, fsM s] R := by
  refine ACalls.res ?_
  refine acalls_of_xwp (an := { an25 with cst := [3, 5], frz2 := [], frv := [(29, 8)] }) tab_ok Tryz.func25 ?_
  obtain ⟨⟨r1, r2, r3, r4⟩, o2, o3, o4⟩ := ho
  obtain ⟨kind, r, name, ol, ver, n4⟩ := o
  have h0k : kind = 1 := h0k
  subst h0k
  have hd : ∀ r ∈ l, r.deps.length < 1000000 := fun r hr => by have := (may_all (hm r hr)).deps; omega
  have hsl := recs_length l
  (conv => whnf)
  refine Delete_any hv s hk (by omega) l hl hm name (fun e he _ => ?_) (fun a b _ => absurd ⟨a, b⟩ hno) (fun a b _ => absurd ⟨a, b⟩ hno)
  (conv => whnf)
  refine ⟨rfl, by rw [hsl, bytes_rec]; simp only [List.length_nil]; omega, ?_⟩
  (conv => whnf)
  refine ⟨by simp, by rw [bytes_rec]; simp only [List.length_cons, List.length_nil, List.nil_append, hsl]; omega, ?_⟩
  (conv => whnf)
  refine br_false (by have h0 : e ≠ 0 := by omega
                      simpa using h0) ?_
  (conv => whnf)
  refine br_false (by have h0 : e ≠ 7 := by omega
                      simpa using h0) ?_
  (conv => whnf)
  refine Records_calls false v l (by omega) hd s ?_
  (conv => whnf)
  refine All_calls l l (by omega) hd fun p hp => ?_
  obtain rfl : p = true := by simp [hp]
  (conv => whnf)
  refine stVersion_calls false v l s ?_
  (conv => whnf)
  rw [beq_self_eq_true]
  exact res_same h
theorem kdo_1b (s : FSt) {nb fb : Nat} (hk : FOk s nb fb) (hnb : nb ≤ 800000) (hfb : fb ≤ 70000000) {v : Int} (hv : is3 v) (l : List Rc) (n : Nat) (hl : l.length ≤ 300) (hm : ∀ r ∈ l, mayP v r = true) (o : Sp) (ho : SpOk o) (h0k : o.kind = 1) (hy : nameOk o.name = true ∧ (findP (docOf l) o.name).isSome = true) (s2 : FSt) (e : Int) (he : putS v s l (goneT o.name) = (s2, e)) (e0 : e ≠ 0) (e7 : e ≠ 7) {R}
    (h : R (.tup [.agg (kA v l n []), .val (.bool true)]) [stO false 1 v l, fsC s2 2, fsM s2]) :
    ACalls Tryz.prog 25 [.agg (kA v l n []), .ptr 0 0, .agg o.enc] [stO false 1 v l, fsC s 2, fsM s] R := by
  refine ACalls.res ?_
  refine acalls_of_xwp (an := { an25 with cst := [3, 5], frz2 := [], frv := [(29, 8)] }) tab_ok Tryz.func25 ?_
  obtain ⟨⟨r1, r2, r3, r4⟩, o2, o3, o4⟩ := ho
  obtain ⟨kind, r, name, ol, ver, n4⟩ := o
  have h0k : kind = 1 := h0k
  subst h0k
  have hd : ∀ r ∈ l, r.deps.length < 1000000 := fun r hr => by have := (may_all (hm r hr)).deps; omega
  have hsl := recs_length l
  have he : putS v s l (goneT name) = (s2, e) := he
  (conv => whnf)
  refine Delete_any hv s hk (by omega) l hl hm name (fun _ _ hna => absurd hy hna) (fun _ _ he' => ?_) (fun _ _ he' => ?_)
  · rw [he] at he' ⊢
    rw [show ((s2, e).2 == 7) = false from by simpa using e7]
    (conv => whnf)
    refine ⟨rfl, by rw [hsl, bytes_rec]; simp only [List.length_nil]; omega, ?_⟩
    (conv => whnf)
    refine ⟨by simp, by rw [bytes_rec]; simp only [List.length_cons, List.length_nil, List.nil_append, hsl]; omega, ?_⟩
    (conv => whnf)
    refine br_false (by simpa using e0) ?_
    (conv => whnf)
    refine br_false (by simpa using e7) ?_
    (conv => whnf)
    refine Records_calls false v l (by omega) hd s2 ?_
    (conv => whnf)
    refine All_calls l l (by omega) hd fun p hp => ?_
    obtain rfl : p = true := by simp [hp]
    (conv => whnf)
    refine stVersion_calls false v l s2 ?_
    (conv => whnf)
    rw [beq_self_eq_true]
    exact res_same h
  · rw [he] at he'
    exact absurd he' e0
theorem kdo_1c (s : FSt) {nb fb : Nat} (hk : FOk s nb fb) (hnb : nb ≤ 800000) (hfb : fb ≤ 70000000) {v : Int} (hv : is3 v) (l : List Rc) (n : Nat) (hl : l.length ≤ 300) (hm : ∀ r ∈ l, mayP v r = true) (o : Sp) (ho : SpOk o) (h0k : o.kind = 1) (hy : nameOk o.name = true ∧ (findP (docOf l) o.name).isSome = true) (s2 : FSt) (he : putS v s l (goneT o.name) = (s2, 0)) {R}
    (h : R (.tup [.agg (kA v (l ++ [(goneT o.name)]) n []), .val (.bool true)]) [stO false 1 v (l ++ [(goneT o.name)]), fsC s2 2, fsM s2]) :
    ACalls Tryz.prog 25 [.agg (kA v l n []), .ptr 0 0, .agg o.enc] [stO false 1 v l, fsC s 2, fsM s] R := by
  refine ACalls.res ?_
  refine acalls_of_xwp (an := { an25 with cst := [5], frv := [(29, 8)], frz2 := [(43, 3), (53, 3), (62, 3), (86, 3)] }) tab_ok Tryz.func25 ?_
  obtain ⟨⟨r1, r2, r3, r4⟩, o2, o3, o4⟩ := ho
  obtain ⟨kind, r, name, ol, ver, n4⟩ := o
  have h0k : kind = 1 := h0k
  subst h0k
  have hd : ∀ r ∈ l, r.deps.length < 1000000 := fun r hr => by have := (may_all (hm r hr)).deps; omega
  have hsl := recs_length l
  have he : putS v s l (goneT name) = (s2, 0) := he
  have hl2 : (l ++ [(goneT name)]).length ≤ 301 := by simp; omega
  have hd2 : ∀ q ∈ l ++ [(goneT name)], q.deps.length < 1000000 := fun q hq => by
    rcases List.mem_append.1 hq with hq | hq
    · exact hd q hq
    · rw [List.mem_singleton.1 hq]; show 0 < 1000000; decide
  (conv => whnf)
  refine Delete_any hv s hk (by omega) l hl hm name (fun _ _ hna => absurd hy hna) (fun _ _ he' => ?_) (fun _ _ he' => ?_)
  · rw [he] at he'
    exact absurd rfl he'
  · rw [he]
    (conv => whnf)
    refine ⟨rfl, by rw [hsl, bytes_rec]; simp only [List.length_nil]; omega, ?_⟩
    (conv => whnf)
    refine ⟨by simp, by rw [bytes_rec]; simp only [List.length_cons, List.length_nil, List.nil_append, hsl]; omega, ?_⟩
    (conv => whnf)
    have hle : leE (([] ++ recs l) ++ [[.val (.int .i64 2), .val (.string (ofB name)), .val (.int .u64 ((0 : U).toNat : Int)), .val (.slice none 0 0), .val (.int .u64 ((0 : U).toNat : Int)), .val (.int .u64 ((0 : U).toNat : Int)), .val (.string (ofB []))]]) (recs (l ++ [goneT name])) := by
      rw [recs_snoc]
      exact leE.append (leE.refl (recs_ok l)) (leE.cons (le_rec2 2 name 0 0 0 []) rfl leE.nil)
    refine Records_calls false v (l ++ [goneT name]) (by omega) hd2 s2 ?_
    (conv => whnf)
    refine ACalls.args (leL.cons (.refl _) (leL.cons (le_sl none 7 hle) leL.nil)) ?_
    refine All_calls (l ++ [goneT name]) (l ++ [goneT name]) (by omega) hd2 fun p hp => ?_
    obtain rfl : p = true := by simp [hp]
    (conv => whnf)
    refine stVersion_calls false v (l ++ [goneT name]) s2 ?_
    (conv => whnf)
    rw [beq_self_eq_true]
    refine res_le (le_tup (leL.cons (le_agg (leL.cons (.refl _) (leL.cons (le_sl none 7 hle) (leL.refl _)))) (leL.refl _))) rfl ?_
    exact h
end Go.Abs
end

section
/- law15's kept: do, the other cases. Written by genTE.py. -/
set_option maxRecDepth 100000
set_option maxHeartbeats 4000000
set_option linter.unusedVariables false
set_option linter.unusedSimpArgs false
namespace Go.Abs
open Go Go.Proofs Dig
attribute [local irreducible] ibits byteAt strLt firstIdx

theorem kdo_0d (s : FSt) {nb fb : Nat} (hk : FOk s nb fb) (hnb : nb ≤ 800000) (hfb : fb ≤ 70000000) {v : Int} (hv : is3 v) (l : List Rc) (n : Nat) (hl : l.length ≤ 300) (hm : ∀ r ∈ l, mayP v r = true) (o : Sp) (ho : SpOk o) (h0k : o.kind = 0) (hy : o.r.kind = 1 ∧ mayP v o.r = true) (s2 : FSt) (he : putS v s l o.r = (s2, 7)) {R}
    (h : R (.tup [.agg (kA v l n [kA v (l ++ [o.r]) n []]), .val (.bool true)]) [stO true 1 v l, fsC s2 2, fsM s2]) :
    ACalls Tryz.prog 25 [.agg (kA v l n []), .ptr 0 0, .agg o.enc] [stO false 1 v l, fsC s 2, fsM s] R := by
  refine ACalls.res ?_
  refine acalls_of_xwp (an := { an25 with cst := [5], frz2 := [(8, 8), (43, 3), (53, 3), (62, 3), (86, 3)] }) tab_ok Tryz.func25 ?_
  obtain ⟨⟨r1, r2, r3, r4⟩, o2, o3, o4⟩ := ho
  obtain ⟨kind, r, name, ol, ver, n4⟩ := o
  have h0k : kind = 0 := h0k
  subst h0k
  have hd : ∀ r ∈ l, r.deps.length < 1000000 := fun r hr => by have := (may_all (hm r hr)).deps; omega
  have hsl := recs_length l
  have he : putS v s l r = (s2, 7) := he
  have hle : leE (([] ++ recs l) ++ [Rc.enc r]) (recs (l ++ [r])) := by
    rw [recs_snoc]
    exact leE.append (leE.refl (recs_ok l)) (leE.refl (by intro x hx; rw [List.mem_singleton.1 hx]; rfl))
  (conv => whnf)
  refine sPut_any hv s hk (by omega) l hl hm r hy.1 hy.2 (fun he' => ?_) (fun he' => ?_)
  · rw [he]
    (conv => whnf)
    refine ⟨rfl, by rw [hsl, bytes_rec]; simp only [List.length_nil]; omega, ?_⟩
    (conv => whnf)
    refine ⟨by simp, by rw [bytes_rec]; simp only [List.length_cons, List.length_nil, List.nil_append, hsl]; omega, ?_⟩
    (conv => whnf)
    refine Records_calls true v l (by omega) hd s2 ?_
    (conv => whnf)
    refine All_calls l l (by omega) hd fun p hp => ?_
    obtain rfl : p = true := by simp [hp]
    (conv => whnf)
    refine stVersion_calls true v l s2 ?_
    (conv => whnf)
    rw [beq_self_eq_true]
    refine res_le (le_tup (leL.cons (le_agg (leL.cons (.refl _) (leL.cons (.refl _) (leL.cons (.refl _) (leL.cons (le_sl none 4 (leE.cons (leL.cons (.refl _) (leL.cons (le_sl none 7 hle) (leL.cons (.refl _) (leL.cons (le_nil 4) leL.nil)))) rfl leE.nil)) leL.nil))))) (leL.refl _))) rfl ?_
    exact h
  · rw [he] at he'
    exact absurd he' (show ¬ (7 : Int) = 0 by decide)
theorem kdo_1d (s : FSt) {nb fb : Nat} (hk : FOk s nb fb) (hnb : nb ≤ 800000) (hfb : fb ≤ 70000000) {v : Int} (hv : is3 v) (l : List Rc) (n : Nat) (hl : l.length ≤ 300) (hm : ∀ r ∈ l, mayP v r = true) (o : Sp) (ho : SpOk o) (h0k : o.kind = 1) (hy : nameOk o.name = true ∧ (findP (docOf l) o.name).isSome = true) (s2 : FSt) (he : putS v s l (goneT o.name) = (s2, 7)) {R}
    (h : R (.tup [.agg (kA v l n [kA v (l ++ [(goneT o.name)]) n []]), .val (.bool true)]) [stO true 1 v l, fsC s2 2, fsM s2]) :
    ACalls Tryz.prog 25 [.agg (kA v l n []), .ptr 0 0, .agg o.enc] [stO false 1 v l, fsC s 2, fsM s] R := by
  refine ACalls.res ?_
  refine acalls_of_xwp (an := { an25 with cst := [5], frv := [(29, 8)], frz2 := [(43, 3), (53, 3), (62, 3), (86, 3)] }) tab_ok Tryz.func25 ?_
  obtain ⟨⟨r1, r2, r3, r4⟩, o2, o3, o4⟩ := ho
  obtain ⟨kind, r, name, ol, ver, n4⟩ := o
  have h0k : kind = 1 := h0k
  subst h0k
  have hd : ∀ r ∈ l, r.deps.length < 1000000 := fun r hr => by have := (may_all (hm r hr)).deps; omega
  have hsl := recs_length l
  have he : putS v s l (goneT name) = (s2, 7) := he
  have hle : leE (([] ++ recs l) ++ [[.val (.int .i64 2), .val (.string (ofB name)), .val (.int .u64 ((0 : U).toNat : Int)), .val (.slice none 0 0), .val (.int .u64 ((0 : U).toNat : Int)), .val (.int .u64 ((0 : U).toNat : Int)), .val (.string (ofB []))]]) (recs (l ++ [(goneT name)])) := by
    rw [recs_snoc]
    exact leE.append (leE.refl (recs_ok l)) (leE.cons (le_rec2 2 name 0 0 0 []) rfl leE.nil)
  (conv => whnf)
  refine Delete_any hv s hk (by omega) l hl hm name (fun _ _ hna => absurd hy hna) (fun _ _ he' => ?_) (fun _ _ he' => ?_)
  · rw [he]
    (conv => whnf)
    refine ⟨rfl, by rw [hsl, bytes_rec]; simp only [List.length_nil]; omega, ?_⟩
    (conv => whnf)
    refine ⟨by simp, by rw [bytes_rec]; simp only [List.length_cons, List.length_nil, List.nil_append, hsl]; omega, ?_⟩
    (conv => whnf)
    refine Records_calls true v l (by omega) hd s2 ?_
    (conv => whnf)
    refine All_calls l l (by omega) hd fun p hp => ?_
    obtain rfl : p = true := by simp [hp]
    (conv => whnf)
    refine stVersion_calls true v l s2 ?_
    (conv => whnf)
    rw [beq_self_eq_true]
    refine res_le (le_tup (leL.cons (le_agg (leL.cons (.refl _) (leL.cons (.refl _) (leL.cons (.refl _) (leL.cons (le_sl none 4 (leE.cons (leL.cons (.refl _) (leL.cons (le_sl none 7 hle) (leL.cons (.refl _) (leL.cons (le_nil 4) leL.nil)))) rfl leE.nil)) leL.nil))))) (leL.refl _))) rfl ?_
    exact h
  · rw [he] at he'
    exact absurd he' (show ¬ (7 : Int) = 0 by decide)
theorem kdo_2a (s : FSt) {nb fb : Nat} (hk : FOk s nb fb) (hnb : nb ≤ 800000) (hfb : fb ≤ 70000000) {v : Int} (hv : is3 v) (l : List Rc) (n : Nat) (hl : l.length ≤ 300) (hm : ∀ r ∈ l, mayP v r = true) (o : Sp) (ho : SpOk o) (h0k : o.kind = 2) (s2 : FSt) (he : s.sync logB = (s2, 0)) {R}
    (h : R (.tup [.agg (kA v l l.length []), .val (.bool true)]) [stO false 1 v l, fsC s2 2, fsM s2]) :
    ACalls Tryz.prog 25 [.agg (kA v l n []), .ptr 0 0, .agg o.enc] [stO false 1 v l, fsC s 2, fsM s] R := by
  refine ACalls.res ?_
  refine acalls_of_xwp (an := { an25 with cst := [5], frz2 := [(8, 8), (43, 3), (53, 3), (62, 3), (86, 3)] }) tab_ok Tryz.func25 ?_
  obtain ⟨⟨r1, r2, r3, r4⟩, o2, o3, o4⟩ := ho
  obtain ⟨kind, r, name, ol, ver, n4⟩ := o
  have h0k : kind = 2 := h0k
  subst h0k
  have hd : ∀ r ∈ l, r.deps.length < 1000000 := fun r hr => by have := (may_all (hm r hr)).deps; omega
  have hsl := recs_length l
  (conv => whnf)
  refine Commit_calls v l s hk.fail hk.fall ?_
  rw [he]
  (conv => whnf)
  rw [hsl]
  (conv => whnf)
  refine Records_calls false v l (by omega) hd s2 ?_
  (conv => whnf)
  refine All_calls l l (by omega) hd fun p hp => ?_
  obtain rfl : p = true := by simp [hp]
  (conv => whnf)
  refine stVersion_calls false v l s2 ?_
  (conv => whnf)
  rw [beq_self_eq_true]
  exact res_same h
theorem kdo_2b (s : FSt) {nb fb : Nat} (hk : FOk s nb fb) (hnb : nb ≤ 800000) (hfb : fb ≤ 70000000) {v : Int} (hv : is3 v) (l : List Rc) (n : Nat) (hl : l.length ≤ 300) (hm : ∀ r ∈ l, mayP v r = true) (o : Sp) (ho : SpOk o) (h0k : o.kind = 2) (s2 : FSt) (e : Int) (e0 : e ≠ 0) (he : s.sync logB = (s2, e)) {R}
    (h : R (.tup [.agg (kA v l n []), .val (.bool true)]) [stO (e == 7) 1 v l, fsC s2 2, fsM s2]) :
    ACalls Tryz.prog 25 [.agg (kA v l n []), .ptr 0 0, .agg o.enc] [stO false 1 v l, fsC s 2, fsM s] R := by
  refine ACalls.res ?_
  refine acalls_of_xwp (an := { an25 with cst := [3, 5] }) tab_ok Tryz.func25 ?_
  obtain ⟨⟨r1, r2, r3, r4⟩, o2, o3, o4⟩ := ho
  obtain ⟨kind, r, name, ol, ver, n4⟩ := o
  have h0k : kind = 2 := h0k
  subst h0k
  have hd : ∀ r ∈ l, r.deps.length < 1000000 := fun r hr => by have := (may_all (hm r hr)).deps; omega
  have hsl := recs_length l
  (conv => whnf)
  refine Commit_calls v l s hk.fail hk.fall ?_
  rw [he]
  (conv => whnf)
  refine br_false (by simpa using e0) ?_
  (conv => whnf)
  refine Records_calls _ v l (by omega) hd s2 ?_
  (conv => whnf)
  refine All_calls l l (by omega) hd fun p hp => ?_
  obtain rfl : p = true := by simp [hp]
  (conv => whnf)
  refine stVersion_calls _ v l s2 ?_
  (conv => whnf)
  rw [beq_self_eq_true]
  exact res_same h
theorem kdo_3a (s : FSt) {nb fb : Nat} (hk : FOk s nb fb) (hnb : nb ≤ 800000) (hfb : fb ≤ 70000000) {v : Int} (hv : is3 v) (l : List Rc) (n : Nat) (hl : l.length ≤ 300) (hm : ∀ r ∈ l, mayP v r = true) (o : Sp) (ho : SpOk o) (h0k : o.kind = 3) (hno : ¬ is3 o.version ∨ ¬ ∀ r ∈ o.l, mayP o.version r = true) {R}
    (h : R (.tup [.agg (kA v l n []), .val (.bool true)]) [stO false 1 v l, fsC s 2, fsM s]) :
    ACalls Tryz.prog 25 [.agg (kA v l n []), .ptr 0 0, .agg o.enc] [stO false 1 v l, fsC s 2, fsM s] R := by
  refine ACalls.res ?_
  refine acalls_of_xwp (an := { an25 with cst := [3, 5] }) tab_ok Tryz.func25 ?_
  obtain ⟨⟨r1, r2, r3, r4⟩, o2, o3, o4⟩ := ho
  obtain ⟨kind, r, name, ol, ver, n4⟩ := o
  have h0k : kind = 3 := h0k
  subst h0k
  have hd : ∀ r ∈ l, r.deps.length < 1000000 := fun r hr => by have := (may_all (hm r hr)).deps; omega
  have hsl := recs_length l
  (conv => whnf)
  refine Rewrite_calls s hk hnb hfb v l ver ol (by have : ol.length ≤ 30 := o2; omega) (fun q hq => by have := (o3 q hq).1; omega) (fun e he _ => ?_) (fun hw hmm _ => by rcases hno with h | h; exact absurd hw h; exact absurd hmm h) (fun hw hmm _ => by rcases hno with h | h; exact absurd hw h; exact absurd hmm h)
  (conv => whnf)
  refine br_false (by have h0 : e ≠ 0 := by omega
                      simpa using h0) ?_
  (conv => whnf)
  refine br_false (by have h0 : e ≠ 7 := by omega
                      simpa using h0) ?_
  (conv => whnf)
  refine Records_calls false v l (by omega) hd s ?_
  (conv => whnf)
  refine All_calls l l (by omega) hd fun p hp => ?_
  obtain rfl : p = true := by simp [hp]
  (conv => whnf)
  refine stVersion_calls false v l s ?_
  (conv => whnf)
  rw [beq_self_eq_true]
  exact res_same h
theorem kdo_3b (s : FSt) {nb fb : Nat} (hk : FOk s nb fb) (hnb : nb ≤ 800000) (hfb : fb ≤ 70000000) {v : Int} (hv : is3 v) (l : List Rc) (n : Nat) (hl : l.length ≤ 300) (hm : ∀ r ∈ l, mayP v r = true) (o : Sp) (ho : SpOk o) (h0k : o.kind = 3) (hw : is3 o.version) (hmm : ∀ r ∈ o.l, mayP o.version r = true) (s2 : FSt) (e : Int) (e0 : e ≠ 0) (e7 : e ≠ 7) (he : startP s logB newB (fileP o.version o.l) = (s2, e)) {R}
    (h : R (.tup [.agg (kA v l n []), .val (.bool true)]) [stO false 1 v l, fsC s2 2, fsM s2]) :
    ACalls Tryz.prog 25 [.agg (kA v l n []), .ptr 0 0, .agg o.enc] [stO false 1 v l, fsC s 2, fsM s] R := by
  refine ACalls.res ?_
  refine acalls_of_xwp (an := { an25 with cst := [3, 5] }) tab_ok Tryz.func25 ?_
  obtain ⟨⟨r1, r2, r3, r4⟩, o2, o3, o4⟩ := ho
  obtain ⟨kind, r, name, ol, ver, n4⟩ := o
  have h0k : kind = 3 := h0k
  subst h0k
  have hd : ∀ r ∈ l, r.deps.length < 1000000 := fun r hr => by have := (may_all (hm r hr)).deps; omega
  have hsl := recs_length l
  have he : startP s logB newB (fileP ver ol) = (s2, e) := he
  (conv => whnf)
  refine Rewrite_calls s hk hnb hfb v l ver ol (by have : ol.length ≤ 30 := o2; omega) (fun q hq => by have := (o3 q hq).1; omega) (fun e _ hno => by rcases hno with h | h; exact absurd hw h; exact absurd hmm h) (fun _ _ he' => ?_) (fun _ _ he' => ?_)
  · rw [he]
    rw [show ((s2, e).2 == 7) = false from by simpa using e7]
    (conv => whnf)
    refine br_false (by simpa using e0) ?_
    (conv => whnf)
    refine br_false (by simpa using e7) ?_
    (conv => whnf)
    refine Records_calls false v l (by omega) hd s2 ?_
    (conv => whnf)
    refine All_calls l l (by omega) hd fun p hp => ?_
    obtain rfl : p = true := by simp [hp]
    (conv => whnf)
    refine stVersion_calls false v l s2 ?_
    (conv => whnf)
    rw [beq_self_eq_true]
    exact res_same h
  · rw [he] at he'
    exact absurd he' e0
theorem kdo_3c (s : FSt) {nb fb : Nat} (hk : FOk s nb fb) (hnb : nb ≤ 800000) (hfb : fb ≤ 70000000) {v : Int} (hv : is3 v) (l : List Rc) (n : Nat) (hl : l.length ≤ 300) (hm : ∀ r ∈ l, mayP v r = true) (o : Sp) (ho : SpOk o) (h0k : o.kind = 3) (hw : is3 o.version) (hmm : ∀ r ∈ o.l, mayP o.version r = true) (s2 : FSt) (he : startP s logB newB (fileP o.version o.l) = (s2, 0)) {R}
    (h : R (.tup [.agg (kA o.version o.l o.l.length []), .val (.bool true)]) [stO false 1 o.version o.l, fsC s2 2, fsM s2]) :
    ACalls Tryz.prog 25 [.agg (kA v l n []), .ptr 0 0, .agg o.enc] [stO false 1 v l, fsC s 2, fsM s] R := by
  refine ACalls.res ?_
  refine acalls_of_xwp (an := { an25 with cst := [5], frz2 := [(8, 8), (43, 3), (53, 3), (62, 3), (86, 3)] }) tab_ok Tryz.func25 ?_
  obtain ⟨⟨r1, r2, r3, r4⟩, o2, o3, o4⟩ := ho
  obtain ⟨kind, r, name, ol, ver, n4⟩ := o
  have h0k : kind = 3 := h0k
  subst h0k
  have hd : ∀ r ∈ l, r.deps.length < 1000000 := fun r hr => by have := (may_all (hm r hr)).deps; omega
  have hsl := recs_length l
  have he : startP s logB newB (fileP ver ol) = (s2, 0) := he
  have hso := recs_length ol
  (conv => whnf)
  rw [hso]
  refine Rewrite_calls s hk hnb hfb v l ver ol (by have : ol.length ≤ 30 := o2; omega) (fun q hq => by have := (o3 q hq).1; omega) (fun e _ hno => by rcases hno with h | h; exact absurd hw h; exact absurd hmm h) (fun _ _ he' => ?_) (fun _ _ he' => ?_)
  · rw [he] at he'
    exact absurd rfl he'
  · rw [he]
    (conv => whnf)
    refine res_le (le_tup (leL.cons (le_agg (leL.cons (.refl _) (leL.cons (.refl _) (leL.cons (.refl _) (leL.cons (le_nil 4) leL.nil))))) (leL.refl _))) rfl ?_
    exact h
theorem kdo_3d (s : FSt) {nb fb : Nat} (hk : FOk s nb fb) (hnb : nb ≤ 800000) (hfb : fb ≤ 70000000) {v : Int} (hv : is3 v) (l : List Rc) (n : Nat) (hl : l.length ≤ 300) (hm : ∀ r ∈ l, mayP v r = true) (o : Sp) (ho : SpOk o) (h0k : o.kind = 3) (hw : is3 o.version) (hmm : ∀ r ∈ o.l, mayP o.version r = true) (s2 : FSt) (he : startP s logB newB (fileP o.version o.l) = (s2, 7)) {R}
    (h : R (.tup [.agg (kA v l n [kA o.version o.l o.l.length []]), .val (.bool true)]) [stO true 1 v l, fsC s2 2, fsM s2]) :
    ACalls Tryz.prog 25 [.agg (kA v l n []), .ptr 0 0, .agg o.enc] [stO false 1 v l, fsC s 2, fsM s] R := by
  refine ACalls.res ?_
  refine acalls_of_xwp (an := { an25 with cst := [5], frz2 := [(8, 8), (43, 3), (53, 3), (62, 3), (86, 3)] }) tab_ok Tryz.func25 ?_
  obtain ⟨⟨r1, r2, r3, r4⟩, o2, o3, o4⟩ := ho
  obtain ⟨kind, r, name, ol, ver, n4⟩ := o
  have h0k : kind = 3 := h0k
  subst h0k
  have hd : ∀ r ∈ l, r.deps.length < 1000000 := fun r hr => by have := (may_all (hm r hr)).deps; omega
  have hsl := recs_length l
  have he : startP s logB newB (fileP ver ol) = (s2, 7) := he
  have hso := recs_length ol
  (conv => whnf)
  rw [hso]
  refine Rewrite_calls s hk hnb hfb v l ver ol (by have : ol.length ≤ 30 := o2; omega) (fun q hq => by have := (o3 q hq).1; omega) (fun e _ hno => by rcases hno with h | h; exact absurd hw h; exact absurd hmm h) (fun _ _ he' => ?_) (fun _ _ he' => ?_)
  · rw [he]
    (conv => whnf)
    refine Records_calls true v l (by omega) hd s2 ?_
    (conv => whnf)
    refine All_calls l l (by omega) hd fun p hp => ?_
    obtain rfl : p = true := by simp [hp]
    (conv => whnf)
    refine stVersion_calls true v l s2 ?_
    (conv => whnf)
    rw [beq_self_eq_true]
    refine res_le (le_tup (leL.cons (le_agg (leL.cons (.refl _) (leL.cons (.refl _) (leL.cons (.refl _) (leL.cons (le_sl none 4 (leE.cons (leL.cons (.refl _) (leL.cons (.refl _) (leL.cons (.refl _) (leL.cons (le_nil 4) leL.nil)))) rfl leE.nil)) leL.nil))))) (leL.refl _))) rfl ?_
    exact h
  · rw [he] at he'
    exact absurd he' (show ¬ (7 : Int) = 0 by decide)
theorem kdo_x (s : FSt) {nb fb : Nat} (hk : FOk s nb fb) (hnb : nb ≤ 800000) (hfb : fb ≤ 70000000) {v : Int} (hv : is3 v) (l : List Rc) (n : Nat) (hl : l.length ≤ 300) (hm : ∀ r ∈ l, mayP v r = true) (o : Sp) (ho : SpOk o) (h0k : ¬ (0 ≤ o.kind ∧ o.kind ≤ 3)) {R}
    (h : R (.tup [.agg (kA v l n []), .val (.bool true)]) [stO false 1 v l, fsC s 2, fsM s]) :
    ACalls Tryz.prog 25 [.agg (kA v l n []), .ptr 0 0, .agg o.enc] [stO false 1 v l, fsC s 2, fsM s] R := by
  refine ACalls.res ?_
  refine acalls_of_xwp (an := { an25 with cst := [3, 5] }) tab_ok Tryz.func25 ?_
  obtain ⟨kind, r, name, ol, ver, n4⟩ := o
  have h0k : ¬ (0 ≤ kind ∧ kind ≤ 3) := h0k
  have hd : ∀ r ∈ l, r.deps.length < 1000000 := fun r hr => by have := (may_all (hm r hr)).deps; omega
  have k0 : kind ≠ 0 := by omega
  have k1 : kind ≠ 1 := by omega
  have k2 : kind ≠ 2 := by omega
  have k3 : kind ≠ 3 := by omega
  (conv => whnf)
  refine br_false (by simpa using k0) ?_
  (conv => whnf)
  refine br_false (by simpa using k1) ?_
  (conv => whnf)
  refine br_false (by simpa using k2) ?_
  (conv => whnf)
  refine br_false (by simpa using k3) ?_
  (conv => whnf)
  refine Records_calls false v l (by omega) hd s ?_
  (conv => whnf)
  refine All_calls l l (by omega) hd fun p hp => ?_
  obtain rfl : p = true := by simp [hp]
  (conv => whnf)
  refine stVersion_calls false v l s ?_
  (conv => whnf)
  rw [beq_self_eq_true]
  exact res_same h
end Go.Abs
end

section
/- What a store's file holds, whatever fails or falls (plain). -/
set_option maxRecDepth 100000
set_option maxHeartbeats 4000000
set_option linter.unusedVariables false
set_option linter.unusedSimpArgs false
namespace Go.Abs
open Go Go.Proofs Dig
attribute [local irreducible] ibits byteAt strLt firstIdx

theorem act_three (s : FSt) (late : Bool) (g : FM → FM) : ((s.act late g).2 = 0 ∧ (s.act late g).1.fs = g s.fs) ∨ ((s.act late g).2 = 8 ∧ (s.act late g).1.fs = s.fs) ∨ ((s.act late g).2 = 7 ∧ ((s.act late g).1.fs = s.fs ∨ (late = true ∧ (s.act late g).1.fs = g s.fs))) := by
  unfold FSt.act
  split
  · refine .inr (.inr ⟨rfl, ?_⟩)
    cases late
    · exact .inl rfl
    · exact .inr ⟨rfl, rfl⟩
  · split
    · exact .inr (.inl ⟨rfl, rfl⟩)
    · exact .inl ⟨rfl, rfl⟩
theorem append_three {s : FSt} {log F b : B} {k : Nat} (h : lk s.fs log = some ⟨F, k⟩) :
    ((s.append log b).2 = 0 ∧ lk (s.append log b).1.fs log = some ⟨F ++ b, k⟩) ∨ ((s.append log b).2 = 8 ∧ lk (s.append log b).1.fs log = some ⟨F, k⟩) ∨ ((s.append log b).2 = 7 ∧ (lk (s.append log b).1.fs log = some ⟨F, k⟩ ∨ lk (s.append log b).1.fs log = some ⟨F ++ b, k⟩)) := by
  have hg : lk (addF log b s.fs) log = some ⟨F ++ b, k⟩ := by
    unfold addF
    rw [lk_pt, if_pos rfl]
    simp [gF, h]
  unfold FSt.append
  split
  · exact .inr (.inr ⟨rfl, .inl h⟩)
  · rcases act_three s true (addF log b) with ⟨e, f⟩ | ⟨e, f⟩ | ⟨e, f | ⟨_, f⟩⟩
    · exact .inl ⟨e, by rw [f]; exact hg⟩
    · exact .inr (.inl ⟨e, by rw [f]; exact h⟩)
    · exact .inr (.inr ⟨e, .inl (by rw [f]; exact h)⟩)
    · exact .inr (.inr ⟨e, .inr (by rw [f]; exact hg)⟩)
theorem sync_three {s : FSt} {log F : B} {k : Nat} (h : lk s.fs log = some ⟨F, k⟩) :
    ((s.sync log).2 = 0 ∧ lk (s.sync log).1.fs log = some ⟨F, F.length⟩) ∨ ((s.sync log).2 ≠ 0 ∧ lk (s.sync log).1.fs log = some ⟨F, k⟩) := by
  have hg : lk (syncF log s.fs) log = some ⟨F, F.length⟩ := by
    unfold syncF
    rw [lk_pt, if_pos rfl]
    simp [gF, h]
  unfold FSt.sync
  split
  · rename_i hm
    exact .inr ⟨hm, h⟩
  · rcases act_three s false (syncF log) with ⟨e, f⟩ | ⟨e, f⟩ | ⟨e, f | ⟨hl, _⟩⟩
    · exact .inl ⟨e, by rw [f]; exact hg⟩
    · exact .inr ⟨by rw [e]; decide, by rw [f]; exact h⟩
    · exact .inr ⟨by rw [e]; decide, by rw [f]; exact h⟩
    · cases hl
/-! Start: the file that was there, or the new one. -/
theorem append_keep (s : FSt) {log new b : B} {X : Option Fl} (hne : log ≠ new) (h : lk s.fs log = X) (hn : lk s.fs new = none) :
    ((s.append new b).2 = 0 ∧ lk (s.append new b).1.fs log = X ∧ lk (s.append new b).1.fs new = some ⟨b, 0⟩) ∨ ((s.append new b).2 ≠ 0 ∧ lk (s.append new b).1.fs log = X) := by
  have hg : lk (addF new b s.fs) log = lk s.fs log ∧ lk (addF new b s.fs) new = some ⟨b, 0⟩ := by
    unfold addF
    rw [lk_pt, lk_pt, if_neg (Ne.symm hne), if_pos rfl]
    refine ⟨rfl, ?_⟩
    simp [gF, hn, flZ]
  unfold FSt.append
  split
  · exact .inr ⟨by simp, h⟩
  · rcases act_cases s true (addF new b) with ⟨e, f⟩ | ⟨e, f | ⟨_, f⟩⟩
    · exact .inl ⟨e, by rw [f, hg.1]; exact h, by rw [f]; exact hg.2⟩
    · exact .inr ⟨e, by rw [f]; exact h⟩
    · exact .inr ⟨e, by rw [f, hg.1]; exact h⟩
theorem sync_keep (s : FSt) {log new b : B} {X : Option Fl} {k : Nat} (hne : log ≠ new) (h : lk s.fs log = X) (hn : lk s.fs new = some ⟨b, k⟩) :
    ((s.sync new).2 = 0 ∧ lk (s.sync new).1.fs log = X ∧ lk (s.sync new).1.fs new = some ⟨b, b.length⟩) ∨ ((s.sync new).2 ≠ 0 ∧ lk (s.sync new).1.fs log = X) := by
  have hg : lk (syncF new s.fs) log = lk s.fs log ∧ lk (syncF new s.fs) new = some ⟨b, b.length⟩ := by
    unfold syncF
    rw [lk_pt, lk_pt, if_neg (Ne.symm hne), if_pos rfl]
    refine ⟨rfl, ?_⟩
    simp [gF, hn]
  unfold FSt.sync
  split
  · rename_i hm
    exact .inr ⟨hm, h⟩
  · rcases act_cases s false (syncF new) with ⟨e, f⟩ | ⟨e, f | ⟨hl, _⟩⟩
    · exact .inl ⟨e, by rw [f, hg.1]; exact h, by rw [f]; exact hg.2⟩
    · exact .inr ⟨e, by rw [f]; exact h⟩
    · cases hl
theorem rename_keep (s : FSt) {log new b : B} {X : Option Fl} (h : lk s.fs log = X) (hn : lk s.fs new = some ⟨b, b.length⟩) :
    ((s.rename new log).2 = 0 ∧ lk (s.rename new log).1.fs log = some ⟨b, b.length⟩) ∨ ((s.rename new log).2 ≠ 0 ∧ lk (s.rename new log).1.fs log = X) := by
  have hg : lk (renF new log s.fs) log = some ⟨b, b.length⟩ := by
    unfold renF
    rw [lk_pt, if_pos rfl]
    simp [gF, hn]
  unfold FSt.rename
  split
  · rename_i hm
    exact .inr ⟨hm, h⟩
  · rcases act_cases s false (renF new log) with ⟨e, f⟩ | ⟨e, f | ⟨hl, _⟩⟩
    · exact .inl ⟨e, by rw [f]; exact hg⟩
    · exact .inr ⟨e, by rw [f]; exact h⟩
    · cases hl
theorem remove_keep (s : FSt) {log new : B} {X : Option Fl} (hnd : (kys s.fs).Nodup) (hne : log ≠ new) (h : lk s.fs log = X) :
    ((s.remove new).2 = 0 ∧ lk (s.remove new).1.fs log = X ∧ lk (s.remove new).1.fs new = none) ∨ ((s.remove new).2 ≠ 0 ∧ lk (s.remove new).1.fs log = X) := by
  have hg : lk (dl s.fs new) log = lk s.fs log ∧ lk (dl s.fs new) new = none := by
    rw [lk_dl hnd, lk_dl hnd, if_neg (Ne.symm hne), if_pos rfl]
    exact ⟨rfl, rfl⟩
  unfold FSt.remove
  split
  · rename_i hm
    exact .inr ⟨hm, h⟩
  · rcases act_cases s false (fun m => dl m new) with ⟨e, f⟩ | ⟨e, f | ⟨hl, _⟩⟩
    · exact .inl ⟨e, by rw [f, hg.1]; exact h, by rw [f]; exact hg.2⟩
    · exact .inr ⟨e, by rw [f]; exact h⟩
    · cases hl
theorem run3_keep (s : FSt) {log new b : B} {X : Option Fl} (hne : log ≠ new) (h : lk s.fs log = X) (hn : lk s.fs new = none) :
    ((run3 s log new b).2 = 0 ∧ lk (run3 s log new b).1.fs log = some ⟨b, b.length⟩) ∨ ((run3 s log new b).2 ≠ 0 ∧ lk (run3 s log new b).1.fs log = X) := by
  unfold run3
  rcases append_keep s (b := b) hne h hn with ⟨e, h1, n1⟩ | ⟨e, h1⟩
  · rw [if_neg (not_not_intro e)]
    rcases sync_keep _ hne h1 n1 with ⟨e2, h2, n2⟩ | ⟨e2, h2⟩
    · rw [if_neg (not_not_intro e2)]
      exact rename_keep _ h2 n2
    · rw [if_pos e2]
      exact .inr ⟨e2, h2⟩
  · rw [if_pos e]
    exact .inr ⟨e, h1⟩
theorem start_keep (s : FSt) {log new b : B} {X : Option Fl} (hnd : (kys s.fs).Nodup) (hne : log ≠ new) (h : lk s.fs log = X) :
    ((startP s log new b).2 = 0 ∧ lk (startP s log new b).1.fs log = some ⟨b, b.length⟩) ∨ ((startP s log new b).2 ≠ 0 ∧ lk (startP s log new b).1.fs log = X) := by
  unfold startP
  split
  · rcases remove_keep s hnd hne h with ⟨e, h1, n1⟩ | ⟨e, h1⟩
    · rw [if_neg (not_not_intro e)]
      exact run3_keep _ hne h1 n1
    · rw [if_pos e]
      exact .inr ⟨e, h1⟩
  · rename_i hin
    exact run3_keep s hne h (lk_none.2 fun hk => hin ((names_perm s).mem_iff.2 hk))
/-- What stands in the file of a store: its records, the first 'n' of them safe. -/
structure KI (v : Int) (l : List Rc) (n : Nat) (s : FSt) (nb fb : Nat) : Prop where
  hv : is3 v
  hm : ∀ r ∈ l, mayP v r = true
  hn : n ≤ l.length
  hok : FOk s nb fb
  hlog : ∃ k, lk s.fs logB = some ⟨fileP v l, k⟩ ∧ (fileP v (l.take n)).length ≤ k
theorem KI.put {v : Int} {l : List Rc} {n : Nat} {s s2 : FSt} {nb fb : Nat} (h : KI v l n s nb fb) (hl : l.length ≤ 300) {r : Rc} (hr : mayP v r = true) {e : Int} (he : putS v s l r = (s2, e)) :
    (e = 0 ∧ KI v (l ++ [r]) n s2 (nb + 2) (fb + 1000000)) ∨ (e = 8 ∧ KI v l n s2 (nb + 2) (fb + 1000000)) ∨ (e = 7 ∧ (KI v l n s2 (nb + 2) (fb + 1000000) ∨ KI v (l ++ [r]) n s2 (nb + 2) (fb + 1000000))) := by
  obtain ⟨k, hk, hsy⟩ := h.hlog
  have htl := tblL_len (v := v) (l := l) (t := []) (fun y hy => may_all (h.hm y hy))
  simp at htl
  have hml : (moreP v l r).length ≤ 3000 := payP_frames (may_all hr) (by omega)
  have hok := (append_ok h.hok (name := logB) (b := moreP v l r) (by decide)).mono (nb' := nb + 2) (fb' := fb + 1000000) (by omega) (by omega)
  have h3 := append_three (b := moreP v l r) hk
  rw [← fileP_snoc] at h3
  unfold putS at he
  rw [he] at h3 hok
  have A : lk s2.fs logB = some ⟨fileP v l, k⟩ → KI v l n s2 (nb + 2) (fb + 1000000) := fun hh => ⟨h.hv, h.hm, h.hn, hok, k, hh, hsy⟩
  have C : lk s2.fs logB = some ⟨fileP v (l ++ [r]), k⟩ → KI v (l ++ [r]) n s2 (nb + 2) (fb + 1000000) := fun hh => by
    refine ⟨h.hv, fun y hy => ?_, by have := h.hn; simp; omega, hok, k, hh, ?_⟩
    · rcases List.mem_append.1 hy with hy | hy
      · exact h.hm y hy
      · rw [List.mem_singleton.1 hy]; exact hr
    · rw [List.take_append_of_le_length h.hn]; exact hsy
  rcases h3 with ⟨e1, h1⟩ | ⟨e1, h1⟩ | ⟨e1, h1 | h1⟩
  · exact .inl ⟨e1, C h1⟩
  · exact .inr (.inl ⟨e1, A h1⟩)
  · exact .inr (.inr ⟨e1, .inl (A h1)⟩)
  · exact .inr (.inr ⟨e1, .inr (C h1)⟩)
theorem KI.commit {v : Int} {l : List Rc} {n : Nat} {s s2 : FSt} {nb fb : Nat} (h : KI v l n s nb fb) {e : Int} (he : s.sync logB = (s2, e)) :
    (e = 0 ∧ KI v l l.length s2 (nb + 2) (fb + 1000000)) ∨ (e ≠ 0 ∧ KI v l n s2 (nb + 2) (fb + 1000000)) := by
  obtain ⟨k, hk, hsy⟩ := h.hlog
  have hok := (sync_ok h.hok (name := logB)).mono (nb' := nb + 2) (fb' := fb + 1000000) (by omega) (by omega)
  have h3 := sync_three hk
  rw [he] at h3 hok
  rcases h3 with ⟨e1, h1⟩ | ⟨e1, h1⟩
  · exact .inl ⟨e1, h.hv, h.hm, Nat.le_refl _, hok, _, h1, by rw [List.take_length]; exact Nat.le_refl _⟩
  · exact .inr ⟨e1, h.hv, h.hm, h.hn, hok, k, h1, hsy⟩
theorem KI.rewrite {v : Int} {l : List Rc} {n : Nat} {s s2 : FSt} {nb fb : Nat} (h : KI v l n s nb fb) {w : Int} (hw : is3 w) {m : List Rc} (hm : ∀ r ∈ m, mayP w r = true) (hml : m.length ≤ 300) {e : Int} (he : startP s logB newB (fileP w m) = (s2, e)) :
    (e = 0 ∧ KI w m m.length s2 (nb + 2) (fb + 1000000)) ∨ (e ≠ 0 ∧ KI v l n s2 (nb + 2) (fb + 1000000)) := by
  obtain ⟨k, hk, hsy⟩ := h.hlog
  have hs := fileP_small hm hml
  have hok := (start_ok h.hok (name := logB) (aside := newB) (b := fileP w m) (by decide) (by decide)).mono (nb' := nb + 2) (fb' := fb + 1000000) (by omega) (by omega)
  have h3 := start_keep s (b := fileP w m) h.hok.m.nodup log_new hk
  rw [he] at h3 hok
  rcases h3 with ⟨e1, h1⟩ | ⟨e1, h1⟩
  · exact .inl ⟨e1, hw, hm, Nat.le_refl _, hok, _, h1, by rw [List.take_length]; exact Nat.le_refl _⟩
  · exact .inr ⟨e1, h.hv, h.hm, h.hn, hok, k, h1, hsy⟩
/-- Behind a crash. -/
theorem KI.crash {v : Int} {l : List Rc} {n : Nat} {s : FSt} {nb fb : Nat} (h : KI v l n s nb fb) (hl : l.length ≤ 300) (keep : List Int) :
    ∃ (m : Nat) (b : B), n ≤ m ∧ m ≤ l.length ∧ CutF v (l.take m) b ∧ Whole (s.crash keep) logB b ∧ FOk (s.crash keep) nb fb := by
  obtain ⟨k, hk, hsy⟩ := h.hlog
  obtain ⟨c1, c2, c3⟩ := crash_spec h.hok keep
  obtain ⟨m, m1, m2, m3⟩ := c3 logB (lk_key hk)
  have hg : gF s.fs logB = ⟨fileP v l, k⟩ := by unfold gF; rw [hk]; rfl
  rw [hg] at m1 m2 m3
  have m1 : k ≤ m := m1
  have m2 : m ≤ (fileP v l).length := m2
  have h8 : 8 ≤ m := by
    have := fileP_len v (l.take n)
    omega
  obtain ⟨m', ms, t, e1, e2, e0, e3, e4, e5, e6, e7⟩ := cut_any h.hm hl h8 m2
  refine ⟨m', (fileP v l).take m, e7 n h.hn (by omega), e1, ⟨fun r hr => h.hm r (List.mem_of_mem_take hr), by rw [List.length_take]; omega, ms, t, e2, e0, e3, e4, e5, e6⟩, ?_, c1⟩
  have hin : logB ∈ kys (s.crash keep).fs := by rw [c2]; exact lk_key hk
  unfold Whole
  cases e : lk (s.crash keep).fs logB with
  | none => exact absurd hin (lk_none.1 e)
  | some f =>
    have : gF (s.crash keep).fs logB = f := by unfold gF; rw [e]; rfl
    rw [this] at m3
    rw [m3]
    simp only [List.length_take, Option.some.injEq, Fl.mk.injEq, true_and]
    omega
/-- An op with a store that is not over: what stands then. -/
theorem kdo_calls {v : Int} {l : List Rc} {n : Nat} {s : FSt} {nb fb : Nat} (h : KI v l n s nb fb) (hnb : nb ≤ 800000) (hfb : fb ≤ 70000000) (hl : l.length ≤ 300) (o : Sp) (ho : SpOk o) {R}
    (hA : ∀ v' l' n' s', KI v' l' n' s' (nb + 2) (fb + 1000000) → l'.length ≤ max l.length 30 + 1 → R (.tup [.agg (kA v' l' n' []), .val (.bool true)]) [stO false 1 v' l', fsC s' 2, fsM s'])
    (hB : ∀ s' last, KI v l n s' (nb + 2) (fb + 1000000) → R (.tup [.agg (kA v l n last), .val (.bool true)]) [stO true 1 v l, fsC s' 2, fsM s'])
    (hC : ∀ s' r, KI v (l ++ [r]) n s' (nb + 2) (fb + 1000000) → R (.tup [.agg (kA v l n [kA v (l ++ [r]) n []]), .val (.bool true)]) [stO true 1 v l, fsC s' 2, fsM s']) :
    ACalls Tryz.prog 25 [.agg (kA v l n []), .ptr 0 0, .agg o.enc] [stO false 1 v l, fsC s 2, fsM s] R := by
  have hk := h.hok
  have hv := h.hv
  have hm := h.hm
  have hw := h.hok.mono (nb' := nb + 2) (fb' := fb + 1000000) (by omega) (by omega)
  have hself : KI v l n s (nb + 2) (fb + 1000000) := ⟨h.hv, h.hm, h.hn, hw, h.hlog⟩
  have same : R (.tup [.agg (kA v l n []), .val (.bool true)]) [stO false 1 v l, fsC s 2, fsM s] := hA v l n s hself (by omega)
  by_cases k0 : o.kind = 0
  · by_cases hy : o.r.kind = 1 ∧ mayP v o.r = true
    · obtain ⟨s2, e, he⟩ : ∃ s2 e, putS v s l o.r = (s2, e) := ⟨_, _, rfl⟩
      rcases h.put hl hy.2 he with ⟨e1, h1⟩ | ⟨e1, h1⟩ | ⟨e1, h1 | h1⟩
      · subst e1
        exact kdo_0c s hk hnb hfb hv l n hl hm o ho k0 hy s2 he (hA _ _ _ _ h1 (by simp; omega))
      · subst e1
        exact kdo_0b s hk hnb hfb hv l n hl hm o ho k0 hy s2 8 he (by decide) (by decide) (hA _ _ _ _ h1 (by omega))
      · subst e1
        exact kdo_0d s hk hnb hfb hv l n hl hm o ho k0 hy s2 he (hB _ _ h1)
      · subst e1
        exact kdo_0d s hk hnb hfb hv l n hl hm o ho k0 hy s2 he (hC _ _ h1)
    · exact kdo_0a s hk hnb hfb hv l n hl hm o ho k0 hy same
  by_cases k1 : o.kind = 1
  · by_cases hy : nameOk o.name = true ∧ (findP (docOf l) o.name).isSome = true
    · obtain ⟨s2, e, he⟩ : ∃ s2 e, putS v s l (goneT o.name) = (s2, e) := ⟨_, _, rfl⟩
      rcases h.put hl (gone_any hv hy.1) he with ⟨e1, h1⟩ | ⟨e1, h1⟩ | ⟨e1, h1 | h1⟩
      · subst e1
        exact kdo_1c s hk hnb hfb hv l n hl hm o ho k1 hy s2 he (hA _ _ _ _ h1 (by simp; omega))
      · subst e1
        exact kdo_1b s hk hnb hfb hv l n hl hm o ho k1 hy s2 8 he (by decide) (by decide) (hA _ _ _ _ h1 (by omega))
      · subst e1
        exact kdo_1d s hk hnb hfb hv l n hl hm o ho k1 hy s2 he (hB _ _ h1)
      · subst e1
        exact kdo_1d s hk hnb hfb hv l n hl hm o ho k1 hy s2 he (hC _ _ h1)
    · exact kdo_1a s hk hnb hfb hv l n hl hm o ho k1 hy same
  by_cases k2 : o.kind = 2
  · obtain ⟨s2, e, he⟩ : ∃ s2 e, s.sync logB = (s2, e) := ⟨_, _, rfl⟩
    rcases h.commit he with ⟨e1, h1⟩ | ⟨e1, h1⟩
    · subst e1
      exact kdo_2a s hk hnb hfb hv l n hl hm o ho k2 s2 he (hA _ _ _ _ h1 (by omega))
    · refine kdo_2b s hk hnb hfb hv l n hl hm o ho k2 s2 e e1 he ?_
      cases e7 : (e == 7) with
      | true => exact hB _ _ h1
      | false => exact hA _ _ _ _ h1 (by omega)
  by_cases k3 : o.kind = 3
  · by_cases hy : is3 o.version ∧ ∀ r ∈ o.l, mayP o.version r = true
    · obtain ⟨s2, e, he⟩ : ∃ s2 e, startP s logB newB (fileP o.version o.l) = (s2, e) := ⟨_, _, rfl⟩
      have hol := ho.2.1
      rcases h.rewrite hy.1 hy.2 (by omega) he with ⟨e1, h1⟩ | ⟨e1, h1⟩
      · subst e1
        exact kdo_3c s hk hnb hfb hv l n hl hm o ho k3 hy.1 hy.2 s2 he (hA _ _ _ _ h1 (by omega))
      · by_cases e7 : e = 7
        · subst e7
          exact kdo_3d s hk hnb hfb hv l n hl hm o ho k3 hy.1 hy.2 s2 he (hB _ _ h1)
        · exact kdo_3b s hk hnb hfb hv l n hl hm o ho k3 hy.1 hy.2 s2 e e1 e7 he (hA _ _ _ _ h1 (by omega))
    · refine kdo_3a s hk hnb hfb hv l n hl hm o ho k3 ?_ same
      by_cases hw3 : is3 o.version
      · exact .inr fun hx => hy ⟨hw3, hx⟩
      · exact .inl hw3
  · exact kdo_x s hk hnb hfb hv l n hl hm o ho (by omega) same
end Go.Abs
end

section
/- StoreFails. -/
set_option maxRecDepth 100000
set_option maxHeartbeats 4000000
set_option linter.unusedVariables false
set_option linter.unusedSimpArgs false
namespace Go.Abs
open Go Go.Proofs Dig
attribute [local irreducible] ibits byteAt strLt firstIdx

theorem typed_op {n : Nat} {x : List AV} (h : Typed tab (n + 8) 69 x) : ∃ o : Sp, x = o.enc ∧ o.r.deps.length ≤ maxLen ∧ o.l.length ≤ maxLen ∧ ∀ r ∈ o.l, r.deps.length ≤ maxLen := by
  obtain ⟨a0, r0, rfl, ⟨k, rfl, hk⟩, a1, r1, rfl, hrec, a2, r2, rfl, ⟨u, rfl, hu⟩, a3, r3, rfl, ⟨l, rfl, hl, hx⟩, a4, r4, rfl, ⟨v, rfl, hv⟩, a5, r5, rfl, ⟨w, rfl, hw⟩, rfl⟩ :
      ∃ a r, x = a ++ r ∧ (∃ y, a = [.val (.int .i64 y)] ∧ (Lit.int .i64 y).wf = true) ∧ ∃ a r', r = a ++ r' ∧ Typed tab (n + 7) 67 a ∧
      ∃ a r'', r' = a ++ r'' ∧ (∃ s : ByteArray, a = [.val (.string s)] ∧ s.size ≤ maxLen) ∧
      ∃ a r3, r'' = a ++ r3 ∧ (∃ l : List (List AV), a = [.sl none 7 l] ∧ l.length ≤ maxLen ∧ ∀ x ∈ l, Typed tab (n + 6) 67 x) ∧
      ∃ a r4, r3 = a ++ r4 ∧ (∃ y, a = [.val (.int .i64 y)] ∧ (Lit.int .i64 y).wf = true) ∧
      ∃ a r5, r4 = a ++ r5 ∧ (∃ y, a = [.val (.int .i64 y)] ∧ (Lit.int .i64 y).wf = true) ∧ r5 = [] := h
  obtain ⟨r, rfl, hr, _⟩ := typed_rec (n := n + 1) hrec
  obtain ⟨m, rfl, hm⟩ := typed_recs (n := n) hx
  refine ⟨⟨k, r, bs u, m, v, w⟩, ?_, hr, by simpa [recs] using hl, hm⟩
  simp only [Sp.enc, Rc.enc, vs, vi, ofB_bs, uv, List.cons_append, List.nil_append]
end Go.Abs
end

section
/- StoreKept. -/
set_option maxRecDepth 100000
set_option maxHeartbeats 4000000
set_option linter.unusedVariables false
set_option linter.unusedSimpArgs false
namespace Go.Abs
open Go Go.Proofs Dig
attribute [local irreducible] ibits byteAt strLt firstIdx

theorem mod3v {a : Int} (h : 0 ≤ a ∧ a ≤ 255) : ∃ v, is3 v ∧ IntKind.i64.wrap (1 + IntKind.i64.wrap (a.tmod 3)) = v := by
  obtain ⟨n, rfl⟩ := Int.eq_ofNat_of_zero_le h.1
  have e : (n : Int).tmod 3 = ((n % 3 : Nat) : Int) := by
    rw [Int.tmod_eq_emod_of_nonneg (Int.natCast_nonneg _)]
    omega
  refine ⟨_, ?_, rfl⟩
  rw [e, wrap_i64 (x := ((n % 3 : Nat) : Int)) (by omega) (by omega), wrap_i64 (by omega) (by omega)]
  unfold is3
  omega
/-- What stands at each round of StoreKept. -/
structure KS where
  i : Nat
  s : FSt
  v : Int
  L : List Rc
  n : Nat
  ov : Bool
  last : List (List AV)
/-- The file's records are the store's, or one more, that the last answer tells of. -/
structure KE (k : KS) (L' : List Rc) (nb fb : Nat) : Prop where
  hI : KI k.v L' k.n k.s nb fb
  hn : k.n ≤ k.L.length
  hl : k.L.length ≤ 100
  hL : L' = k.L ∨ ∃ r, L' = k.L ++ [r] ∧ k.last = [kA k.v (k.L ++ [r]) k.n []]
structure KInv (l : List Sp) (k : KS) : Prop where
  hi : k.i ≤ l.length
  hl : k.L.length ≤ 30 + k.i
  hE : ∃ L', KE k L' (2 + 2 * k.i) (1000000 + 1000000 * k.i)
  h0 : k.ov = false → k.last = [] ∧ KI k.v k.L k.n k.s (2 + 2 * k.i) (1000000 + 1000000 * k.i)
theorem KI.mono {v : Int} {l : List Rc} {n : Nat} {s : FSt} {nb fb nb' fb' : Nat} (h : KI v l n s nb fb) (h1 : nb ≤ nb') (h2 : fb ≤ fb') : KI v l n s nb' fb' := ⟨h.hv, h.hm, h.hn, h.hok.mono h1 h2, h.hlog⟩
theorem kdo_step {l : List Sp} {k : KS} (hI : KInv l k) (h40 : l.length ≤ 40) (hlt : k.i < l.length) (hov : k.ov = false) (o : Sp) (ho : SpOk o) {R}
    (H : ∀ k' : KS, k'.i = k.i + 1 → KInv l k' → R (.tup [.agg (kA k'.v k'.L k'.n k'.last), .val (.bool true)]) [stO k'.ov 1 k'.v k'.L, fsC k'.s 2, fsM k'.s]) :
    ACalls Tryz.prog 25 [.agg (kA k.v k.L k.n []), .ptr 0 0, .agg o.enc] [stO false 1 k.v k.L, fsC k.s 2, fsM k.s] R := by
  obtain ⟨_, h1⟩ := hI.h0 hov
  have hl := hI.hl
  refine kdo_calls h1 (by omega) (by omega) (by omega) o ho (fun v' l' n' s' hI' hl' => ?_) (fun s' last hI' => ?_) (fun s' r hI' => ?_)
  · have hI2 := hI'.mono (nb' := 2 + 2 * (k.i + 1)) (fb' := 1000000 + 1000000 * (k.i + 1)) (by omega) (by omega)
    exact H ⟨k.i + 1, s', v', l', n', false, []⟩ rfl ⟨hlt, by show l'.length ≤ 30 + (k.i + 1); omega, ⟨l', hI2, hI2.hn, by show l'.length ≤ 100; omega, .inl rfl⟩, fun _ => ⟨rfl, hI2⟩⟩
  · have hI2 := hI'.mono (nb' := 2 + 2 * (k.i + 1)) (fb' := 1000000 + 1000000 * (k.i + 1)) (by omega) (by omega)
    exact H ⟨k.i + 1, s', k.v, k.L, k.n, true, last⟩ rfl ⟨hlt, by show k.L.length ≤ 30 + (k.i + 1); omega, ⟨k.L, hI2, hI2.hn, by show k.L.length ≤ 100; omega, .inl rfl⟩, fun e => by cases e⟩
  · have hI2 := hI'.mono (nb' := 2 + 2 * (k.i + 1)) (fb' := 1000000 + 1000000 * (k.i + 1)) (by omega) (by omega)
    exact H ⟨k.i + 1, s', k.v, k.L, k.n, true, [kA k.v (k.L ++ [r]) k.n []]⟩ rfl ⟨hlt, by show k.L.length ≤ 30 + (k.i + 1); omega, ⟨k.L ++ [r], hI2, h1.hn, by show k.L.length ≤ 100; omega, .inr ⟨r, rfl, rfl⟩⟩, fun e => by cases e⟩
theorem KE.len {k : KS} {L' : List Rc} {nb fb : Nat} (h : KE k L' nb fb) : L'.length ≤ 101 := by
  have := h.hl
  rcases h.hL with e | ⟨r, e, _⟩
  · rw [e]; omega
  · rw [e]; simp; omega
theorem fits_end {k : KS} {L' : List Rc} {nb fb : Nat} (hE : KE k L' nb fb) {m : Nat} (m1 : k.n ≤ m) (m2 : m ≤ L'.length) (o : Bool) (s : FSt) {R} (h : R (.val (.bool true)) [stO o 1 k.v (L'.take m), fsC s 2, fsM s]) :
    ACalls Tryz.prog 27 [.agg (kA k.v k.L k.n k.last), .ptr 0 0] [stO o 1 k.v (L'.take m), fsC s 2, fsM s] R := by
  have hml : (L'.take m).length = m := by rw [List.length_take]; omega
  have hl := hE.hl
  have hd : ∀ r ∈ L'.take m, r.deps.length < 1000000 := fun r hr => by have := (may_all (hE.hI.hm r (List.mem_of_mem_take hr))).deps; omega
  have hL'l : L'.length ≤ 101 := by
    rcases hE.hL with e | ⟨r, e, _⟩
    · rw [e]; omega
    · rw [e]; simp; omega
  by_cases hm : m ≤ k.L.length
  · have e : L'.take m = k.L.take m := by
      rcases hE.hL with e | ⟨r, e, _⟩
      · rw [e]
      · rw [e, List.take_append_of_le_length hm]
    refine fits_yes k.v k.L k.n k.last (L'.take m) (by omega) (by omega) (by rw [hml, e]) (by omega) hd o s h
  · rcases hE.hL with e | ⟨r, e, e2⟩
    · rw [e] at m2; omega
    · rw [e2]
      rw [e] at m2 hml hd h ⊢
      exact fits_last k.v k.L k.n (k.L ++ [r]) k.n _ (by omega) (by omega) (by omega) (by rw [hml]) (by simp at m2; omega) hd o s h
theorem StoreKept_calls (l : List Sp) (hl : l.length ≤ maxLen) (hr : ∀ o ∈ l, o.r.deps.length ≤ maxLen ∧ o.l.length ≤ maxLen ∧ ∀ r ∈ o.l, r.deps.length ≤ maxLen) (a b c : Int) (ha : 0 ≤ a ∧ a ≤ 255) (hb : 0 ≤ b ∧ b ≤ 255) (hc : 0 ≤ c ∧ c ≤ 255) (q : Int) {R} (h : R (.val (.bool true)) []) :
    ACalls Tryz.prog 4 [.sl none 12 (sps l), .agg [.val (.int .u8 a), .val (.int .u8 b), .val (.int .u8 c)], .val (.int .u16 q)] [] R := by
  refine acalls_of_xwp (an := an4) tab_ok Tryz.func4 ?_
  have hsl := sps_length l
  (conv => whnf)
  refine Great15_calls l hl hr fun g hg => ?_
  cases g with
  | true =>
    (conv => whnf)
    refine fixed15_calls ?_
    (conv => whnf)
    exact h
  | false =>
  obtain ⟨hl40, hlo⟩ := hg rfl
  clear hg
  (conv => whnf)
  refine fsNew_calls ?_
  (conv => whnf)
  obtain ⟨v, hv, hve⟩ := mod3v ha
  rw [hve]
  refine stOpen_fs0 v hv ?_
  have hk := fsL_ok (fileP v [])
  have hs := fileP_small (v := v) (l := []) (by simp) (by simp)
  have hw := fsL_whole (fileP v [])
  generalize fsL (fileP v []) = s0 at hk hw ⊢
  (conv => whnf)
  refine Fall_calls s0 _ ?_
  (conv => whnf)
  refine (show ACalls Tryz.prog 13 [.ptr 0 0, vi (IntKind.i64.wrap c)] [fsC ⟨s0.fs, s0.fail, capN (IntKind.i64.wrap b), s0.down⟩ 1, fsM ⟨s0.fs, s0.fail, capN (IntKind.i64.wrap b), s0.down⟩] _ from ?_)
  have hk1 : FOk ⟨s0.fs, s0.fail, capN (IntKind.i64.wrap b), s0.down⟩ 2 1000000 := (fall_ok hk (by rw [wrap_i64 (by omega) (by omega)]; omega)).mono (by omega) (by omega)
  have hw1 : Whole ⟨s0.fs, s0.fail, capN (IntKind.i64.wrap b), s0.down⟩ logB (fileP v []) := hw
  generalize (FSt.mk s0.fs s0.fail (capN (IntKind.i64.wrap b)) s0.down) = s1 at hk1 hw1 ⊢
  refine Fail_calls s1 _ ?_
  have hk2 : FOk ⟨s1.fs, capN (IntKind.i64.wrap c), s1.fall, s1.down⟩ 2 1000000 := fail_ok hk1 (by rw [wrap_i64 (by omega) (by omega)]; omega)
  have hw2 : Whole ⟨s1.fs, capN (IntKind.i64.wrap c), s1.fall, s1.down⟩ logB (fileP v []) := hw1
  rw [show fsM s1 = fsM ⟨s1.fs, capN (IntKind.i64.wrap c), s1.fall, s1.down⟩ from rfl]
  generalize (FSt.mk s1.fs (capN (IntKind.i64.wrap c)) s1.fall s1.down) = s at hk2 hw2 ⊢
  clear hk hk1 hw hw1
  have hI0 : KI v [] 0 s 2 1000000 := ⟨hv, by simp, Nat.le_refl _, hk2, _, hw2, Nat.le_refl _⟩
  clear hk2 hw2
  (conv => whnf)
  rw [hve]
  clear hve
  refine LoopP.step ?_
  (conv => whnf)
  refine br_intro (fun hc => ?_) (fun hc => ?_)
  · have hi := lt_of_decE hsl hc
    have hI0' : KInv l ⟨0, s, v, [], 0, false, []⟩ := ⟨Nat.zero_le _, by simp, ⟨[], hI0, Nat.le_refl _, by simp, .inl rfl⟩, fun _ => ⟨rfl, hI0⟩⟩
    (conv => whnf); (repeat ((with_reducible refine must_intro ?_ ?_); exact decide_eq_true (by omega); (conv => whnf)))
    refine idxK_map_intro (show (0 : Int).toNat < l.length by simpa using hi) ?_
    rw [show l[(0 : Int).toNat]'(by simpa using hi) = l[0] from by congr 1]
    have hlo0 := hlo _ (List.getElem_mem hi)
    generalize l[0] = o at hlo0 ⊢
    (conv => whnf)
    refine Over_calls false v [] s ?_
    (conv => whnf)
    refine ACalls.args (leL.cons (le_agg (leL.cons (.refl _) (leL.cons (le_nil 7) (leL.cons (.refl _) (leL.cons (le_nil 4) leL.nil))))) (leL.refl _)) (kdo_step hI0' hl40 hi rfl o hlo0 fun k1 hki hkI => ?_)
    clear hI0 hI0' hlo0
    (conv => whnf)
    rw [show IntKind.i64.wrap ((0 : Int) + 1) = ((1 : Nat) : Int) from rfl]
    refine LoopP.ind1 (fun (k : KS) => [(55, vi k.i)]) (fun k => [(nameOf 10, .cells 63 (kA k.v k.L k.n k.last)), (freshN 20 0, fsC k.s (freshN 20 1)), (freshN 28 0, stO k.ov (freshN 20 0) k.v k.L), (freshN 20 1, fsM k.s)]) (fun k => l.length - k.i) (fun k => KInv l k) k1 (by rw [hki]; rfl) hkI ?_
    clear hkI hki hc hi
    intro k hI IH
    (conv => whnf)
    refine br_intro (fun hc => ?_) (fun hc => ?_)
    · have hi := lt_of_decE hsl hc
      (conv => whnf); (repeat ((with_reducible refine must_intro ?_ ?_); exact decide_eq_true (by omega); (conv => whnf)))
      refine idxK_map_intro (show (k.i : Int).toNat < l.length by simpa using hi) ?_
      rw [show l[(k.i : Int).toNat]'(by simpa using hi) = l[k.i] from by congr 1]
      have hlo0 := hlo _ (List.getElem_mem hi)
      generalize l[k.i] = o at hlo0 ⊢
      (conv => whnf)
      refine Over_calls k.ov k.v k.L k.s ?_
      cases hov : k.ov with
      | true =>
        obtain ⟨L', hE⟩ := hI.hE
        have hki := hI.hi
        (conv => whnf)
        refine Crash_calls k.s [IntKind.i64.wrap q, IntKind.i64.wrap q] hE.hI.hok (by omega) (by omega) (by simp) ?_
        obtain ⟨m, fb, m1, m2, hcf, hwc, hkc⟩ := hE.hI.crash (by have := hE.len; omega) [IntKind.i64.wrap q, IntKind.i64.wrap q]
        have hcc := crash_calm k.s [IntKind.i64.wrap q, IntKind.i64.wrap q]
        have hv3 := hE.hI.hv
        generalize k.s.crash [IntKind.i64.wrap q, IntKind.i64.wrap q] = s2 at hwc hkc hcc ⊢
        (conv => whnf)
        refine stOpen_cut s2 hkc (by omega) (by omega) hcc hv3 hcf hwc 3 (.inr (.inr rfl)) fun s3 hk3 hc3 hw3 => ?_
        (conv => whnf)
        refine fixed15_calls ?_
        (conv => whnf)
        refine fits_end hE m1 m2 false s3 ?_
        (conv => whnf)
        refine Over_calls false k.v (L'.take m) s3 ?_
        (conv => whnf)
        exact h
      | false =>
        have hl0 := (hI.h0 hov).1
        (conv => whnf)
        refine (show ACalls Tryz.prog 25 [.agg (kA k.v k.L k.n k.last), .ptr 0 0, .agg o.enc] [stO false 1 k.v k.L, fsC k.s 2, fsM k.s] _ from ?_)
        rw [hl0]
        refine kdo_step hI hl40 hi hov o hlo0 fun k2 hki hkI => ?_
        have IH := IH k2 hkI (by omega)
        (conv => whnf)
        rw [i64_nat (by omega), ← hki]
        exact IH
    · have hi := ge_of_decE hsl hc
      obtain ⟨L', hE⟩ := hI.hE
      have hki := hI.hi
      (conv => whnf)
      refine Crash_calls k.s [IntKind.i64.wrap q, IntKind.i64.wrap q] hE.hI.hok (by omega) (by omega) (by simp) ?_
      obtain ⟨m, fb, m1, m2, hcf, hwc, hkc⟩ := hE.hI.crash (by have := hE.len; omega) [IntKind.i64.wrap q, IntKind.i64.wrap q]
      have hcc := crash_calm k.s [IntKind.i64.wrap q, IntKind.i64.wrap q]
      have hv3 := hE.hI.hv
      generalize k.s.crash [IntKind.i64.wrap q, IntKind.i64.wrap q] = s2 at hwc hkc hcc ⊢
      (conv => whnf)
      refine stOpen_cut s2 hkc (by omega) (by omega) hcc hv3 hcf hwc 3 (.inr (.inr rfl)) fun s3 hk3 hc3 hw3 => ?_
      (conv => whnf)
      refine fixed15_calls ?_
      (conv => whnf)
      refine fits_end hE m1 m2 false s3 ?_
      (conv => whnf)
      refine Over_calls false k.v (L'.take m) s3 ?_
      (conv => whnf)
      exact h
  · (conv => whnf)
    refine Crash_calls s [IntKind.i64.wrap q, IntKind.i64.wrap q] hI0.hok (by omega) (by omega) (by simp) ?_
    obtain ⟨m, fb, m1, m2, hcf, hwc, hkc⟩ := hI0.crash (by simp) [IntKind.i64.wrap q, IntKind.i64.wrap q]
    have hcc := crash_calm s [IntKind.i64.wrap q, IntKind.i64.wrap q]
    generalize s.crash [IntKind.i64.wrap q, IntKind.i64.wrap q] = s2 at hwc hkc hcc ⊢
    rw [List.take_nil] at hcf
    (conv => whnf)
    refine stOpen_cut s2 hkc (by omega) (by omega) hcc hv hcf hwc 3 (.inr (.inr rfl)) fun s3 hk3 hc3 hw3 => ?_
    (conv => whnf)
    refine fixed15_calls ?_
    (conv => whnf)
    refine ACalls.args (leL.cons (le_agg (leL.cons (.refl _) (leL.cons (le_nil 7) (leL.cons (.refl _) (leL.cons (le_nil 4) leL.nil))))) (leL.refl _)) (fits_yes v [] 0 [] [] (Nat.le_refl _) (Nat.le_refl _) rfl (by simp) (by simp) false s3 ?_)
    (conv => whnf)
    refine Over_calls false v [] s3 ?_
    (conv => whnf)
    exact h
theorem args_ops {ts : List TypeId} {l : List AV} (h : Args tab 12 (54 :: ts) l) : ∃ (x : List Sp) (l' : List AV), l = .sl none 12 (sps x) :: l' ∧ x.length ≤ maxLen ∧ (∀ o ∈ x, o.r.deps.length ≤ maxLen ∧ o.l.length ≤ maxLen ∧ ∀ r ∈ o.l, r.deps.length ≤ maxLen) ∧ Args tab 12 ts l' := by
  obtain ⟨a, l', rfl, h1, h2⟩ := h
  obtain ⟨x, e, hx, hxo⟩ : ∃ l : List (List AV), [a] = [.sl none 12 l] ∧ l.length ≤ maxLen ∧ ∀ x ∈ l, Typed tab 11 69 x := h1
  simp only [List.cons.injEq, and_true] at e
  subst e
  have key : ∀ x : List (List AV), (∀ y ∈ x, Typed tab 11 69 y) → ∃ m : List Sp, x = sps m ∧ ∀ o ∈ m, o.r.deps.length ≤ maxLen ∧ o.l.length ≤ maxLen ∧ ∀ r ∈ o.l, r.deps.length ≤ maxLen := by
    intro x
    induction x with
    | nil => intro _; exact ⟨[], rfl, by simp⟩
    | cons y x ih =>
      intro hy
      obtain ⟨o, rfl, ho⟩ := typed_op (n := 3) (hy y List.mem_cons_self)
      obtain ⟨m, rfl, hm⟩ := ih fun z hz => hy z (List.mem_cons_of_mem _ hz)
      refine ⟨o :: m, rfl, fun p hp => ?_⟩
      rcases List.mem_cons.1 hp with rfl | hp
      · exact ho
      · exact hm p hp
  obtain ⟨m, rfl, hm⟩ := key x hxo
  exact ⟨m, l', rfl, by simpa [sps] using hx, hm, h2⟩
theorem typed_three {x : List AV} (h : Typed tab 12 55 x) : ∃ a b c : Int, x = [.val (.int .u8 a), .val (.int .u8 b), .val (.int .u8 c)] ∧ (0 ≤ a ∧ a ≤ 255) ∧ (0 ≤ b ∧ b ≤ 255) ∧ (0 ≤ c ∧ c ≤ 255) := by
  have h : TypedF (Typed tab 11) [5, 5, 5] x := h
  have k : ∀ z : List AV, Typed tab 11 5 z → ∃ a : Int, z = [.val (.int .u8 a)] ∧ (0 ≤ a ∧ a ≤ 255) := fun z hz => by
    obtain ⟨x, e, hx⟩ : ∃ x, z = [.val (.int .u8 x)] ∧ (Lit.int .u8 x).wf = true := hz
    simp only [Lit.wf, Bool.and_eq_true, decide_eq_true_eq] at hx
    have e1 : IntKind.u8.min = 0 := rfl
    have e2 : IntKind.u8.max = 255 := rfl
    rw [e1, e2] at hx
    exact ⟨x, e, hx⟩
  obtain ⟨p, q, rfl, h1, r, s, rfl, h2, t, u, rfl, h3, rfl⟩ := h
  obtain ⟨a, rfl, ha⟩ := k p h1
  obtain ⟨b, rfl, hb⟩ := k r h2
  obtain ⟨c, rfl, hc⟩ := k t h3
  exact ⟨a, b, c, rfl, ha, hb, hc⟩
theorem StoreKept_row (l : List AV) (h : Args tab 12 [54, 55, 56] l) : ACalls Tryz.prog 4 l [] fun r _ => r = .val (.bool true) := by
  obtain ⟨a, l1, rfl, h1, h2, h3⟩ := args_ops h
  obtain ⟨v, l3, rfl, ⟨w, rfl, hw⟩, h4⟩ := h3
  obtain ⟨x, y, z, rfl, hx, hy, hz⟩ := typed_three hw
  obtain ⟨q, l4, rfl, h5⟩ := args_u16 h4
  obtain rfl := args_nil h5
  exact StoreKept_calls a h1 h2 x y z hx hy hz q rfl
end Go.Abs
end
