/- Several texts of this claim, one behind the other: PM, PO, SA, SB, SC, SD, SE, TA, TB, TC, UL, UM, WB. -/
import Derived.Test.YtpkocgpcdddleaaGreatYCrewNil3
set_option maxRecDepth 100000
set_option maxHeartbeats 4000000
set_option linter.unusedVariables false
set_option linter.unusedSimpArgs false
section
namespace Go.Abs
open Go Go.Proofs Dig
attribute [local irreducible] ibits byteAt strLt firstIdx
theorem Whole.key {s : FSt} {name b : B} (h : Whole s name b) : name ∈ kys s.fs := lk_key h
theorem Whole.get {s : FSt} {name b : B} (h : Whole s name b) : gF s.fs name = ⟨b, b.length⟩ := by unfold gF; rw [show lk s.fs name = _ from h]; rfl
structure JEnd (x : List Rc) (s : FSt) (j w sy : Nat) : Prop where
 hok : FOk s 100 2000000
 hsy : sy ≤ j
 hj : j ≤ w
 hw : w ≤ x.length
 hmay : ∀ r ∈ x.take j, mayP 3 r = true
 hlog : ∃ k, lk s.fs logB = some ⟨fileP 3 (x.take j), k⟩ ∧ (fileP 3 (x.take sy)).length ≤ k
theorem JEnd.crash {x : List Rc} {s : FSt} {j w sy : Nat} (h : JEnd x s j w sy) (hx : x.length ≤ 30) (keep : List Int) :
  ∃ (m : Nat) (ms : List B) (t : B), sy ≤ m ∧ m ≤ w ∧ (∀ r ∈ x.take m, mayP 3 r = true) ∧ ms.length < 100 ∧ (∀ m ∈ ms, m.length ≤ 64) ∧ EndAt t ∧ t.length < 3000 ∧ Whole (s.crash keep) logB (fileP 3 (x.take m) ++ framesP (ms.map defP) ++ t) ∧ FOk (s.crash keep) 100 2000000 := by
 obtain ⟨k, hk, hsy⟩ := h.hlog
 obtain ⟨c1, c2, c3⟩ := crash_spec h.hok keep
 obtain ⟨m, m1, m2, m3⟩ := c3 logB (lk_key hk)
 have hg : gF s.fs logB = ⟨fileP 3 (x.take j), k⟩ := by unfold gF; rw [hk]; rfl
 rw [hg] at m1 m2 m3
 have hjl : (x.take j).length = j := by rw [List.length_take]; have := h.hj; have := h.hw; omega
 have h8 : 8 ≤ m := by
  have := fileP_len 3 (x.take sy)
  have m1 : k ≤ m := m1
  omega
 obtain ⟨m', ms, t, e1, e2, e3, e4, e5, e6, e7⟩ := cut_file (v := 3) (by decide) h.hmay (by rw [hjl]; have := h.hj; have := h.hw; omega) h8 m2
 have htt : ∀ i, i ≤ j → (x.take j).take i = x.take i := fun i hi => by rw [List.take_take, Nat.min_eq_left hi]
 rw [hjl] at e1 e7
 rw [htt m' e1] at e2
 refine ⟨m', ms, t, ?_, Nat.le_trans e1 h.hj, ?_, e3, e4, e5, e6, ?_, c1⟩
 ·refine e7 sy h.hsy ?_
  rw [htt sy h.hsy]
  have m1 : k ≤ m := m1
  omega
 ·intro r hr
  rw [← htt m' e1] at hr
  exact h.hmay r (List.mem_of_mem_take hr)
 ·have hin : logB ∈ kys (s.crash keep).fs := by rw [c2]; exact lk_key hk
  unfold Whole
  rw [← e2]
  cases e : lk (s.crash keep).fs logB with
  | none => exact absurd hin (lk_none.1 e)
  | some f =>
   have : gF (s.crash keep).fs logB = f := by unfold gF; rw [e]; rfl
   rw [this] at m3
   rw [m3]
   have m2 : m ≤ (fileP 3 (x.take j)).length := m2
   simp only [List.length_take, Option.some.injEq, Fl.mk.injEq, true_and]
   omega
def stO (over : Bool) (n : Nat) (v : Int) (l : List Rc) : AObj := .cells 71 [.val (.bool over), .ptr n 0, vi v, .sl none 7 (recs l), .sl none 1 (ints (endsR v l)), vi (((fileP v l).length : Nat) : Int)]
theorem Records_calls (o : Bool) (v : Int) (l : List Rc) (hl : l.length < 100000) (hd : ∀ r ∈ l, r.deps.length < 1000000) (s : FSt) {R} (h : R (.sl none 7 (recs l)) [stO o 1 v l, fsC s 2, fsM s]) :
  ACalls Tryz.prog 8 [.ptr 0 0] [stO o 1 v l, fsC s 2, fsM s] R := by
 refine acalls_of_xwp (an := an8) tab_ok Tryz.func8 ?_
 have hsl := recs_length l
 conv => whnf
 refine LoopP.ind1 (fun (i : Nat) => [(3, .sl (some (nameOf 3)) 7 (recs (l.take i))), (12, vi i)]) (fun i => [(0, stO o 1 v l), (1, fsC s 2), (2, fsM s), (nameOf 3, .row 64 7 i)]) (fun i => l.length - i) (fun i => i ≤ l.length) 0 rfl (by omega) ?_
 intro i hi0 IH
 conv => whnf
 refine br_intro (fun hc => ?_) (fun hc => ?_)
 ·have hi := lt_of_decE hsl hc
  have IH := IH (i + 1) hi (by omega)
  rw [recs_take hi] at IH
  have hst : (recs (l.take i)).length = i := by rw [recs_length, List.length_take]; omega
  (conv => whnf); (repeat ((with_reducible refine must_intro ?_ ?_); exact decide_eq_true (by omega); (conv => whnf)))
  refine idxK_map_intro (show (i : Int).toNat < l.length by simpa using hi) ?_
  rw [show l[(i : Int).toNat]'(by simpa using hi) = l[i] from by congr 1]
  conv => whnf
  refine Clone_calls l[i] (hd _ (List.getElem_mem hi)) ?_
  conv => whnf
  refine ⟨hst.symm, by rw [hst, bytes_rec]; simp only [List.length_cons, List.length_nil]; omega, ?_⟩
  conv => whnf
  rw [i64_nat (by omega), hst]
  exact IH
 ·have hi := ge_of_decE hsl hc
  rw [List.take_of_length_le hi]
  conv => whnf
  exact h
theorem stOpen_fs0 (v : Int) (hv : is3 v) {R} (h : R (.tup [.ptr 2 0, vi 0]) [fsC (fsL (fileP v [])) 1, fsM (fsL (fileP v [])), stO false 0 v []]) :
  ACalls Tryz.prog 14 [.ptr 0 0, vi v] [fsC fs0 1, fsM fs0] R := by
 refine acalls_of_xwp (an := { an14 with cst := [] }) tab_ok Tryz.func14 ?_
 have hm0 : ∀ r ∈ ([] : List Rc), mayP v r = true := by simp
 have hs := fileP_small (v := v) (l := []) hm0 (by simp)
 have hst := start_fs0 logB newB (fileP v []) log_new
 have hg1 : ¬ v < 1 := by unfold is3 at hv; omega
 have hg2 : ¬ 3 < v := by unfold is3 at hv; omega
 conv => whnf
 refine br_false (decide_eq_false hg1) ?_
 conv => whnf
 refine br_false (decide_eq_false hg2) ?_
 conv => whnf
 refine Down_calls fs0 ?_
 conv => whnf
 refine fsNames_calls fs0 (by simp [fs0]) (by simp [fs0, kys]) (by simp [fs0, kys]) ?_
 rw [show fs0.names = [] from by simp [FSt.names, sortB, fs0, kys]]
 conv => whnf
 refine sContains_calls [] newB (by simp) ?_
 conv => whnf
 refine sContains_calls [] logB (by simp) ?_
 conv => whnf
 refine ACalls.args ?_ (Start_ok fs0 logB newB (fileP v []) log_new v [] fs0_fok (by omega) (by omega) (by decide) hs (fun hR => cPut_any hv [] (by simp) (by simp) (fun _ => hR) (fun hno => absurd hm0 hno)) ?_)
 ·exact leL.cons (.refl _) (leL.cons (.refl _) (leL.cons (.refl _) (leL.cons (.refl _) (leL.cons (le_nil 7) leL.nil))))
 rw [hst]
 have hw := fsL_whole (fileP v [])
 have hh : R (.tup [.ptr 2 0, vi 0]) [fsC ⟨[(logB, ⟨fileP v [], (fileP v []).length⟩)], -1, -1, false⟩ 1, fsM ⟨[(logB, ⟨fileP v [], (fileP v []).length⟩)], -1, -1, false⟩, stO false 0 v []] := h
 have hw : Whole ⟨[(logB, ⟨fileP v [], (fileP v []).length⟩)], -1, -1, false⟩ logB (fileP v []) := hw
 generalize (FSt.mk [(logB, ⟨fileP v [], (fileP v []).length⟩)] (-1) (-1) false) = s at hh hw ⊢
 conv => whnf
 refine Open_ok s logB v [] hw.key (by rw [hw.get]) hs (fun hR => cGet_any hv [] hm0 (by simp) hR) ?_
 conv => whnf
 exact hh
structure Sp where
 kind : Int
 r : Rc
 name : B
 l : List Rc
 version : Int
 n : Int
def Sp.enc (o : Sp) : List AV := [vi o.kind, vi o.r.kind, vs o.r.target, uv o.r.rule, .sl none 3 (dpsA o.r.deps), uv o.r.out, uv o.r.wen, vs o.r.tag, vs o.name, .sl none 7 (recs o.l), vi o.version, vi o.n]
structure CutF (v : Int) (l : List Rc) (b : B) : Prop where
 hm : ∀ r ∈ l, mayP v r = true
 hl : l.length ≤ 300
 cut : ∃ (ms : List B) (t : B), b = fileP v l ++ framesP (ms.map defP) ++ t ∧ (v = 1 → ms = []) ∧ ms.length < 100 ∧ (∀ m ∈ ms, m.length ≤ 64) ∧ EndAt t ∧ t.length < 3000
theorem CutF.len {v : Int} {l : List Rc} {b : B} (h : CutF v l b) : b.length < 2000000 ∧ (fileP v l).length < 1000000 ∧ (fileP v l).length ≤ b.length := by
 obtain ⟨hm, hl, ms, t, hb, _, hml, hmf, _, htl⟩ := h
 have hs := fileP_small hm hl
 have hfm := framesP_len (l := ms.map defP) (k := 65) (fun p hp => by
  obtain ⟨m, hm1, rfl⟩ := List.mem_map.1 hp
  have := hmf m hm1
  simp [defP]; omega) (by omega)
 rw [List.length_map] at hfm
 rw [hb, List.length_append, List.length_append]
 omega
def stR (ov : Bool) (v : Int) (l : List Rc) (s : FSt) : List AV := [.sl none 3 (flsR s.fs), vi s.fail, vi s.fall, .val (.bool s.down), vi v, .sl none 7 (recs l), .sl none 1 (ints (endsR v l)), vi (((fileP v l).length : Nat) : Int), .val (.bool ov)]
def fsK (b : B) (k : Nat) : FSt := ⟨[(logB, ⟨b, k⟩)], -1, -1, false⟩
theorem fs0_rok : ROk fs0 := ⟨by simp [fs0], by simp [fs0, kys], (by decide : -1 ≤ (-1 : Int) ∧ (-1 : Int) < 9223372036854775808), (by decide : -1 ≤ (-1 : Int) ∧ (-1 : Int) < 9223372036854775808)⟩
theorem rstart_fs0 (F : B) : rstart fs0 logB newB F = (fsK F F.length, 0) := by
 have hne : newB ≠ logB := by decide
 have h1 : fs0.rappend newB F = (⟨[(newB, ⟨F, 0⟩)], -1, -1, false⟩, 0) := rfl
 have h2 : (FSt.mk [(newB, ⟨F, 0⟩)] (-1) (-1) false).rsync newB = (⟨[(newB, ⟨F, F.length⟩)], -1, -1, false⟩, 0) := by
  simp [FSt.rsync, FSt.may, FSt.act, lk, rSyn, rpt, wF, cutK, gF, cnt]
 have h3 : (FSt.mk [(newB, ⟨F, F.length⟩)] (-1) (-1) false).rrename newB logB = (⟨[(logB, ⟨F, F.length⟩)], -1, -1, false⟩, 0) := by
  simp [FSt.rrename, FSt.may, FSt.act, lk, rRen, rpt, wF, cutK, gF, cnt]
 unfold rstart rrun3
 rw [if_neg (by simp [fs0, kys]), h1]
 simp only [h2, h3, ne_eq, not_true_eq_false, if_false]
 rfl
theorem rsOpen_fs0 {v : Int} (hv : is3 v) {R} (h : R (.tup [.agg (stR false v [] (fsK (fileP v []) (fileP v []).length)), vi 0]) []) : ACalls Tryz.prog 15 [.agg (fsR fs0), vi v] [] R := by
 refine acalls_of_xwp (an := an15) tab_ok Tryz.func15 ?_
 have hst := rstart_fs0 (fileP v [])
 conv => whnf
 refine br_false (decide_eq_false (by unfold is3 at hv; omega)) ?_
 conv => whnf
 refine br_false (decide_eq_false (by unfold is3 at hv; omega)) ?_
 conv => whnf
 refine rGet_calls fs0 (by simp [fs0]) newB ?_
 rw [show decide (newB ∈ kys fs0.fs) = false from by simp [fs0, kys]]
 conv => whnf
 refine rGet_calls fs0 (by simp [fs0]) logB ?_
 rw [show decide (logB ∈ kys fs0.fs) = false from by simp [fs0, kys]]
 conv => whnf
 refine rStart_calls fs0 fs0_rok (by simp [fs0]) logB newB log_new (by decide) (by decide) (by simp [fs0, gF, lk, flZ]) hv [] (by simp) (by simp) ?_
 rw [hst]
 have hin : logB ∈ kys (fsK (fileP v []) (fileP v []).length).fs := by simp [fsK, kys]
 have hgb : (gF (fsK (fileP v []) (fileP v []).length).fs logB).b = fileP v [] := by simp [fsK, gF, lk]
 have hlen : (fsK (fileP v []) (fileP v []).length).fs.length < 900000 := by simp [fsK]
 generalize fsK (fileP v []) (fileP v []).length = s at h hin hgb hlen ⊢
 conv => whnf
 refine rOpen_calls s hlen logB [] hin hgb (fun hR => ref10GetHead_calls hv hR) ?_
 conv => whnf
 exact h
def fsV (v : Int) (L : List Rc) : FSt := fsK (fileP v L) 8
theorem fsV_nil (v : Int) : fsL (fileP v []) = fsV v [] := by
 have e : (fileP v []).length = 8 := by rw [fileP_len]; simp [paysP, framesP]
 show FSt.mk [(logB, ⟨fileP v [], (fileP v []).length⟩)] (-1) (-1) false = FSt.mk [(logB, ⟨fileP v [], 8⟩)] (-1) (-1) false
 rw [e]
theorem fsV_nilR (v : Int) : fsK (fileP v []) (fileP v []).length = fsV v [] := fsV_nil v
def stW (s : B × Bool × Int) : List AV := [vs s.1, .val (.bool s.2.1), .val (.int .u64 s.2.2)]
def stWs (l : List (B × Bool × Int)) : List (List AV) := l.map stW
theorem stWs_length (l : List (B × Bool × Int)) : (stWs l).length = l.length := by simp [stWs]
theorem typed_stW {n : Nat} {l : List (List AV)} (h : ∀ x ∈ l, Typed tab (n + 3) 84 x) : ∃ m : List (B × Bool × Int), l = stWs m := by
 induction l with
 | nil => exact ⟨[], rfl⟩
 | cons x l ih =>
  obtain ⟨m, rfl⟩ := ih fun y hy => h y (by simp [hy])
  obtain ⟨a1, r1, rfl, ⟨s, rfl, hs⟩, a2, r2, rfl, ⟨b, rfl⟩, a3, r3, rfl, ⟨u, rfl, hu⟩, rfl⟩ : ∃ a r, x = a ++ r ∧ (∃ s : ByteArray, a = [.val (.string s)] ∧ s.size ≤ maxLen) ∧
    ∃ a r', r = a ++ r' ∧ (∃ b, a = [.val (.bool b)]) ∧ ∃ a r'', r' = a ++ r'' ∧ (∃ y, a = [.val (.int .u64 y)] ∧ (Lit.int .u64 y).wf = true) ∧ r'' = [] := h x (by simp)
  exact ⟨(bs s, b, u) :: m, by simp [stWs, stW, ofB_bs, vs]⟩
theorem FewW_calls (l : List (B × Bool × Int)) (hl : l.length ≤ maxLen) {R} (h : ∀ b : Bool, R (.val (.bool b)) []) :
  ACalls Tryz.prog 10 [.sl none 3 (stWs l)] [] R := by
 refine acalls_of_xwp (an := an10) tab_ok Tryz.func10 ?_
 have hsl := stWs_length l
 have hmx : maxLen ≤ 9223372036854775807 := by decide
 conv => whnf
 refine LoopP.ind1 (fun (i : Nat) => [(7, vi i)]) (fun _ => []) (fun i => l.length - i) (fun i => i ≤ l.length) 0 rfl (Nat.zero_le _) ?_
 rintro i hi IH
 conv => whnf
 refine br_intro (fun hc => ?_) (fun hc => ?_)
 ·have hc := lt_of_decE hsl hc
  (conv => whnf); (repeat ((with_reducible refine must_intro ?_ ?_); exact decide_eq_true (by omega); (conv => whnf)))
  refine idxK_map_intro (show (i : Int).toNat < l.length by simpa using hc) ?_
  rw [show l[(i : Int).toNat]'(by simpa using hc) = l[i] from by congr 1]
  conv => whnf
  refine br_intro (fun hb => ?_) (fun hb => ?_)
  ·conv => whnf
   exact h _
  ·conv => whnf
   rw [wrap_i64 (by omega) (by omega), show ((i : Int) + 1) = ((i + 1 : Nat) : Int) by omega]
   exact IH (i + 1) (by omega) (by omega)
 ·have hc := ge_of_decE hsl hc
  conv => whnf
  exact h _
theorem Great24_calls (l : List Nd) (g : List (B × Bool × Int)) (hl : l.length ≤ maxLen) (hn : ∀ n ∈ l, n.deps.length ≤ maxLen) (hg : g.length ≤ maxLen) {R} (h : ∀ b : Bool, R (.val (.bool b)) []) :
  ACalls Tryz.prog 4 [.sl none 4 (nds l), .sl none 3 (stWs g)] [] R := by
 refine acalls_of_xwp (an := an4) tab_ok Tryz.func4 ?_
 conv => whnf
 refine Great_calls l hl hn fun b _ => ?_
 cases b with
 | true =>
  conv => whnf
  exact h _
 | false =>
  conv => whnf
  refine FewW_calls g hg fun b => ?_
  conv => whnf
  exact h _
theorem Made24_calls {v : Int} (hv : is3 v) {R} (h : R (.tup [.ptr 0 0, .ptr 2 0, .agg (stR false v [] (fsV v []))]) [fsC (fsV v []) 1, fsM (fsV v []), stO false 0 v []]) :
  ACalls Tryz.prog 6 [vi v, .val (.slice none 0 0)] [] R := by
 refine acalls_of_xwp (an := an6) tab_ok Tryz.func6 ?_
 conv => whnf
 refine fsNew_calls ?_
 conv => whnf
 refine stOpen_fs0 v hv ?_
 rw [fsV_nil]
 conv => whnf
 refine rNew_calls ?_
 conv => whnf
 refine rsOpen_fs0 hv ?_
 rw [fsV_nilR]
 conv => whnf
 refine LoopP.step ?_
 conv => whnf
 exact h
theorem typed_case {x : List AV} (h : Typed tab 12 26 x) : ∃ (l : List Nd) (g : List (B × Bool × Int)) (w : Int), x = [.sl none 4 (nds l), .sl none 3 (stWs g), .val (.int .u64 w)] ∧ l.length ≤ maxLen ∧ (∀ n ∈ l, n.deps.length ≤ maxLen) ∧ g.length ≤ maxLen := by
 have h : TypedF (Typed tab 11) [22, 23, 24] x := h
 obtain ⟨p, q, rfl, h1, r, s, rfl, h2, t, u, rfl, h3, rfl⟩ := h
 obtain ⟨y, rfl, e1, e2⟩ : ∃ y : List (List AV), p = [.sl none 4 y] ∧ y.length ≤ maxLen ∧ ∀ z ∈ y, Typed tab 10 54 z := h1
 obtain ⟨l, rfl, hl⟩ := typed_nodes (n := 7) e2
 obtain ⟨y, rfl, f1, f2⟩ : ∃ y : List (List AV), r = [.sl none 3 y] ∧ y.length ≤ maxLen ∧ ∀ z ∈ y, Typed tab 10 84 z := h2
 obtain ⟨g, rfl⟩ := typed_stW (n := 7) f2
 obtain ⟨w, rfl, _⟩ : ∃ w, t = [.val (.int .u64 w)] ∧ (Lit.int .u64 w).wf = true := h3
 exact ⟨l, g, w, rfl, by simpa [nds] using e1, hl, by simpa [stWs] using f1⟩
theorem crewNil_calls (l : List Nd) (g : List (B × Bool × Int)) (w k : Int) {R} (h : R (.tup [.val (.slice none 0 0), vi 1]) []) :
  ACalls Tryz.prog 7 [.val (.pointer none), .sl none 4 (nds l), .sl none 3 (stWs g), .val (.int .u64 w), vi k] [] R := by
 refine acalls_of_xwp (an := an7) tab_ok Tryz.func7 ?_
 conv => whnf
 refine br_intro (fun g => ?_) (fun g => ?_)
 ·conv => whnf
  exact h
 conv => whnf
 refine br_intro (fun g => ?_) (fun g => ?_)
 ·conv => whnf
  exact h
 conv => whnf
 exact h
theorem crewBad_calls (l : List Nd) (g : List (B × Bool × Int)) (w k : Int) (hk : ¬ (1 ≤ k ∧ k ≤ 16)) (v : Int) (L : List Rc) (s : FSt) {R} (h : R (.tup [.val (.slice none 0 0), vi 1]) [stO false 1 v L, fsC s 2, fsM s]) :
  ACalls Tryz.prog 7 [.ptr 0 0, .sl none 4 (nds l), .sl none 3 (stWs g), .val (.int .u64 w), vi k] [stO false 1 v L, fsC s 2, fsM s] R := by
 refine acalls_of_xwp (an := an7) tab_ok Tryz.func7 ?_
 conv => whnf
 refine br_intro (fun g => ?_) (fun g => ?_)
 ·conv => whnf
  exact h
 have g := of_decide_eq_false g
 conv => whnf
 refine br_true (decide_eq_true (by omega)) ?_
 conv => whnf
 exact h
theorem CrewNil_calls (l : List Nd) (g : List (B × Bool × Int)) (w k : Int) (hl : l.length ≤ maxLen) (hn : ∀ n ∈ l, n.deps.length ≤ maxLen) (hg : g.length ≤ maxLen) {R} (h : R (.val (.bool true)) []) :
  ACalls Tryz.prog 3 [.agg [.sl none 4 (nds l), .sl none 3 (stWs g), .val (.int .u64 w)], vi k] [] R := by
 refine acalls_of_xwp (an := an3) tab_ok Tryz.func3 ?_
 conv => whnf
 refine Great24_calls l g hl hn hg fun b => ?_
 cases b with
 | true =>
  conv => whnf
  refine fixed25_calls ?_
  conv => whnf
  exact h
 | false =>
 conv => whnf
 refine Made24_calls (v := 3) (.inr (.inr rfl)) ?_
 conv => whnf
 refine crewNil_calls l g w k ?_
 conv => whnf
 refine br_intro (fun g1 => ?_) (fun g1 => ?_)
 ·have g1 := of_decide_eq_true g1
  conv => whnf
  refine br_intro (fun g2 => ?_) (fun g2 => ?_)
  ·conv => whnf
   refine fixed25_calls ?_
   conv => whnf
   exact h
  ·have g2 := of_decide_eq_false g2
   conv => whnf
   refine crewBad_calls l g w k (by omega) 3 [] (fsV 3 []) ?_
   conv => whnf
   refine fixed25_calls ?_
   conv => whnf
   refine Records_calls false 3 [] (by simp) (by simp) (fsV 3 []) ?_
   conv => whnf
   exact h
 ·have g1 := of_decide_eq_false g1
  conv => whnf
  refine crewBad_calls l g w k (by omega) 3 [] (fsV 3 []) ?_
  conv => whnf
  refine fixed25_calls ?_
  conv => whnf
  refine Records_calls false 3 [] (by simp) (by simp) (fsV 3 []) ?_
  conv => whnf
  exact h
theorem CrewNil_row (l : List AV) (h : Args tab 12 [26, 3] l) : ACalls Tryz.prog 3 l [] fun r _ => r = .val (.bool true) := by
 obtain ⟨v, l3, rfl, ⟨x, rfl, hx⟩, h1⟩ := h
 obtain ⟨m, g, w, rfl, hl, hn, hg⟩ := typed_case hx
 obtain ⟨k, l4, rfl, h2⟩ := args_int h1
 obtain rfl := args_nil h2
 exact CrewNil_calls m g w k hl hn hg rfl
end Go.Abs
end
