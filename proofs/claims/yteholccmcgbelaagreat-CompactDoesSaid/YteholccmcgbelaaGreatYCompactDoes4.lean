/- Several texts of this claim, one behind the other: LC, PF, PG, PH, PI, PJ, PK, UE, UI, UJ, VB, VC, VD, VE, VF, UK, PL, PM, PO, SA, SB, SC, SD, SE, TA, TB, TC, UL, UM, TD, TE, TF, H6, UN, VG, VH, VI, VJ. -/
import Derived.Test.YteholccmcgbelaaGreatYCompactDoes3
set_option maxRecDepth 100000
set_option maxHeartbeats 4000000
set_option linter.unusedVariables false
set_option linter.unusedSimpArgs false
section
namespace Go.Abs
open Go Go.Proofs Dig
attribute [local irreducible] ibits byteAt strLt firstIdx
theorem sIndex_calls (l : List B) (s : B) (hl : l.length < 1000000) {R} (h : ∀ p, p = placeI l s → R (vi p) []) : ACalls Tryz.prog 91 [.sl none 1 (strs l), vs s] [] R := by
 refine acalls_of_xwp (an := an91) tab_ok Tryz.func91 ?_
 have hsl := strs_length l
 conv => whnf
 refine LoopP.ind1 (fun (i : Nat) => [(8, vi i)]) (fun i => []) (fun i => l.length - i) (fun i => i ≤ l.length ∧ ∀ j, j < i → l[j]? ≠ some s) 0 rfl ⟨by omega, fun j hj => by omega⟩ ?_
 rintro i ⟨h0, h1⟩ IH
 conv => whnf
 refine br_intro (fun hc => ?_) (fun hc => ?_)
 ·have hc := lt_of_decE hsl hc
  (conv => whnf); (repeat ((with_reducible refine must_intro ?_ ?_); exact decide_eq_true (by omega); (conv => whnf)))
  refine idxK_map_intro (show (i : Int).toNat < l.length by simpa using hc) ?_
  rw [show l[(i : Int).toNat]'(by simpa using hc) = l[i] from by congr 1]
  conv => whnf
  refine br_intro (fun g => ?_) (fun g => ?_)
  ·have g : s = l[i] := by
    have g : ofB s = ofB l[i] := of_decide_eq_true g
    exact ofB_inj g
   conv => whnf
   refine h _ ?_
   rw [placeI, placeOf_of (by rw [List.getElem?_eq_getElem hc, g]) h1]
  ·have g : s ≠ l[i] := by
    have g : ¬ ofB s = ofB l[i] := of_decide_eq_false g
    exact fun e => g (by rw [e])
   conv => whnf
   rw [i64_nat (by omega)]
   refine IH (i + 1) ⟨hc, fun j hj => ?_⟩ (by omega)
   rcases Nat.lt_succ_iff_lt_or_eq.1 hj with hj | rfl
   ·exact h1 j hj
   ·rw [List.getElem?_eq_getElem hc]
    exact fun e => g (Option.some.inj e).symm
 ·have hc := ge_of_decE hsl hc
  conv => whnf
  refine h _ ?_
  rw [placeI, placeOf_none.2]
  intro hm
  obtain ⟨j, hj, e⟩ := List.getElem_of_mem hm
  exact h1 j (by omega) (by rw [List.getElem?_eq_getElem hj, e])
theorem sContains_calls (l : List B) (s : B) (hl : l.length < 1000000) {R} (h : R (.val (.bool (decide (s ∈ l)))) []) : ACalls Tryz.prog 61 [.sl none 1 (strs l), vs s] [] R := by
 refine acalls_of_xwp (an := an61) tab_ok Tryz.func61 ?_
 conv => whnf
 refine sIndex_calls l s hl fun p hp => ?_
 have e : decide (p ≥ 0) = decide (s ∈ l) := by
  have := placeI_neg (l := l) (s := s)
  rw [← hp] at this
  by_cases hm : s ∈ l
  ·rw [decide_eq_true hm, decide_eq_true]
   refine Classical.byContradiction fun hn => this.1 (by omega) hm
  ·rw [decide_eq_false hm, decide_eq_false]
   have := this.2 hm
   omega
 conv => whnf
 rw [e]
 exact h
def bxO : AObj := .cells 26 [.ptr 1 0]
def byO (b : B) : AObj := .cells 82 [.sl none 1 (byteEls b)]
theorem st1_calls (s : FSt) (aside : B) (h1 : okN s.fail) (h2 : okN s.fall) {R} (h : R (vi (s.remove aside).2) [bxO, fsC (s.remove aside).1 2, fsM (s.remove aside).1]) :
  ACalls Tryz.prog 95 [.ptr 0 0, .cptr [vs aside] 0] [bxO, fsC s 2, fsM s] R := by
 refine acalls_of_xwp (an := an95) tab_ok Tryz.func95 ?_
 conv => whnf
 refine Remove_calls s aside h1 h2 ?_
 conv => whnf
 exact h
theorem st2_calls (s : FSt) (aside b : B) (h1 : okN s.fail) (h2 : okN s.fall) (hb : b.length < 1000000) (hg : (gF s.fs aside).b.length < 100000000) {R} (h : R (vi (s.append aside b).2) [bxO, fsC (s.append aside b).1 2, fsM (s.append aside b).1, byO b]) :
  ACalls Tryz.prog 96 [.ptr 0 0, .cptr [vs aside] 0, .ptr 3 0] [bxO, fsC s 2, fsM s, byO b] R := by
 refine acalls_of_xwp (an := an96) tab_ok Tryz.func96 ?_
 conv => whnf
 refine Append_calls s aside b h1 h2 hb hg ?_
 conv => whnf
 exact h
theorem st3_calls (s : FSt) (aside : B) (h1 : okN s.fail) (h2 : okN s.fall) {R} (h : R (vi (s.sync aside).2) [bxO, fsC (s.sync aside).1 2, fsM (s.sync aside).1]) :
  ACalls Tryz.prog 98 [.ptr 0 0, .cptr [vs aside] 0] [bxO, fsC s 2, fsM s] R := by
 refine acalls_of_xwp (an := an98) tab_ok Tryz.func98 ?_
 conv => whnf
 refine Sync_calls s aside h1 h2 ?_
 conv => whnf
 exact h
theorem st4_calls (s : FSt) (aside name : B) (h1 : okN s.fail) (h2 : okN s.fall) {R} (h : R (vi (s.rename aside name).2) [bxO, fsC (s.rename aside name).1 2, fsM (s.rename aside name).1]) :
  ACalls Tryz.prog 99 [.ptr 0 0, .cptr [vs aside] 0, .cptr [vs name] 0] [bxO, fsC s 2, fsM s] R := by
 refine acalls_of_xwp (an := an99) tab_ok Tryz.func99 ?_
 conv => whnf
 refine Rename_calls s aside name h1 h2 ?_
 conv => whnf
 exact h
def run3 (s : FSt) (name aside b : B) : FSt × Int :=
 if (s.append aside b).2 ≠ 0 then s.append aside b
 else if ((s.append aside b).1.sync aside).2 ≠ 0 then (s.append aside b).1.sync aside
 else ((s.append aside b).1.sync aside).1.rename aside name
def startP (s : FSt) (name aside b : B) : FSt × Int :=
 if aside ∈ s.names then (if (s.remove aside).2 ≠ 0 then s.remove aside else run3 (s.remove aside).1 name aside b) else run3 s name aside b
def fn1 (aside : B) : AV := .fn (.func 95) [] [.ptr 1 0, .cptr [vs aside] 0]
def fn2 (aside : B) : AV := .fn (.func 96) [] [.ptr 1 0, .cptr [vs aside] 0, .ptr 4 0]
def fn3 (aside : B) : AV := .fn (.func 98) [] [.ptr 1 0, .cptr [vs aside] 0]
def fn4 (aside name : B) : AV := .fn (.func 99) [] [.ptr 1 0, .cptr [vs aside] 0, .cptr [vs name] 0]
def bx1 : AObj := .cells 26 [.ptr 2 0]
theorem run3_calls (s : FSt) (name aside b : B) {nb fb : Nat} (hk : FOk s nb fb) (hfb : fb ≤ 90000000) (hna : aside.length < 1000000) (hb : b.length < 1000000) {R}
  (h : R (vi (run3 s name aside b).2) [.fns 75 [fn2 aside, fn3 aside, fn4 aside name] 0, bx1, fsC (run3 s name aside b).1 3, fsM (run3 s name aside b).1, byO b]) :
  ACalls Tryz.prog 101 [.slv 0 0 0 0 3] [.fns 75 [fn2 aside, fn3 aside, fn4 aside name] 0, bx1, fsC s 3, fsM s, byO b] R := by
 refine acalls_of_xwp (an := an101) tab_ok Tryz.func101 ?_
 conv => whnf
 refine LoopP.step ?_
 conv => whnf
 refine ⟨rfl, ?_⟩
 conv => whnf
 refine st2_calls s aside b hk.fail hk.fall hb (by have := (hk.m.get aside).2; omega) ?_
 have hk2 := append_ok hk (name := aside) (b := b) hna
 conv => whnf
 refine br_intro (fun g => ?_) (fun g => ?_)
 ·have g : (s.append aside b).2 ≠ 0 := by simpa using g
  rw [run3, if_pos g] at h
  conv => whnf
  exact h
 have g : ¬ (s.append aside b).2 ≠ 0 := by simpa using g
 rw [run3, if_neg g] at h
 generalize (s.append aside b).1 = s1 at h hk2 ⊢
 conv => whnf
 refine LoopP.step ?_
 conv => whnf
 refine ⟨rfl, ?_⟩
 conv => whnf
 refine st3_calls s1 aside hk2.fail hk2.fall ?_
 have hk3 := sync_ok hk2 (name := aside)
 conv => whnf
 refine br_intro (fun g2 => ?_) (fun g2 => ?_)
 ·have g2 : (s1.sync aside).2 ≠ 0 := by simpa using g2
  rw [if_pos g2] at h
  conv => whnf
  exact h
 have g2 : ¬ (s1.sync aside).2 ≠ 0 := by simpa using g2
 rw [if_neg g2] at h
 generalize (s1.sync aside).1 = s2 at h hk3 ⊢
 conv => whnf
 refine LoopP.step ?_
 conv => whnf
 refine ⟨rfl, ?_⟩
 conv => whnf
 refine st4_calls s2 aside name hk3.fail hk3.fall ?_
 conv => whnf
 refine br_intro (fun g3 => ?_) (fun g3 => ?_)
 ·conv => whnf
  exact h
 have g3 : (s2.rename aside name).2 = 0 := by simpa using g3
 rw [g3] at h
 conv => whnf
 refine LoopP.step ?_
 conv => whnf
 exact h
theorem run4_calls (s : FSt) (name aside b : B) {nb fb : Nat} (hk : FOk s nb fb) (hfb : fb ≤ 90000000) (hna : aside.length < 1000000) (hb : b.length < 1000000) {R}
  (h : R (vi (if (s.remove aside).2 ≠ 0 then s.remove aside else run3 (s.remove aside).1 name aside b).2) [.fns 75 [fn1 aside, fn2 aside, fn3 aside, fn4 aside name] 1, bx1, fsC (if (s.remove aside).2 ≠ 0 then s.remove aside else run3 (s.remove aside).1 name aside b).1 3, fsM (if (s.remove aside).2 ≠ 0 then s.remove aside else run3 (s.remove aside).1 name aside b).1, byO b]) :
  ACalls Tryz.prog 101 [.slv 0 0 1 0 4] [.fns 75 [fn1 aside, fn2 aside, fn3 aside, fn4 aside name] 1, bx1, fsC s 3, fsM s, byO b] R := by
 refine acalls_of_xwp (an := an101) tab_ok Tryz.func101 ?_
 conv => whnf
 refine LoopP.step ?_
 conv => whnf
 refine ⟨rfl, ?_⟩
 conv => whnf
 refine st1_calls s aside hk.fail hk.fall ?_
 have hk0 := remove_ok hk (name := aside)
 conv => whnf
 refine br_intro (fun g => ?_) (fun g => ?_)
 ·have g : (s.remove aside).2 ≠ 0 := by simpa using g
  rw [if_pos g] at h
  conv => whnf
  exact h
 have g : ¬ (s.remove aside).2 ≠ 0 := by simpa using g
 rw [if_neg g] at h
 clear hk
 generalize (s.remove aside).1 = s at h hk0 ⊢
 have hk := hk0
 clear hk0
 conv => whnf
 refine LoopP.step ?_
 conv => whnf
 refine ⟨rfl, ?_⟩
 conv => whnf
 refine st2_calls s aside b hk.fail hk.fall hb (by have := (hk.m.get aside).2; omega) ?_
 have hk2 := append_ok hk (name := aside) (b := b) hna
 conv => whnf
 refine br_intro (fun g => ?_) (fun g => ?_)
 ·have g : (s.append aside b).2 ≠ 0 := by simpa using g
  rw [run3, if_pos g] at h
  conv => whnf
  exact h
 have g : ¬ (s.append aside b).2 ≠ 0 := by simpa using g
 rw [run3, if_neg g] at h
 generalize (s.append aside b).1 = s1 at h hk2 ⊢
 conv => whnf
 refine LoopP.step ?_
 conv => whnf
 refine ⟨rfl, ?_⟩
 conv => whnf
 refine st3_calls s1 aside hk2.fail hk2.fall ?_
 have hk3 := sync_ok hk2 (name := aside)
 conv => whnf
 refine br_intro (fun g2 => ?_) (fun g2 => ?_)
 ·have g2 : (s1.sync aside).2 ≠ 0 := by simpa using g2
  rw [if_pos g2] at h
  conv => whnf
  exact h
 have g2 : ¬ (s1.sync aside).2 ≠ 0 := by simpa using g2
 rw [if_neg g2] at h
 generalize (s1.sync aside).1 = s2 at h hk3 ⊢
 conv => whnf
 refine LoopP.step ?_
 conv => whnf
 refine ⟨rfl, ?_⟩
 conv => whnf
 refine st4_calls s2 aside name hk3.fail hk3.fall ?_
 conv => whnf
 refine br_intro (fun g3 => ?_) (fun g3 => ?_)
 ·conv => whnf
  exact h
 have g3 : (s2.rename aside name).2 = 0 := by simpa using g3
 rw [g3] at h
 conv => whnf
 refine LoopP.step ?_
 conv => whnf
 exact h
theorem Start_ok (s : FSt) (name aside b : B) (hne : name ≠ aside) (v : Int) (l : List Rc) {nb fb : Nat} (hk : FOk s nb fb) (hnb : nb ≤ 900000) (hfb : fb ≤ 80000000) (hna : aside.length < 1000000) (hb : b.length < 1000000)
  (hput : ∀ {R : AV → List AObj → Prop}, R (.tup [.sl none 1 (byteEls b), vi 0]) [] → ACalls Tryz.prog 82 [vi v, .sl none 7 (recs l)] [] R) {R} (h : R (vi (startP s name aside b).2) [fsC (startP s name aside b).1 1, fsM (startP s name aside b).1]) :
  ACalls Tryz.prog 63 [.ptr 0 0, vs name, vs aside, vi v, .sl none 7 (recs l)] [fsC s 1, fsM s] R := by
 refine acalls_of_xwp (an := an63) tab_ok Tryz.func63 ?_
 have hlen := hk.m.len
 have hnl : s.names.length ≤ nb := by
  rw [(names_perm s).length_eq]
  simpa [kys] using hlen
 conv => whnf
 refine hput ?_
 conv => whnf
 refine br_false (decide_eq_false (fun e => hne (ofB_inj e))) ?_
 conv => whnf
 refine fsNames_calls s (by omega) hk.m.names hk.m.nodup ?_
 conv => whnf
 refine sContains_calls s.names aside (by omega) ?_
 conv => whnf
 refine br_intro (fun g => ?_) (fun g => ?_)
 ·have g := of_decide_eq_true g
  unfold startP at h
  rw [if_pos g] at h
  conv => whnf
  refine ⟨by simp only [List.length_cons, List.length_nil]; decide, ?_⟩
  conv => whnf
  refine ⟨⟨rfl, rfl⟩, by simp only [List.length_cons, List.length_nil]; decide, ?_⟩
  conv => whnf
  refine run4_calls s name aside b hk (by omega) hna hb ?_
  conv => whnf
  exact h
 ·have g := of_decide_eq_false g
  unfold startP at h
  rw [if_neg g] at h
  conv => whnf
  refine ⟨by simp only [List.length_cons, List.length_nil]; decide, ?_⟩
  conv => whnf
  refine run3_calls s name aside b hk (by omega) hna hb ?_
  conv => whnf
  exact h
def zF : AV := .agg [vi 0, nlA, nlA, vi 0]
theorem Open_ok (s : FSt) (name : B) (v : Int) (l : List Rc) (hin : name ∈ kys s.fs) (hb : (gF s.fs name).b = fileP v l) (hlen : (fileP v l).length < 1000000)
  (hget : ∀ {R : AV → List AObj → Prop}, R (.tup [.agg (fileA v l), vi 0]) [] → ACalls Tryz.prog 83 [.sl none 1 (byteEls (fileP v l))] [] R) {R} (h : R (.tup [.agg (fileA v l), vi 0]) [fsC s 1, fsM s]) :
  ACalls Tryz.prog 64 [.ptr 0 0, vs name] [fsC s 1, fsM s] R := by
 refine acalls_of_xwp (an := an64) tab_ok Tryz.func64 ?_
 have hbl := bel_length (fileP v l)
 conv => whnf
 refine fsRead_calls s name (by rw [hb]; omega) (fun _ => ?_) (fun hno => absurd hin hno)
 rw [hb]
 conv => whnf
 refine hget ?_
 conv => whnf
 refine br_false (decide_eq_false (by rw [hbl]; omega)) ?_
 conv => whnf
 exact h
theorem fs0_fok : FOk fs0 0 0 := ⟨⟨by decide, by simp [fs0], by simp [fs0], by simp [fs0], by simp [fs0, kys]⟩, (by decide : -1 ≤ (-1 : Int) ∧ (-1 : Int) < 9223372036854775808), (by decide : -1 ≤ (-1 : Int) ∧ (-1 : Int) < 9223372036854775808)⟩
theorem start_fs0 (name aside b : B) (hne : name ≠ aside) : startP fs0 name aside b = (⟨[(name, ⟨b, b.length⟩)], -1, -1, false⟩, 0) := by
 have h1 : fs0.append aside b = (⟨[(aside, ⟨b, 0⟩)], -1, -1, false⟩, 0) := rfl
 have h2 : (FSt.mk [(aside, ⟨b, 0⟩)] (-1) (-1) false).sync aside = (⟨[(aside, ⟨b, b.length⟩)], -1, -1, false⟩, 0) := by
  simp [FSt.sync, FSt.may, FSt.act, lk, syncF, pt, gF, cnt]
 have h3 : (FSt.mk [(aside, ⟨b, b.length⟩)] (-1) (-1) false).rename aside name = (⟨[(name, ⟨b, b.length⟩)], -1, -1, false⟩, 0) := by
  simp [FSt.rename, FSt.may, FSt.act, lk, renF, pt, dl, gF, cnt]
 have hn : aside ∉ fs0.names := by simp [FSt.names, sortB, fs0, kys]
 unfold startP run3
 rw [if_neg hn, h1]
 simp only [h2, h3, ne_eq, not_true_eq_false, if_false]
end Go.Abs
end
section
namespace Go.Abs
open Go Go.Proofs Dig
theorem act_cases (s : FSt) (late : Bool) (g : FM → FM) : ((s.act late g).2 = 0 ∧ (s.act late g).1.fs = g s.fs) ∨ ((s.act late g).2 ≠ 0 ∧ ((s.act late g).1.fs = s.fs ∨ (late = true ∧ (s.act late g).1.fs = g s.fs))) := by
 unfold FSt.act
 split
 ·refine .inr ⟨(by decide : (7 : Int) ≠ 0), ?_⟩
  cases late
  ·exact .inl rfl
  ·exact .inr ⟨rfl, rfl⟩
 ·split
  ·exact .inr ⟨(by decide : (8 : Int) ≠ 0), .inl rfl⟩
  ·exact .inl ⟨rfl, rfl⟩
def Whole (s : FSt) (name : B) (b : B) : Prop := lk s.fs name = some ⟨b, b.length⟩
end Go.Abs
end
section
namespace Go.Abs
open Go Go.Proofs Dig
attribute [local irreducible] ibits byteAt strLt firstIdx
def logB : B := [108, 111, 103]
def newB : B := [110, 101, 119]
def is3 (v : Int) : Prop := v = 1 ∨ v = 2 ∨ v = 3
theorem cPut_any {v : Int} (hv : is3 v) (l : List Rc) (hl : l.length ≤ 1000) (hd : ∀ r ∈ l, r.deps.length < 100000) {R} (hy : (∀ r ∈ l, mayP v r = true) → R (.tup [.sl none 1 (byteEls (fileP v l)), vi 0]) []) (hn : (¬ ∀ r ∈ l, mayP v r = true) → R (.tup [.val (.slice none 0 0), vi 1]) []) :
  ACalls Tryz.prog 82 [vi v, .sl none 7 (recs l)] [] R := by
 rcases hv with rfl | rfl | rfl
 ·exact cPut_1 l hl hd hy hn
 ·exact cPut_v (.inl rfl) l hl hd hy hn
 ·exact cPut_v (.inr rfl) l hl hd hy hn
theorem cGet_any {v : Int} (hv : is3 v) (l : List Rc) (hm : ∀ r ∈ l, mayP v r = true) (hl : l.length ≤ 300) {R} (h : R (.tup [.agg (fileA v l), vi 0]) []) : ACalls Tryz.prog 83 [.sl none 1 (byteEls (fileP v l))] [] R := by
 exact cGet_v hv l hm hl h
theorem fileP_small {v : Int} {l : List Rc} (hm : ∀ r ∈ l, mayP v r = true) (hl : l.length ≤ 300) : (fileP v l).length < 1000000 := by
 have h := paysP_frames (v := v) (l := l) (t := []) (fun r hr => may_all (hm r hr)) (by simp; omega)
 rw [fileP_len]
 omega
theorem log_new : logB ≠ newB := by decide
def fsL (F : B) : FSt := ⟨[(logB, ⟨F, F.length⟩)], -1, -1, false⟩
theorem fsL_whole (F : B) : Whole (fsL F) logB F := by simp [Whole, fsL, lk]
theorem mod3 {a : Int} (h : 0 ≤ a ∧ a ≤ 255) : is3 (IntKind.i64.wrap (1 + IntKind.i64.wrap (a.tmod 3))) := by
 obtain ⟨n, rfl⟩ := Int.eq_ofNat_of_zero_le h.1
 have e : (n : Int).tmod 3 = ((n % 3 : Nat) : Int) := by
  rw [Int.tmod_eq_emod_of_nonneg (Int.natCast_nonneg _)]
  omega
 rw [e, wrap_i64 (x := ((n % 3 : Nat) : Int)) (by omega) (by omega), wrap_i64 (by omega) (by omega)]
 unfold is3
 omega
theorem fail_ok {s : FSt} {nb fb : Nat} (h : FOk s nb fb) {n : Int} (hn : -9223372036854775808 ≤ n ∧ n < 9223372036854775808) : FOk ⟨s.fs, capN n, s.fall, s.down⟩ nb fb := ⟨h.m, capN_ok hn, h.fall⟩
theorem fall_ok {s : FSt} {nb fb : Nat} (h : FOk s nb fb) {n : Int} (hn : -9223372036854775808 ≤ n ∧ n < 9223372036854775808) : FOk ⟨s.fs, s.fail, capN n, s.down⟩ nb fb := ⟨h.m, h.fail, capN_ok hn⟩
theorem table_v {v : Int} (hv : v = 2 ∨ v = 3) (l : List Rc) (hl : l.length ≤ 1000) (hm : ∀ r ∈ l, mayP v r = true) (x : AV) (hx : x = .sl none 1 (ints (endsR v l))) (n : Int) {R} (h : R (.tup [.ptr 0 0, vi 0]) (tblS (tblL v [] l))) :
  ACalls Tryz.prog 144 [.agg [vi v, .sl none 7 (recs l), x, vi n]] [] R := by
 subst hx
 refine acalls_of_xwp (an := an144) tab_ok Tryz.func144 ?_
 have hsl := recs_length l
 conv => whnf
 refine New_nil ?_
 conv => whnf
 by_cases hl0 : l = []
 ·subst hl0
  refine LoopP.step ?_
  conv => whnf
  exact h
 have hi : 0 < l.length := List.length_pos_iff.2 hl0
 rw [tblS_ne (show tblL v [] l ≠ [] from by
  obtain ⟨j, hj⟩ : ∃ j, l.length = j + 1 := ⟨l.length - 1, by omega⟩
  have e : tblL v [] l = tbP v l (j + 1) := by unfold tbP; rw [← hj, List.take_length]
  rw [e, tbP_succ (by omega)]
  exact addT_ne (ne1 hv) _ _)] at h
 refine LoopP.step ?_
 conv => whnf
 refine br_true (by rw [hsl]; exact decide_eq_true (by omega)) ?_
 (conv => whnf); (repeat ((with_reducible refine must_intro ?_ ?_); exact decide_eq_true (by omega); (conv => whnf)))
 refine idxK_map_intro (show (0 : Int).toNat < l.length by simpa using hi) ?_
 rw [show l[(0 : Int).toNat]'(by simpa using hi) = l[0] from rfl]
 conv => whnf
 refine sPut_vF hv l[0] (hm _ (List.getElem_mem hi)) ?_
 conv => whnf
 rw [show IntKind.i64.wrap ((0 : Int) + 1) = ((1 : Nat) : Int) from rfl]
 have hT1 : addT v [] l[0] = tbP v l 1 := (tbP_succ hi).symm
 rw [hT1]
 refine LoopP.ind2 (fun (i : Nat) (T : List B) => [(13, vi i)]) (fun i T => [(freshN 9 0, tblO (freshN 22 0) (freshN 22 1) T), (freshN 22 0, tblR T), (freshN 22 1, tblM T)]) (fun i _ => l.length - i) (fun i T => 1 ≤ i ∧ i ≤ l.length ∧ T = tbP v l i) 1 _ rfl ⟨by omega, hi, rfl⟩ ?_
 rintro i T ⟨h00, h0, hT⟩ IH
 conv => whnf
 refine br_intro (fun hc => ?_) (fun hc => ?_)
 ·have hi := lt_of_decE hsl hc
  have hmt : ∀ r ∈ l.take i, mayP v r = true := fun r hr => hm r (List.mem_of_mem_take hr)
  have hTl : T.length ≤ 18000 := by rw [hT]; exact tbP_len hl hmt
  have IH := IH (i + 1) _ ⟨by omega, hi, rfl⟩ (by omega)
  rw [tbP_succ hi, ← hT] at IH
  (conv => whnf); (repeat ((with_reducible refine must_intro ?_ ?_); exact decide_eq_true (by omega); (conv => whnf)))
  refine idxK_map_intro (show (i : Int).toNat < l.length by simpa using hi) ?_
  rw [show l[(i : Int).toNat]'(by simpa using hi) = l[i] from by congr 1]
  conv => whnf
  refine sPut_vO hv l[i] T (by omega) (hm _ (List.getElem_mem hi)) ?_
  conv => whnf
  rw [i64_nat (by omega)]
  exact IH
 ·have hi := ge_of_decE hsl hc
  rw [show tbP v l i = tblL v [] l from by unfold tbP; rw [List.take_of_length_le hi]] at hT
  subst hT
  conv => whnf
  exact h
theorem jframes_v {v : Int} (hv : v = 2 ∨ v = 3) (r : Rc) (hm : mayP v r = true) (t : List B) (ht : t.length < 80000) {R} (h : R (.tup [.sl none 1 (byteEls (framesP (payP v t r))), vi 0]) (tblS (addT v t r))) :
  ACalls Tryz.prog 145 [vi v, .ptr 0 0, .agg r.enc] (tblS t) R := by
 refine acalls_of_xwp (an := { an145 with keep := [(4, [1, 9, 10, 20, 21, 22])] }) tab_ok Tryz.func145 ?_
 rw [tblS_ne (addT_ne (ne1 hv) t r)] at h
 by_cases h0 : t = []
 ·subst h0
  obtain ⟨t, ht0⟩ : ∃ t : List B, t = [] := ⟨_, rfl⟩
  rw [show tblS [] = [tblF] from rfl]
  conv => whnf
  refine sPut_vF hv r hm ?_
  rw [← ht0] at h ⊢
  have ht : t.length < 80000 := by rw [ht0]; simp
  have hpl := payP_lens (t := t) (may_all hm) (by omega)
  have hpf := payP_frames (t := t) (may_all hm) (by omega)
  have hpc := payP_len (v := v) (t := t) (may_all hm).deps
  generalize hps : payP v t r = ps at hpl hpf hpc h ⊢
  have hrl := rowsB_length ps
  conv => whnf
  refine LoopP.step ?_
  conv => whnf
  refine br_true (by rw [hrl]; exact decide_eq_true (by omega)) ?_
  (conv => whnf); (repeat ((with_reducible refine must_intro ?_ ?_); exact decide_eq_true (by omega); (conv => whnf)))
  refine idxK_map_intro (show (0 : Int).toNat < ps.length from by show 0 < ps.length; omega) ?_
  rw [show ps[(0 : Int).toNat]'(by show 0 < ps.length; omega) = ps[0] from rfl]
  conv => whnf
  refine ACalls.args (leL.cons (le_nil 1) (leL.refl _)) (framePut_calls [] ps[0] (by simp) (hpl _ (List.getElem_mem _)).1 (hpl _ (List.getElem_mem _)).2 ?_)
  have h1 : frameP ps[0] = framesP (ps.take 1) := by
   rw [show ps.take 1 = [] ++ [ps[0]] from by cases ps with | nil => simp at hpc | cons a l => rfl, framesP_snoc]
   rfl
  rw [List.nil_append, h1]
  conv => whnf
  rw [show IntKind.i64.wrap ((0 : Int) + 1) = ((1 : Nat) : Int) from rfl]
  refine LoopP.ind2 (fun (k : Nat) (c : B) => [(10, .sl none 1 (byteEls c)), (22, vi k)]) (fun k c => [(0, tblO (freshN 17 0) (freshN 17 1) (addT v t r)), (freshN 17 0, tblR (addT v t r)), (freshN 17 1, tblM (addT v t r))]) (fun k _ => ps.length - k) (fun k c => k ≤ ps.length ∧ c = framesP (ps.take k)) 1 _ rfl ⟨by omega, rfl⟩ ?_
  rintro k c ⟨hk0, hc0⟩ IH2
  have hcl : c.length ≤ 3008 := by have := framesP_part ps k; rw [hc0]; omega
  conv => whnf
  refine br_intro (fun hk => ?_) (fun hk => ?_)
  ·have hk := lt_of_decE hrl hk
   have hp := hpl _ (List.getElem_mem hk)
   have hS : c ++ frameP ps[k] = framesP (ps.take (k + 1)) := by
    rw [hc0, List.take_succ_eq_append_getElem hk, framesP_snoc]
   have IH2 := IH2 (k + 1) _ ⟨hk, hS⟩ (by omega)
   (conv => whnf); (repeat ((with_reducible refine must_intro ?_ ?_); exact decide_eq_true (by omega); (conv => whnf)))
   refine idxK_map_intro (show (k : Int).toNat < ps.length by simpa using hk) ?_
   rw [show ps[(k : Int).toNat]'(by simpa using hk) = ps[k] from by congr 1]
   conv => whnf
   refine framePut_calls c ps[k] (by omega) hp.1 hp.2 ?_
   conv => whnf
   rw [i64_nat (by omega)]
   exact IH2
  ·have hk := ge_of_decE hrl hk
   rw [List.take_of_length_le hk] at hc0
   subst hc0
   conv => whnf
   exact h
 ·rw [tblS_ne h0]
  conv => whnf
  refine sPut_vO hv r t (by omega) hm ?_
  have hpl := payP_lens (t := t) (may_all hm) (by omega)
  have hpf := payP_frames (t := t) (may_all hm) (by omega)
  have hpc := payP_len (v := v) (t := t) (may_all hm).deps
  generalize hps : payP v t r = ps at hpl hpf hpc h ⊢
  have hrl := rowsB_length ps
  conv => whnf
  refine LoopP.step ?_
  conv => whnf
  refine br_true (by rw [hrl]; exact decide_eq_true (by omega)) ?_
  (conv => whnf); (repeat ((with_reducible refine must_intro ?_ ?_); exact decide_eq_true (by omega); (conv => whnf)))
  refine idxK_map_intro (show (0 : Int).toNat < ps.length from by show 0 < ps.length; omega) ?_
  rw [show ps[(0 : Int).toNat]'(by show 0 < ps.length; omega) = ps[0] from rfl]
  conv => whnf
  refine ACalls.args (leL.cons (le_nil 1) (leL.refl _)) (framePut_calls [] ps[0] (by simp) (hpl _ (List.getElem_mem _)).1 (hpl _ (List.getElem_mem _)).2 ?_)
  have h1 : frameP ps[0] = framesP (ps.take 1) := by
   rw [show ps.take 1 = [] ++ [ps[0]] from by cases ps with | nil => simp at hpc | cons a l => rfl, framesP_snoc]
   rfl
  rw [List.nil_append, h1]
  conv => whnf
  rw [show IntKind.i64.wrap ((0 : Int) + 1) = ((1 : Nat) : Int) from rfl]
  refine LoopP.ind2 (fun (k : Nat) (c : B) => [(10, .sl none 1 (byteEls c)), (22, vi k)]) (fun k c => [(0, tblO 1 2 (addT v t r)), (1, tblR (addT v t r)), (2, tblM (addT v t r))]) (fun k _ => ps.length - k) (fun k c => k ≤ ps.length ∧ c = framesP (ps.take k)) 1 _ rfl ⟨by omega, rfl⟩ ?_
  rintro k c ⟨hk0, hc0⟩ IH2
  have hcl : c.length ≤ 3008 := by have := framesP_part ps k; rw [hc0]; omega
  conv => whnf
  refine br_intro (fun hk => ?_) (fun hk => ?_)
  ·have hk := lt_of_decE hrl hk
   have hp := hpl _ (List.getElem_mem hk)
   have hS : c ++ frameP ps[k] = framesP (ps.take (k + 1)) := by
    rw [hc0, List.take_succ_eq_append_getElem hk, framesP_snoc]
   have IH2 := IH2 (k + 1) _ ⟨hk, hS⟩ (by omega)
   (conv => whnf); (repeat ((with_reducible refine must_intro ?_ ?_); exact decide_eq_true (by omega); (conv => whnf)))
   refine idxK_map_intro (show (k : Int).toNat < ps.length by simpa using hk) ?_
   rw [show ps[(k : Int).toNat]'(by simpa using hk) = ps[k] from by congr 1]
   conv => whnf
   refine framePut_calls c ps[k] (by omega) hp.1 hp.2 ?_
   conv => whnf
   rw [i64_nat (by omega)]
   exact IH2
  ·have hk := ge_of_decE hrl hk
   rw [List.take_of_length_le hk] at hc0
   subst hc0
   conv => whnf
   exact h
theorem rCloneO_calls (l : List Rc) (hl : l.length < 1000000) {R} (h1 : l = [] → R (.val (.slice none 0 0)) []) (h2 : R (.sl (some 0) 7 (recs l)) [.row 67 7 (recs l).length]) :
  ACalls Tryz.prog 146 [.sl none 7 (recs l)] [] R := by
 refine acalls_of_xwp (an := an146) tab_ok Tryz.func146 ?_
 have hsl := recs_length l
 conv => whnf
 intro b hb
 refine br_intro (fun g => ?_) (fun g => ?_)
 ·have e := hb g
  have e : l = [] := by
   cases l with
   | nil => rfl
   | cons r l => simp [recs] at e
  conv => whnf
  exact h1 e
 ·conv => whnf
  refine ⟨rfl, (by show (0 + (recs l).length) * (88 + 1) ≤ _; omega), ?_⟩
  conv => whnf
  rw [show [].length + (recs l).length = (recs l).length by simp, show [] ++ recs l = recs l from rfl]
  exact h2
theorem iCloneO_calls (b : List Nat) (hb : b.length < 1000000) {R} (h1 : b = [] → R (.val (.slice none 0 0)) []) (h : R (.sl (some 0) 1 (ints b)) [.row 3 1 b.length]) : ACalls Tryz.prog 147 [.sl none 1 (ints b)] [] R := by
 refine acalls_of_xwp (an := { an147 with keepRes := true }) tab_ok Tryz.func147 ?_
 have hsl := ints_length b
 conv => whnf
 intro p hp
 refine br_intro (fun g => ?_) (fun g => ?_)
 ·have e := hp g
  have e : b = [] := by cases b with | nil => rfl | cons a b => cases e
  conv => whnf
  exact h1 e
 ·conv => whnf
  refine ⟨rfl, (by show (0 + (ints b).length) * (8 + 1) ≤ _; omega), ?_⟩
  conv => whnf
  rw [show [] ++ ints b = ints b from rfl, hsl, show [].length + b.length = b.length by simp]
  exact h
def moreP (v : Int) (l : List Rc) (r : Rc) : B := framesP (payP v (tblL v [] l) r)
theorem fileP_snoc (v : Int) (l : List Rc) (r : Rc) : fileP v (l ++ [r]) = fileP v l ++ moreP v l r := by
 unfold fileP moreP
 rw [paysP_append, framesP_append, List.append_assoc]
 simp [paysP]
theorem endsR_snoc (v : Int) (l : List Rc) (r : Rc) : endsR v (l ++ [r]) = endsR v l ++ [(fileP v (l ++ [r])).length] := by
 unfold endsR
 rw [List.length_append, List.length_singleton, List.range_succ, List.map_append]
 congr 1
 ·refine List.map_congr_left fun i hi => ?_
  have hi := List.mem_range.1 hi
  rw [List.take_append_of_le_length (by omega)]
 ·rw [List.map_singleton, show l.length + 1 = (l ++ [r]).length by simp, List.take_length]
theorem recs_snoc (l : List Rc) (r : Rc) : recs (l ++ [r]) = recs l ++ [r.enc] := by simp [recs]
theorem ints_snoc (l : List Nat) (n : Nat) : ints (l ++ [n]) = ints l ++ [[vi (n : Int)]] := by simp [ints]
theorem jframes_vF {v : Int} (hv : v = 2 ∨ v = 3) (r : Rc) (hm : mayP v r = true) (t : List B) (ht : t = []) {R} (h : R (.tup [.sl none 1 (byteEls (framesP (payP v t r))), vi 0]) [tblO 1 2 (addT v t r), tblR (addT v t r), tblM (addT v t r)]) :
  ACalls Tryz.prog 145 [vi v, .ptr 0 0, .agg r.enc] [tblF] R := by
 have h1 := jframes_v hv r hm t (by rw [ht]; simp) (R := R)
 rw [tblS_ne (addT_ne (ne1 hv) t r)] at h1
 have h2 := h1 h
 rw [ht] at h2
 exact h2
theorem jframes_vO {v : Int} (hv : v = 2 ∨ v = 3) (r : Rc) (hm : mayP v r = true) (t : List B) (ht : t ≠ []) (hl : t.length < 80000) {R} (h : R (.tup [.sl none 1 (byteEls (framesP (payP v t r))), vi 0]) [tblO 1 2 (addT v t r), tblR (addT v t r), tblM (addT v t r)]) :
  ACalls Tryz.prog 145 [vi v, .ptr 0 0, .agg r.enc] [tblO 1 2 t, tblR t, tblM t] R := by
 have h1 := jframes_v hv r hm t hl (R := R)
 rw [tblS_ne (addT_ne (ne1 hv) t r)] at h1
 have h2 := h1 h
 rw [tblS_ne ht] at h2
 exact h2
theorem jAppend_v {v : Int} (hv : v = 2 ∨ v = 3) (s : FSt) (name : B) (hn : name.length < 1000000) {nb fb : Nat} (hk : FOk s nb fb) (hfb : fb ≤ 80000000) (l : List Rc) (hl : l.length ≤ 300) (hm : ∀ r ∈ l, mayP v r = true) (r : Rc) (hr : mayP v r = true) {R}
  (h1 : (s.append name (moreP v l r)).2 ≠ 0 → R (.tup [zF, vi (s.append name (moreP v l r)).2]) [fsC (s.append name (moreP v l r)).1 1, fsM (s.append name (moreP v l r)).1])
  (h2 : (s.append name (moreP v l r)).2 = 0 → R (.tup [.agg (fileA v (l ++ [r])), vi 0]) [fsC (s.append name (moreP v l r)).1 1, fsM (s.append name (moreP v l r)).1]) :
  ACalls Tryz.prog 115 [.ptr 0 0, vs name, .agg (fileA v l), .agg r.enc] [fsC s 1, fsM s] R := by
 have hv13 : 1 ≤ v ∧ v ≤ 3 := by omega
 refine ACalls.res ?_
 refine acalls_of_xwp (an := an115) tab_ok Tryz.func115 ?_
 have hM : ∀ x ∈ l, MayR v x := fun x hx => may_all (hm x hx)
 have hMr := may_all hr
 have hfl := fileP_small hm hl
 have htl := tblL_len (v := v) (l := l) (t := []) hM
 simp at htl
 have hpf := payP_frames (v := v) (t := tblL v [] l) hMr (by omega)
 have hsl := recs_length l
 have hel := endsR_length v l
 have hil := ints_length (endsR v l)
 have hml : (moreP v l r).length ≤ 3000 := hpf
 conv => whnf
 refine br_false (decide_eq_false (by omega)) ?_
 conv => whnf
 refine br_false (decide_eq_false (by omega)) ?_
 conv => whnf
 refine table_v hv l (by omega) hm _ rfl _ ?_
 obtain ⟨T, hT⟩ : ∃ T, T = tblL v [] l := ⟨_, rfl⟩
 have hmo : moreP v l r = framesP (payP v T r) := by rw [hT]; rfl
 rw [← hT] at htl ⊢
 rw [hmo] at h1 h2 hml
 have hend : IntKind.i64.wrap (((fileP v l).length : Int) + ((byteEls (framesP (payP v T r))).length : Int)) = ((fileP v (l ++ [r])).length : Int) := by
  rw [fileP_snoc, hmo, List.length_append, bel_length, wrap_i64 (by omega) (by omega)]
  omega
 by_cases hl0 : T = []
 ·rw [show tblS T = [tblF] from by rw [hl0]; rfl]
  conv => whnf
  refine jframes_vF hv r hr T hl0 ?_
  conv => whnf
  refine Append_calls s name (framesP (payP v T r)) hk.fail hk.fall (by omega) (by have := (hk.m.get name).2; omega) ?_
  conv => whnf
  refine br_intro (fun g => ?_) (fun g => ?_)
  ·conv => whnf
   exact res_same (h1 (by simpa using g))
  have h2 := h2 (by simpa using g)
  generalize framesP (payP v T r) = F at hml hend h2 ⊢
  conv => whnf
  rw [hend]
  refine rCloneO_calls l (by omega) (fun e => ?_) ?_
  ·conv => whnf
   refine Clone_calls r (by have := hMr.deps; omega) ?_
   conv => whnf
   refine ⟨by rw [bytes_rec]; simp only [List.length_cons, List.length_nil]; decide, ?_⟩
   conv => whnf
   obtain ⟨X, hXX⟩ : ∃ X, X = [r.enc] := ⟨_, rfl⟩
   have hX : recs (l ++ [r]) = X := by rw [recs_snoc, e, hXX]; rfl
   refine iCloneO_calls (endsR v l) (by omega) (fun e2 => ?_) ?_
   ·conv => whnf
    refine ⟨by rw [bytes_int]; simp only [List.length_cons, List.length_nil]; decide, ?_⟩
    conv => whnf
    have er : fileA v (l ++ [r]) = [vi v, .sl none 7 X, .sl none 1 [[vi ((fileP v (l ++ [r])).length : Int)]], vi ((fileP v (l ++ [r])).length : Int)] := by
     unfold fileA
     rw [endsR_snoc, e2, ← hX]
     rfl
    rw [er, hXX] at h2
    exact res_same h2
   ·conv => whnf
    refine ⟨hil.symm, by rw [hil, hel, bytes_int]; simp only [List.length_cons, List.length_nil]; omega, ?_⟩
    conv => whnf
    have er : fileA v (l ++ [r]) = [vi v, .sl none 7 X, .sl none 1 (ints (endsR v l) ++ [[vi ((fileP v (l ++ [r])).length : Int)]]), vi ((fileP v (l ++ [r])).length : Int)] := by
     unfold fileA
     rw [← hX, endsR_snoc, ints_snoc]
    rw [er, hXX] at h2
    exact res_same h2
  ·conv => whnf
   refine Clone_calls r (by have := hMr.deps; omega) ?_
   conv => whnf
   refine ⟨rfl, by rw [bytes_rec, hsl]; simp only [List.length_cons, List.length_nil]; omega, ?_⟩
   conv => whnf
   obtain ⟨X, hXX⟩ : ∃ X, X = recs l ++ [r.enc] := ⟨_, rfl⟩
   have hX : recs (l ++ [r]) = X := by rw [recs_snoc, hXX]
   refine iCloneO_calls (endsR v l) (by omega) (fun e2 => ?_) ?_
   ·conv => whnf
    refine ⟨by rw [bytes_int]; simp only [List.length_cons, List.length_nil]; decide, ?_⟩
    conv => whnf
    have er : fileA v (l ++ [r]) = [vi v, .sl none 7 X, .sl none 1 [[vi ((fileP v (l ++ [r])).length : Int)]], vi ((fileP v (l ++ [r])).length : Int)] := by
     unfold fileA
     rw [endsR_snoc, e2, ← hX]
     rfl
    rw [er, hXX] at h2
    exact res_same h2
   ·conv => whnf
    refine ⟨hil.symm, by rw [hil, hel, bytes_int]; simp only [List.length_cons, List.length_nil]; omega, ?_⟩
    conv => whnf
    have er : fileA v (l ++ [r]) = [vi v, .sl none 7 X, .sl none 1 (ints (endsR v l) ++ [[vi ((fileP v (l ++ [r])).length : Int)]]), vi ((fileP v (l ++ [r])).length : Int)] := by
     unfold fileA
     rw [← hX, endsR_snoc, ints_snoc]
    rw [er, hXX] at h2
    exact res_same h2
 ·rw [tblS_ne hl0]
  conv => whnf
  refine jframes_vO hv r hr T hl0 (by omega) ?_
  conv => whnf
  refine Append_calls s name (framesP (payP v T r)) hk.fail hk.fall (by omega) (by have := (hk.m.get name).2; omega) ?_
  conv => whnf
  refine br_intro (fun g => ?_) (fun g => ?_)
  ·conv => whnf
   exact res_same (h1 (by simpa using g))
  have h2 := h2 (by simpa using g)
  generalize framesP (payP v T r) = F at hml hend h2 ⊢
  conv => whnf
  rw [hend]
  refine rCloneO_calls l (by omega) (fun e => ?_) ?_
  ·conv => whnf
   refine Clone_calls r (by have := hMr.deps; omega) ?_
   conv => whnf
   refine ⟨by rw [bytes_rec]; simp only [List.length_cons, List.length_nil]; decide, ?_⟩
   conv => whnf
   obtain ⟨X, hXX⟩ : ∃ X, X = [r.enc] := ⟨_, rfl⟩
   have hX : recs (l ++ [r]) = X := by rw [recs_snoc, e, hXX]; rfl
   refine iCloneO_calls (endsR v l) (by omega) (fun e2 => ?_) ?_
   ·conv => whnf
    refine ⟨by rw [bytes_int]; simp only [List.length_cons, List.length_nil]; decide, ?_⟩
    conv => whnf
    have er : fileA v (l ++ [r]) = [vi v, .sl none 7 X, .sl none 1 [[vi ((fileP v (l ++ [r])).length : Int)]], vi ((fileP v (l ++ [r])).length : Int)] := by
     unfold fileA
     rw [endsR_snoc, e2, ← hX]
     rfl
    rw [er, hXX] at h2
    exact res_same h2
   ·conv => whnf
    refine ⟨hil.symm, by rw [hil, hel, bytes_int]; simp only [List.length_cons, List.length_nil]; omega, ?_⟩
    conv => whnf
    have er : fileA v (l ++ [r]) = [vi v, .sl none 7 X, .sl none 1 (ints (endsR v l) ++ [[vi ((fileP v (l ++ [r])).length : Int)]]), vi ((fileP v (l ++ [r])).length : Int)] := by
     unfold fileA
     rw [← hX, endsR_snoc, ints_snoc]
    rw [er, hXX] at h2
    exact res_same h2
  ·conv => whnf
   refine Clone_calls r (by have := hMr.deps; omega) ?_
   conv => whnf
   refine ⟨rfl, by rw [bytes_rec, hsl]; simp only [List.length_cons, List.length_nil]; omega, ?_⟩
   conv => whnf
   obtain ⟨X, hXX⟩ : ∃ X, X = recs l ++ [r.enc] := ⟨_, rfl⟩
   have hX : recs (l ++ [r]) = X := by rw [recs_snoc, hXX]
   refine iCloneO_calls (endsR v l) (by omega) (fun e2 => ?_) ?_
   ·conv => whnf
    refine ⟨by rw [bytes_int]; simp only [List.length_cons, List.length_nil]; decide, ?_⟩
    conv => whnf
    have er : fileA v (l ++ [r]) = [vi v, .sl none 7 X, .sl none 1 [[vi ((fileP v (l ++ [r])).length : Int)]], vi ((fileP v (l ++ [r])).length : Int)] := by
     unfold fileA
     rw [endsR_snoc, e2, ← hX]
     rfl
    rw [er, hXX] at h2
    exact res_same h2
   ·conv => whnf
    refine ⟨hil.symm, by rw [hil, hel, bytes_int]; simp only [List.length_cons, List.length_nil]; omega, ?_⟩
    conv => whnf
    have er : fileA v (l ++ [r]) = [vi v, .sl none 7 X, .sl none 1 (ints (endsR v l) ++ [[vi ((fileP v (l ++ [r])).length : Int)]]), vi ((fileP v (l ++ [r])).length : Int)] := by
     unfold fileA
     rw [← hX, endsR_snoc, ints_snoc]
    rw [er, hXX] at h2
    exact res_same h2
theorem r9Put_any {v : Int} (hv : is3 v) (t : List B) (ht : t.length < 80000) (r : Rc) (hm : mayP v r = true) {R} (h : R (.tup [.sl none 1 (strs (payP v t r)), .sl none 1 (strs (addT v t r)), vi 0]) []) : ACalls Tryz.prog 127 [vi v, .sl none 1 (strs t), .agg r.enc] [] R := by
 rcases hv with rfl | rfl | rfl
 ·exact r9Put_1 t ht r hm h
 ·exact r9Put_2 t ht r hm h
 ·exact r9Put_3 t ht r hm h
theorem fileP_snoc_take {v : Int} {l : List Rc} {i : Nat} (hi : i < l.length) : fileP v (l.take (i + 1)) = fileP v (l.take i) ++ framesP (payP v (tbP v l i) l[i]) := by
 rw [List.take_succ_eq_append_getElem hi, fileP_snoc]
 rfl
theorem ref10Put_calls {v : Int} (hv : is3 v) (l : List Rc) (hl : l.length ≤ 300) (hm : ∀ r ∈ l, mayP v r = true) {R} (h : R (.tup [vs (fileP v l), .sl none 1 (ints (endsR v l)), vi 0]) []) : ACalls Tryz.prog 84 [vi v, .sl none 7 (recs l)] [] R := by
 refine acalls_of_xwp (an := an84) tab_ok Tryz.func84 ?_
 have hsl := recs_length l
 have hmt : ∀ i, ∀ r ∈ l.take i, mayP v r = true := fun i r hr => hm r (List.mem_of_mem_take hr)
 have hfl : ∀ i, (fileP v (l.take i)).length < 1000000 := fun i => fileP_small (hmt i) (by rw [List.length_take]; omega)
 conv => whnf
 refine ref6Head_calls (by unfold is3 at hv; omega) (by unfold is3 at hv; omega) ?_
 conv => whnf
 refine LoopP.ind3 (fun (i : Nat) (X : B) (E : List Nat) => [(7, vs X), (9, .sl (some (nameOf 23)) 1 (ints E)), (10, .sl none 1 (strs (tbP v l i))), (11, vi i)]) (fun i X E => [(nameOf 23, .row 3 1 i)]) (fun i _ _ => l.length - i) (fun i X E => i ≤ l.length ∧ X = fileP v (l.take i) ∧ E = endsR v (l.take i)) 0 (headP v) [] rfl ⟨by omega, by simp [fileP, paysP, framesP], rfl⟩ ?_
 rintro i X E ⟨h0, hX, hE⟩ IH
 have hEl : (ints E).length = i := by rw [ints_length, hE, endsR_length, List.length_take]; omega
 have hXl : X.length < 1000000 := by rw [hX]; exact hfl i
 conv => whnf
 refine br_intro (fun hc => ?_) (fun hc => ?_)
 ·have hi := lt_of_decE hsl hc
  have hTl := tbP_len (by omega) (hmt i)
  have hmi := hm _ (List.getElem_mem hi)
  have hXS := fileP_snoc_take (v := v) hi
  have hES : endsR v (l.take (i + 1)) = endsR v (l.take i) ++ [(fileP v (l.take (i + 1))).length] := by
   rw [List.take_succ_eq_append_getElem hi, endsR_snoc]
  have hTS : tbP v l (i + 1) = addT v (tbP v l i) l[i] := tbP_succ hi
  have IH := IH (i + 1) _ _ ⟨hi, rfl, rfl⟩ (by omega)
  have hfl1 := hfl (i + 1)
  rw [hES, ints_snoc, hXS, ← hX, ← hE, hTS] at IH
  rw [hXS, ← hX, List.length_append] at hfl1
  (conv => whnf); (repeat ((with_reducible refine must_intro ?_ ?_); exact decide_eq_true (by omega); (conv => whnf)))
  refine idxK_map_intro (show (i : Int).toNat < l.length by simpa using hi) ?_
  rw [show l[(i : Int).toNat]'(by simpa using hi) = l[i] from by congr 1]
  generalize l[i] = r at IH hmi hfl1 ⊢
  generalize tbP v l i = T at IH hTl hfl1 ⊢
  have hpl := payP_lens (t := T) (may_all hmi) (by omega)
  conv => whnf
  refine r9Put_any hv T (by omega) r hmi ?_
  have hpc := payP_len (v := v) (t := T) (may_all hmi).deps
  generalize payP v T r = ps at IH hpl hfl1 hpc ⊢
  have hpsl := strs_length ps
  conv => whnf
  refine LoopP.ind2 (fun (k : Nat) (Y : B) => [(7, vs Y), (15, vi k)]) (fun k Y => [(nameOf 23, .row 3 1 i)]) (fun k _ => ps.length - k) (fun k Y => k ≤ ps.length ∧ Y = X ++ framesP (ps.take k)) 0 X rfl ⟨by omega, by simp [framesP]⟩ ?_
  rintro k Y ⟨k0, hY⟩ IH2
  have hpt := framesP_part ps k
  have hYl : Y.length < 1000000 := by rw [hY, List.length_append]; omega
  conv => whnf
  refine br_intro (fun hk => ?_) (fun hk => ?_)
  ·have hk := lt_of_decE hpsl hk
   have hp := hpl _ (List.getElem_mem hk)
   have hYS : Y ++ frameP ps[k] = X ++ framesP (ps.take (k + 1)) := by
    rw [hY, List.take_succ_eq_append_getElem hk, framesP_snoc, List.append_assoc]
   have IH2 := IH2 (k + 1) _ ⟨hk, hYS⟩ (by omega)
   (conv => whnf); (repeat ((with_reducible refine must_intro ?_ ?_); exact decide_eq_true (by omega); (conv => whnf)))
   refine idxK_map_intro (show (k : Int).toNat < ps.length by simpa using hk) ?_
   rw [show ps[(k : Int).toNat]'(by simpa using hk) = ps[k] from by congr 1]
   generalize ps[k] = p at hp IH2 ⊢
   have hfp := frameP_len hp.2
   conv => whnf
   refine ref6Put_calls p hp.1 hp.2 ?_
   conv => whnf
   refine must_intro (decide_eq_true (by rw [size_ofB, size_ofB]; omega)) ?_
   rw [ofB_append]
   conv => whnf
   rw [i64_nat (by omega)]
   exact IH2
  ·have hk := ge_of_decE hpsl hk
   rw [List.take_of_length_le hk] at hY
   clear IH2
   subst hY
   conv => whnf
   rw [size_ofB]
   refine ⟨hEl.symm, by rw [hEl, bytes_int]; simp only [List.length_cons, List.length_nil]; omega, ?_⟩
   conv => whnf
   rw [i64_nat (by omega), hEl]
   exact IH
 ·have hi := ge_of_decE hsl hc
  rw [List.take_of_length_le hi] at hX hE
  subst hX hE
  conv => whnf
  exact h
theorem rpt_len (m : FM) (n : B) (f : Fl) : (rpt m n f).length ≤ m.length + 1 := by
 have h := List.length_filter_le (fun p : B × Fl => decide (p.1 ≠ n)) m
 have hc := cutK_le n (wF m n) (wF m n).length
 unfold rpt
 simp only [List.length_append, List.length_take, List.length_cons, List.length_drop]
 unfold wF at hc ⊢
 omega
theorem rpt_mem {m : FM} {n : B} {f : Fl} {p : B × Fl} (h : p ∈ rpt m n f) : p = (n, f) ∨ (p ∈ m ∧ p.1 ≠ n) := by
 have hw : ∀ q, q ∈ wF m n → q ∈ m ∧ q.1 ≠ n := fun q hq => by
  have := List.mem_filter.1 hq
  exact ⟨this.1, by simpa using this.2⟩
 unfold rpt at h
 rcases List.mem_append.1 h with h | h
 ·exact .inr (hw p (List.mem_of_mem_take h))
 ·rcases List.mem_cons.1 h with h | h
  ·exact .inl h
  ·exact .inr (hw p (List.mem_of_mem_drop h))
theorem ROk.act {s : FSt} (h : ROk s) (late : Bool) {g : FM → FM} (h1 : (g s.fs).length < 900000) (h2 : ∀ x ∈ kys (g s.fs), x.length < 1000000) : ROk (s.act late g).1 := by
 unfold FSt.act
 split
 ·cases late
  ·exact ⟨h.len, h.names, cnt_ok h.fail, cnt_ok h.fall⟩
  ·exact ⟨h1, h2, cnt_ok h.fail, cnt_ok h.fall⟩
 ·split
  ·exact ⟨h.len, h.names, cnt_ok h.fail, cnt_ok h.fall⟩
  ·exact ⟨h1, h2, cnt_ok h.fail, cnt_ok h.fall⟩
theorem rpt_names {m : FM} (h : ∀ x ∈ kys m, x.length < 1000000) {n : B} (hn : n.length < 1000000) (f : Fl) : ∀ x ∈ kys (rpt m n f), x.length < 1000000 := fun x hx => by
 obtain ⟨p, hp, rfl⟩ := List.mem_map.1 hx
 rcases rpt_mem hp with e | ⟨e, _⟩
 ·rw [e]; exact hn
 ·exact h _ (List.mem_map_of_mem e)
theorem wF_names {m : FM} (h : ∀ x ∈ kys m, x.length < 1000000) (n : B) : ∀ x ∈ kys (wF m n), x.length < 1000000 := fun x hx => by
 obtain ⟨p, hp, rfl⟩ := List.mem_map.1 hx
 exact h p.1 (List.mem_map_of_mem (List.mem_filter.1 hp).1)
theorem ROk.append {s : FSt} (h : ROk s) (hl : s.fs.length < 800000) {n : B} (hn : n.length < 1000000) (b : B) : ROk (s.rappend n b).1 ∧ (s.rappend n b).1.fs.length ≤ s.fs.length + 1 := by
 have hr := rpt_len s.fs n ⟨(gF s.fs n).b ++ b, (gF s.fs n).safe⟩
 unfold FSt.rappend
 split
 ·exact ⟨h, by show s.fs.length ≤ _; omega⟩
 ·refine ⟨h.act true (by show (rpt _ _ _).length < _; omega) (rpt_names h.names hn _), ?_⟩
  unfold FSt.act
  split
  ·exact hr
  ·split
   ·show s.fs.length ≤ _; omega
   ·exact hr
theorem ROk.sync {s : FSt} (h : ROk s) (hl : s.fs.length < 800000) {n : B} (hn : n.length < 1000000) : ROk (s.rsync n).1 := by
 have hr := rpt_len s.fs n ⟨(gF s.fs n).b, (gF s.fs n).b.length⟩
 unfold FSt.rsync
 split
 ·exact h
 ·exact h.act false (by show (rpt _ _ _).length < _; omega) (rpt_names h.names hn _)
theorem ROk.remove {s : FSt} (h : ROk s) (n : B) : ROk (s.rremove n).1 ∧ (s.rremove n).1.fs.length ≤ s.fs.length := by
 have hw : (wF s.fs n).length ≤ s.fs.length := List.length_filter_le _ _
 unfold FSt.rremove
 split
 ·exact ⟨h, Nat.le_refl _⟩
 ·have := h.len
  refine ⟨h.act false (by show (wF _ _).length < _; omega) (wF_names h.names n), ?_⟩
  unfold FSt.act
  split
  ·exact Nat.le_refl _
  ·split
   ·exact Nat.le_refl _
   ·exact hw
def rrun3 (s : FSt) (log new b : B) : FSt × Int :=
 if (s.rappend new b).2 ≠ 0 then s.rappend new b
 else if ((s.rappend new b).1.rsync new).2 ≠ 0 then (s.rappend new b).1.rsync new
 else ((s.rappend new b).1.rsync new).1.rrename new log
def rstart (s : FSt) (log new b : B) : FSt × Int :=
 if new ∈ kys s.fs then (if (s.rremove new).2 ≠ 0 then s.rremove new else rrun3 (s.rremove new).1 log new b) else rrun3 s log new b
theorem wF_none (m : FM) (n : B) : n ∉ kys (wF m n) := fun h => by
 obtain ⟨p, hp, e⟩ := List.mem_map.1 h
 have := (List.mem_filter.1 hp).2
 simp [e] at this
theorem rremove_gone {s : FSt} {n : B} (h : (s.rremove n).2 = 0) : gF (s.rremove n).1.fs n = flZ := by
 unfold FSt.rremove at h ⊢
 split
 ·rename_i hm
  rw [if_pos hm] at h
  exact absurd h hm
 ·rename_i hm
  rw [if_neg hm] at h
  rcases act_cases s false (fun m => wF m n) with ⟨_, f⟩ | ⟨e, _⟩
  ·rw [f]
   unfold gF
   rw [lk_none.2 (wF_none _ _)]
   rfl
  ·exact absurd h e
theorem rStart_calls (s : FSt) (hs : ROk s) (hsl : s.fs.length < 700000) (name aside : B) (hne : name ≠ aside) (hn : name.length < 1000000) (ha : aside.length < 1000000) (hba : (gF s.fs aside).b.length < 100000000) {v : Int} (hv : is3 v) (l : List Rc) (hl : l.length ≤ 300) (hm : ∀ r ∈ l, mayP v r = true) {R}
  (h : R (.tup [.agg (fsR (rstart s name aside (fileP v l)).1), vi (rstart s name aside (fileP v l)).2]) []) : ACalls Tryz.prog 72 [.agg (fsR s), vs name, vs aside, vi v, .sl none 7 (recs l)] [] R := by
 refine acalls_of_xwp (an := an72) tab_ok Tryz.func72 ?_
 have hfl := fileP_small hm hl
 conv => whnf
 refine ref10Put_calls hv l hl hm ?_
 generalize fileP v l = b at h hfl ⊢
 conv => whnf
 refine br_false (decide_eq_false (fun e => hne (ofB_inj e))) ?_
 conv => whnf
 refine rGet_calls s (by omega) aside ?_
 unfold rstart at h
 by_cases hin : aside ∈ kys s.fs
 ·rw [if_pos hin] at h
  rw [decide_eq_true hin]
  conv => whnf
  refine rRemove_calls s hs aside ?_
  have hs1 := (hs.remove aside).1
  have hl1 := (hs.remove aside).2
  have hg : (s.rremove aside).2 = 0 → (gF (s.rremove aside).1.fs aside).b.length < 100000000 := fun e => by rw [rremove_gone e]; show 0 < _; decide
  generalize s.rremove aside = se at h hs1 hl1 hg ⊢
  obtain ⟨s1, e1⟩ := se
  by_cases g1 : e1 = 0
  ·subst g1
   rw [if_neg (by simp)] at h
   have hba : (gF s1.fs aside).b.length < 100000000 := hg rfl
   have hs1 : ROk s1 := hs1
   have hl1 : s1.fs.length ≤ s.fs.length := hl1
   have hsl1 : s1.fs.length < 750000 := by omega
   clear hg hl1
   conv => whnf
   refine rAppend_calls s1 hs1 aside b ha (by omega) ?_
   have hz1 := (hs1.append (by omega) ha b).1
   have hzl1 := (hs1.append (by omega) ha b).2
   unfold rrun3 at h
   generalize s1.rappend aside b = se at h hz1 hzl1 ⊢
   obtain ⟨t1, e1⟩ := se
   by_cases g1 : e1 = 0
   ·subst g1
    rw [if_neg (by simp)] at h
    conv => whnf
    refine rSync_calls t1 hz1 aside ha ?_
    have hs2 := hz1.sync (by show t1.fs.length < _; have hzl1 : t1.fs.length ≤ s1.fs.length + 1 := hzl1; omega) ha
    generalize t1.rsync aside = se at h hs2 ⊢
    obtain ⟨t2, e2⟩ := se
    by_cases g2 : e2 = 0
    ·subst g2
     rw [if_neg (by simp)] at h
     conv => whnf
     refine rRename_calls t2 hs2 aside name ha hn ?_
     generalize t2.rrename aside name = se at h ⊢
     obtain ⟨t3, e3⟩ := se
     conv => whnf
     exact h
    ·rw [if_pos g2] at h
     conv => whnf
     refine br_false (by simpa using g2) ?_
     conv => whnf
     exact h
   ·rw [if_pos g1] at h
    conv => whnf
    refine br_false (by simpa using g1) ?_
    conv => whnf
    refine br_false (by simpa using g1) ?_
    conv => whnf
    exact h
  ·rw [if_pos g1] at h
   conv => whnf
   refine br_false (by simpa using g1) ?_
   conv => whnf
   refine br_false (by simpa using g1) ?_
   conv => whnf
   refine br_false (by simpa using g1) ?_
   conv => whnf
   exact h
 ·rw [if_neg hin] at h
  rw [decide_eq_false hin]
  have hsl : s.fs.length < 750000 := by omega
  conv => whnf
  refine rAppend_calls s hs aside b ha (by omega) ?_
  have hs1 := (hs.append (by omega) ha b).1
  have hl1 := (hs.append (by omega) ha b).2
  unfold rrun3 at h
  generalize s.rappend aside b = se at h hs1 hl1 ⊢
  obtain ⟨t1, e1⟩ := se
  by_cases g1 : e1 = 0
  ·subst g1
   rw [if_neg (by simp)] at h
   conv => whnf
   refine rSync_calls t1 hs1 aside ha ?_
   have hs2 := hs1.sync (by show t1.fs.length < _; have hl1 : t1.fs.length ≤ s.fs.length + 1 := hl1; omega) ha
   generalize t1.rsync aside = se at h hs2 ⊢
   obtain ⟨t2, e2⟩ := se
   by_cases g2 : e2 = 0
   ·subst g2
    rw [if_neg (by simp)] at h
    conv => whnf
    refine rRename_calls t2 hs2 aside name ha hn ?_
    generalize t2.rrename aside name = se at h ⊢
    obtain ⟨t3, e3⟩ := se
    conv => whnf
    exact h
   ·rw [if_pos g2] at h
    conv => whnf
    refine br_false (by simpa using g2) ?_
    conv => whnf
    exact h
  ·rw [if_pos g1] at h
   conv => whnf
   refine br_false (by simpa using g1) ?_
   conv => whnf
   refine br_false (by simpa using g1) ?_
   conv => whnf
   exact h
theorem ref6Version_calls {v : Int} (hv : is3 v) (rest : B) (hl : rest.length < 10000000) {R} (h : R (.tup [vi v, vi 0]) []) : ACalls Tryz.prog 129 [vs (headP v ++ rest)] [] R := by
 refine acalls_of_xwp (an := an129) tab_ok Tryz.func129 ?_
 obtain ⟨b, hb⟩ : ∃ b, b = headP v ++ rest := ⟨_, rfl⟩
 have hbl : b.length = 8 + rest.length := by rw [hb, List.length_append]; rfl
 have h3 : b.take 3 = [84, 80, 72] := by rw [hb]; rfl
 have h4 : b.take 4 = lettersB v := by rw [hb]; rfl
 have h8 : (b.drop 4).take 4 = w4 (Crc.sum (lettersB v)).toNat := by rw [hb]; rfl
 have hsz := size_ofB b
 rw [← hb]
 clear hb
 conv => whnf
 refine br_false (decide_eq_false (by omega)) ?_
 conv => whnf
 refine must_intro (decide_eq_true (by omega)) ?_
 conv => whnf
 have x3 : (ofB b).extract ((0 : Nat) : Int).toNat (Int.toNat 3) = ⟨#[84, 80, 72]⟩ := by
  rw [ofB_extract]
  show ofB ((b.take 3).drop 0) = _
  rw [h3]
  rfl
 have x4 : (ofB b).extract ((0 : Nat) : Int).toNat (Int.toNat 4) = ofB (lettersB v) := by
  rw [ofB_extract]
  show ofB ((b.take 4).drop 0) = _
  rw [h4]
  rfl
 have x8 : (ofB b).extract (Int.toNat 4) (Int.toNat 8) = ofB (w4 (Crc.sum (lettersB v)).toNat) := by
  rw [ofB_extract]
  show ofB ((b.take 8).drop 4) = _
  rw [List.drop_take, h8]
 have xb : byteAt (ofB b) (Int.toNat 3) = v := by
  have h3l : 3 < b.length := by omega
  have e : b[3] = UInt8.ofNat v.toNat := by
   have := List.getElem_of_eq h4 (i := 3) (by rw [List.length_take]; omega)
   rw [List.getElem_take] at this
   exact this
  show byteAt (ofB b) 3 = v
  rw [byteAt_ofB b h3l, e, u8_nat (by unfold is3 at hv; omega)]
  unfold is3 at hv
  omega
 refine br_false (by rw [x3]; simp) ?_
 conv => whnf
 refine must_intro (decide_eq_true (by omega)) ?_
 conv => whnf
 rw [x4]
 refine refSum_calls (lettersB v) (by show 4 < _; decide) ?_
 conv => whnf
 refine ref3Bytes_calls _ ?_
 conv => whnf
 refine must_intro (decide_eq_true (by omega)) ?_
 conv => whnf
 rw [x8]
 refine br_false (by simp) ?_
 conv => whnf
 refine must_intro (decide_eq_true (by omega)) ?_
 conv => whnf
 rw [xb]
 refine br_false (decide_eq_false (by unfold is3 at hv; omega)) ?_
 conv => whnf
 refine must_intro (decide_eq_true (by omega)) ?_
 conv => whnf
 rw [xb]
 refine br_false (decide_eq_false (by unfold is3 at hv; omega)) ?_
 conv => whnf
 refine must_intro (decide_eq_true (by omega)) ?_
 conv => whnf
 rw [xb, wrap_i64 (by unfold is3 at hv; omega) (by unfold is3 at hv; omega)]
 exact h
theorem ref6GetEnd_calls (b : B) (hb : b.length < 100000000) {R} (h : R (.tup [vs [], vi 0, vi 6]) []) : ACalls Tryz.prog 170 [vs b, vi (b.length : Int)] [] R := by
 refine acalls_of_xwp (an := an170) tab_ok Tryz.func170 ?_
 have hsz := size_ofB b
 conv => whnf
 refine br_false (decide_eq_false (by omega)) ?_
 conv => whnf
 refine br_true (by rw [hsz]; simp) ?_
 conv => whnf
 exact h
theorem ref6Run_calls (b : B) (hb : b.length < 100000000) {R} (h : R (.tup [.sl none 1 (strs []), .sl none 1 []]) []) : ACalls Tryz.prog 130 [vs b, vi (b.length : Int)] [] R := by
 refine acalls_of_xwp (an := an130) tab_ok Tryz.func130 ?_
 conv => whnf
 refine LoopP.step ?_
 conv => whnf
 refine ref6GetEnd_calls b hb ?_
 conv => whnf
 exact h
theorem ref9GetEnd_calls {v : Int} (hv : is3 v) {R} (h : R (.tup [.agg (Rc.enc ⟨0, [], 0, [], 0, 0, []⟩), vi 0, .sl none 1 [], vi 6]) []) : ACalls Tryz.prog 131 [vi v, .sl none 1 [], .sl none 1 [], vi 0] [] R := by
 refine ACalls.res ?_
 refine acalls_of_xwp (an := an131) tab_ok Tryz.func131 ?_
 conv => whnf
 refine br_false (decide_eq_false (by unfold is3 at hv; omega)) ?_
 conv => whnf
 refine br_false (decide_eq_false (by unfold is3 at hv; omega)) ?_
 conv => whnf
 refine LoopP.step ?_
 conv => whnf
 exact res_le (le_tup (leL.cons (le_agg (le_rec2 0 [] 0 0 0 [])) (leL.refl _))) rfl h
theorem ref10GetHead_calls {v : Int} (hv : is3 v) {R} (h : R (.tup [.agg (fileA v []), vi 0]) []) : ACalls Tryz.prog 85 [vs (fileP v [])] [] R := by
 refine ACalls.res ?_
 refine acalls_of_xwp (an := an85) tab_ok Tryz.func85 ?_
 have hf : fileP v [] = headP v ++ [] := by simp [fileP, paysP, framesP]
 have hl : (headP v ++ []).length = 8 := by rw [List.append_nil]; rfl
 rw [hf]
 obtain ⟨b, hb⟩ : ∃ b, b = headP v ++ [] := ⟨_, rfl⟩
 have hver := fun R hR => ref6Version_calls hv [] (by simp) (R := R) hR
 rw [← hb] at hl hver ⊢
 have hrun := fun R hR => ref6Run_calls b (by omega) (R := R) hR
 rw [hl] at hrun
 conv => whnf
 refine hver _ ?_
 conv => whnf
 refine hrun _ ?_
 conv => whnf
 refine LoopP.step ?_
 conv => whnf
 refine ref9GetEnd_calls hv ?_
 conv => whnf
 refine res_le (le_tup (leL.cons (le_agg (leL.cons (.refl _) (leL.cons (le_nil 7) (leL.cons (le_nil 1) (leL.refl _))))) (leL.refl _))) rfl ?_
 have hA : fileA v [] = [vi v, .sl none 7 [], .sl none 1 [], vi 8] := by
  unfold fileA
  rw [hf, ← hb, hl]
  rfl
 rw [hA] at h
 exact h
theorem rOpen_calls (s : FSt) (hl : s.fs.length < 900000) (name : B) {v : Int} (l : List Rc) (hin : name ∈ kys s.fs) (hb : (gF s.fs name).b = fileP v l) (hget : ∀ {R : AV → List AObj → Prop}, R (.tup [.agg (fileA v l), vi 0]) [] → ACalls Tryz.prog 85 [vs (fileP v l)] [] R) {R}
  (h : R (.tup [.agg (fsR s), .agg (fileA v l), vi 0]) []) : ACalls Tryz.prog 73 [.agg (fsR s), vs name] [] R := by
 refine acalls_of_xwp (an := { an73 with cst := [2] }) tab_ok Tryz.func73 ?_
 conv => whnf
 refine rGet_calls s (by omega) name ?_
 rw [decide_eq_true hin]
 unfold flE
 rw [hb]
 conv => whnf
 refine hget ?_
 conv => whnf
 refine br_false (decide_eq_false (by rw [size_ofB]; omega)) ?_
 conv => whnf
 exact h
theorem ref6RunAll_calls (s : B) (l : List B) (k : Nat) (hs : s.length < 10000000) (hk : k + (framesP l).length = s.length) (hd : s.drop k = framesP l) (hok : ∀ p ∈ l, 1 ≤ p.length ∧ p.length ≤ 2048) (hll : l.length < 1000000) {R} (h : R (.tup [.sl none 1 (strs l), .sl none 1 (ints (endsP k l))]) []) :
  ACalls Tryz.prog 130 [vs s, vi (k : Int)] [] R := by
 refine acalls_of_xwp (an := an130) tab_ok Tryz.func130 ?_
 conv => whnf
 refine LoopP.ind3 (fun (i : Nat) (A : List B) (E : List Nat) => [(1, vi ((k + (framesP A).length : Nat) : Int)), (6, .sl (some (nameOf 11)) 1 (strs A)), (7, .sl (some (nameOf 12)) 1 (ints E))]) (fun i A E => [(nameOf 11, .row 9 1 i), (nameOf 12, .row 3 1 i)]) (fun i _ _ => l.length + 1 - i) (fun i A E => i ≤ l.length ∧ A = l.take i ∧ E = (endsP k l).take i) 0 [] [] rfl ⟨by omega, rfl, rfl⟩ ?_
 rintro i A E ⟨h0, hA, hE⟩ IH
 have hel := endsP_length l k
 have hAl : (strs A).length = i := by rw [strs_length, hA, List.length_take]; omega
 have hEl : (ints E).length = i := by rw [ints_length, hE, List.length_take]; omega
 conv => whnf
 by_cases hi : i < l.length
 ·have hsp := framesP_split hi
  have hd1 : s.drop (k + (framesP (l.take i)).length) = frameP l[i] ++ framesP (l.drop (i + 1)) := by
   rw [← List.drop_drop, hd, hsp, List.append_assoc, List.drop_left]
  have htk := framesP_take hi
  have hle : (framesP l).length = (framesP (l.take i)).length + (frameP l[i]).length + (framesP (l.drop (i + 1))).length := by
   conv => lhs; rw [hsp]
   simp only [List.length_append]
  have hp := hok _ (List.getElem_mem hi)
  have hat := endsP_at l k i hi
  have hES : (endsP k l).take (i + 1) = E ++ [k + (framesP (l.take (i + 1))).length] := by
   rw [List.take_add_one, hat, hE]; rfl
  have hAS : l.take (i + 1) = A ++ [l[i]] := by rw [List.take_succ_eq_append_getElem hi, hA]
  have IH := IH (i + 1) _ _ ⟨hi, hAS.symm, hES.symm⟩ (by omega)
  have hkk : k + (framesP A).length + (frameP l[i]).length = k + (framesP (A ++ [l[i]])).length := by rw [← hAS, htk, hA, Nat.add_assoc]
  rw [hAS, ← hkk, strs_append, ints_snoc] at IH
  rw [← hA] at hd1
  have hlt : (framesP A).length + (frameP l[i]).length ≤ s.length := by rw [hA]; omega
  clear hsp htk hle hat hES hAS hkk
  refine ref6Get_calls s _ l[i] (k + (framesP A).length) hp.1 hp.2 hs hd1 ?_
  generalize l[i] = p at IH hp hlt ⊢
  conv => whnf
  refine ⟨hAl.symm, by rw [hAl, bytes_str]; simp only [List.length_cons, List.length_nil]; omega, ?_⟩
  conv => whnf
  refine ⟨hEl.symm, by rw [hEl, bytes_int]; simp only [List.length_cons, List.length_nil]; omega, ?_⟩
  conv => whnf
  rw [hAl, hEl]
  exact IH
 ·have : i = l.length := by omega
  subst this
  rw [List.take_length] at hA
  rw [List.take_of_length_le (by omega)] at hE
  subst hA hE
  rw [hk]
  refine ref6GetEnd_calls s (by omega) ?_
  conv => whnf
  exact h
def wkA (s : B) (k : Nat) (T : List B) : List AV := [vs s, vi (k : Int), .sl none 1 (strs T)]
theorem wNumber_calls (s q : B) (k n : Nat) (T : List B) (hn : n < 18446744073709551616) (hs : s.length < 10000000) (hd : s.drop k = vrn n ++ q) {R} (h : R (.tup [.val (.int .u64 (n : Int)), .agg (wkA s (k + (vrn n).length) T)]) []) :
  ACalls Tryz.prog 199 [.agg (wkA s k T)] [] R := by
 refine acalls_of_xwp (an := an199) tab_ok Tryz.func199 ?_
 conv => whnf
 refine ref1Get_calls s q k n hn (by omega) hd ?_
 conv => whnf
 exact h
theorem wKnown_calls (s : B) (k i : Nat) (T : List B) (hT : T.length < 1000000) (hi : i < T.length) {R} (h : R (.tup [vs T[i], .agg (wkA s k T)]) []) :
  ACalls Tryz.prog 202 [.agg (wkA s k T), .val (.int .u64 (i : Int))] [] R := by
 refine acalls_of_xwp (an := an202) tab_ok Tryz.func202 ?_
 have hsl := strs_length T
 have e1 : IntKind.u64.wrap (((strs T).length : Nat) : Int) = ((T.length : Nat) : Int) := by rw [hsl]; exact u64_n (by omega)
 conv => whnf
 refine br_false (by rw [e1]; exact decide_eq_false (by omega)) ?_
 conv => whnf
 refine idxK_map_intro (show (i : Int).toNat < T.length by simpa using hi) ?_
 rw [show T[(i : Int).toNat]'(by simpa using hi) = T[i] from by congr 1]
 conv => whnf
 exact h
theorem wName_calls {v : Int} (s q t : B) (k : Nat) (T : List B) (hT : T.length < 1000000) (ht : t.length ≤ 64) (hm : v ≠ 1 → t ∈ T) (hs : s.length < 10000000) (hd : s.drop k = textW v T t ++ q) {R} (h : R (.tup [vs t, .agg (wkA s (k + (textW v T t).length) T)]) []) :
  ACalls Tryz.prog 200 [.agg (wkA s k T), vi v] [] R := by
 refine acalls_of_xwp (an := an200) tab_ok Tryz.func200 ?_
 unfold textW at hd h
 by_cases hv : v = 1
 ·subst hv
  rw [if_pos rfl] at hd h
  conv => whnf
  refine ref2Get_calls s q t k 64 ht (by omega) (by omega) hd ?_
  conv => whnf
  exact h
 ·rw [if_neg hv] at hd h
  have hi := List.idxOf_lt_length_of_mem (hm hv)
  have hg : T[T.idxOf t] = t := List.getElem_idxOf hi
  conv => whnf
  refine br_false (by simpa using hv) ?_
  conv => whnf
  refine wNumber_calls s q k (T.idxOf t) T (by omega) hs hd ?_
  conv => whnf
  refine wKnown_calls s _ (T.idxOf t) T hT hi ?_
  rw [hg]
  conv => whnf
  exact h
theorem depN_half (T : List B) (d : Dp) : depN T d / 2 = T.idxOf d.name ∧ ((((depN T d % 2 : Nat) : Int) == 1) = d.order) := by
 unfold depN
 cases d.order with
 | true => exact ⟨by simp; omega, by rw [if_pos rfl, show (2 * T.idxOf d.name + 1) % 2 = 1 by omega]; rfl⟩
 | false => exact ⟨by simp, by rw [if_neg (by simp), show (2 * T.idxOf d.name + 0) % 2 = 0 by omega]; rfl⟩
theorem wDeps_calls {v : Int} (s q : B) (k : Nat) (l : List Dp) (T : List B) (hT : T.length < 1000000) (hll : l.length ≤ 16) (hn : ∀ d ∈ l, d.name.length ≤ 64) (hm : v ≠ 1 → ∀ d ∈ l, d.name ∈ T) (ho : v < 3 → ∀ d ∈ l, d.order = false) (hs : s.length < 10000000) (hd : s.drop k = depsW v T l ++ q) {R}
  (h : R (.tup [.sl none 3 (dpsA l), .agg (wkA s (k + (depsW v T l).length) T)]) []) :
  ACalls Tryz.prog 201 [.agg (wkA s k T), vi v, .val (.int .u64 (l.length : Int))] [] R := by
 refine acalls_of_xwp (an := an201) tab_ok Tryz.func201 ?_
 conv => whnf
 refine LoopP.ind1 (fun (i : Nat) => [(8, .sl (some (nameOf 12)) 3 (dpsA (l.take i))), (9, .val (.int .u64 (i : Int)))]) (fun i => [(nameOf 3, .cells 280 (wkA s (k + (depsW v T (l.take i)).length) T)), (nameOf 7, .cells 280 [.val (.string ⟨#[]⟩), vi 0, .val (.slice none 0 0)]), (nameOf 12, .row 130 3 i)]) (fun i => l.length - i) (fun i => i ≤ l.length) 0 rfl (by omega) ?_
 rintro i h0 IH
 have hal : (dpsA (l.take i)).length = i := by rw [dpsA_length, List.length_take]; omega
 conv => whnf
 refine br_intro (fun hc => ?_) (fun hc => ?_)
 ·have hi : i < l.length := by have := of_decide_eq_true hc; omega
  have hdm : l[i] ∈ l := List.getElem_mem hi
  have hnd := hn _ hdm
  have hmd := fun e => hm e _ hdm
  have hod := fun e => ho e _ hdm
  have hd1 : s.drop (k + (depsW v T (l.take i)).length) = depW v T l[i] ++ (depsW v T (l.drop (i + 1)) ++ q) := by
   rw [← List.drop_drop, hd, depsW_split hi, List.append_assoc, List.drop_left, List.append_assoc]
  have hkS : k + (depsW v T (l.take (i + 1))).length = k + (depsW v T (l.take i)).length + (depW v T l[i]).length := by
   rw [depsW_snoc hi, List.length_append, Nat.add_assoc]
  have u64i : IntKind.u64.wrap ((i : Int) + 1) = ((i + 1 : Nat) : Int) := by rw [show (i : Int) + 1 = ((i + 1 : Nat) : Int) by omega]; exact u64_n (by omega)
  have IH := IH (i + 1) hi (by omega)
  rw [hkS, dpsA_take hi] at IH
  generalize k + (depsW v T (l.take i)).length = j at IH hd1 ⊢
  generalize depsW v T (l.drop (i + 1)) ++ q = z at hd1
  generalize l[i] = d at IH hd1 hnd hmd hod
  clear hd hkS hdm hn hm ho
  unfold depW at hd1 IH
  rw [List.length_append, ← Nat.add_assoc] at IH
  rw [List.append_assoc] at hd1
  have hd3 := drop_next hd1
  by_cases hv3 : v < 3
  ·rw [if_pos hv3] at hd1 hd3 IH
   refine br_true (decide_eq_true hv3) ?_
   conv => whnf
   refine wName_calls s _ d.name j T hT hnd hmd hs hd1 ?_
   have hod := hod hv3
   unfold Dp.enc at IH
   rw [hod] at IH
   generalize textW v T d.name = x at hd1 hd3 IH ⊢
   conv => whnf
   refine wNumber_calls s _ _ d.hash.toNat T (by have := d.hash.isLt; omega) hs hd3 ?_
   conv => whnf
   refine ⟨hal.symm, by rw [hal, bytes_dep]; simp only [List.length_cons, List.length_nil]; omega, ?_⟩
   conv => whnf
   rw [u64i, hal]
   exact IH
  ·rw [if_neg hv3] at hd1 hd3 IH
   refine br_false (decide_eq_false hv3) ?_
   have hi := List.idxOf_lt_length_of_mem (hmd (by omega))
   have hg : T[T.idxOf d.name] = d.name := List.getElem_idxOf hi
   obtain ⟨q1, q2⟩ := depN_half T d
   conv => whnf
   refine wNumber_calls s _ j (depN T d) T (by unfold depN; split <;> omega) hs hd1 ?_
   unfold Dp.enc at IH
   generalize depN T d = n at hd1 hd3 IH q1 q2 ⊢
   rw [← q2] at IH
   have t1 : (n : Int).tmod 2 = ((n % 2 : Nat) : Int) := tmod_n n 2
   have t2 : (n : Int).tdiv 2 = ((T.idxOf d.name : Nat) : Int) := by rw [← q1]; exact tdiv_n n 2
   rw [← t1] at IH
   conv => whnf
   rw [t2, u64_n (n := T.idxOf d.name) (by omega)]
   refine wKnown_calls s _ (T.idxOf d.name) T hT hi ?_
   rw [hg]
   conv => whnf
   refine wNumber_calls s _ _ d.hash.toNat T (by have := d.hash.isLt; omega) hs hd3 ?_
   conv => whnf
   refine ⟨hal.symm, by rw [hal, bytes_dep]; simp only [List.length_cons, List.length_nil]; omega, ?_⟩
   conv => whnf
   rw [u64i, hal]
   exact IH
 ·have hi : i = l.length := by have := of_decide_eq_false hc; omega
  subst hi
  rw [List.take_length] at hal ⊢
  conv => whnf
  exact h
theorem wLast_calls {v : Int} (hv : is3 v) (T : List B) (hT : T.length < 1000000) (r : Rc) (hm : mayP v r = true) (hk : r.kind = 1) (hTm : v ≠ 1 → ∀ x ∈ textsR r, x ∈ T) {R} (h : R (.tup [.agg r.enc, .val (.bool true)]) []) :
  ACalls Tryz.prog 171 [vi v, .sl none 1 (strs T), vs (lastW v T r)] [] R := by
 refine acalls_of_xwp (an := { an171 with frz2 := [], anyo := [20] }) tab_ok Tryz.func171 ?_
 have hMr := may_all hm
 have hlen := lastW_len (v := v) (t := T) hMr hT
 have hd0 : (lastW v T r).drop 0 = vrn 1 ++ (textW v T r.target ++ (vrn r.rule.toNat ++ (vrn r.deps.length ++ (depsW v T r.deps ++ endW v T r)))) := by
  rw [List.drop_zero]
  unfold lastW
  rw [if_neg (by rw [hk]; decide), vrn_small (n := 1) (by decide)]
  simp only [List.append_assoc, List.cons_append, List.nil_append]
  rfl
 have hmt := fun e => hTm e r.target (by simp [textsR])
 have hmd : v ≠ 1 → ∀ d ∈ r.deps, d.name ∈ T := fun e d hd => hTm e _ (by unfold textsR; exact List.mem_cons_of_mem _ (List.mem_append_left _ (List.mem_map_of_mem hd)))
 have hmg : v ≠ 1 → r.tag ≠ [] → r.tag ∈ T := fun e g => hTm e _ (by simp [textsR, g])
 have hut : ∀ x : U, x.toNat < 18446744073709551616 := fun x => x.isLt
 unfold Rc.enc at h
 rw [hk] at h
 generalize lastW v T r = s at hlen hd0 ⊢
 have hsz := size_ofB s
 have hd1 := drop_next hd0
 have hd2 := drop_next hd1
 have hd3 := drop_next hd2
 have hd4 := drop_next hd3
 have hd5 := drop_next hd4
 obtain ⟨one, h1⟩ : ∃ n, n = 1 := ⟨_, rfl⟩
 rw [← h1] at hd0 hd1 hd2 hd3 hd4 hd5
 conv => whnf
 refine wNumber_calls s _ 0 one T (by omega) (by omega) hd0 ?_
 generalize 0 + (vrn one).length = k1 at hd1 hd2 hd3 hd4 hd5 ⊢
 have e1 : IntKind.i64.wrap (one : Int) = 1 := by rw [h1]; rfl
 conv => whnf
 refine br_false (by simp [h1]) ?_
 conv => whnf
 rw [e1]
 refine wName_calls s _ r.target k1 T hT hMr.t2 hmt (by omega) hd1 ?_
 generalize k1 + (textW v T r.target).length = k2 at hd2 hd3 hd4 hd5 ⊢
 conv => whnf
 refine br_true (by simp [h1]) ?_
 conv => whnf
 refine wNumber_calls s _ k2 r.rule.toNat T (hut _) (by omega) hd2 ?_
 generalize k2 + (vrn r.rule.toNat).length = k3 at hd3 hd4 hd5 ⊢
 conv => whnf
 refine wNumber_calls s _ k3 r.deps.length T (by have := hMr.deps; omega) (by omega) hd3 ?_
 generalize k3 + (vrn r.deps.length).length = k4 at hd4 hd5 ⊢
 conv => whnf
 refine wDeps_calls s _ k4 r.deps T hT hMr.deps (fun d hd => (hMr.names d hd).2) hmd hMr.order (by omega) hd4 ?_
 generalize k4 + (depsW v T r.deps).length = k5 at hd5 ⊢
 unfold endW at hd5
 have hd6 := drop_next hd5
 conv => whnf
 refine wNumber_calls s _ k5 r.out.toNat T (hut _) (by omega) hd5 ?_
 have hl5 := drop_len hd5 (vrn_pos _)
 generalize k5 + (vrn r.out.toNat).length = k6 at hd6 hl5 ⊢
 conv => whnf
 rcases hv with rfl | rfl | rfl
 ·have hw := hMr.wen rfl
  have hg := hMr.tag3 (by decide)
  have hl6 : s.length = k6 := by simpa using hl5
  rw [hw, hg] at h
  clear hd6 hl5
  conv => whnf
  have ht : ((k6 : Int) == (((ofB s).size : Nat) : Int)) = true := by rw [hsz, hl6]; simp
  repeat' first | exact trivial | apply And.intro | (rw [ht]; exact h) | (conv => whnf)
 ·have hg := hMr.tag3 (by decide)
  have hd6 : s.drop k6 = vrn r.wen.toNat ++ [] := by simpa using hd6
  rw [hg] at h
  clear hl5
  conv => whnf
  refine wNumber_calls s _ k6 r.wen.toNat T (hut _) (by omega) hd6 ?_
  have hl6 : s.length = k6 + (vrn r.wen.toNat).length := by have := drop_len hd6 (vrn_pos _); simpa using this
  generalize k6 + (vrn r.wen.toNat).length = k7 at hl6 ⊢
  conv => whnf
  have ht : ((k7 : Int) == (((ofB s).size : Nat) : Int)) = true := by rw [hsz, hl6]; simp
  repeat' first | exact trivial | apply And.intro | (rw [ht]; exact h) | (conv => whnf)
 ·have hd6 : s.drop k6 = vrn r.wen.toNat ++ tagW T r.tag := by simpa using hd6
  clear hl5
  have hd7 := drop_next hd6
  conv => whnf
  refine wNumber_calls s _ k6 r.wen.toNat T (hut _) (by omega) hd6 ?_
  generalize k6 + (vrn r.wen.toNat).length = k7 at hd7 ⊢
  unfold tagW at hd7
  obtain ⟨n, hn⟩ : ∃ n, n = if r.tag = [] then 0 else T.idxOf r.tag + 1 := ⟨_, rfl⟩
  rw [← hn, ← List.append_nil (vrn n)] at hd7
  have hil := List.idxOf_le_length (a := r.tag) (l := T)
  have hnl : n < 18446744073709551616 := by rw [hn]; split <;> omega
  conv => whnf
  refine wNumber_calls s _ k7 n T hnl (by omega) hd7 ?_
  have hl6 : s.length = k7 + (vrn n).length := by have := drop_len hd7 (vrn_pos _); simpa using this
  generalize k7 + (vrn n).length = k8 at hl6 ⊢
  conv => whnf
  refine br_intro (fun g => ?_) (fun g => ?_)
  ·have g : 0 < n := by have := of_decide_eq_true g; omega
   have hg : r.tag ≠ [] := fun e => by rw [if_pos e] at hn; omega
   rw [if_neg hg] at hn
   have hi := List.idxOf_lt_length_of_mem (hmg (by decide) hg)
   have hgi : T[T.idxOf r.tag] = r.tag := List.getElem_idxOf hi
   have e3 : IntKind.u64.wrap ((n : Int) - 1) = ((T.idxOf r.tag : Nat) : Int) := by
    rw [hn, show ((T.idxOf r.tag + 1 : Nat) : Int) - 1 = ((T.idxOf r.tag : Nat) : Int) by omega, u64_n (by omega)]
   conv => whnf
   rw [e3]
   refine wKnown_calls s _ (T.idxOf r.tag) T hT hi ?_
   rw [hgi]
   conv => whnf
   have ht : ((k8 : Int) == (((ofB s).size : Nat) : Int)) = true := by rw [hsz, hl6]; simp
   repeat' first | exact trivial | apply And.intro | (rw [ht]; exact h) | (conv => whnf)
  ·have g : n = 0 := by have := of_decide_eq_false g; omega
   have hg : r.tag = [] := Classical.byContradiction fun e => by rw [if_neg e] at hn; omega
   rw [hg] at h
   conv => whnf
   have ht : ((k8 : Int) == (((ofB s).size : Nat) : Int)) = true := by rw [hsz, hl6]; simp
   repeat' first | exact trivial | apply And.intro | (rw [ht]; exact h) | (conv => whnf)
theorem lastW_one {v : Int} {T : List B} {r : Rc} (hk : r.kind = 1) : ∃ q, lastW v T r = 1 :: q := by
 unfold lastW
 rw [if_neg (by rw [hk]; decide)]
 exact ⟨_, rfl⟩
def zRc : List AV := [vi 0, .val (.string ⟨#[]⟩), .val (.int .u64 0), .val (.slice none 0 0), .val (.int .u64 0), .val (.int .u64 0), .val (.string ⟨#[]⟩)]
theorem ref9Get_calls {v : Int} (hv : is3 v) (t : List B) (ht : t.length < 80000) (r : Rc) (hm : mayP v r = true) (hk : r.kind = 1) (P Q : List B) (hP : P.length < 100000) (hQ : Q.length < 100000) {R}
  (h : R (.tup [.agg r.enc, vi ((P.length + (payP v t r).length : Nat) : Int), .sl none 1 (strs (addT v t r)), vi 0]) []) :
  ACalls Tryz.prog 131 [vi v, .sl none 1 (strs t), .sl none 1 (strs (P ++ payP v t r ++ Q)), vi (P.length : Int)] [] R := by
 refine acalls_of_xwp (an := an131) tab_ok Tryz.func131 ?_
 have hMr := may_all hm
 obtain ⟨D, hD, hDp⟩ : ∃ D : List B, D.foldl tblP t = addT v t r ∧ payP v t r = D.map defP ++ [lastW v (addT v t r) r] := by
  unfold payP defsP
  by_cases h1 : v = 1
  ·exact ⟨[], by rw [h1, addT_one]; rfl, by rw [if_pos h1]; rfl⟩
  ·exact ⟨newsP t (namesR r), by rw [news_addAll, addT_more h1], by rw [if_neg h1]⟩
 have hpl := payP_len (v := v) (t := t) hMr.deps
 have hTl := addT_len v t r
 have hTd := hMr.deps
 have hTm : v ≠ 1 → ∀ x ∈ textsR r, x ∈ addT v t r := fun e x hx => addT_mem e t r hx
 have hlast := fun {R} hR => wLast_calls hv (addT v t r) (by omega) r hm hk hTm (R := R) hR
 obtain ⟨lq, hlq⟩ := lastW_one (v := v) (T := addT v t r) hk
 have hput := fun {R} hR => r9Put_any hv t ht r hm (R := R) hR
 obtain ⟨p, hp⟩ : ∃ p, p = payP v t r := ⟨_, rfl⟩
 rw [← hp] at h hput hpl hDp ⊢
 have hpD : p.length = D.length + 1 := by rw [hDp]; simp
 obtain ⟨A, hA⟩ : ∃ A, A = P ++ p ++ Q := ⟨_, rfl⟩
 have hAl : A.length = P.length + p.length + Q.length := by rw [hA]; simp [Nat.add_assoc]
 have hsl := strs_length A
 have hat : ∀ j (hj : j < p.length), A[P.length + j]'(by omega) = p[j] := fun j hj => by
  have e := List.getElem_of_eq hA (i := P.length + j) (by omega)
  rw [e, List.getElem_append_left (by simp; omega), List.getElem_append_right (by omega)]
  congr 1
  omega
 rw [← hA]
 clear hA
 conv => whnf
 refine br_false (decide_eq_false (by unfold is3 at hv; omega)) ?_
 conv => whnf
 refine br_false (decide_eq_false (by unfold is3 at hv; omega)) ?_
 conv => whnf
 refine br_false (decide_eq_false (by rw [hsl]; omega)) ?_
 conv => whnf
 refine LoopP.ind2 (fun (j : Nat) (X : List B) => [(13, vi ((P.length + j : Nat) : Int)), (14, .sl none 1 (strs X))]) (fun j X => [(nameOf 8, .cells 67 zRc)]) (fun j _ => D.length - j) (fun j X => j ≤ D.length ∧ X = (D.take j).foldl tblP t) 0 t rfl ⟨by omega, rfl⟩ ?_
 rintro j X ⟨h0, hX⟩ IH
 have hXl : X.length ≤ t.length + D.length := by have := addAll_len (D.take j) t; rw [hX]; rw [List.length_take] at this; omega
 have hpj := hat j (by omega)
 conv => whnf
 refine br_true (decide_eq_true (by rw [hsl]; omega)) ?_
 conv => whnf
 by_cases hj : j < D.length
 ·have hpe : p[j] = 0 :: D[j] := by
   have e := List.getElem_of_eq hDp (i := j) (by omega)
   rw [e, List.getElem_append_left (by simp; omega), List.getElem_map]
   rfl
  refine idxK_map_intro (show (((P.length + j : Nat) : Int)).toNat < A.length by simp; omega) ?_
  rw [show A[(((P.length + j : Nat) : Int)).toNat]'(by simp; omega) = p[j] from by rw [← hpj]; congr 1, hpe]
  conv => whnf
  refine idxK_map_intro (show (((P.length + j : Nat) : Int)).toNat < A.length by simp; omega) ?_
  rw [show A[(((P.length + j : Nat) : Int)).toNat]'(by simp; omega) = p[j] from by rw [← hpj]; congr 1, hpe]
  conv => whnf
  refine must_intro (decide_eq_true (by rw [size_ofB]; simp)) ?_
  rw [show byteAt (ofB (0 :: D[j])) (Int.toNat 0) = 0 from by rw [show Int.toNat 0 = 0 from rfl, byteAt_ofB _ (by simp)]; rfl]
  conv => whnf
  refine idxK_map_intro (show (((P.length + j : Nat) : Int)).toNat < A.length by simp; omega) ?_
  rw [show A[(((P.length + j : Nat) : Int)).toNat]'(by simp; omega) = p[j] from by rw [← hpj]; congr 1, hpe]
  conv => whnf
  have hsz := size_ofB (0 :: D[j])
  have hx : (ofB (0 :: D[j])).extract (Int.toNat 1) (Int.toNat (((ofB (0 :: D[j])).size : Nat) : Int)) = ofB D[j] := by
   rw [hsz, ofB_extract]
   simp [List.take_of_length_le]
  refine must_intro (decide_eq_true (by rw [hsz]; simp only [List.length_cons]; omega)) ?_
  conv => whnf
  refine must_intro (decide_eq_true (Int.le_refl _)) ?_
  rw [hx]
  have IH := IH (j + 1) (tblP X D[j]) ⟨hj, by rw [List.take_succ_eq_append_getElem hj, List.foldl_append, ← hX]; rfl⟩ (by omega)
  conv => whnf
  refine rPutT_calls X D[j] (by omega) ?_
  conv => whnf
  rw [show IntKind.i64.wrap (((P.length + j : Nat) : Int) + 1) = ((P.length + (j + 1) : Nat) : Int) from by rw [wrap_i64 (by omega) (by omega)]; omega]
  exact IH
 ·have hje : j = D.length := by omega
  have hpe : p[j] = 1 :: lq := by
   have e := List.getElem_of_eq hDp (i := j) (by omega)
   rw [e, List.getElem_append_right (by simp; omega), List.getElem_singleton, hlq]
  refine idxK_map_intro (show (((P.length + j : Nat) : Int)).toNat < A.length by simp; omega) ?_
  rw [show A[(((P.length + j : Nat) : Int)).toNat]'(by simp; omega) = p[j] from by rw [← hpj]; congr 1, hpe]
  conv => whnf
  refine idxK_map_intro (show (((P.length + j : Nat) : Int)).toNat < A.length by simp; omega) ?_
  rw [show A[(((P.length + j : Nat) : Int)).toNat]'(by simp; omega) = p[j] from by rw [← hpj]; congr 1, hpe]
  conv => whnf
  refine must_intro (decide_eq_true (by rw [size_ofB]; simp)) ?_
  rw [show byteAt (ofB (1 :: lq)) (Int.toNat 0) = 1 from by rw [show Int.toNat 0 = 0 from rfl, byteAt_ofB _ (by simp)]; rfl]
  rw [hje, List.take_length, hD] at hX
  subst hX
  clear IH hXl
  conv => whnf
  refine br_false (by rw [hsl]; simp; omega) ?_
  conv => whnf
  refine idxK_map_intro (show (((P.length + j : Nat) : Int)).toNat < A.length by simp; omega) ?_
  rw [show A[(((P.length + j : Nat) : Int)).toNat]'(by simp; omega) = p[j] from by rw [← hpj]; congr 1, hpe]
  conv => whnf
  rw [← hlq]
  refine hlast ?_
  conv => whnf
  refine hput ?_
  have e1 : IntKind.i64.wrap (((P.length + j : Nat) : Int) + 1) = ((P.length + p.length : Nat) : Int) := by rw [wrap_i64 (by omega) (by omega)]; omega
  have e2 : IntKind.i64.wrap (((P.length + p.length : Nat) : Int) - (P.length : Int)) = ((p.length : Nat) : Int) := by rw [wrap_i64 (by omega) (by omega)]; omega
  have hpsl := strs_length p
  conv => whnf
  refine br_false (by rw [hpsl, e1, e2]; simp) ?_
  rw [e1]
  conv => whnf
  refine LoopP.ind1 (fun (i : Nat) => [(20, vi i)]) (fun i => [(nameOf 8, .cells 67 zRc)]) (fun i => p.length - i) (fun i => i ≤ p.length) 0 rfl (by omega) ?_
  rintro i i0 IH
  conv => whnf
  refine br_intro (fun hc => ?_) (fun hc => ?_)
  ·have hi := lt_of_decE hpsl hc
   have IH := IH (i + 1) hi (by omega)
   have hpi := hat i hi
   have e3 : IntKind.i64.wrap ((P.length : Int) + (i : Int)) = ((P.length + i : Nat) : Int) := by rw [wrap_i64 (by omega) (by omega)]; omega
   (conv => whnf); (repeat ((with_reducible refine must_intro ?_ ?_); exact decide_eq_true (by omega); (conv => whnf)))
   refine idxK_map_intro (show (i : Int).toNat < p.length by simpa using hi) ?_
   rw [show p[(i : Int).toNat]'(by simpa using hi) = p[i] from by congr 1]
   refine must_intro (decide_eq_true (by rw [e3]; omega)) ?_
   rw [e3]
   refine idxK_map_intro (show (((P.length + i : Nat) : Int)).toNat < A.length by simp; omega) ?_
   rw [show A[(((P.length + i : Nat) : Int)).toNat]'(by simp; omega) = p[i] from by rw [← hpi]; congr 1]
   conv => whnf
   refine br_false (by simp) ?_
   conv => whnf
   rw [i64_nat (by omega)]
   exact IH
  ·have hi := ge_of_decE hpsl hc
   clear IH
   conv => whnf
   exact h
theorem ref9GetEnd_any {v : Int} (hv : is3 v) (t A : List B) (hA : A.length < 1000000) {R} (h : R (.tup [.agg zRc, vi 0, .sl none 1 (strs t), vi 6]) []) :
  ACalls Tryz.prog 131 [vi v, .sl none 1 (strs t), .sl none 1 (strs A), vi (A.length : Int)] [] R := by
 refine acalls_of_xwp (an := an131) tab_ok Tryz.func131 ?_
 have hsl := strs_length A
 conv => whnf
 refine br_false (decide_eq_false (by unfold is3 at hv; omega)) ?_
 conv => whnf
 refine br_false (decide_eq_false (by unfold is3 at hv; omega)) ?_
 conv => whnf
 refine br_false (decide_eq_false (by rw [hsl]; omega)) ?_
 conv => whnf
 refine LoopP.step ?_
 conv => whnf
 refine br_false (decide_eq_false (by rw [hsl]; omega)) ?_
 conv => whnf
 refine br_true (by rw [hsl]; simp) ?_
 conv => whnf
 exact h
theorem ends_at {v : Int} {l : List Rc} (hd : ∀ r ∈ l, r.deps.length ≤ 16) {i : Nat} (hi : i < l.length) :
  plP v l (i + 1) - 1 < (endsP 8 (paysP v [] l)).length ∧ 1 ≤ plP v l (i + 1) ∧ (endsP 8 (paysP v [] l))[plP v l (i + 1) - 1]? = some (fileP v (l.take (i + 1))).length := by
 have hp := payP_len (v := v) (t := tbP v l i) (hd _ (List.getElem_mem hi))
 have hS := plP_succ (v := v) hi
 have e0 : paysP v [] l = paysP v [] (l.take (i + 1)) ++ paysP v (tbP v l (i + 1)) (l.drop (i + 1)) := by
  conv => lhs; rw [← List.take_append_drop (i + 1) l]
  rw [paysP_append]
  rfl
 have hle : plP v l (i + 1) ≤ (paysP v [] l).length := by rw [e0, List.length_append]; exact Nat.le_add_right _ _
 have hlt : plP v l (i + 1) - 1 < (paysP v [] l).length := by omega
 have e1 : (paysP v [] l).take (plP v l (i + 1)) = paysP v [] (l.take (i + 1)) := by
  conv => lhs; rw [e0]
  exact List.take_left
 refine ⟨by rw [endsP_length]; exact hlt, by omega, ?_⟩
 rw [endsP_at _ _ _ hlt, show plP v l (i + 1) - 1 + 1 = plP v l (i + 1) by omega, e1, fileP_len]
theorem get_at {v : Int} (hv : is3 v) (l : List Rc) (hl : l.length ≤ 300) (hm : ∀ r ∈ l, mayP v r = true) (hk : ∀ r ∈ l, r.kind = 1) {i : Nat} (hi : i < l.length) {R} (h : R (.tup [.agg l[i].enc, vi ((plP v l (i + 1) : Nat) : Int), .sl none 1 (strs (tbP v l (i + 1))), vi 0]) []) :
  ACalls Tryz.prog 131 [vi v, .sl none 1 (strs (tbP v l i)), .sl none 1 (strs (paysP v [] l)), vi ((plP v l i : Nat) : Int)] [] R := by
 have hd : ∀ r ∈ l, r.deps.length ≤ 16 := fun r hr => (may_all (hm r hr)).deps
 have h1 := tbP_len (v := v) (l := l) (i := i) (by omega) (fun r hr => hm r (List.mem_of_mem_take hr))
 have h2 := paysP_len (v := v) (t := []) (l := l.take i) (fun r hr => hd r (List.mem_of_mem_take hr))
 have h3 := paysP_len (v := v) (t := tbP v l (i + 1)) (l := l.drop (i + 1)) (fun r hr => hd r (List.mem_of_mem_drop hr))
 rw [List.length_take] at h2
 rw [List.length_drop] at h3
 rw [paysP_split hi]
 rw [plP_succ hi, tbP_succ hi] at h
 exact ref9Get_calls hv (tbP v l i) (by omega) l[i] (hm _ (List.getElem_mem hi)) (hk _ (List.getElem_mem hi)) (paysP v [] (l.take i)) (paysP v (tbP v l (i + 1)) (l.drop (i + 1))) (by omega) (by omega) h
theorem ref10Get_calls {v : Int} (hv : is3 v) (l : List Rc) (hl : l.length ≤ 300) (hm : ∀ r ∈ l, mayP v r = true) (hk : ∀ r ∈ l, r.kind = 1) {R} (h : R (.tup [.agg (fileA v l), vi 0]) []) : ACalls Tryz.prog 85 [vs (fileP v l)] [] R := by
 by_cases hl0 : l = []
 ·subst hl0
  exact ref10GetHead_calls hv h
 refine acalls_of_xwp (an := an85) tab_ok Tryz.func85 ?_
 have hMr : ∀ r ∈ l, MayR v r := fun r hr => may_all (hm r hr)
 have hd : ∀ r ∈ l, r.deps.length ≤ 16 := fun r hr => (hMr r hr).deps
 have hfs := fileP_small hm hl
 have hfl := fileP_len v l
 have hpl := paysP_len (v := v) (t := []) hd
 have hpc := paysP_lens (v := v) (t := []) hMr (by simp; omega)
 have hdr : (fileP v l).drop 8 = framesP (paysP v [] l) := by unfold fileP; rw [← headP_length v, List.drop_left]
 have hver := fun {R} hR => ref6Version_calls hv (framesP (paysP v [] l)) (by omega) (R := R) hR
 have hrun := fun {R} hR => ref6RunAll_calls (fileP v l) (paysP v [] l) 8 (by omega) hfl.symm hdr hpc (by omega) (R := R) hR
 have hen := fun i (hi : i < l.length) => ends_at (v := v) hd hi
 have hget := fun {R} i (hi : i < l.length) hR => get_at hv l hl hm hk hi (R := R) hR
 unfold fileA at h
 rw [show fileP v l = headP v ++ framesP (paysP v [] l) from rfl] at hrun ⊢
 generalize hs : headP v ++ framesP (paysP v [] l) = s at hver hrun ⊢
 generalize hP : paysP v [] l = P at hver hrun hen hget hpl ⊢
 conv => whnf
 refine hver ?_
 conv => whnf
 refine hrun ?_
 conv => whnf
 have hpos : 0 < l.length := List.length_pos_iff.2 hl0
 refine LoopP.step ?_
 conv => whnf
 refine hget 0 hpos ?_
 obtain ⟨q1, q2, q3⟩ := hen 0 hpos
 obtain ⟨r0, hr0⟩ : ∃ r0, r0 = l[0] := ⟨_, rfl⟩
 have ht1 : l.take (0 + 1) = [r0] := by rw [List.take_succ_eq_append_getElem hpos, ← hr0]; rfl
 rw [← hr0]
 rw [ht1] at q3
 have hEl := ints_length (endsP 8 P)
 have e1 : IntKind.i64.wrap (((plP v l (0 + 1) : Nat) : Int) - 1) = ((plP v l (0 + 1) - 1 : Nat) : Int) := by
  have : (endsP 8 P).length = P.length := endsP_length P 8
  rw [wrap_i64 (by omega) (by omega)]; omega
 conv => whnf
 refine ⟨by rw [bytes_rec]; simp, ?_⟩
 conv => whnf
 have q5 : (((plP v l (0 + 1) - 1 : Nat) : Int)).toNat < (endsP 8 P).length := by rw [Int.toNat_natCast]; exact q1
 have q4 : (endsP 8 P)[(((plP v l (0 + 1) - 1 : Nat) : Int)).toNat]'q5 = (fileP v [r0]).length := by
  simp only [Int.toNat_natCast]
  exact (List.getElem?_eq_some_iff.1 q3).2
 refine must_intro (decide_eq_true (by rw [e1]; omega)) ?_
 rw [e1]
 refine idxK_map_intro q5 ?_
 rw [q4]
 conv => whnf
 refine ⟨by rw [bytes_int]; simp, ?_⟩
 conv => whnf
 refine must_intro (decide_eq_true (by rw [e1]; omega)) ?_
 rw [e1]
 refine idxK_map_intro q5 ?_
 rw [q4]
 conv => whnf
 clear q5 q4 e1 q1 q2 q3
 refine LoopP.ind4 (fun (i : Nat) (X : List Rc) (E : List Nat) (g : Nat) => [(9, .sl none 1 (strs (tbP v l i))), (10, vi ((plP v l i : Nat) : Int))]) (fun i X E g => [(nameOf 2, .cells 33 [vi 0, .val (.slice none 0 0), .val (.slice none 0 0), vi 0]), (nameOf 6, .cells 33 [vi v, .sl (some (nameOf 49)) 7 (recs X), .sl (some (nameOf 59)) 1 (ints E), vi (g : Int)]), (nameOf 49, .row 67 7 i), (nameOf 59, .row 3 1 i)]) (fun i _ _ _ => l.length + 1 - i) (fun i X E g => 1 ≤ i ∧ i ≤ l.length ∧ X = l.take i ∧ E = endsR v (l.take i) ∧ g = (fileP v (l.take i)).length) 1 [r0] [(fileP v [r0]).length] (fileP v [r0]).length rfl ⟨by omega, by omega, ht1.symm, by rw [show l.take 1 = [r0] from ht1]; rfl, by rw [show l.take 1 = [r0] from ht1]⟩ ?_
 clear ht1 hr0
 rintro i X E g ⟨i1, i2, hX, hE, hg⟩ IH
 have hXl : (recs X).length = i := by rw [recs_length, hX, List.length_take]; omega
 have hEll : (ints E).length = i := by rw [ints_length, hE, endsR_length, List.length_take]; omega
 by_cases hi : i < l.length
 ·obtain ⟨q1, q2, q3⟩ := hen i hi
  have e1 : IntKind.i64.wrap (((plP v l (i + 1) : Nat) : Int) - 1) = ((plP v l (i + 1) - 1 : Nat) : Int) := by
   have : (endsP 8 P).length = P.length := endsP_length P 8
   rw [wrap_i64 (by omega) (by omega)]; omega
  have q5 : (((plP v l (i + 1) - 1 : Nat) : Int)).toNat < (endsP 8 P).length := by rw [Int.toNat_natCast]; exact q1
  have q4 : (endsP 8 P)[(((plP v l (i + 1) - 1 : Nat) : Int)).toNat]'q5 = (fileP v (l.take (i + 1))).length := by
   simp only [Int.toNat_natCast]
   exact (List.getElem?_eq_some_iff.1 q3).2
  have IH := IH (i + 1) (X ++ [l[i]]) (E ++ [(fileP v (l.take (i + 1))).length]) (fileP v (l.take (i + 1))).length ⟨by omega, hi, by rw [List.take_succ_eq_append_getElem hi, hX], by rw [List.take_succ_eq_append_getElem hi, endsR_snoc, hE], rfl⟩ (by omega)
  rw [recs_snoc, ints_snoc] at IH
  conv => whnf
  refine hget i hi ?_
  conv => whnf
  refine ⟨hXl.symm, by rw [hXl, bytes_rec]; simp only [List.length_cons, List.length_nil]; omega, ?_⟩
  conv => whnf
  refine must_intro (decide_eq_true (by rw [e1]; omega)) ?_
  rw [e1]
  refine idxK_map_intro q5 ?_
  rw [q4]
  conv => whnf
  refine ⟨hEll.symm, by rw [hEll, bytes_int]; simp only [List.length_cons, List.length_nil]; omega, ?_⟩
  conv => whnf
  refine must_intro (decide_eq_true (by rw [e1]; omega)) ?_
  rw [e1]
  refine idxK_map_intro q5 ?_
  rw [q4]
  conv => whnf
  rw [hXl, hEll]
  exact IH
 ·have hie : i = l.length := by omega
  have hpe : plP v l i = P.length := by rw [hie]; unfold plP; rw [List.take_length, hP]
  rw [hie, List.take_length] at hX hE hg
  rw [hpe]
  subst hX hE hg
  conv => whnf
  refine ref9GetEnd_any hv _ P (by omega) ?_
  conv => whnf
  exact h
def zFl : List AV := [vi 0, nlA, nlA, vi 0]
theorem rjAppend_calls (s : FSt) (hs : ROk s) (name : B) (hn : name.length < 1000000) (hg : (gF s.fs name).b.length < 900000000) {v : Int} (hv : is3 v) (l : List Rc) (hl : l.length ≤ 300) (hm : ∀ r ∈ l, mayP v r = true) (r : Rc) (hr : mayP v r = true) {R}
  (h1 : (s.rappend name (moreP v l r)).2 ≠ 0 → R (.tup [.agg (fsR (s.rappend name (moreP v l r)).1), .agg zFl, vi (s.rappend name (moreP v l r)).2]) [])
  (h2 : (s.rappend name (moreP v l r)).2 = 0 → R (.tup [.agg (fsR (s.rappend name (moreP v l r)).1), .agg (fileA v (l ++ [r])), vi 0]) []) :
  ACalls Tryz.prog 116 [.agg (fsR s), vs name, .agg (fileA v l), .agg r.enc] [] R := by
 refine ACalls.res ?_
 refine acalls_of_xwp (an := { an116 with anyo := [25, 26] }) tab_ok Tryz.func116 ?_
 have hsl := recs_length l
 have hM : ∀ x ∈ l, MayR v x := fun x hx => may_all (hm x hx)
 have hfl := fileP_small hm hl
 have hel := endsR_length v l
 have hil := ints_length (endsR v l)
 have hfs : fileP v (l ++ [r]) = fileP v l ++ moreP v l r := fileP_snoc v l r
 conv => whnf
 refine br_false (decide_eq_false (by unfold is3 at hv; omega)) ?_
 conv => whnf
 refine br_false (decide_eq_false (by unfold is3 at hv; omega)) ?_
 conv => whnf
 refine LoopP.ind1 (fun (i : Nat) => [(11, .sl none 1 (strs (tbP v l i))), (13, vi i)]) (fun i => [(nameOf 4, .cells 30 (fsR s)), (nameOf 6, .cells 33 (fileA v l)), (nameOf 8, .cells 30 [.val (.slice none 0 0), vi 0, vi 0, .val (.bool false)]), (nameOf 9, .cells 33 zFl)]) (fun i => l.length - i) (fun i => i ≤ l.length) 0 rfl (by omega) ?_
 rintro i h0 IH
 have hmt : ∀ r ∈ l.take i, mayP v r = true := fun r hr => hm r (List.mem_of_mem_take hr)
 have hTl := tbP_len (by omega) hmt
 conv => whnf
 refine br_intro (fun hc => ?_) (fun hc => ?_)
 ·have hi := lt_of_decE hsl hc
  have hTS : tbP v l (i + 1) = addT v (tbP v l i) l[i] := tbP_succ hi
  have hmi := hm _ (List.getElem_mem hi)
  have IH := IH (i + 1) hi (by omega)
  rw [hTS] at IH
  (conv => whnf); (repeat ((with_reducible refine must_intro ?_ ?_); exact decide_eq_true (by omega); (conv => whnf)))
  refine idxK_map_intro (show (i : Int).toNat < l.length by simpa using hi) ?_
  rw [show l[(i : Int).toNat]'(by simpa using hi) = l[i] from by congr 1]
  conv => whnf
  refine r9Put_any hv (tbP v l i) (by omega) l[i] hmi ?_
  conv => whnf
  rw [i64_nat (by omega)]
  exact IH
 ·have hi := ge_of_decE hsl hc
  have hT : tbP v l i = tblL v [] l := by unfold tbP; rw [List.take_of_length_le hi]
  rw [hT] at hTl ⊢
  clear IH
  obtain ⟨T, hTT⟩ : ∃ T, T = tblL v [] l := ⟨_, rfl⟩
  have hmo : moreP v l r = framesP (payP v T r) := by rw [hTT]; rfl
  rw [← hTT] at hTl ⊢
  rw [hmo] at h1 h2 hfs
  have hpl := payP_lens (t := T) (may_all hr) (by omega)
  have hpf := payP_frames (t := T) (may_all hr) (by omega)
  have hpc := payP_len (v := v) (t := T) (may_all hr).deps
  conv => whnf
  refine r9Put_any hv T (by omega) r hr ?_
  generalize payP v T r = ps at h1 h2 hfs hpl hpf hpc ⊢
  have hpsl := strs_length ps
  conv => whnf
  refine LoopP.ind2 (fun (k : Nat) (Y : B) => [(16, vs Y), (17, vi k)]) (fun k Y => [(nameOf 4, .cells 30 (fsR s)), (nameOf 6, .cells 33 (fileA v l)), (nameOf 8, .cells 30 [.val (.slice none 0 0), vi 0, vi 0, .val (.bool false)]), (nameOf 9, .cells 33 zFl)]) (fun k _ => ps.length - k) (fun k Y => k ≤ ps.length ∧ Y = framesP (ps.take k)) 0 [] rfl ⟨by omega, rfl⟩ ?_
  rintro k Y ⟨k0, hY⟩ IH2
  have hpt := framesP_part ps k
  have hYl : Y.length ≤ 3000 := by rw [hY]; omega
  conv => whnf
  refine br_intro (fun hk => ?_) (fun hk => ?_)
  ·have hk := lt_of_decE hpsl hk
   have hp := hpl _ (List.getElem_mem hk)
   have hYS : Y ++ frameP ps[k] = framesP (ps.take (k + 1)) := by
    rw [hY, List.take_succ_eq_append_getElem hk, framesP_snoc]
   have IH2 := IH2 (k + 1) _ ⟨hk, hYS⟩ (by omega)
   (conv => whnf); (repeat ((with_reducible refine must_intro ?_ ?_); exact decide_eq_true (by omega); (conv => whnf)))
   refine idxK_map_intro (show (k : Int).toNat < ps.length by simpa using hk) ?_
   rw [show ps[(k : Int).toNat]'(by simpa using hk) = ps[k] from by congr 1]
   generalize ps[k] = p at hp IH2 ⊢
   have hfp := frameP_len hp.2
   conv => whnf
   refine ref6Put_calls p hp.1 hp.2 ?_
   conv => whnf
   refine must_intro (decide_eq_true (by rw [size_ofB, size_ofB]; omega)) ?_
   rw [ofB_append]
   conv => whnf
   rw [i64_nat (by omega)]
   exact IH2
  ·have hk := ge_of_decE hpsl hk
   rw [List.take_of_length_le hk] at hY
   rw [← hY] at h1 h2 hfs
   clear IH2 hpt hpl hpf hpc hY hpsl hk k0
   conv => whnf
   refine rAppend_calls s hs name Y hn (by omega) ?_
   generalize s.rappend name Y = se at h1 h2 ⊢
   obtain ⟨s2, e⟩ := se
   conv => whnf
   refine br_intro (fun g => ?_) (fun g => ?_)
   ·have h1 := h1 (by simpa using g)
    conv => whnf
    exact res_same h1
   have h2 := h2 (by simpa using g)
   have e0 : e = 0 := by simpa using g
   subst e0
   conv => whnf
   have hend : IntKind.i64.wrap (((fileP v l).length : Int) + ((ofB Y).size : Int)) = ((fileP v (l ++ [r])).length : Int) := by
    rw [size_ofB, hfs, List.length_append, wrap_i64 (by omega) (by omega)]
    omega
   rw [hend]
   refine ⟨rfl, by rw [hsl, bytes_rec]; simp only [List.length_nil]; omega, ?_⟩
   conv => whnf
   refine ⟨by simp, by rw [bytes_rec]; simp only [List.length_cons, List.length_nil, List.nil_append, hsl]; omega, ?_⟩
   conv => whnf
   have er : fileA v (l ++ [r]) = [vi v, .sl none 7 (([] ++ recs l) ++ [r.enc]), .sl none 1 (([] ++ ints (endsR v l)) ++ [[vi ((fileP v (l ++ [r])).length : Int)]]), vi ((fileP v (l ++ [r])).length : Int)] := by
    unfold fileA
    rw [recs_snoc, endsR_snoc, ints_snoc]
    rfl
   rw [er] at h2
   repeat' first
    | (with_reducible exact trivial)
    | ((with_reducible (refine (show _ = _ ∧ _ ≤ _ ∧ _ from ?_))); (refine ⟨by first | (with_reducible rfl) | (simp only [List.nil_append, List.length_nil, Nat.zero_add]), by first | (rw [hil, hel, bytes_int]; simp only [List.length_nil]; omega) | (rw [bytes_int]; simp only [List.length_cons, List.length_nil, List.nil_append, hil, hel]; omega), ?_⟩))
    | (with_reducible apply And.intro)
    | ((fail_if_success (with_reducible (refine (show ∃ _, _ from ?_)))); (conv => whnf))
   all_goals exact res_same h2
theorem framesP_cons (p : B) (P : List B) : framesP (p :: P) = frameP p ++ framesP P := rfl
theorem cut_frames : ∀ (P : List B) (m : Nat), (∀ p ∈ P, 1 ≤ p.length ∧ p.length ≤ 2048) → m ≤ (framesP P).length →
  ∃ (c : Nat) (t : B), c ≤ P.length ∧ (framesP P).take m = framesP (P.take c) ++ t ∧ EndAt t ∧ t.length < 3000 ∧ (c < P.length → m < (framesP (P.take (c + 1))).length) := by
 intro P
 induction P with
 | nil =>
  intro m _ hm
  exact ⟨0, [], by simp, by simp [framesP], .inl rfl, by simp, fun h => by simp at h⟩
 | cons p P ih =>
  intro m hP hm
  have hp := hP p List.mem_cons_self
  have hfl := frameP_len hp.2
  rw [framesP_cons] at hm ⊢
  by_cases hlt : m < (frameP p).length
  ·refine ⟨0, (frameP p).take m, by simp, ?_, ?_, by rw [List.length_take]; omega, fun _ => ?_⟩
   ·rw [List.take_append_of_le_length (by omega)]
    simp [framesP]
   ·by_cases h0 : m = 0
    ·exact .inl (by rw [h0]; rfl)
    ·exact .inr ⟨p, m, hp.1, hp.2, by omega, hlt, rfl⟩
   ·rw [List.take_succ_cons, List.take_zero, framesP_cons, List.length_append]
    omega
  ·obtain ⟨m', rfl⟩ : ∃ m', m = (frameP p).length + m' := ⟨m - (frameP p).length, by omega⟩
   rw [List.length_append] at hm
   obtain ⟨c, t, h1, h2, h3, h4, h5⟩ := ih m' (fun q hq => hP q (List.mem_cons_of_mem _ hq)) (by omega)
   refine ⟨c + 1, t, by simpa using h1, ?_, h3, h4, fun h => ?_⟩
   ·rw [List.take_length_add_append, h2, List.take_succ_cons, framesP_cons, List.append_assoc]
   ·rw [List.take_succ_cons, framesP_cons, List.length_append]
    have := h5 (by simpa using h)
    omega
theorem cut_recs {v : Int} (hv : v ≠ 1) : ∀ (l : List Rc) (T : List B) (c : Nat), (∀ r ∈ l, MayR v r) → c ≤ (paysP v T l).length →
  ∃ (j : Nat) (ms : List B), j ≤ l.length ∧ (paysP v T l).take c = paysP v T (l.take j) ++ ms.map defP ∧ ms.length < 100 ∧ (∀ m ∈ ms, m.length ≤ 64) ∧ ∀ i, i ≤ l.length → (paysP v T (l.take i)).length ≤ c → i ≤ j := by
 intro l
 induction l with
 | nil =>
  intro T c _ hc
  exact ⟨0, [], by simp, by simp [paysP], by simp, by simp, fun i hi _ => by simpa using hi⟩
 | cons r l ih =>
  intro T c hM hc
  have hMr := hM r List.mem_cons_self
  have hd := hMr.deps
  rw [paysP] at hc ⊢
  by_cases hlt : c < (payP v T r).length
  ·have hnl := news_len (namesR r) T
   have hnr := namesR_len r
   have hpp : payP v T r = (newsP T (namesR r)).map defP ++ [lastW v (addT v T r) r] := by
    unfold payP defsP
    rw [if_neg hv]
   have hcl : c ≤ (newsP T (namesR r)).length := by
    rw [hpp] at hlt
    simp at hlt
    omega
   refine ⟨0, (newsP T (namesR r)).take c, by simp, ?_, by rw [List.length_take]; omega, ?_, fun i hi hle => ?_⟩
   ·rw [List.take_append_of_le_length (by omega), hpp, List.take_append_of_le_length (by simpa using hcl)]
    simp [paysP, List.map_take]
   ·intro m hm
    have h1 := news_sub (namesR r) T m (List.mem_of_mem_take hm)
    have h2 : m ∈ textsR r := tblN_mem.1 h1
    exact (textsR_lens hMr m h2).2
   ·cases i with
    | zero => omega
    | succ i =>
     exfalso
     rw [List.take_succ_cons, paysP, List.length_append] at hle
     omega
  ·obtain ⟨c', rfl⟩ : ∃ c', c = (payP v T r).length + c' := ⟨c - (payP v T r).length, by omega⟩
   rw [List.length_append] at hc
   obtain ⟨j, ms, h1, h2, h3, h4, h5⟩ := ih (addT v T r) c' (fun q hq => hM q (List.mem_cons_of_mem _ hq)) (by omega)
   refine ⟨j + 1, ms, by simpa using h1, ?_, h3, h4, fun i hi hle => ?_⟩
   ·rw [List.take_length_add_append, h2, List.take_succ_cons, paysP, List.append_assoc]
   ·cases i with
    | zero => omega
    | succ i =>
     rw [List.take_succ_cons, paysP, List.length_append] at hle
     have := h5 i (by simpa using hi) (by omega)
     omega
theorem cut_file {v : Int} (hv : v ≠ 1) {l : List Rc} (hm : ∀ r ∈ l, mayP v r = true) (hl : l.length ≤ 300) {m : Nat} (h8 : 8 ≤ m) (hle : m ≤ (fileP v l).length) :
  ∃ (j : Nat) (ms : List B) (t : B), j ≤ l.length ∧ (fileP v l).take m = fileP v (l.take j) ++ framesP (ms.map defP) ++ t ∧ ms.length < 100 ∧ (∀ m ∈ ms, m.length ≤ 64) ∧ EndAt t ∧ t.length < 3000 ∧ ∀ i, i ≤ l.length → (fileP v (l.take i)).length ≤ m → i ≤ j := by
 have hM : ∀ r ∈ l, MayR v r := fun r hr => may_all (hm r hr)
 have hlens := paysP_lens (v := v) (l := l) (t := []) hM (by simp; omega)
 obtain ⟨m', rfl⟩ : ∃ m', m = 8 + m' := ⟨m - 8, by omega⟩
 rw [fileP_len] at hle
 obtain ⟨c, t, c1, c2, c3, c4, c5⟩ := cut_frames (paysP v [] l) m' hlens (by omega)
 obtain ⟨j, ms, j1, j2, j3, j4, j5⟩ := cut_recs hv l [] c hM c1
 refine ⟨j, ms, t, j1, ?_, j3, j4, c3, c4, fun i hi hil => j5 i hi ?_⟩
 ·unfold fileP
  rw [show 8 + m' = (headP v).length + m' from by rw [headP_length], List.take_length_add_append, c2, j2, framesP_append]
  simp only [List.append_assoc]
 ·refine Nat.le_of_not_lt fun hlt => ?_
  have e : paysP v [] l = paysP v [] (l.take i) ++ paysP v (tblL v [] (l.take i)) (l.drop i) := by rw [← paysP_append, List.take_append_drop]
  have hlen : (paysP v [] (l.take i)).length ≤ (paysP v [] l).length := by rw [e, List.length_append]; omega
  have h1 := c5 (by omega)
  have h2 : (paysP v [] l).take (c + 1) = (paysP v [] (l.take i)).take (c + 1) := by
   rw [e, List.take_append_of_le_length (by omega)]
  rw [h2] at h1
  have h3 := framesP_part (paysP v [] (l.take i)) (c + 1)
  rw [fileP_len] at hil
  omega
theorem Whole.key {s : FSt} {name b : B} (h : Whole s name b) : name ∈ kys s.fs := lk_key h
theorem Whole.get {s : FSt} {name b : B} (h : Whole s name b) : gF s.fs name = ⟨b, b.length⟩ := by unfold gF; rw [show lk s.fs name = _ from h]; rfl
structure JEnd (x : List Rc) (s : FSt) (j w sy : Nat) : Prop where
 hok : FOk s 100 2000000
 hsy : sy ≤ j
 hj : j ≤ w
 hw : w ≤ x.length
 hmay : ∀ r ∈ x.take j, mayP 3 r = true
 hlog : ∃ k, lk s.fs logB = some ⟨fileP 3 (x.take j), k⟩ ∧ (fileP 3 (x.take sy)).length ≤ k
theorem JEnd.crash {x : List Rc} {s : FSt} {j w sy : Nat} (h : JEnd x s j w sy) (hx : x.length ≤ 30) (keep : List Int) :
  ∃ (m : Nat) (ms : List B) (t : B), sy ≤ m ∧ m ≤ w ∧ (∀ r ∈ x.take m, mayP 3 r = true) ∧ ms.length < 100 ∧ (∀ m ∈ ms, m.length ≤ 64) ∧ EndAt t ∧ t.length < 3000 ∧ Whole (s.crash keep) logB (fileP 3 (x.take m) ++ framesP (ms.map defP) ++ t) ∧ FOk (s.crash keep) 100 2000000 := by
 obtain ⟨k, hk, hsy⟩ := h.hlog
 obtain ⟨c1, c2, c3⟩ := crash_spec h.hok keep
 obtain ⟨m, m1, m2, m3⟩ := c3 logB (lk_key hk)
 have hg : gF s.fs logB = ⟨fileP 3 (x.take j), k⟩ := by unfold gF; rw [hk]; rfl
 rw [hg] at m1 m2 m3
 have hjl : (x.take j).length = j := by rw [List.length_take]; have := h.hj; have := h.hw; omega
 have h8 : 8 ≤ m := by
  have := fileP_len 3 (x.take sy)
  have m1 : k ≤ m := m1
  omega
 obtain ⟨m', ms, t, e1, e2, e3, e4, e5, e6, e7⟩ := cut_file (v := 3) (by decide) h.hmay (by rw [hjl]; have := h.hj; have := h.hw; omega) h8 m2
 have htt : ∀ i, i ≤ j → (x.take j).take i = x.take i := fun i hi => by rw [List.take_take, Nat.min_eq_left hi]
 rw [hjl] at e1 e7
 rw [htt m' e1] at e2
 refine ⟨m', ms, t, ?_, Nat.le_trans e1 h.hj, ?_, e3, e4, e5, e6, ?_, c1⟩
 ·refine e7 sy h.hsy ?_
  rw [htt sy h.hsy]
  have m1 : k ≤ m := m1
  omega
 ·intro r hr
  rw [← htt m' e1] at hr
  exact h.hmay r (List.mem_of_mem_take hr)
 ·have hin : logB ∈ kys (s.crash keep).fs := by rw [c2]; exact lk_key hk
  unfold Whole
  rw [← e2]
  cases e : lk (s.crash keep).fs logB with
  | none => exact absurd hin (lk_none.1 e)
  | some f =>
   have : gF (s.crash keep).fs logB = f := by unfold gF; rw [e]; rfl
   rw [this] at m3
   rw [m3]
   have m2 : m ≤ (fileP 3 (x.take j)).length := m2
   simp only [List.length_take, Option.some.injEq, Fl.mk.injEq, true_and]
   omega
def stO (over : Bool) (n : Nat) (v : Int) (l : List Rc) : AObj := .cells 52 [.val (.bool over), .ptr n 0, vi v, .sl none 7 (recs l), .sl none 1 (ints (endsR v l)), vi (((fileP v l).length : Nat) : Int)]
theorem met_calls (e : Int) (v : Int) (l : List Rc) (s : FSt) {R} (h : R (vi e) [stO (e == 7) 1 v l, fsC s 2, fsM s]) :
  ACalls Tryz.prog 65 [.ptr 0 0, vi e] [stO false 1 v l, fsC s 2, fsM s] R := by
 refine acalls_of_xwp (an := an65) tab_ok Tryz.func65 ?_
 conv => whnf
 exact h
theorem Over_calls (o : Bool) (v : Int) (l : List Rc) (s : FSt) {R} (h : R (.val (.bool o)) [stO o 1 v l, fsC s 2, fsM s]) :
  ACalls Tryz.prog 20 [.ptr 0 0] [stO o 1 v l, fsC s 2, fsM s] R := by
 refine acalls_of_xwp (an := an20) tab_ok Tryz.func20 ?_
 conv => whnf
 exact h
theorem stVersion_calls (o : Bool) (v : Int) (l : List Rc) (s : FSt) {R} (h : R (vi v) [stO o 1 v l, fsC s 2, fsM s]) :
  ACalls Tryz.prog 31 [.ptr 0 0] [stO o 1 v l, fsC s 2, fsM s] R := by
 refine acalls_of_xwp (an := an31) tab_ok Tryz.func31 ?_
 conv => whnf
 exact h
theorem stAll_calls (o : Bool) (v : Int) (l : List Rc) (hl : l.length < 100000) (hd : ∀ r ∈ l, r.deps.length < 1000000) (s : FSt) {R} (h : R (.sl none 7 (recs (docOf l))) [stO o 1 v l, fsC s 2, fsM s]) :
  ACalls Tryz.prog 29 [.ptr 0 0] [stO o 1 v l, fsC s 2, fsM s] R := by
 refine acalls_of_xwp (an := an29) tab_ok Tryz.func29 ?_
 conv => whnf
 refine Of_records l (by omega) hd ?_
 conv => whnf
 exact h
theorem Records_calls (o : Bool) (v : Int) (l : List Rc) (hl : l.length < 100000) (hd : ∀ r ∈ l, r.deps.length < 1000000) (s : FSt) {R} (h : R (.sl none 7 (recs l)) [stO o 1 v l, fsC s 2, fsM s]) :
  ACalls Tryz.prog 19 [.ptr 0 0] [stO o 1 v l, fsC s 2, fsM s] R := by
 refine acalls_of_xwp (an := an19) tab_ok Tryz.func19 ?_
 have hsl := recs_length l
 conv => whnf
 refine LoopP.ind1 (fun (i : Nat) => [(3, .sl (some (nameOf 3)) 7 (recs (l.take i))), (12, vi i)]) (fun i => [(0, stO o 1 v l), (1, fsC s 2), (2, fsM s), (nameOf 3, .row 67 7 i)]) (fun i => l.length - i) (fun i => i ≤ l.length) 0 rfl (by omega) ?_
 intro i hi0 IH
 conv => whnf
 refine br_intro (fun hc => ?_) (fun hc => ?_)
 ·have hi := lt_of_decE hsl hc
  have IH := IH (i + 1) hi (by omega)
  rw [recs_take hi] at IH
  have hst : (recs (l.take i)).length = i := by rw [recs_length, List.length_take]; omega
  (conv => whnf); (repeat ((with_reducible refine must_intro ?_ ?_); exact decide_eq_true (by omega); (conv => whnf)))
  refine idxK_map_intro (show (i : Int).toNat < l.length by simpa using hi) ?_
  rw [show l[(i : Int).toNat]'(by simpa using hi) = l[i] from by congr 1]
  conv => whnf
  refine Clone_calls l[i] (hd _ (List.getElem_mem hi)) ?_
  conv => whnf
  refine ⟨hst.symm, by rw [hst, bytes_rec]; simp only [List.length_cons, List.length_nil]; omega, ?_⟩
  conv => whnf
  rw [i64_nat (by omega), hst]
  exact IH
 ·have hi := ge_of_decE hsl hc
  rw [List.take_of_length_le hi]
  conv => whnf
  exact h
def putS (v : Int) (s : FSt) (l : List Rc) (r : Rc) : FSt × Int := s.append logB (moreP v l r)
theorem sPut_no (o : Bool) (s : FSt) (v : Int) (l : List Rc) (r : Rc) (hd : r.deps.length < 100000) (hr : o = false → r.kind ≠ 1 ∨ mayP v r = false) {R} (h1 : o = true → R (vi 7) [stO true 1 v l, fsC s 2, fsM s]) (h2 : o = false → R (vi 1) [stO false 1 v l, fsC s 2, fsM s]) :
  ACalls Tryz.prog 44 [.ptr 0 0, .agg r.enc] [stO o 1 v l, fsC s 2, fsM s] R := by
 refine acalls_of_xwp (an := an44) tab_ok Tryz.func44 ?_
 cases o with
 | true =>
  conv => whnf
  exact h1 rfl
 | false =>
  conv => whnf
  refine br_intro (fun g => ?_) (fun g => ?_)
  ·conv => whnf
   exact h2 rfl
  have g : r.kind = 1 := by simpa using g
  have hm : mayP v r = false := (hr rfl).resolve_left fun hx => hx g
  conv => whnf
  refine May_calls v r hd fun p hp => ?_
  rw [hm] at hp
  subst hp
  conv => whnf
  exact h2 rfl
theorem stFind_calls (o : Bool) (v : Int) (l : List Rc) (hl : l.length < 100000) (hd : ∀ r ∈ l, r.deps.length < 1000000) (s : FSt) (t : B) {R} (h : R (.tup [.agg (findR (docOf l) t).enc, .val (.bool (findP (docOf l) t).isSome)]) [stO o 1 v l, fsC s 2, fsM s]) :
  ACalls Tryz.prog 60 [.ptr 0 0, vs t] [stO o 1 v l, fsC s 2, fsM s] R := by
 refine acalls_of_xwp (an := an60) tab_ok Tryz.func60 ?_
 conv => whnf
 refine stAll_calls o v l hl hd s ?_
 conv => whnf
 refine Find_calls (docOf l) (by have := docOf_len l; omega) (fun r hr => hd r (docOf_sub hr).1) t ?_
 conv => whnf
 exact h
theorem Rewrite_calls (s : FSt) {nb fb : Nat} (hk : FOk s nb fb) (hnb : nb ≤ 800000) (hfb : fb ≤ 70000000) (v : Int) (l : List Rc) (w : Int) (m : List Rc) (hl : m.length ≤ 300) (hd : ∀ r ∈ m, r.deps.length < 100000) {R}
  (h0 : ∀ e : Int, e = 1 ∨ e = 11 → (¬ is3 w ∨ ¬ ∀ r ∈ m, mayP w r = true) → R (vi e) [stO false 1 v l, fsC s 2, fsM s])
  (h1 : is3 w → (∀ r ∈ m, mayP w r = true) → (startP s logB newB (fileP w m)).2 ≠ 0 → R (vi (startP s logB newB (fileP w m)).2) [stO ((startP s logB newB (fileP w m)).2 == 7) 1 v l, fsC (startP s logB newB (fileP w m)).1 2, fsM (startP s logB newB (fileP w m)).1])
  (h2 : is3 w → (∀ r ∈ m, mayP w r = true) → (startP s logB newB (fileP w m)).2 = 0 → R (vi 0) [stO false 1 w m, fsC (startP s logB newB (fileP w m)).1 2, fsM (startP s logB newB (fileP w m)).1]) :
  ACalls Tryz.prog 48 [.ptr 0 0, vi w, .sl none 7 (recs m)] [stO false 1 v l, fsC s 2, fsM s] R := by
 refine acalls_of_xwp (an := an48) tab_ok Tryz.func48 ?_
 by_cases hw : is3 w
 ·by_cases hm : ∀ r ∈ m, mayP w r = true
  ·have hs := fileP_small hm hl
   conv => whnf
   refine cPut_any hw m (by omega) hd (fun _ => ?_) (fun hno => absurd hm hno)
   conv => whnf
   refine Start_ok s logB newB (fileP w m) log_new w m hk (by omega) (by omega) (by decide) hs (fun hR => cPut_any hw m (by omega) hd (fun _ => hR) (fun hno => absurd hm hno)) ?_
   have h1 := h1 hw hm
   have h2 := h2 hw hm
   generalize startP s logB newB (fileP w m) = se at h1 h2 ⊢
   obtain ⟨s2, e⟩ := se
   by_cases he : e = 0
   ·subst he
    have h2 := h2 rfl
    conv => whnf
    refine cGet_any hw m hm hl ?_
    conv => whnf
    exact h2
   ·have h1 := h1 he
    conv => whnf
    refine br_true (by simpa using he) ?_
    conv => whnf
    refine met_calls e v l s2 ?_
    conv => whnf
    exact h1
  ·conv => whnf
   refine cPut_any hw m (by omega) hd (fun hy => absurd hy hm) (fun _ => ?_)
   conv => whnf
   exact h0 1 (.inl rfl) (.inr hm)
 ·conv => whnf
  refine cPut_no w (fun hx => hw (by unfold is3; omega)) m ?_
  conv => whnf
  exact h0 11 (.inr rfl) (.inl hw)
def goneT (t : B) : Rc := ⟨2, t, 0, [], 0, 0, []⟩
theorem stOpen_fs0 (v : Int) (hv : is3 v) {R} (h : R (.tup [.ptr 2 0, vi 0]) [fsC (fsL (fileP v [])) 1, fsM (fsL (fileP v [])), stO false 0 v []]) :
  ACalls Tryz.prog 24 [.ptr 0 0, vi v] [fsC fs0 1, fsM fs0] R := by
 refine acalls_of_xwp (an := { an24 with cst := [] }) tab_ok Tryz.func24 ?_
 have hm0 : ∀ r ∈ ([] : List Rc), mayP v r = true := by simp
 have hs := fileP_small (v := v) (l := []) hm0 (by simp)
 have hst := start_fs0 logB newB (fileP v []) log_new
 have hg1 : ¬ v < 1 := by unfold is3 at hv; omega
 have hg2 : ¬ 3 < v := by unfold is3 at hv; omega
 conv => whnf
 refine br_false (decide_eq_false hg1) ?_
 conv => whnf
 refine br_false (decide_eq_false hg2) ?_
 conv => whnf
 refine Down_calls fs0 ?_
 conv => whnf
 refine fsNames_calls fs0 (by simp [fs0]) (by simp [fs0, kys]) (by simp [fs0, kys]) ?_
 rw [show fs0.names = [] from by simp [FSt.names, sortB, fs0, kys]]
 conv => whnf
 refine sContains_calls [] newB (by simp) ?_
 conv => whnf
 refine sContains_calls [] logB (by simp) ?_
 conv => whnf
 refine ACalls.args ?_ (Start_ok fs0 logB newB (fileP v []) log_new v [] fs0_fok (by omega) (by omega) (by decide) hs (fun hR => cPut_any hv [] (by simp) (by simp) (fun _ => hR) (fun hno => absurd hm0 hno)) ?_)
 ·exact leL.cons (.refl _) (leL.cons (.refl _) (leL.cons (.refl _) (leL.cons (.refl _) (leL.cons (le_nil 7) leL.nil))))
 rw [hst]
 have hw := fsL_whole (fileP v [])
 have hh : R (.tup [.ptr 2 0, vi 0]) [fsC ⟨[(logB, ⟨fileP v [], (fileP v []).length⟩)], -1, -1, false⟩ 1, fsM ⟨[(logB, ⟨fileP v [], (fileP v []).length⟩)], -1, -1, false⟩, stO false 0 v []] := h
 have hw : Whole ⟨[(logB, ⟨fileP v [], (fileP v []).length⟩)], -1, -1, false⟩ logB (fileP v []) := hw
 generalize (FSt.mk [(logB, ⟨fileP v [], (fileP v []).length⟩)] (-1) (-1) false) = s at hh hw ⊢
 conv => whnf
 refine Open_ok s logB v [] hw.key (by rw [hw.get]) hs (fun hR => cGet_any hv [] hm0 (by simp) hR) ?_
 conv => whnf
 exact hh
structure Sp where
 kind : Int
 r : Rc
 name : B
 l : List Rc
 version : Int
 n : Int
def Sp.enc (o : Sp) : List AV := [vi o.kind, vi o.r.kind, vs o.r.target, uv o.r.rule, .sl none 3 (dpsA o.r.deps), uv o.r.out, uv o.r.wen, vs o.r.tag, vs o.name, .sl none 7 (recs o.l), vi o.version, vi o.n]
theorem table_1 (l : List Rc) (hl : l.length ≤ 1000) (hm : ∀ r ∈ l, mayP 1 r = true) (x : AV) (hx : x = .sl none 1 (ints (endsR 1 l))) (n : Int) {R} (h : R (.tup [.ptr 0 0, vi 0]) [tblF]) :
  ACalls Tryz.prog 144 [.agg [vi 1, .sl none 7 (recs l), x, vi n]] [] R := by
 subst hx
 refine acalls_of_xwp (an := an144) tab_ok Tryz.func144 ?_
 have hsl := recs_length l
 conv => whnf
 refine New_nil ?_
 conv => whnf
 refine LoopP.ind1 (fun (i : Nat) => [(13, vi i)]) (fun i => [(freshN 9 0, tblF)]) (fun i => l.length - i) (fun i => i ≤ l.length) 0 rfl (by omega) ?_
 intro i h0 IH
 conv => whnf
 refine br_intro (fun hc => ?_) (fun hc => ?_)
 ·have hi := lt_of_decE hsl hc
  have IH := IH (i + 1) hi (by omega)
  (conv => whnf); (repeat ((with_reducible refine must_intro ?_ ?_); exact decide_eq_true (by omega); (conv => whnf)))
  refine idxK_map_intro (show (i : Int).toNat < l.length by simpa using hi) ?_
  rw [show l[(i : Int).toNat]'(by simpa using hi) = l[i] from by congr 1]
  conv => whnf
  refine sPut_1 l[i] (hm _ (List.getElem_mem hi)) ?_
  conv => whnf
  rw [i64_nat (by omega)]
  exact IH
 ·conv => whnf
  exact h
theorem payP_one (t : List B) (r : Rc) : payP 1 t r = [lastW 1 t r] := by simp [payP, defsP, addT]
theorem jframes_1 (r : Rc) (hm : mayP 1 r = true) (t : List B) (ht0 : t = []) {R} (h : R (.tup [.sl none 1 (byteEls (framesP (payP 1 t r))), vi 0]) [tblF]) :
  ACalls Tryz.prog 145 [vi 1, .ptr 0 0, .agg r.enc] [tblF] R := by
 subst ht0
 refine acalls_of_xwp (an := an145) tab_ok Tryz.func145 ?_
 have hpl := payP_lens (t := []) (may_all hm) (by simp)
 rw [payP_one] at hpl h
 have hpl := hpl _ (List.mem_singleton.2 rfl)
 have hfr : framesP [lastW 1 [] r] = [] ++ frameP (lastW 1 [] r) := by simp [framesP]
 rw [hfr] at h
 conv => whnf
 refine sPut_1 r hm ?_
 rw [payP_one]
 generalize lastW 1 [] r = p at hpl h ⊢
 have hrl := rowsB_length [p]
 conv => whnf
 refine LoopP.step ?_
 conv => whnf
 refine ACalls.args (leL.cons (le_nil 1) (leL.refl _)) (framePut_calls [] p (by simp) hpl.1 hpl.2 ?_)
 conv => whnf
 refine LoopP.step ?_
 conv => whnf
 exact h
theorem jAppend_1 (s : FSt) (name : B) (hn : name.length < 1000000) {nb fb : Nat} (hk : FOk s nb fb) (hfb : fb ≤ 80000000) (l : List Rc) (hl : l.length ≤ 300) (hm : ∀ r ∈ l, mayP 1 r = true) (r : Rc) (hr : mayP 1 r = true) {R}
  (h1 : (s.append name (moreP 1 l r)).2 ≠ 0 → R (.tup [zF, vi (s.append name (moreP 1 l r)).2]) [fsC (s.append name (moreP 1 l r)).1 1, fsM (s.append name (moreP 1 l r)).1])
  (h2 : (s.append name (moreP 1 l r)).2 = 0 → R (.tup [.agg (fileA 1 (l ++ [r])), vi 0]) [fsC (s.append name (moreP 1 l r)).1 1, fsM (s.append name (moreP 1 l r)).1]) :
  ACalls Tryz.prog 115 [.ptr 0 0, vs name, .agg (fileA 1 l), .agg r.enc] [fsC s 1, fsM s] R := by
 refine ACalls.res ?_
 refine acalls_of_xwp (an := an115) tab_ok Tryz.func115 ?_
 have hM : ∀ x ∈ l, MayR 1 x := fun x hx => may_all (hm x hx)
 have hMr := may_all hr
 have hfl := fileP_small hm hl
 have htl := tblL_len (v := 1) (l := l) (t := []) hM
 simp at htl
 have hpf := payP_frames (v := 1) (t := tblL 1 [] l) hMr (by omega)
 have hsl := recs_length l
 have hel := endsR_length 1 l
 have hil := ints_length (endsR 1 l)
 have hml : (moreP 1 l r).length ≤ 3000 := hpf
 conv => whnf
 refine table_1 l (by omega) hm _ rfl _ ?_
 obtain ⟨T, hT⟩ : ∃ T, T = tblL 1 [] l := ⟨_, rfl⟩
 have hmo : moreP 1 l r = framesP (payP 1 T r) := by rw [hT]; rfl
 rw [← hT] at htl
 rw [hmo] at h1 h2 hml
 have hl0 : T = [] := by rw [hT]; exact tblL_one _ _
 have hend : IntKind.i64.wrap (((fileP 1 l).length : Int) + ((byteEls (framesP (payP 1 T r))).length : Int)) = ((fileP 1 (l ++ [r])).length : Int) := by
  rw [fileP_snoc, hmo, List.length_append, bel_length, wrap_i64 (by omega) (by omega)]
  omega
 conv => whnf
 refine jframes_1 r hr T hl0 ?_
 conv => whnf
 refine Append_calls s name (framesP (payP 1 T r)) hk.fail hk.fall (by omega) (by have := (hk.m.get name).2; omega) ?_
 conv => whnf
 refine br_intro (fun g => ?_) (fun g => ?_)
 ·conv => whnf
  exact res_same (h1 (by simpa using g))
 have h2 := h2 (by simpa using g)
 generalize framesP (payP 1 T r) = F at hml hend h2 ⊢
 conv => whnf
 rw [hend]
 refine rCloneO_calls l (by omega) (fun e => ?_) ?_
 ·conv => whnf
  refine Clone_calls r (by have := hMr.deps; omega) ?_
  conv => whnf
  refine ⟨by rw [bytes_rec]; simp only [List.length_cons, List.length_nil]; decide, ?_⟩
  conv => whnf
  obtain ⟨X, hXX⟩ : ∃ X, X = [r.enc] := ⟨_, rfl⟩
  have hX : recs (l ++ [r]) = X := by rw [recs_snoc, e, hXX]; rfl
  refine iCloneO_calls (endsR 1 l) (by omega) (fun e2 => ?_) ?_
  ·conv => whnf
   refine ⟨by rw [bytes_int]; simp only [List.length_cons, List.length_nil]; decide, ?_⟩
   conv => whnf
   have er : fileA 1 (l ++ [r]) = [vi 1, .sl none 7 X, .sl none 1 [[vi ((fileP 1 (l ++ [r])).length : Int)]], vi ((fileP 1 (l ++ [r])).length : Int)] := by
    unfold fileA
    rw [endsR_snoc, e2, ← hX]
    rfl
   rw [er, hXX] at h2
   exact res_same h2
  ·conv => whnf
   refine ⟨hil.symm, by rw [hil, hel, bytes_int]; simp only [List.length_cons, List.length_nil]; omega, ?_⟩
   conv => whnf
   have er : fileA 1 (l ++ [r]) = [vi 1, .sl none 7 X, .sl none 1 (ints (endsR 1 l) ++ [[vi ((fileP 1 (l ++ [r])).length : Int)]]), vi ((fileP 1 (l ++ [r])).length : Int)] := by
    unfold fileA
    rw [← hX, endsR_snoc, ints_snoc]
   rw [er, hXX] at h2
   exact res_same h2
 ·conv => whnf
  refine Clone_calls r (by have := hMr.deps; omega) ?_
  conv => whnf
  refine ⟨rfl, by rw [bytes_rec, hsl]; simp only [List.length_cons, List.length_nil]; omega, ?_⟩
  conv => whnf
  obtain ⟨X, hXX⟩ : ∃ X, X = recs l ++ [r.enc] := ⟨_, rfl⟩
  have hX : recs (l ++ [r]) = X := by rw [recs_snoc, hXX]
  refine iCloneO_calls (endsR 1 l) (by omega) (fun e2 => ?_) ?_
  ·conv => whnf
   refine ⟨by rw [bytes_int]; simp only [List.length_cons, List.length_nil]; decide, ?_⟩
   conv => whnf
   have er : fileA 1 (l ++ [r]) = [vi 1, .sl none 7 X, .sl none 1 [[vi ((fileP 1 (l ++ [r])).length : Int)]], vi ((fileP 1 (l ++ [r])).length : Int)] := by
    unfold fileA
    rw [endsR_snoc, e2, ← hX]
    rfl
   rw [er, hXX] at h2
   exact res_same h2
  ·conv => whnf
   refine ⟨hil.symm, by rw [hil, hel, bytes_int]; simp only [List.length_cons, List.length_nil]; omega, ?_⟩
   conv => whnf
   have er : fileA 1 (l ++ [r]) = [vi 1, .sl none 7 X, .sl none 1 (ints (endsR 1 l) ++ [[vi ((fileP 1 (l ++ [r])).length : Int)]]), vi ((fileP 1 (l ++ [r])).length : Int)] := by
    unfold fileA
    rw [← hX, endsR_snoc, ints_snoc]
   rw [er, hXX] at h2
   exact res_same h2
theorem jAppend_any {v : Int} (hv : is3 v) (s : FSt) (name : B) (hn : name.length < 1000000) {nb fb : Nat} (hk : FOk s nb fb) (hfb : fb ≤ 80000000) (l : List Rc) (hl : l.length ≤ 300) (hm : ∀ r ∈ l, mayP v r = true) (r : Rc) (hr : mayP v r = true) {R}
  (h1 : (s.append name (moreP v l r)).2 ≠ 0 → R (.tup [zF, vi (s.append name (moreP v l r)).2]) [fsC (s.append name (moreP v l r)).1 1, fsM (s.append name (moreP v l r)).1])
  (h2 : (s.append name (moreP v l r)).2 = 0 → R (.tup [.agg (fileA v (l ++ [r])), vi 0]) [fsC (s.append name (moreP v l r)).1 1, fsM (s.append name (moreP v l r)).1]) :
  ACalls Tryz.prog 115 [.ptr 0 0, vs name, .agg (fileA v l), .agg r.enc] [fsC s 1, fsM s] R := by
 rcases hv with rfl | rfl | rfl
 ·exact jAppend_1 s name hn hk hfb l hl hm r hr h1 h2
 ·exact jAppend_v (.inl rfl) s name hn hk hfb l hl hm r hr h1 h2
 ·exact jAppend_v (.inr rfl) s name hn hk hfb l hl hm r hr h1 h2
theorem paysP_one : ∀ (l : List Rc) (T : List B), paysP 1 T l = l.map (lastW 1 T) := by
 intro l
 induction l with
 | nil => intro T; rfl
 | cons r l ih =>
  intro T
  rw [paysP, List.map_cons, addT_one, ih]
  simp [payP, defsP, addT]
theorem cut_recs_any {v : Int} (l : List Rc) (T : List B) (c : Nat) (hM : ∀ r ∈ l, MayR v r) (hc : c ≤ (paysP v T l).length) :
  ∃ (j : Nat) (ms : List B), j ≤ l.length ∧ (paysP v T l).take c = paysP v T (l.take j) ++ ms.map defP ∧ (v = 1 → ms = []) ∧ ms.length < 100 ∧ (∀ m ∈ ms, m.length ≤ 64) ∧ ∀ i, i ≤ l.length → (paysP v T (l.take i)).length ≤ c → i ≤ j := by
 by_cases hv : v = 1
 ·subst hv
  rw [paysP_one] at hc ⊢
  simp only [List.length_map] at hc
  refine ⟨c, [], hc, ?_, fun _ => rfl, by simp, by simp, fun i hi hle => ?_⟩
  ·rw [paysP_one, List.map_take]; simp
  ·rw [paysP_one] at hle
   simp at hle
   omega
 ·obtain ⟨j, ms, h1, h2, h3, h4, h5⟩ := cut_recs hv l T c hM hc
  exact ⟨j, ms, h1, h2, fun e => absurd e hv, h3, h4, h5⟩
theorem cut_any {v : Int} {l : List Rc} (hm : ∀ r ∈ l, mayP v r = true) (hl : l.length ≤ 300) {m : Nat} (h8 : 8 ≤ m) (hle : m ≤ (fileP v l).length) :
  ∃ (j : Nat) (ms : List B) (t : B), j ≤ l.length ∧ (fileP v l).take m = fileP v (l.take j) ++ framesP (ms.map defP) ++ t ∧ (v = 1 → ms = []) ∧ ms.length < 100 ∧ (∀ m ∈ ms, m.length ≤ 64) ∧ EndAt t ∧ t.length < 3000 ∧ ∀ i, i ≤ l.length → (fileP v (l.take i)).length ≤ m → i ≤ j := by
 have hM : ∀ r ∈ l, MayR v r := fun r hr => may_all (hm r hr)
 have hlens := paysP_lens (v := v) (l := l) (t := []) hM (by simp; omega)
 obtain ⟨m', rfl⟩ : ∃ m', m = 8 + m' := ⟨m - 8, by omega⟩
 rw [fileP_len] at hle
 obtain ⟨c, t, c1, c2, c3, c4, c5⟩ := cut_frames (paysP v [] l) m' hlens (by omega)
 obtain ⟨j, ms, j1, j2, j0, j3, j4, j5⟩ := cut_recs_any l [] c hM c1
 refine ⟨j, ms, t, j1, ?_, j0, j3, j4, c3, c4, fun i hi hil => j5 i hi ?_⟩
 ·unfold fileP
  rw [show 8 + m' = (headP v).length + m' from by rw [headP_length], List.take_length_add_append, c2, j2, framesP_append]
  simp only [List.append_assoc]
 ·refine Nat.le_of_not_lt fun hlt => ?_
  have e : paysP v [] l = paysP v [] (l.take i) ++ paysP v (tblL v [] (l.take i)) (l.drop i) := by rw [← paysP_append, List.take_append_drop]
  have hlen : (paysP v [] (l.take i)).length ≤ (paysP v [] l).length := by rw [e, List.length_append]; omega
  have h1 := c5 (by omega)
  have h2 : (paysP v [] l).take (c + 1) = (paysP v [] (l.take i)).take (c + 1) := by
   rw [e, List.take_append_of_le_length (by omega)]
  rw [h2] at h1
  have h3 := framesP_part (paysP v [] (l.take i)) (c + 1)
  rw [fileP_len] at hil
  omega
structure CutF (v : Int) (l : List Rc) (b : B) : Prop where
 hm : ∀ r ∈ l, mayP v r = true
 hl : l.length ≤ 300
 cut : ∃ (ms : List B) (t : B), b = fileP v l ++ framesP (ms.map defP) ++ t ∧ (v = 1 → ms = []) ∧ ms.length < 100 ∧ (∀ m ∈ ms, m.length ≤ 64) ∧ EndAt t ∧ t.length < 3000
theorem CutF.len {v : Int} {l : List Rc} {b : B} (h : CutF v l b) : b.length < 2000000 ∧ (fileP v l).length < 1000000 ∧ (fileP v l).length ≤ b.length := by
 obtain ⟨hm, hl, ms, t, hb, _, hml, hmf, _, htl⟩ := h
 have hs := fileP_small hm hl
 have hfm := framesP_len (l := ms.map defP) (k := 65) (fun p hp => by
  obtain ⟨m, hm1, rfl⟩ := List.mem_map.1 hp
  have := hmf m hm1
  simp [defP]; omega) (by omega)
 rw [List.length_map] at hfm
 rw [hb, List.length_append, List.length_append]
 omega
theorem gone_any {v : Int} (hv : is3 v) {t : B} (h : nameOk t = true) : mayP v (goneT t) = true := by
 unfold mayP goneT
 have h1 : ¬ v < 1 := by unfold is3 at hv; omega
 have h2 : ¬ 3 < v := by unfold is3 at hv; omega
 rw [if_neg (by simp [h, h1, h2]), if_neg (by show ¬ (2 : Int) = 1; decide), if_pos rfl]
 exact decide_eq_true rfl
theorem sput_any {v : Int} (hv : is3 v) (s : FSt) {nb fb : Nat} (hk : FOk s nb fb) (hfb : fb ≤ 80000000) (l : List Rc) (hl : l.length ≤ 300) (hm : ∀ r ∈ l, mayP v r = true) (r : Rc) (hr : mayP v r = true) {R}
  (h1 : (putS v s l r).2 ≠ 0 → R (vi (putS v s l r).2) [stO ((putS v s l r).2 == 7) 1 v l, fsC (putS v s l r).1 2, fsM (putS v s l r).1])
  (h2 : (putS v s l r).2 = 0 → R (vi 0) [stO false 1 v (l ++ [r]), fsC (putS v s l r).1 2, fsM (putS v s l r).1]) :
  ACalls Tryz.prog 75 [.ptr 0 0, .agg r.enc] [stO false 1 v l, fsC s 2, fsM s] R := by
 refine acalls_of_xwp (an := { an75 with anyo := [1] }) tab_ok Tryz.func75 ?_
 unfold putS at h1 h2
 conv => whnf
 repeat' first | exact trivial | apply And.intro | ((fail_if_success (refine (show ACalls _ _ _ _ _ from ?_))); (fail_if_success (refine br_true ?_ ?_)); (conv => whnf))
 all_goals refine jAppend_any hv s logB (by decide) hk hfb l hl hm r hr ?_ ?_
 all_goals generalize s.append logB (moreP v l r) = se at h1 h2 ⊢
 all_goals obtain ⟨s2, e⟩ := se
 all_goals intro he
 all_goals first | (have he : e ≠ 0 := he) | (have he : e = 0 := he; subst he)
 all_goals (repeat' first | exact trivial | apply And.intro | ((fail_if_success (refine (show ACalls _ _ _ _ _ from ?_))); (fail_if_success (refine br_true ?_ ?_)); (conv => whnf)))
 all_goals first | refine br_false (by simpa using he) ?_ | skip
 all_goals (repeat' first | exact trivial | apply And.intro | ((fail_if_success (refine (show ACalls _ _ _ _ _ from ?_))); (fail_if_success (refine br_true ?_ ?_)); (conv => whnf)))
 all_goals first | refine met_calls 0 v (l ++ [r]) s2 ?_ | refine met_calls e v l s2 ?_
 all_goals (conv => whnf)
 all_goals first | exact h2 rfl | exact h1 he
theorem sPut_any {v : Int} (hv : is3 v) (s : FSt) {nb fb : Nat} (hk : FOk s nb fb) (hfb : fb ≤ 80000000) (l : List Rc) (hl : l.length ≤ 300) (hm : ∀ r ∈ l, mayP v r = true) (r : Rc) (hkd : r.kind = 1) (hr : mayP v r = true) {R}
  (h1 : (putS v s l r).2 ≠ 0 → R (vi (putS v s l r).2) [stO ((putS v s l r).2 == 7) 1 v l, fsC (putS v s l r).1 2, fsM (putS v s l r).1])
  (h2 : (putS v s l r).2 = 0 → R (vi 0) [stO false 1 v (l ++ [r]), fsC (putS v s l r).1 2, fsM (putS v s l r).1]) :
  ACalls Tryz.prog 44 [.ptr 0 0, .agg r.enc] [stO false 1 v l, fsC s 2, fsM s] R := by
 refine acalls_of_xwp (an := an44) tab_ok Tryz.func44 ?_
 have hd := (may_all hr).deps
 conv => whnf
 refine br_false (by simpa using hkd) ?_
 conv => whnf
 refine May_calls v r (by omega) fun p hp => ?_
 rw [hr] at hp
 subst hp
 conv => whnf
 refine sput_any hv s hk hfb l hl hm r hr (fun he => ?_) (fun he => ?_)
 ·have h1 := h1 he
  generalize putS v s l r = se at h1 he ⊢
  obtain ⟨s2, e⟩ := se
  conv => whnf
  exact h1
 ·have h2 := h2 he
  generalize putS v s l r = se at h2 he ⊢
  obtain ⟨s2, e⟩ := se
  conv => whnf
  exact h2
theorem Delete_any {v : Int} (hv : is3 v) (s : FSt) {nb fb : Nat} (hk : FOk s nb fb) (hfb : fb ≤ 80000000) (l : List Rc) (hl : l.length ≤ 300) (hm : ∀ r ∈ l, mayP v r = true) (t : B) {R}
  (h0 : ∀ e : Int, e = 1 ∨ e = 6 → ¬ (nameOk t = true ∧ (findP (docOf l) t).isSome = true) → R (vi e) [stO false 1 v l, fsC s 2, fsM s])
  (h1 : nameOk t = true → (findP (docOf l) t).isSome = true → (putS v s l (goneT t)).2 ≠ 0 → R (vi (putS v s l (goneT t)).2) [stO ((putS v s l (goneT t)).2 == 7) 1 v l, fsC (putS v s l (goneT t)).1 2, fsM (putS v s l (goneT t)).1])
  (h2 : nameOk t = true → (findP (docOf l) t).isSome = true → (putS v s l (goneT t)).2 = 0 → R (vi 0) [stO false 1 v (l ++ [goneT t]), fsC (putS v s l (goneT t)).1 2, fsM (putS v s l (goneT t)).1]) :
  ACalls Tryz.prog 42 [.ptr 0 0, vs t] [stO false 1 v l, fsC s 2, fsM s] R := by
 refine acalls_of_xwp (an := an42) tab_ok Tryz.func42 ?_
 have hd : ∀ r ∈ l, r.deps.length < 1000000 := fun r hr => by have := (may_all (hm r hr)).deps; omega
 conv => whnf
 refine stFind_calls false v l (by omega) hd s t ?_
 generalize findR (docOf l) t = fr
 generalize (findP (docOf l) t).isSome = fp at h0 h1 h2 ⊢
 conv => whnf
 refine Name_calls t ?_
 cases hn : nameOk t with
 | false =>
  conv => whnf
  exact h0 1 (.inl rfl) (fun hx => by rw [hn] at hx; cases hx.1)
 | true =>
 cases fp with
 | false =>
  conv => whnf
  exact h0 6 (.inr rfl) (fun hx => by cases hx.2)
 | true =>
 conv => whnf
 refine ACalls.args ?_ (sput_any hv s hk hfb l hl hm (goneT t) (gone_any hv hn) (fun he => ?_) (fun he => ?_))
 ·exact leL.cons (.refl _) (leL.cons (le_agg (leL.cons (.refl _) (leL.cons (.refl _) (leL.cons (.refl _) (leL.cons (le_nil 3) (leL.refl _)))))) leL.nil)
 ·have h1 := h1 hn rfl he
  generalize putS v s l (goneT t) = se at h1 ⊢
  obtain ⟨s2, e⟩ := se
  conv => whnf
  exact h1
 ·have h2 := h2 hn rfl he
  generalize putS v s l (goneT t) = se at h2 ⊢
  obtain ⟨s2, e⟩ := se
  conv => whnf
  exact h2
def stR (ov : Bool) (v : Int) (l : List Rc) (s : FSt) : List AV := [.sl none 3 (flsR s.fs), vi s.fail, vi s.fall, .val (.bool s.down), vi v, .sl none 7 (recs l), .sl none 1 (ints (endsR v l)), vi (((fileP v l).length : Nat) : Int), .val (.bool ov)]
def rputS (v : Int) (s : FSt) (l : List Rc) (r : Rc) : FSt × Int := s.rappend logB (moreP v l r)
theorem rsput_calls {v : Int} (hv : is3 v) (s : FSt) (hs : ROk s) (hg : (gF s.fs logB).b.length < 900000000) (l : List Rc) (hl : l.length ≤ 300) (hm : ∀ r ∈ l, mayP v r = true) (r : Rc) (hr : mayP v r = true) (o : Bool) {R}
  (h1 : (rputS v s l r).2 ≠ 0 → R (.tup [.agg (stR ((rputS v s l r).2 == 7) v l (rputS v s l r).1), vi (rputS v s l r).2]) [])
  (h2 : (rputS v s l r).2 = 0 → R (.tup [.agg (stR false v (l ++ [r]) (rputS v s l r).1), vi 0]) []) :
  ACalls Tryz.prog 79 [.agg (stR o v l s), .agg r.enc] [] R := by
 refine acalls_of_xwp (an := an79) tab_ok Tryz.func79 ?_
 unfold rputS at h1 h2
 conv => whnf
 refine rjAppend_calls s hs logB (by decide) hg hv l hl hm r hr (fun he => ?_) (fun he => ?_)
 ·have h1 := h1 he
  clear h2
  generalize s.rappend logB (moreP v l r) = se at h1 he ⊢
  obtain ⟨s2, e⟩ := se
  have he : e ≠ 0 := he
  conv => whnf
  refine br_false (by simpa using he) ?_
  conv => whnf
  exact h1
 ·have h2 := h2 he
  clear h1
  generalize s.rappend logB (moreP v l r) = se at h2 he ⊢
  obtain ⟨s2, e⟩ := se
  conv => whnf
  exact h2
theorem rsPut_calls {v : Int} (hv : is3 v) (s : FSt) (hs : ROk s) (hg : (gF s.fs logB).b.length < 900000000) (l : List Rc) (hl : l.length ≤ 300) (hm : ∀ r ∈ l, mayP v r = true) (r : Rc) (hd : r.deps.length < 100000) {R}
  (h0 : ¬ (r.kind = 1 ∧ mayP v r = true) → R (.tup [.agg (stR false v l s), vi 1]) [])
  (h1 : r.kind = 1 → mayP v r = true → (rputS v s l r).2 ≠ 0 → R (.tup [.agg (stR ((rputS v s l r).2 == 7) v l (rputS v s l r).1), vi (rputS v s l r).2]) [])
  (h2 : r.kind = 1 → mayP v r = true → (rputS v s l r).2 = 0 → R (.tup [.agg (stR false v (l ++ [r]) (rputS v s l r).1), vi 0]) []) :
  ACalls Tryz.prog 45 [.agg (stR false v l s), .agg r.enc] [] R := by
 refine acalls_of_xwp (an := an45) tab_ok Tryz.func45 ?_
 conv => whnf
 refine br_intro (fun g => ?_) (fun g => ?_)
 ·have h0 := h0 (fun hx => by simp [hx.1] at g)
  conv => whnf
  exact h0
 have g : r.kind = 1 := by simpa using g
 conv => whnf
 refine refMay_calls v r hd fun p hp => ?_
 cases p with
 | false =>
  have h0 := h0 (fun hx => by rw [hx.2] at hp; cases hp)
  conv => whnf
  exact h0
 | true =>
  have hr : mayP v r = true := hp.symm
  have h1 := h1 g hr
  have h2 := h2 g hr
  conv => whnf
  refine rsput_calls hv s hs hg l hl hm r hr false (fun he => ?_) (fun he => ?_)
  ·have h1 := h1 he
   generalize rputS v s l r = se at h1 he ⊢
   obtain ⟨s2, e⟩ := se
   conv => whnf
   exact h1
  ·have h2 := h2 he
   generalize rputS v s l r = se at h2 he ⊢
   obtain ⟨s2, e⟩ := se
   conv => whnf
   exact h2
theorem rsAll_calls (o : Bool) (v : Int) (l : List Rc) (s : FSt) (hl : l.length ≤ 300) (hT : ∀ r ∈ l, r.target.length < 1000000) {R} (h : R (.sl none 7 (recs (docOf l))) []) : ACalls Tryz.prog 78 [.agg (stR o v l s)] [] R := by
 refine acalls_of_xwp (an := an78) tab_ok Tryz.func78 ?_
 conv => whnf
 refine docOf_calls l (by omega) hT ?_
 conv => whnf
 exact h
theorem rsDelete_calls {v : Int} (hv : is3 v) (s : FSt) (hs : ROk s) (hg : (gF s.fs logB).b.length < 900000000) (l : List Rc) (hl : l.length ≤ 300) (hm : ∀ r ∈ l, mayP v r = true) (t : B) {R}
  (h0 : ∀ e : Int, ¬ (nameOk t = true ∧ (findP (docOf l) t).isSome = true) → R (.tup [.agg (stR false v l s), vi e]) [])
  (h1 : nameOk t = true → (findP (docOf l) t).isSome = true → (rputS v s l (goneT t)).2 ≠ 0 → R (.tup [.agg (stR ((rputS v s l (goneT t)).2 == 7) v l (rputS v s l (goneT t)).1), vi (rputS v s l (goneT t)).2]) [])
  (h2 : nameOk t = true → (findP (docOf l) t).isSome = true → (rputS v s l (goneT t)).2 = 0 → R (.tup [.agg (stR false v (l ++ [goneT t]) (rputS v s l (goneT t)).1), vi 0]) []) :
  ACalls Tryz.prog 43 [.agg (stR false v l s), vs t] [] R := by
 refine acalls_of_xwp (an := an43) tab_ok Tryz.func43 ?_
 have hT : ∀ r ∈ l, r.target.length < 1000000 := fun r hr => by have := (may_all (hm r hr)).t2; omega
 have hdl := docOf_len l
 conv => whnf
 refine refName_calls t ?_
 cases hn : nameOk t with
 | false =>
  have h0 := h0 1 (fun hx => by rw [hn] at hx; cases hx.1)
  conv => whnf
  exact h0
 | true =>
 conv => whnf
 refine rsAll_calls false v l s hl hT ?_
 conv => whnf
 refine docFind_calls (docOf l) (by omega) t ?_
 generalize findR (docOf l) t = fr
 generalize (findP (docOf l) t).isSome = fp at h0 h1 h2 ⊢
 cases fp with
 | false =>
  have h0 := h0 6 (fun hx => by cases hx.2)
  conv => whnf
  exact h0
 | true =>
 conv => whnf
 refine ACalls.args ?_ (rsput_calls hv s hs hg l hl hm (goneT t) (gone_any hv hn) false (fun he => ?_) (fun he => ?_))
 ·exact leL.cons (.refl _) (leL.cons (le_agg (le_rec2 2 t 0 0 0 [])) leL.nil)
 ·have h1 := h1 hn rfl he
  generalize rputS v s l (goneT t) = se at h1 ⊢
  obtain ⟨s2, e⟩ := se
  conv => whnf
  exact h1
 ·have h2 := h2 hn rfl he
  generalize rputS v s l (goneT t) = se at h2 ⊢
  obtain ⟨s2, e⟩ := se
  conv => whnf
  exact h2
def fsK (b : B) (k : Nat) : FSt := ⟨[(logB, ⟨b, k⟩)], -1, -1, false⟩
theorem fs0_rok : ROk fs0 := ⟨by simp [fs0], by simp [fs0, kys], (by decide : -1 ≤ (-1 : Int) ∧ (-1 : Int) < 9223372036854775808), (by decide : -1 ≤ (-1 : Int) ∧ (-1 : Int) < 9223372036854775808)⟩
theorem fsK_rok (b : B) (k : Nat) : ROk (fsK b k) := ⟨by simp [fsK], by simp [fsK, kys, logB], (by decide : -1 ≤ (-1 : Int) ∧ (-1 : Int) < 9223372036854775808), (by decide : -1 ≤ (-1 : Int) ∧ (-1 : Int) < 9223372036854775808)⟩
theorem rstart_fs0 (F : B) : rstart fs0 logB newB F = (fsK F F.length, 0) := by
 have hne : newB ≠ logB := by decide
 have h1 : fs0.rappend newB F = (⟨[(newB, ⟨F, 0⟩)], -1, -1, false⟩, 0) := rfl
 have h2 : (FSt.mk [(newB, ⟨F, 0⟩)] (-1) (-1) false).rsync newB = (⟨[(newB, ⟨F, F.length⟩)], -1, -1, false⟩, 0) := by
  simp [FSt.rsync, FSt.may, FSt.act, lk, rSyn, rpt, wF, cutK, gF, cnt]
 have h3 : (FSt.mk [(newB, ⟨F, F.length⟩)] (-1) (-1) false).rrename newB logB = (⟨[(logB, ⟨F, F.length⟩)], -1, -1, false⟩, 0) := by
  simp [FSt.rrename, FSt.may, FSt.act, lk, rRen, rpt, wF, cutK, gF, cnt]
 unfold rstart rrun3
 rw [if_neg (by simp [fs0, kys]), h1]
 simp only [h2, h3, ne_eq, not_true_eq_false, if_false]
 rfl
theorem fsK_rappend (F b : B) (k : Nat) : (fsK F k).rappend logB b = (fsK (F ++ b) k, 0) := by
 simp [FSt.rappend, FSt.act, fsK, rAdd, rpt, wF, cutK, gF, lk, cnt]
theorem fsK_append (F b : B) (k : Nat) : (fsK F k).append logB b = (fsK (F ++ b) k, 0) := by
 simp [FSt.append, FSt.act, fsK, addF, pt, gF, lk, cnt]
theorem rsOpen_fs0 {v : Int} (hv : is3 v) {R} (h : R (.tup [.agg (stR false v [] (fsK (fileP v []) (fileP v []).length)), vi 0]) []) : ACalls Tryz.prog 40 [.agg (fsR fs0), vi v] [] R := by
 refine acalls_of_xwp (an := an40) tab_ok Tryz.func40 ?_
 have hst := rstart_fs0 (fileP v [])
 conv => whnf
 refine br_false (decide_eq_false (by unfold is3 at hv; omega)) ?_
 conv => whnf
 refine br_false (decide_eq_false (by unfold is3 at hv; omega)) ?_
 conv => whnf
 refine rGet_calls fs0 (by simp [fs0]) newB ?_
 rw [show decide (newB ∈ kys fs0.fs) = false from by simp [fs0, kys]]
 conv => whnf
 refine rGet_calls fs0 (by simp [fs0]) logB ?_
 rw [show decide (logB ∈ kys fs0.fs) = false from by simp [fs0, kys]]
 conv => whnf
 refine rStart_calls fs0 fs0_rok (by simp [fs0]) logB newB log_new (by decide) (by decide) (by simp [fs0, gF, lk, flZ]) hv [] (by simp) (by simp) ?_
 rw [hst]
 have hin : logB ∈ kys (fsK (fileP v []) (fileP v []).length).fs := by simp [fsK, kys]
 have hgb : (gF (fsK (fileP v []) (fileP v []).length).fs logB).b = fileP v [] := by simp [fsK, gF, lk]
 have hlen : (fsK (fileP v []) (fileP v []).length).fs.length < 900000 := by simp [fsK]
 generalize fsK (fileP v []) (fileP v []).length = s at h hin hgb hlen ⊢
 conv => whnf
 refine rOpen_calls s hlen logB [] hin hgb (fun hR => ref10GetHead_calls hv hR) ?_
 conv => whnf
 exact h
theorem fsK_ok {b : B} {k : Nat} (h : k ≤ b.length) : FOk (fsK b k) 1 b.length := ⟨⟨by simp [fsK, kys], by simpa [fsK] using h, by simp [fsK], by simp [fsK], by simp [fsK, kys, logB]⟩, (by decide : -1 ≤ (-1 : Int) ∧ (-1 : Int) < 9223372036854775808), (by decide : -1 ≤ (-1 : Int) ∧ (-1 : Int) < 9223372036854775808)⟩
def fsV (v : Int) (L : List Rc) : FSt := fsK (fileP v L) 8
theorem fsV_ok (v : Int) {L : List Rc} (hm : ∀ r ∈ L, mayP v r = true) (hl : L.length ≤ 300) : FOk (fsV v L) 1 1000000 := (fsK_ok (by rw [fileP_len]; omega)).mono (Nat.le_refl _) (by have := fileP_small hm hl; omega)
theorem fsV_rok (v : Int) (L : List Rc) : ROk (fsV v L) := fsK_rok _ _
theorem fsV_g (v : Int) {L : List Rc} (hm : ∀ r ∈ L, mayP v r = true) (hl : L.length ≤ 300) : (gF (fsV v L).fs logB).b.length < 900000000 := by
 have := fileP_small hm hl
 have e : (gF (fsV v L).fs logB).b = fileP v L := by simp [fsV, fsK, gF, lk]
 rw [e]; omega
theorem fsV_put (v : Int) (L : List Rc) (r : Rc) : putS v (fsV v L) L r = (fsV v (L ++ [r]), 0) := by
 unfold putS fsV
 rw [fsK_append, fileP_snoc]
theorem fsV_rput (v : Int) (L : List Rc) (r : Rc) : rputS v (fsV v L) L r = (fsV v (L ++ [r]), 0) := by
 unfold rputS fsV
 rw [fsK_rappend, fileP_snoc]
theorem fsV_nil (v : Int) : fsL (fileP v []) = fsV v [] := by
 have e : (fileP v []).length = 8 := by rw [fileP_len]; simp [paysP, framesP]
 show FSt.mk [(logB, ⟨fileP v [], (fileP v []).length⟩)] (-1) (-1) false = FSt.mk [(logB, ⟨fileP v [], 8⟩)] (-1) (-1) false
 rw [e]
theorem fsV_nilR (v : Int) : fsK (fileP v []) (fileP v []).length = fsV v [] := fsV_nil v
def puM (v : Int) (L : List Rc) (r : Rc) : List Rc := if r.kind = 1 ∧ mayP v r = true then L ++ [r] else L
def delM (L : List Rc) (t : B) : List Rc := if nameOk t = true ∧ (findP (docOf L) t).isSome = true then L ++ [goneT t] else L
def madeM (v : Int) (L : List Rc) (r : Rc) : List Rc := if r.kind = 2 then delM L r.target else puM v L r
theorem puM_ok {v : Int} {L : List Rc} (hm : ∀ r ∈ L, mayP v r = true) (r : Rc) : (∀ q ∈ puM v L r, mayP v q = true) ∧ (puM v L r).length ≤ L.length + 1 := by
 unfold puM
 split
 ·rename_i h
  refine ⟨fun q hq => ?_, by simp⟩
  rcases List.mem_append.1 hq with hq | hq
  ·exact hm q hq
  ·rw [List.mem_singleton.1 hq]; exact h.2
 ·exact ⟨hm, by omega⟩
theorem delM_ok {v : Int} (hv : is3 v) {L : List Rc} (hm : ∀ r ∈ L, mayP v r = true) (t : B) : (∀ q ∈ delM L t, mayP v q = true) ∧ (delM L t).length ≤ L.length + 1 := by
 unfold delM
 split
 ·rename_i h
  refine ⟨fun q hq => ?_, by simp⟩
  rcases List.mem_append.1 hq with hq | hq
  ·exact hm q hq
  ·rw [List.mem_singleton.1 hq]; exact gone_any hv h.1
 ·exact ⟨hm, by omega⟩
theorem madeM_ok {v : Int} (hv : is3 v) {L : List Rc} (hm : ∀ r ∈ L, mayP v r = true) (r : Rc) : (∀ q ∈ madeM v L r, mayP v q = true) ∧ (madeM v L r).length ≤ L.length + 1 := by
 unfold madeM
 split
 ·exact delM_ok hv hm _
 ·exact puM_ok hm r
theorem wPut_calls {v : Int} (hv : is3 v) (L : List Rc) (hl : L.length ≤ 300) (hm : ∀ r ∈ L, mayP v r = true) (r : Rc) (hd : r.deps.length < 100000) {R} (h : ∀ e, R (vi e) [stO false 1 v (puM v L r), fsC (fsV v (puM v L r)) 2, fsM (fsV v (puM v L r))]) :
  ACalls Tryz.prog 44 [.ptr 0 0, .agg r.enc] [stO false 1 v L, fsC (fsV v L) 2, fsM (fsV v L)] R := by
 unfold puM at h
 by_cases hy : r.kind = 1 ∧ mayP v r = true
 ·rw [if_pos hy] at h
  refine sPut_any hv (fsV v L) (fsV_ok v hm hl) (by omega) L hl hm r hy.1 hy.2 (fun he => ?_) (fun _ => ?_)
  ·rw [fsV_put] at he; exact absurd rfl he
  ·rw [fsV_put]; exact h 0
 ·rw [if_neg hy] at h
  refine sPut_no false (fsV v L) v L r hd (fun _ => ?_) (fun e => by cases e) (fun _ => h 1)
  by_cases hkd : r.kind = 1
  ·exact .inr (by cases hmm : mayP v r with | false => rfl | true => exact absurd ⟨hkd, hmm⟩ hy)
  ·exact .inl hkd
theorem wDel_calls {v : Int} (hv : is3 v) (L : List Rc) (hl : L.length ≤ 300) (hm : ∀ r ∈ L, mayP v r = true) (t : B) {R} (h : ∀ e, R (vi e) [stO false 1 v (delM L t), fsC (fsV v (delM L t)) 2, fsM (fsV v (delM L t))]) :
  ACalls Tryz.prog 42 [.ptr 0 0, vs t] [stO false 1 v L, fsC (fsV v L) 2, fsM (fsV v L)] R := by
 unfold delM at h
 refine Delete_any hv (fsV v L) (fsV_ok v hm hl) (by omega) L hl hm t (fun e _ hna => ?_) (fun a b he => ?_) (fun a b _ => ?_)
 ·rw [if_neg hna] at h; exact h e
 ·rw [fsV_put] at he; exact absurd rfl he
 ·rw [if_pos ⟨a, b⟩] at h
  rw [fsV_put]; exact h 0
theorem vrPut_calls {v : Int} (hv : is3 v) (L : List Rc) (hl : L.length ≤ 300) (hm : ∀ r ∈ L, mayP v r = true) (r : Rc) (hd : r.deps.length < 100000) {R} (h : ∀ e, R (.tup [.agg (stR false v (puM v L r) (fsV v (puM v L r))), vi e]) []) :
  ACalls Tryz.prog 45 [.agg (stR false v L (fsV v L)), .agg r.enc] [] R := by
 unfold puM at h
 by_cases hy : r.kind = 1 ∧ mayP v r = true
 ·rw [if_pos hy] at h
  refine rsPut_calls hv (fsV v L) (fsV_rok v L) (fsV_g v hm hl) L hl hm r hd (fun hno => absurd hy hno) (fun _ _ he => ?_) (fun _ _ _ => ?_)
  ·rw [fsV_rput] at he; exact absurd rfl he
  ·rw [fsV_rput]; exact h 0
 ·rw [if_neg hy] at h
  exact rsPut_calls hv (fsV v L) (fsV_rok v L) (fsV_g v hm hl) L hl hm r hd (fun _ => h 1) (fun hk hr _ => absurd ⟨hk, hr⟩ hy) (fun hk hr _ => absurd ⟨hk, hr⟩ hy)
theorem vrDel_calls {v : Int} (hv : is3 v) (L : List Rc) (hl : L.length ≤ 300) (hm : ∀ r ∈ L, mayP v r = true) (t : B) {R} (h : ∀ e, R (.tup [.agg (stR false v (delM L t) (fsV v (delM L t))), vi e]) []) :
  ACalls Tryz.prog 43 [.agg (stR false v L (fsV v L)), vs t] [] R := by
 unfold delM at h
 refine rsDelete_calls hv (fsV v L) (fsV_rok v L) (fsV_g v hm hl) L hl hm t (fun e hna => ?_) (fun a b he => ?_) (fun a b _ => ?_)
 ·rw [if_neg hna] at h; exact h e
 ·rw [fsV_rput] at he; exact absurd rfl he
 ·rw [if_pos ⟨a, b⟩] at h
  rw [fsV_rput]; exact h 0
def made16 (v : Int) (l : List Rc) : List Rc := l.foldl (madeM v) []
theorem made16_calls {v : Int} (hv : is3 v) (l : List Rc) (hl : l.length ≤ 100) (hd : ∀ r ∈ l, r.deps.length ≤ 60) {R}
  (h : (∀ r ∈ made16 v l, mayP v r = true) → (made16 v l).length ≤ l.length → R (.tup [.ptr 0 0, .ptr 2 0, .agg (stR false v (made16 v l) (fsV v (made16 v l)))]) [fsC (fsV v (made16 v l)) 1, fsM (fsV v (made16 v l)), stO false 0 v (made16 v l)]) :
  ACalls Tryz.prog 10 [vi v, .sl none 7 (recs l)] [] R := by
 refine acalls_of_xwp (an := an10) tab_ok Tryz.func10 ?_
 have hsl := recs_length l
 conv => whnf
 refine fsNew_calls ?_
 conv => whnf
 refine stOpen_fs0 v hv ?_
 rw [fsV_nil]
 conv => whnf
 refine rNew_calls ?_
 conv => whnf
 refine rsOpen_fs0 hv ?_
 rw [fsV_nilR]
 conv => whnf
 refine LoopP.ind2 (fun (i : Nat) (L : List Rc) => [(37, vi i)]) (fun i L => [(nameOf 6, .cells 35 [.val (.slice none 0 0), vi 0, vi 0, .val (.bool false), vi 0, .val (.slice none 0 0), .val (.slice none 0 0), vi 0, .val (.bool false)]), (nameOf 10, .cells 35 (stR false v L (fsV v L))), (freshN 14 0, fsC (fsV v L) (freshN 14 1)), (freshN 18 0, stO false (freshN 14 0) v L), (freshN 14 1, fsM (fsV v L))]) (fun i _ => l.length - i) (fun i L => (i ≤ l.length ∧ L.length ≤ i) ∧ (∀ r ∈ L, mayP v r = true) ∧ L = (l.take i).foldl (madeM v) []) 0 [] rfl ⟨⟨by omega, by simp⟩, by simp, rfl⟩ ?_
 rintro i L hI IH
 have hm := hI.2.1
 have hLi := hI.1.2
 conv => whnf
 refine br_intro (fun hc => ?_) (fun hc => ?_)
 ·have hi := lt_of_decE hsl hc
  obtain ⟨o1, o2⟩ := madeM_ok hv hI.2.1 l[i]
  have IH := IH (i + 1) (madeM v L l[i]) ⟨⟨hi, by omega⟩, o1, by rw [List.take_succ_eq_append_getElem hi, List.foldl_append, ← hI.2.2]; rfl⟩ (by omega)
  have hdi := hd _ (List.getElem_mem hi)
  (conv => whnf); (repeat ((with_reducible refine must_intro ?_ ?_); exact decide_eq_true (by omega); (conv => whnf)))
  refine idxK_map_intro (show (i : Int).toNat < l.length by simpa using hi) ?_
  rw [show l[(i : Int).toNat]'(by simpa using hi) = l[i] from by congr 1]
  generalize l[i] = r at IH hdi o1 o2 ⊢
  conv => whnf
  unfold madeM at IH
  refine br_intro (fun g => ?_) (fun g => ?_)
  ·have g : r.kind = 2 := by simpa using g
   rw [if_pos g] at IH
   conv => whnf
   refine wDel_calls hv L (by omega) hm r.target fun e => ?_
   conv => whnf
   refine vrDel_calls hv L (by omega) hm r.target fun e2 => ?_
   conv => whnf
   rw [i64_nat (by omega)]
   exact IH
  ·have g : r.kind ≠ 2 := by simpa using g
   rw [if_neg g] at IH
   conv => whnf
   refine wPut_calls hv L (by omega) hm r (by omega) fun e => ?_
   conv => whnf
   refine vrPut_calls hv L (by omega) hm r (by omega) fun e2 => ?_
   conv => whnf
   rw [i64_nat (by omega)]
   exact IH
 ·have hi := ge_of_decE hsl hc
  have hL : L = made16 v l := by rw [hI.2.2, List.take_of_length_le hi]; rfl
  rw [← hL] at h
  have h := h hm (by have := hI.1.1; omega)
  conv => whnf
  exact h
theorem act_three (s : FSt) (late : Bool) (g : FM → FM) : ((s.act late g).2 = 0 ∧ (s.act late g).1.fs = g s.fs) ∨ ((s.act late g).2 = 8 ∧ (s.act late g).1.fs = s.fs) ∨ ((s.act late g).2 = 7 ∧ ((s.act late g).1.fs = s.fs ∨ (late = true ∧ (s.act late g).1.fs = g s.fs))) := by
 unfold FSt.act
 split
 ·refine .inr (.inr ⟨rfl, ?_⟩)
  cases late
  ·exact .inl rfl
  ·exact .inr ⟨rfl, rfl⟩
 ·split
  ·exact .inr (.inl ⟨rfl, rfl⟩)
  ·exact .inl ⟨rfl, rfl⟩
theorem append_three {s : FSt} {log F b : B} {k : Nat} (h : lk s.fs log = some ⟨F, k⟩) :
  ((s.append log b).2 = 0 ∧ lk (s.append log b).1.fs log = some ⟨F ++ b, k⟩) ∨ ((s.append log b).2 = 8 ∧ lk (s.append log b).1.fs log = some ⟨F, k⟩) ∨ ((s.append log b).2 = 7 ∧ (lk (s.append log b).1.fs log = some ⟨F, k⟩ ∨ lk (s.append log b).1.fs log = some ⟨F ++ b, k⟩)) := by
 have hg : lk (addF log b s.fs) log = some ⟨F ++ b, k⟩ := by
  unfold addF
  rw [lk_pt, if_pos rfl]
  simp [gF, h]
 unfold FSt.append
 split
 ·exact .inr (.inr ⟨rfl, .inl h⟩)
 ·rcases act_three s true (addF log b) with ⟨e, f⟩ | ⟨e, f⟩ | ⟨e, f | ⟨_, f⟩⟩
  ·exact .inl ⟨e, by rw [f]; exact hg⟩
  ·exact .inr (.inl ⟨e, by rw [f]; exact h⟩)
  ·exact .inr (.inr ⟨e, .inl (by rw [f]; exact h)⟩)
  ·exact .inr (.inr ⟨e, .inr (by rw [f]; exact hg)⟩)
structure KI (v : Int) (l : List Rc) (n : Nat) (s : FSt) (nb fb : Nat) : Prop where
 hv : is3 v
 hm : ∀ r ∈ l, mayP v r = true
 hn : n ≤ l.length
 hok : FOk s nb fb
 hlog : ∃ k, lk s.fs logB = some ⟨fileP v l, k⟩ ∧ (fileP v (l.take n)).length ≤ k
theorem KI.put {v : Int} {l : List Rc} {n : Nat} {s s2 : FSt} {nb fb : Nat} (h : KI v l n s nb fb) (hl : l.length ≤ 300) {r : Rc} (hr : mayP v r = true) {e : Int} (he : putS v s l r = (s2, e)) :
  (e = 0 ∧ KI v (l ++ [r]) n s2 (nb + 2) (fb + 1000000)) ∨ (e = 8 ∧ KI v l n s2 (nb + 2) (fb + 1000000)) ∨ (e = 7 ∧ (KI v l n s2 (nb + 2) (fb + 1000000) ∨ KI v (l ++ [r]) n s2 (nb + 2) (fb + 1000000))) := by
 obtain ⟨k, hk, hsy⟩ := h.hlog
 have htl := tblL_len (v := v) (l := l) (t := []) (fun y hy => may_all (h.hm y hy))
 simp at htl
 have hml : (moreP v l r).length ≤ 3000 := payP_frames (may_all hr) (by omega)
 have hok := (append_ok h.hok (name := logB) (b := moreP v l r) (by decide)).mono (nb' := nb + 2) (fb' := fb + 1000000) (by omega) (by omega)
 have h3 := append_three (b := moreP v l r) hk
 rw [← fileP_snoc] at h3
 unfold putS at he
 rw [he] at h3 hok
 have A : lk s2.fs logB = some ⟨fileP v l, k⟩ → KI v l n s2 (nb + 2) (fb + 1000000) := fun hh => ⟨h.hv, h.hm, h.hn, hok, k, hh, hsy⟩
 have C : lk s2.fs logB = some ⟨fileP v (l ++ [r]), k⟩ → KI v (l ++ [r]) n s2 (nb + 2) (fb + 1000000) := fun hh => by
  refine ⟨h.hv, fun y hy => ?_, by have := h.hn; simp; omega, hok, k, hh, ?_⟩
  ·rcases List.mem_append.1 hy with hy | hy
   ·exact h.hm y hy
   ·rw [List.mem_singleton.1 hy]; exact hr
  ·rw [List.take_append_of_le_length h.hn]; exact hsy
 rcases h3 with ⟨e1, h1⟩ | ⟨e1, h1⟩ | ⟨e1, h1 | h1⟩
 ·exact .inl ⟨e1, C h1⟩
 ·exact .inr (.inl ⟨e1, A h1⟩)
 ·exact .inr (.inr ⟨e1, .inl (A h1)⟩)
 ·exact .inr (.inr ⟨e1, .inr (C h1)⟩)
theorem KI.crash {v : Int} {l : List Rc} {n : Nat} {s : FSt} {nb fb : Nat} (h : KI v l n s nb fb) (hl : l.length ≤ 300) (keep : List Int) :
  ∃ (m : Nat) (b : B), n ≤ m ∧ m ≤ l.length ∧ CutF v (l.take m) b ∧ Whole (s.crash keep) logB b ∧ FOk (s.crash keep) nb fb := by
 obtain ⟨k, hk, hsy⟩ := h.hlog
 obtain ⟨c1, c2, c3⟩ := crash_spec h.hok keep
 obtain ⟨m, m1, m2, m3⟩ := c3 logB (lk_key hk)
 have hg : gF s.fs logB = ⟨fileP v l, k⟩ := by unfold gF; rw [hk]; rfl
 rw [hg] at m1 m2 m3
 have m1 : k ≤ m := m1
 have m2 : m ≤ (fileP v l).length := m2
 have h8 : 8 ≤ m := by
  have := fileP_len v (l.take n)
  omega
 obtain ⟨m', ms, t, e1, e2, e0, e3, e4, e5, e6, e7⟩ := cut_any h.hm hl h8 m2
 refine ⟨m', (fileP v l).take m, e7 n h.hn (by omega), e1, ⟨fun r hr => h.hm r (List.mem_of_mem_take hr), by rw [List.length_take]; omega, ms, t, e2, e0, e3, e4, e5, e6⟩, ?_, c1⟩
 have hin : logB ∈ kys (s.crash keep).fs := by rw [c2]; exact lk_key hk
 unfold Whole
 cases e : lk (s.crash keep).fs logB with
 | none => exact absurd hin (lk_none.1 e)
 | some f =>
  have : gF (s.crash keep).fs logB = f := by unfold gF; rw [e]; rfl
  rw [this] at m3
  rw [m3]
  simp only [List.length_take, Option.some.injEq, Fl.mk.injEq, true_and]
  omega
theorem compRecs_calls (l : List Rc) (hl : l.length < 1000000) (hd : ∀ r ∈ l, r.deps.length < 1000000) {R} (h : R (.sl none 7 (recs (docOf l))) []) : ACalls Tryz.prog 39 [.sl none 7 (recs l)] [] R := by
 refine acalls_of_xwp (an := an39) tab_ok Tryz.func39 ?_
 conv => whnf
 refine Of_records l hl hd ?_
 conv => whnf
 exact h
def wasteP (l : List Rc) : Int := (l.length : Int) - (docOf l).length
theorem Waste_calls (l : List Rc) (hl : l.length < 1000000) (hd : ∀ r ∈ l, r.deps.length < 1000000) {R} (h : ∀ x, x = wasteP l → R (vi x) []) : ACalls Tryz.prog 30 [.sl none 7 (recs l)] [] R := by
 refine acalls_of_xwp (an := an30) tab_ok Tryz.func30 ?_
 have h1 := recs_length l
 have h2 := recs_length (docOf l)
 have h3 := docOf_len l
 conv => whnf
 refine compRecs_calls l hl hd ?_
 conv => whnf
 rw [h1, h2, wrap_i64 (by omega) (by omega)]
 exact h _ rfl
theorem docWaste_calls (l : List Rc) (hl : l.length < 1000000) (hT : ∀ s ∈ l, s.target.length < 1000000) {R} (h : ∀ x, x = wasteP l → R (vi x) []) : ACalls Tryz.prog 47 [.sl none 7 (recs l)] [] R := by
 refine acalls_of_xwp (an := an47) tab_ok Tryz.func47 ?_
 have h1 := recs_length l
 have h2 := recs_length (docOf l)
 have h3 := docOf_len l
 conv => whnf
 refine docOf_calls l hl hT ?_
 conv => whnf
 rw [h1, h2, wrap_i64 (by omega) (by omega)]
 exact h _ rfl
def fixA : Rc := ⟨1, [97], 0, [], 1, 0, []⟩
def fixB : Rc := ⟨1, [97], 0, [], 2, 0, []⟩
theorem cfix_of : docOf [fixA, fixB] = [fixB] := by decide +kernel
theorem le_rec (k : Int) (t : B) (u o w : U) (g : B) : leL [.val (.int .i64 k), .val (.string (ofB t)), .val (.int .u64 (u.toNat : Int)), .val (.slice none 0 0), .val (.int .u64 (o.toNat : Int)), .val (.int .u64 (w.toNat : Int)), .val (.string (ofB g))] (Rc.enc ⟨k, t, u, [], o, w, g⟩) :=
 leL.cons (.refl _) (leL.cons (.refl _) (leL.cons (.refl _) (leL.cons (le_nil 3) (leL.refl _))))
theorem cfixed_calls {R} (h : R (.val (.bool true)) []) : ACalls Tryz.prog 9 [] [] R := by
 refine acalls_of_xwp (an := an9) tab_ok Tryz.func9 ?_
 have hle := leE.cons (le_rec 1 [97] 0 1 0 []) rfl (leE.cons (le_rec 1 [97] 0 2 0 []) rfl leE.nil)
 conv => whnf
 refine ACalls.args ?_ (compRecs_calls [fixA, fixB] (by decide) (by decide) ?_)
 ·exact leL.cons (le_sl _ _ hle) leL.nil
 rw [cfix_of]
 conv => whnf
 refine ACalls.args ?_ (Waste_calls [fixA, fixB] (by decide) (by decide) fun x hx => ?_)
 ·exact leL.cons (le_sl _ _ hle) leL.nil
 have hx : x = 1 := by rw [hx, wasteP, cfix_of]; rfl
 subst hx
 conv => whnf
 exact h
theorem compOf_calls (o : Bool) (v : Int) (l : List Rc) (hl : l.length < 100000) (hd : ∀ r ∈ l, r.deps.length < 1000000) (s : FSt) {R} (h : R (.sl none 7 (recs (docOf l))) [stO o 1 v l, fsC s 2, fsM s]) :
  ACalls Tryz.prog 49 [.fn (.func 19) [.ptr 0 0] [], .fn (.func 39) [] []] [stO o 1 v l, fsC s 2, fsM s] R := by
 refine acalls_of_xwp (an := an49) tab_ok Tryz.func49 ?_
 conv => whnf
 refine Records_calls o v l hl hd s ?_
 conv => whnf
 refine compRecs_calls l (by omega) hd ?_
 conv => whnf
 exact h
theorem compDo_calls (s : FSt) {nb fb : Nat} (hk : FOk s nb fb) (hnb : nb ≤ 800000) (hfb : fb ≤ 70000000) {v : Int} (hv : is3 v) (l : List Rc) (hl : l.length ≤ 300) (hm : ∀ r ∈ l, mayP v r = true) {R}
  (h1 : (startP s logB newB (fileP v (docOf l))).2 ≠ 0 → R (vi (startP s logB newB (fileP v (docOf l))).2) [stO ((startP s logB newB (fileP v (docOf l))).2 == 7) 1 v l, fsC (startP s logB newB (fileP v (docOf l))).1 2, fsM (startP s logB newB (fileP v (docOf l))).1])
  (h2 : (startP s logB newB (fileP v (docOf l))).2 = 0 → R (vi 0) [stO false 1 v (docOf l), fsC (startP s logB newB (fileP v (docOf l))).1 2, fsM (startP s logB newB (fileP v (docOf l))).1]) :
  ACalls Tryz.prog 15 [.ptr 0 0] [stO false 1 v l, fsC s 2, fsM s] R := by
 refine acalls_of_xwp (an := an15) tab_ok Tryz.func15 ?_
 have hd : ∀ r ∈ l, r.deps.length < 1000000 := fun r hr => by have := (may_all (hm r hr)).deps; omega
 have hdl := docOf_len l
 have hdm : ∀ r ∈ docOf l, mayP v r = true := fun r hr => hm r (docOf_sub hr).1
 have hdd : ∀ r ∈ docOf l, r.deps.length < 100000 := fun r hr => by have := (may_all (hdm r hr)).deps; omega
 conv => whnf
 refine stVersion_calls false v l s ?_
 conv => whnf
 refine compOf_calls false v l (by omega) hd s ?_
 conv => whnf
 refine Rewrite_calls s hk hnb hfb v l v (docOf l) (by omega) hdd (fun e _ hno => by rcases hno with hno | hno; exact absurd hv hno; exact absurd hdm hno) (fun _ _ he => ?_) (fun _ _ he => ?_)
 ·have h1 := h1 he
  generalize startP s logB newB (fileP v (docOf l)) = se at h1 ⊢
  obtain ⟨s2, e⟩ := se
  conv => whnf
  exact h1
 ·have h2 := h2 he
  generalize startP s logB newB (fileP v (docOf l)) = se at h2 ⊢
  obtain ⟨s2, e⟩ := se
  conv => whnf
  exact h2
theorem compDo_nil {R} (h : R (vi 1) []) : ACalls Tryz.prog 15 [.val (.pointer none)] [] R := by
 refine acalls_of_xwp (an := an15) tab_ok Tryz.func15 ?_
 conv => whnf
 exact h
theorem KI.fall {v : Int} {l : List Rc} {n : Nat} {s : FSt} {nb fb : Nat} (h : KI v l n s nb fb) {c : Int} (hc : -9223372036854775808 ≤ c ∧ c < 9223372036854775808) : KI v l n ⟨s.fs, s.fail, capN c, s.down⟩ nb fb := ⟨h.hv, h.hm, h.hn, fall_ok h.hok hc, h.hlog⟩
theorem KI.fail {v : Int} {l : List Rc} {n : Nat} {s : FSt} {nb fb : Nat} (h : KI v l n s nb fb) {c : Int} (hc : -9223372036854775808 ≤ c ∧ c < 9223372036854775808) : KI v l n ⟨s.fs, capN c, s.fall, s.down⟩ nb fb := ⟨h.hv, h.hm, h.hn, fail_ok h.hok hc, h.hlog⟩
theorem rsRewrite_calls {v : Int} (hv : is3 v) (s : FSt) (hs : ROk s) (hsl : s.fs.length < 700000) (hba : (gF s.fs newB).b.length < 100000000) (l0 l : List Rc) (hl : l.length ≤ 300) (hm : ∀ r ∈ l, mayP v r = true) (hk : ∀ r ∈ l, r.kind = 1) {R}
  (h1 : (rstart s logB newB (fileP v l)).2 ≠ 0 → R (.tup [.agg (stR ((rstart s logB newB (fileP v l)).2 == 7) v l0 (rstart s logB newB (fileP v l)).1), vi (rstart s logB newB (fileP v l)).2]) [])
  (h2 : (rstart s logB newB (fileP v l)).2 = 0 → R (.tup [.agg (stR false v l (rstart s logB newB (fileP v l)).1), vi 0]) []) :
  ACalls Tryz.prog 50 [.agg (stR false v l0 s), vi v, .sl none 7 (recs l)] [] R := by
 refine acalls_of_xwp (an := an50) tab_ok Tryz.func50 ?_
 conv => whnf
 refine rStart_calls s hs hsl logB newB log_new (by decide) (by decide) hba hv l hl hm ?_
 generalize rstart s logB newB (fileP v l) = se at h1 h2 ⊢
 obtain ⟨s2, e⟩ := se
 by_cases he : e = 0
 ·have h2 := h2 he
  clear h1
  subst he
  conv => whnf
  refine ref10Put_calls hv l hl hm ?_
  conv => whnf
  refine ref10Get_calls hv l hl hm hk ?_
  conv => whnf
  exact h2
 ·have h1 := h1 he
  clear h2
  conv => whnf
  refine br_true (by simpa using he) ?_
  conv => whnf
  exact h1
theorem docOf_kind1 (l : List Rc) : ∀ r ∈ docOf l, r.kind = 1 := fun r hr => (docOf_sub hr).2
theorem docDo_calls {v : Int} (hv : is3 v) (s : FSt) (hs : ROk s) (hsl : s.fs.length < 700000) (hba : (gF s.fs newB).b.length < 100000000) (l : List Rc) (hl : l.length ≤ 300) (hm : ∀ r ∈ l, mayP v r = true) {R}
  (h1 : (rstart s logB newB (fileP v (docOf l))).2 ≠ 0 → R (.tup [.agg (stR ((rstart s logB newB (fileP v (docOf l))).2 == 7) v l (rstart s logB newB (fileP v (docOf l))).1), vi (rstart s logB newB (fileP v (docOf l))).2]) [])
  (h2 : (rstart s logB newB (fileP v (docOf l))).2 = 0 → R (.tup [.agg (stR false v (docOf l) (rstart s logB newB (fileP v (docOf l))).1), vi 0]) []) :
  ACalls Tryz.prog 16 [.agg (stR false v l s)] [] R := by
 refine acalls_of_xwp (an := an16) tab_ok Tryz.func16 ?_
 have hT : ∀ r ∈ l, r.target.length < 1000000 := fun r hr => by have := (may_all (hm r hr)).t2; omega
 have hdl := docOf_len l
 have hdm : ∀ r ∈ docOf l, mayP v r = true := fun r hr => hm r (docOf_sub hr).1
 conv => whnf
 refine docOf_calls l (by omega) hT ?_
 conv => whnf
 refine rsRewrite_calls hv s hs hsl hba l (docOf l) (by omega) hdm (docOf_kind1 l) (fun he => ?_) (fun he => ?_)
 ·have h1 := h1 he
  generalize rstart s logB newB (fileP v (docOf l)) = se at h1 ⊢
  obtain ⟨s2, e⟩ := se
  conv => whnf
  exact h1
 ·have h2 := h2 he
  generalize rstart s logB newB (fileP v (docOf l)) = se at h2 ⊢
  obtain ⟨s2, e⟩ := se
  conv => whnf
  exact h2
def dueP (l : List Rc) (n : Int) : Bool := decide (wasteP l > (if n < 0 then 0 else n))
theorem docDue_calls (v : Int) (o : Bool) (l : List Rc) (s : FSt) (hl : l.length ≤ 300) (hT : ∀ r ∈ l, r.target.length < 1000000) (n : Int) {R} (h : ∀ d, d = dueP l n → R (.val (.bool d)) []) :
  ACalls Tryz.prog 12 [.agg (stR o v l s), vi n] [] R := by
 refine acalls_of_xwp (an := an12) tab_ok Tryz.func12 ?_
 unfold dueP at h
 conv => whnf
 refine br_intro (fun g => ?_) (fun g => ?_)
 ·have g := of_decide_eq_true g
  rw [if_pos g] at h
  conv => whnf
  refine docWaste_calls l (by omega) hT fun x hx => ?_
  conv => whnf
  exact h _ (by rw [hx])
 ·have g := of_decide_eq_false g
  rw [if_neg g] at h
  conv => whnf
  refine docWaste_calls l (by omega) hT fun x hx => ?_
  conv => whnf
  exact h _ (by rw [hx])
theorem compOfW_calls (o : Bool) (v : Int) (l : List Rc) (hl : l.length < 100000) (hd : ∀ r ∈ l, r.deps.length < 1000000) (s : FSt) {R} (h : ∀ x, x = wasteP l → R (vi x) [stO o 1 v l, fsC s 2, fsM s]) :
  ACalls Tryz.prog 46 [.fn (.func 19) [.ptr 0 0] [], .fn (.func 30) [] []] [stO o 1 v l, fsC s 2, fsM s] R := by
 refine acalls_of_xwp (an := an46) tab_ok Tryz.func46 ?_
 conv => whnf
 refine Records_calls o v l hl hd s ?_
 conv => whnf
 refine Waste_calls l (by omega) hd fun x hx => ?_
 conv => whnf
 exact h x hx
theorem compDue_calls (o : Bool) (v : Int) (l : List Rc) (hl : l.length < 100000) (hd : ∀ r ∈ l, r.deps.length < 1000000) (s : FSt) (n : Int) {R} (h : ∀ d, d = dueP l n → R (.val (.bool d)) [stO o 1 v l, fsC s 2, fsM s]) :
  ACalls Tryz.prog 11 [.ptr 0 0, vi n] [stO o 1 v l, fsC s 2, fsM s] R := by
 refine acalls_of_xwp (an := an11) tab_ok Tryz.func11 ?_
 conv => whnf
 refine compOfW_calls o v l hl hd s fun x hx => ?_
 conv => whnf
 refine h _ ?_
 rw [hx]
 rfl
theorem compDue_nil (n : Int) {R} (h : R (.val (.bool false)) []) : ACalls Tryz.prog 11 [.val (.pointer none), vi n] [] R := by
 refine acalls_of_xwp (an := an11) tab_ok Tryz.func11 ?_
 conv => whnf
 exact h
theorem bCloneV_calls (b : B) (hb : b.length < 100000000) (hne : b ≠ []) {R} (h : R (.slv 0 1 1 0 b.length) [.vec 5 1 (byteEls b) 1]) : ACalls Tryz.prog 70 [.sl none 1 (byteEls b)] [] R := by
 refine acalls_of_xwp (an := { an70 with keepRes := true, frv := [(7, 5)] }) tab_ok Tryz.func70 ?_
 have hsl := bel_length b
 conv => whnf
 intro p hp
 refine br_intro (fun g => ?_) (fun g => ?_)
 ·exact absurd (bel_nil (hp g)) hne
 ·conv => whnf
  refine ⟨⟨rfl, rfl, by simp⟩, (by rw [hsl, bel_bytes]; omega), ?_⟩
  conv => whnf
  have e : 0 + (byteEls b).length = b.length := by omega
  rw [e]
  exact h
theorem fsReadV_calls (s : FSt) (name : B) (hb : (gF s.fs name).b.length < 100000000) (hne : (gF s.fs name).b ≠ []) (hin : name ∈ kys s.fs) {R} (h : R (.tup [.slv 2 1 1 0 (gF s.fs name).b.length, vi 0]) [fsC s 1, fsM s, .vec 5 1 (byteEls (gF s.fs name).b) 1]) : ACalls Tryz.prog 37 [.ptr 0 0, vs name] [fsC s 1, fsM s] R := by
 refine acalls_of_xwp (an := { an37 with keepRes := true }) tab_ok Tryz.func37 ?_
 conv => whnf
 rw [amap_find]
 unfold gF at h hb hne
 cases e : lk s.fs name with
 | none => exact absurd hin (lk_none.1 e)
 | some v =>
  rw [e] at h hb hne
  conv => whnf
  refine bCloneV_calls v.b hb hne ?_
  conv => whnf
  exact h
def u8s (N : List Int) : List (List AV) := N.map fun n => [.val (.int .u8 n)]
theorem bel_u8s (b : B) : byteEls b = u8s (b.map fun c => (c.toNat : Int)) := by simp [byteEls, u8s]
theorem same13_calls (s : FSt) (hl : s.fs.length < 900000) (hn : ∀ n ∈ kys s.fs, n.length < 1000000) (hnd : (kys s.fs).Nodup) (hso : s.names = kys s.fs) (hb : ∀ n ∈ kys s.fs, (gF s.fs n).b.length < 100000000 ∧ (gF s.fs n).b ≠ []) (hno : [110, 111, 119, 104, 101, 114, 101, 44, 32, 116, 104, 97, 116, 32, 105, 115] ∉ kys s.fs) {R} (h : R (.val (.bool true)) [fsC s 1, fsM s]) :
  ACalls Tryz.prog 17 [.ptr 0 0, .agg (fsR s)] [fsC s 1, fsM s] R := by
 refine acalls_of_xwp (an := an17) tab_ok Tryz.func17 ?_
 obtain ⟨ks, hks⟩ : ∃ ks, ks = kys s.fs := ⟨_, rfl⟩
 have hsl := strs_length ks
 have hkl : ks.length = s.fs.length := by rw [hks]; simp [kys]
 conv => whnf
 refine Down_calls s ?_
 conv => whnf
 refine br_false (by simp) ?_
 conv => whnf
 refine fsNames_calls s (by omega) hn hnd ?_
 conv => whnf
 refine rNames_calls13 s (by omega) ?_
 rw [hso]
 conv => whnf
 refine sameV_calls (kys s.fs) (kys s.fs) (by rw [← hks]; omega) fun p hp => ?_
 rw [decide_eq_true rfl] at hp
 subst hp
 conv => whnf
 refine rNames_calls13 s (by omega) ?_
 rw [← hks]
 conv => whnf
 refine LoopP.ind1 (fun (i : Nat) => [(32, vi i)]) (fun i => [(0, fsC s 1), (1, fsM s)]) (fun i => ks.length - i) (fun i => i ≤ ks.length) 0 rfl (by omega) ?_
 rintro i h0 IH
 conv => whnf
 refine br_intro (fun hc => ?_) (fun hc => ?_)
 ·have hi := lt_of_decE hsl hc
  have hin : ks[i] ∈ kys s.fs := by rw [← hks]; exact List.getElem_mem hi
  obtain ⟨hb1, hb2⟩ := hb _ hin
  have IH := IH (i + 1) hi (by omega)
  (conv => whnf); (repeat ((with_reducible refine must_intro ?_ ?_); exact decide_eq_true (by omega); (conv => whnf)))
  refine idxK_map_intro (show (i : Int).toNat < ks.length by simpa using hi) ?_
  rw [show ks[(i : Int).toNat]'(by simpa using hi) = ks[i] from by congr 1]
  generalize ks[i] = k at IH hin hb1 hb2 ⊢
  conv => whnf
  refine fsReadV_calls s k hb1 hb2 hin ?_
  conv => whnf
  refine rGet_calls s (by omega) k ?_
  rw [decide_eq_true hin]
  unfold flE
  generalize hf : gF s.fs k = f at hb1 hb2 ⊢
  have hbl := bel_length f.b
  conv => whnf
  refine ⟨⟨rfl, hbl.symm, List.length_pos_iff.2 hb2⟩, f.b.map fun c => (c.toNat : Int), by simp [byteEls], ?_⟩
  rw [strOfNums_ofB]
  conv => whnf
  refine br_false (by simp) ?_
  conv => whnf
  refine Safe_calls s k ?_
  conv => whnf
  refine br_false (by rw [hf]; simp) ?_
  conv => whnf
  refine LoopP.ind2 (fun (j : Nat) (N : List Int) => [(67, vi j)]) (fun j N => [(0, fsC s 1), (1, fsM s), (freshN 39 0, .vec 5 1 (u8s N) 1)]) (fun j _ => f.b.length - j) (fun j N => j ≤ f.b.length ∧ N.length = f.b.length) 0 (f.b.map fun c => (c.toNat : Int)) (by rw [← bel_u8s]; rfl) ⟨by omega, by simp⟩ ?_
  rintro j N ⟨j0, hN⟩ IH2
  conv => whnf
  refine br_intro (fun hc => ?_) (fun hc => ?_)
  ·have hj : j < f.b.length := by have := of_decide_eq_true hc; omega
   (conv => whnf); (repeat ((with_reducible refine must_intro ?_ ?_); exact decide_eq_true (by omega); (conv => whnf)))
   have hjN : 0 + (j : Int).toNat < N.length := by rw [Int.toNat_natCast]; omega
   refine ⟨rfl, idxK_map_intro hjN ?_⟩
   generalize N[0 + (j : Int).toNat] = x
   (conv => whnf); (repeat ((with_reducible refine must_intro ?_ ?_); exact decide_eq_true (by omega); (conv => whnf)))
   refine ⟨rfl, idxK_map_intro hjN ?_⟩
   conv => whnf
   have e : (u8s N).set (0 + (j : Int).toNat) [.val (.int .u8 (IntKind.u8.wrap (x + 1)))] = u8s (N.set j (IntKind.u8.wrap (x + 1))) := by
    rw [Int.toNat_natCast, Nat.zero_add]
    exact (List.map_set ..).symm
   have IH2 := IH2 (j + 1) (N.set j (IntKind.u8.wrap (x + 1))) ⟨hj, by rw [List.length_set]; exact hN⟩ (by omega)
   rw [← e] at IH2
   rw [i64_nat (by omega)]
   exact IH2
  ·clear IH2
   conv => whnf
   rw [i64_nat (by omega)]
   exact IH
 ·have hi := ge_of_decE hsl hc
  clear IH
  conv => whnf
  refine fsRead_calls s _ (by unfold gF; rw [lk_none.2 hno]; show 0 < _; decide) (fun hin => absurd hin hno) (fun _ => ?_)
  conv => whnf
  refine rGet_calls s (by omega) _ ?_
  rw [decide_eq_false hno]
  conv => whnf
  exact h
theorem act_ext {s : FSt} {late : Bool} {g1 g2 : FM → FM} (h : g1 s.fs = g2 s.fs) : s.act late g1 = s.act late g2 := by
 unfold FSt.act
 rw [h]
def m1 (f : Fl) : FM := [(logB, f)]
def m2 (f h : Fl) : FM := [(logB, f), (newB, h)]
theorem add_1 (f : Fl) (F : B) : addF newB F (m1 f) = m2 f ⟨F, 0⟩ ∧ rAdd newB F (m1 f) = m2 f ⟨F, 0⟩ := by
 have h1 : logB ≠ newB := by decide
 have h2 : ltB newB logB = false := by decide
 constructor
 ·simp [addF, m1, m2, pt, gF, lk, h1, flZ]
 ·simp [rAdd, m1, m2, rpt, wF, gF, lk, h1, flZ, cutK, h2]
theorem syn_2 (f h : Fl) : syncF newB (m2 f h) = m2 f ⟨h.b, h.b.length⟩ ∧ rSyn newB (m2 f h) = m2 f ⟨h.b, h.b.length⟩ := by
 have h1 : logB ≠ newB := by decide
 have h2 : ltB newB logB = false := by decide
 constructor
 ·simp [syncF, m2, pt, gF, lk, h1]
 ·simp [rSyn, m2, rpt, wF, gF, lk, h1, cutK, h2]
theorem ren_2 (f h : Fl) : renF newB logB (m2 f h) = m1 h ∧ rRen newB logB (m2 f h) = m1 h := by
 have h1 : logB ≠ newB := by decide
 have h3 : newB ≠ logB := by decide
 constructor
 ·simp [renF, m1, m2, pt, dl, gF, lk, h1]
 ·simp [rRen, m1, m2, rpt, wF, gF, lk, h1, h3, cutK]
theorem start_same (f : Fl) (F : B) (fail fall : Int) : rstart ⟨m1 f, fail, fall, false⟩ logB newB F = startP ⟨m1 f, fail, fall, false⟩ logB newB F ∧
  ((startP ⟨m1 f, fail, fall, false⟩ logB newB F).1.fs = m1 f ∨ (∃ n, (startP ⟨m1 f, fail, fall, false⟩ logB newB F).1.fs = m2 f ⟨F, n⟩) ∨ (startP ⟨m1 f, fail, fall, false⟩ logB newB F).1.fs = m1 ⟨F, F.length⟩) := by
 obtain ⟨s, hs⟩ : ∃ s : FSt, s = ⟨m1 f, fail, fall, false⟩ := ⟨_, rfl⟩
 have hfs : s.fs = m1 f := by rw [hs]
 have hdn : s.down = false := by rw [hs]
 rw [← hs]
 have hk : kys s.fs = [logB] := by rw [hfs]; rfl
 have hn1 : newB ∉ kys s.fs := by rw [hk]; decide
 have hn2 : newB ∉ s.names := fun h => hn1 ((names_perm s).mem_iff.1 h)
 unfold rstart startP
 rw [if_neg hn1, if_neg hn2]
 have ea : s.rappend newB F = s.append newB F := by
  unfold FSt.rappend FSt.append
  rw [act_ext (g1 := rAdd newB F) (g2 := addF newB F) (by rw [hfs, (add_1 f F).1, (add_1 f F).2])]
 unfold rrun3 run3
 rw [ea]
 have ca : ((s.append newB F).2 = 0 ∧ (s.append newB F).1.fs = m2 f ⟨F, 0⟩) ∨ ((s.append newB F).2 ≠ 0 ∧ ((s.append newB F).1.fs = m1 f ∨ (s.append newB F).1.fs = m2 f ⟨F, 0⟩)) := by
  unfold FSt.append
  rw [hdn]
  have := act_cases s true (addF newB F)
  rw [hfs, (add_1 f F).1] at this
  simpa using this
 generalize s.append newB F = se at ca ⊢
 obtain ⟨t, e⟩ := se
 rcases ca with ⟨e0, c1⟩ | ⟨e0, c1⟩
 ·have e0 : e = 0 := e0
  subst e0
  have c1 : t.fs = m2 f ⟨F, 0⟩ := c1
  simp only [ne_eq, not_true_eq_false, if_false]
  have es : t.rsync newB = t.sync newB := by
   unfold FSt.rsync FSt.sync
   rw [act_ext (g1 := rSyn newB) (g2 := syncF newB) (by rw [c1, (syn_2 f _).1, (syn_2 f _).2])]
  rw [es]
  have cs : ((t.sync newB).2 = 0 ∧ (t.sync newB).1.fs = m2 f ⟨F, F.length⟩) ∨ ((t.sync newB).2 ≠ 0 ∧ (t.sync newB).1.fs = m2 f ⟨F, 0⟩) := by
   unfold FSt.sync
   split
   ·rename_i h; exact .inr ⟨h, c1⟩
   ·have := act_cases t false (syncF newB)
    rw [c1, (syn_2 f _).1] at this
    simpa using this
  generalize t.sync newB = se at cs ⊢
  obtain ⟨u, e⟩ := se
  rcases cs with ⟨e0, c2⟩ | ⟨e0, c2⟩
  ·have e0 : e = 0 := e0
   subst e0
   have c2 : u.fs = m2 f ⟨F, F.length⟩ := c2
   simp only [ne_eq, not_true_eq_false, if_false]
   have er : u.rrename newB logB = u.rename newB logB := by
    unfold FSt.rrename FSt.rename
    rw [act_ext (g1 := rRen newB logB) (g2 := renF newB logB) (by rw [c2, (ren_2 f _).1, (ren_2 f _).2])]
   rw [er]
   refine ⟨rfl, ?_⟩
   unfold FSt.rename
   split
   ·exact .inr (.inl ⟨_, c2⟩)
   ·have := act_cases u false (renF newB logB)
    rw [c2, (ren_2 f _).1] at this
    rcases this with ⟨_, h⟩ | ⟨_, h | ⟨h, _⟩⟩
    ·exact .inr (.inr h)
    ·exact .inr (.inl ⟨_, h⟩)
    ·cases h
  ·have e0 : e ≠ 0 := e0
   rw [if_pos e0, if_pos e0]
   exact ⟨rfl, .inr (.inl ⟨_, c2⟩)⟩
 ·have e0 : e ≠ 0 := e0
  rw [if_pos e0, if_pos e0]
  refine ⟨rfl, ?_⟩
  rcases c1 with h | h
  ·exact .inl h
  ·exact .inr (.inl ⟨_, h⟩)
theorem same_m1 (s : FSt) {f : Fl} (h : s.fs = m1 f) (hb : f.b.length < 100000000 ∧ f.b ≠ []) {R} (hR : R (.val (.bool true)) [fsC s 1, fsM s]) :
  ACalls Tryz.prog 17 [.ptr 0 0, .agg (fsR s)] [fsC s 1, fsM s] R := by
 have hk : kys s.fs = [logB] := by rw [h]; rfl
 refine same13_calls s (by rw [h]; show 1 < _; decide) (fun n hn => ?_) (by rw [hk]; simp) (by unfold FSt.names; rw [hk]; simp [sortB]) (fun n hn => ?_) (by rw [hk]; decide) hR
 ·rw [hk, List.mem_singleton] at hn
  rw [hn]
  decide
 ·rw [hk, List.mem_singleton] at hn
  rw [hn, h]
  exact hb
theorem same_m2 (s : FSt) {f g : Fl} (h : s.fs = m2 f g) (hb : f.b.length < 100000000 ∧ f.b ≠ []) (hc : g.b.length < 100000000 ∧ g.b ≠ []) {R} (hR : R (.val (.bool true)) [fsC s 1, fsM s]) :
  ACalls Tryz.prog 17 [.ptr 0 0, .agg (fsR s)] [fsC s 1, fsM s] R := by
 have hk : kys s.fs = [logB, newB] := by rw [h]; rfl
 have hle : logB ≤ newB := by decide
 have hne : logB ≠ newB := by decide
 refine same13_calls s (by rw [h]; show 2 < _; decide) (fun n hn => ?_) (by rw [hk]; simp [hne]) (by unfold FSt.names; rw [hk]; simp [sortB, List.mergeSort, hle]) (fun n hn => ?_) (by rw [hk]; decide) hR
 ·rw [hk] at hn
  rcases List.mem_cons.1 hn with rfl | hn
  ·decide
  ·rw [List.mem_singleton.1 hn]; decide
 ·rw [hk] at hn
  rw [h]
  rcases List.mem_cons.1 hn with rfl | hn
  ·exact hb
  ·rw [List.mem_singleton.1 hn]
   have e : gF (m2 f g) newB = g := by simp [m2, gF, lk, hne]
   rw [e]
   exact hc
theorem same_shape (s : FSt) {F0 F : B} {k : Nat} (h0 : F0.length < 100000000 ∧ F0 ≠ []) (h1 : F.length < 100000000 ∧ F ≠ [])
  (h : s.fs = m1 ⟨F0, k⟩ ∨ (∃ n, s.fs = m2 ⟨F0, k⟩ ⟨F, n⟩) ∨ s.fs = m1 ⟨F, F.length⟩) {R} (hR : R (.val (.bool true)) [fsC s 1, fsM s]) :
  ACalls Tryz.prog 17 [.ptr 0 0, .agg (fsR s)] [fsC s 1, fsM s] R := by
 rcases h with h | ⟨n, h⟩ | h
 ·exact same_m1 s h h0 hR
 ·exact same_m2 s h h0 h1 hR
 ·exact same_m1 s h h1 hR
theorem CompactDoes_calls (a : Int) (ha : 0 ≤ a ∧ a ≤ 255) (l : List Rc) (hl : l.length ≤ maxLen) (hld : ∀ r ∈ l, r.deps.length ≤ maxLen) (p q r : Int) (hp : -9223372036854775808 ≤ p ∧ p < 9223372036854775808) (hq : -9223372036854775808 ≤ q ∧ q < 9223372036854775808) {R} (h : R (.val (.bool true)) []) :
  ACalls Tryz.prog 3 [.val (.int .u8 a), .sl none 7 (recs l), .agg [vi p, vi q, vi r]] [] R := by
 refine acalls_of_xwp (an := { an3 with anyo := [4, 8], gq := true }) tab_ok Tryz.func3 ?_
 have hv := mod3 ha
 conv => whnf
 refine Great10_calls l hl hld fun g1 hg1 => ?_
 cases g1 with
 | true =>
  conv => whnf
  refine cfixed_calls ?_
  conv => whnf
  exact h
 | false =>
 obtain ⟨hl30, hlr⟩ := hg1 rfl
 clear hg1
 conv => whnf
 generalize IntKind.i64.wrap (1 + IntKind.i64.wrap (a.tmod 3)) = v at hv ⊢
 refine made16_calls hv l (by omega) (fun r hr => (hlr r hr).1) fun hm hml => ?_
 generalize made16 v l = L at hm hml ⊢
 have hd : ∀ r ∈ L, r.deps.length < 1000000 := fun r hr => by have := (may_all (hm r hr)).deps; omega
 have hT : ∀ r ∈ L, r.target.length < 1000000 := fun r hr => by have := (may_all (hm r hr)).t2; omega
 conv => whnf
 have hdl := docOf_len L
 have hdm : ∀ r ∈ docOf L, mayP v r = true := fun r hr => hm r (docOf_sub hr).1
 have hdd : ∀ r ∈ docOf L, r.deps.length < 1000000 := fun r hr => hd r (docOf_sub hr).1
 have hk2 : FOk ⟨(fsV v L).fs, capN p, capN q, false⟩ 1 1000000 := fall_ok (fail_ok (fsV_ok v hm (by omega)) hp) hq
 have hr2 : ROk ⟨(fsV v L).fs, capN p, capN q, false⟩ := ⟨(fsV_rok v L).len, (fsV_rok v L).names, capN_ok hp, capN_ok hq⟩
 have hB : ∀ M : List Rc, (∀ r ∈ M, mayP v r = true) → M.length ≤ 300 → (fileP v M).length < 100000000 ∧ fileP v M ≠ [] := fun M h1 h2 => by
  have e1 := fileP_small h1 h2
  have e2 := fileP_len v M
  exact ⟨by omega, fun e => by rw [e] at e2; rw [List.length_nil] at e2; omega⟩
 obtain ⟨hst, hsh⟩ := start_same ⟨fileP v L, 8⟩ (fileP v (docOf L)) (capN p) (capN q)
 have hsh : (startP ⟨(fsV v L).fs, capN p, capN q, false⟩ logB newB (fileP v (docOf L))).1.fs = m1 ⟨fileP v L, 8⟩ ∨ (∃ n, (startP ⟨(fsV v L).fs, capN p, capN q, false⟩ logB newB (fileP v (docOf L))).1.fs = m2 ⟨fileP v L, 8⟩ ⟨fileP v (docOf L), n⟩) ∨ (startP ⟨(fsV v L).fs, capN p, capN q, false⟩ logB newB (fileP v (docOf L))).1.fs = m1 ⟨fileP v (docOf L), (fileP v (docOf L)).length⟩ := hsh
 have hsl : (FSt.mk (fsV v L).fs (capN p) (capN q) false).fs.length < 700000 := by show 1 < _; decide
 have hba : (gF (FSt.mk (fsV v L).fs (capN p) (capN q) false).fs newB).b.length < 100000000 := by show (gF (m1 ⟨fileP v L, 8⟩) newB).b.length < _; rw [show gF (m1 ⟨fileP v L, 8⟩) newB = flZ from rfl]; decide
 have hst : rstart ⟨(fsV v L).fs, capN p, capN q, false⟩ logB newB (fileP v (docOf L)) = startP ⟨(fsV v L).fs, capN p, capN q, false⟩ logB newB (fileP v (docOf L)) := hst
 have hb1 := hB L hm (by omega)
 have hb2 := hB (docOf L) hdm (by omega)
 repeat' first | exact trivial | apply And.intro | (refine compDue_calls false v L (by omega) hd (fsV v L) r fun d1 e1 => ?_) | (refine docDue_calls v false L (fsV v L) (by omega) hT r fun d2 e2 => ?_) | ((fail_if_success (with_reducible refine br_intro (fun _ => ?_) (fun _ => ?_))); (conv => whnf))
 all_goals
  refine br_false (by rw [e1, e2]; simp) ?_
  clear e1 e2
  conv => whnf
  refine Fail_calls _ p ?_
  conv => whnf
  refine Fall_calls _ q ?_
  conv => whnf
  repeat' first | exact trivial | apply And.intro | ((fail_if_success (with_reducible refine (show ACalls _ _ _ _ _ from ?_))); (conv => whnf))
 all_goals
  refine compDo_calls ⟨(fsV v L).fs, capN p, capN q, false⟩ hk2 (by omega) (by omega) hv L (by omega) hm (fun he => ?_) (fun he => ?_)
  ·generalize startP ⟨(fsV v L).fs, capN p, capN q, false⟩ logB newB (fileP v (docOf L)) = se at he hst hsh ⊢
   obtain ⟨s3, e⟩ := se
   have he : e ≠ 0 := he
   generalize hov : (e == 7) = ov
   conv => whnf
   refine docDo_calls hv ⟨(fsV v L).fs, capN p, capN q, false⟩ hr2 hsl hba L (by omega) hm (fun he' => ?_) (fun he' => absurd (by rw [hst] at he'; exact he') he)
   rw [hst]
   rw [hov]
   conv => whnf
   refine cfixed_calls ?_
   conv => whnf
   refine br_true (by simp) ?_
   conv => whnf
   refine same_shape s3 hb1 hb2 hsh ?_
   conv => whnf
   refine Records_calls ov v L (by omega) hd s3 ?_
   conv => whnf
   refine All_calls L L (by omega) hd fun p hp => ?_
   obtain rfl : p = true := by simp [hp]
   conv => whnf
   refine Over_calls ov v L s3 ?_
   conv => whnf
   refine br_true (by simp) ?_
   conv => whnf
   refine compDo_nil ?_
   conv => whnf
   refine compDue_nil 0 ?_
   conv => whnf
   exact h
  ·generalize startP ⟨(fsV v L).fs, capN p, capN q, false⟩ logB newB (fileP v (docOf L)) = se at he hst hsh ⊢
   obtain ⟨s3, e⟩ := se
   have he : e = 0 := he
   subst he
   conv => whnf
   refine docDo_calls hv ⟨(fsV v L).fs, capN p, capN q, false⟩ hr2 hsl hba L (by omega) hm (fun he' => absurd (by rw [hst]) he') (fun _ => ?_)
   rw [hst]
   conv => whnf
   refine cfixed_calls ?_
   conv => whnf
   refine same_shape s3 hb1 hb2 hsh ?_
   conv => whnf
   refine Records_calls false v (docOf L) (by omega) hdd s3 ?_
   conv => whnf
   refine All_calls (docOf L) (docOf L) (by omega) hdd fun p hp => ?_
   obtain rfl : p = true := by simp [hp]
   conv => whnf
   refine Over_calls false v (docOf L) s3 ?_
   conv => whnf
   refine compDo_nil ?_
   conv => whnf
   refine compDue_nil 0 ?_
   conv => whnf
   exact h
theorem typed_3int {x : List AV} (h : Typed tab 12 23 x) : ∃ a b c : Int, x = [vi a, vi b, vi c] ∧ (-9223372036854775808 ≤ a ∧ a < 9223372036854775808) ∧ (-9223372036854775808 ≤ b ∧ b < 9223372036854775808) := by
 have h : TypedF (Typed tab 11) [3, 3, 3] x := h
 have k : ∀ z : List AV, Typed tab 11 3 z → ∃ a : Int, z = [vi a] ∧ (-9223372036854775808 ≤ a ∧ a < 9223372036854775808) := fun z hz => by
  obtain ⟨x, e, hx⟩ : ∃ x, z = [.val (.int .i64 x)] ∧ (Lit.int .i64 x).wf = true := hz
  simp only [Lit.wf, Bool.and_eq_true, decide_eq_true_eq] at hx
  have e1 : IntKind.i64.min = -9223372036854775808 := rfl
  have e2 : IntKind.i64.max = 9223372036854775807 := rfl
  rw [e1, e2] at hx
  exact ⟨x, e, hx.1, by omega⟩
 obtain ⟨p, q, rfl, h1, r, s, rfl, h2, t, u, rfl, h3, rfl⟩ := h
 obtain ⟨a, rfl, ha⟩ := k p h1
 obtain ⟨b, rfl, hb⟩ := k r h2
 obtain ⟨c, rfl, hc⟩ := k t h3
 exact ⟨a, b, c, rfl, ha, hb⟩
theorem CompactDoes_row (l : List AV) (h : Args tab 12 [5, 22, 23] l) : ACalls Tryz.prog 3 l [] fun r _ => r = .val (.bool true) := by
 obtain ⟨a, l1, rfl, ha, h1⟩ := args_u8 h
 obtain ⟨m, l2, rfl, h2, h3, h4⟩ := args_recs h1
 obtain ⟨v, l3, rfl, ⟨w, rfl, hw⟩, h5⟩ := h4
 obtain ⟨x, y, z, rfl, hx, hy⟩ := typed_3int hw
 obtain rfl := args_nil h5
 exact CompactDoes_calls a ha m h2 h3 x y z hx hy rfl
end Go.Abs
end
