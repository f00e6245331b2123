/- Several texts of this claim, one behind the other: PF, PG, PH, PI, PJ, PK, PL, PM, MC, PO, SA, SB, SC, SD, SE, TA, TB, TC, ZE, ZF, UD, UF, UG, UH, UA, UB, UC, UE, UI, UJ, UK, UL, UM, ZG, F6, F8, ZH, ZI, ZP, TD, TE, TF, H6, UN, ZJ. -/
import Derived.Test.YtnjeogcgfoabhaaGreatYBuildClean3
import Derived.Test.YtnjeogcgfoabhaaGreatE0BA
set_option maxRecDepth 100000
set_option maxHeartbeats 4000000
set_option linter.unusedVariables false
set_option linter.unusedSimpArgs false
section
namespace Go.Abs
open Go Go.Proofs Dig
attribute [local irreducible] aH aE aO firstIdx
theorem zJ (l : List B) (s : B) (hl : l.length < 1000000) {R} (h : ∀ p, p = gy l s → R (vi p) []) : ag Tryz.prog 77 [.sl none 1 (bl l), vs s] [] R := by
 refine ab (an := Ux) tab_ok Tryz.func77 ?_;have hsl := aD l;conv=>whnf
 refine au.ind1 (fun (i : Nat) => [(8, vi i)]) (fun i => []) (fun i => l.length - i) (fun i => i ≤ l.length ∧ ∀ j, j < i → l[j]? ≠ some s) 0 rfl ⟨by omega, fun j hj => by omega⟩ ?_;rintro i ⟨h0, h1⟩ IH;conv=>whnf
 refine ae (fun hc => ?_) (fun hc => ?_)
 ·have hc := ap hsl hc
  (conv=>whnf); (repeat ((with_reducible refine ac ?_ ?_); exact decide_eq_true (by omega); (conv=>whnf)))
  refine idxNat (by simpa using hc) ?_;conv=>whnf
  refine ae (fun g => ?_) (fun g => ?_)
  ·have g : s = l[i] := by
    have g : ofB s = ofB l[i] := of_decide_eq_true g;exact b9 g
   conv=>whnf
   refine h _ ?_;rw [gy, lO (by rw [List.getElem?_eq_getElem hc, g]) h1]
  ·have g : s ≠ l[i] := by
    have g : ¬ ofB s = ofB l[i] := of_decide_eq_false g;exact fun e => g (by rw [e])
   conv=>whnf
   rw [al (by omega)];refine IH (i + 1) ⟨hc, fun j hj => ?_⟩ (by omega);rcases Nat.lt_succ_iff_lt_or_eq.1 hj with hj | rfl
   ·exact h1 j hj
   ·rw [List.getElem?_eq_getElem hc];exact fun e => g (Option.some.inj e).symm
 ·have hc := aw hsl hc;conv=>whnf
  refine h _ ?_;rw [gy, iC.2];intro hm;obtain ⟨j, hj, e⟩ := List.getElem_of_mem hm;exact h1 j (by omega) (by rw [List.getElem?_eq_getElem hj, e])
theorem fG (l : List B) (s : B) (hl : l.length < 1000000) {R} (h : R (.val (.bool (decide (s ∈ l)))) []) : ag Tryz.prog 35 [.sl none 1 (bl l), vs s] [] R := by
 refine ab (an := U4) tab_ok Tryz.func35 ?_;conv=>whnf
 refine zJ l s hl fun p hp => ?_;have e : decide (p ≥ 0) = decide (s ∈ l) := by
  have := cK (l := l) (s := s);rw [← hp] at this;by_cases hm : s ∈ l
  ·rw [decide_eq_true hm, decide_eq_true];refine Classical.byContradiction fun hn => this.1 (by omega) hm
  ·rw [decide_eq_false hm, decide_eq_false];have := this.2 hm;omega
 conv=>whnf
 rw [e];exact h
def bxO : aF := .cells 25 [.ptr 1 0]
def byO (b : B) : aF := .cells 77 [.sl none 1 (ai b)]
theorem Hf (s : FSt) (aside : B) (h1 : okN s.fail) (h2 : okN s.fall) {R} (h : R (vi (s.remove aside).2) [bxO, fsC (s.remove aside).1 2, fsM (s.remove aside).1]) :
  ag Tryz.prog 82 [.ptr 0 0, .cptr [vs aside] 0] [bxO, fsC s 2, fsM s] R := by
 refine ab (an := Uu) tab_ok Tryz.func82 ?_;conv=>whnf
 refine sJ s aside h1 h2 ?_;conv=>whnf
 exact h
theorem yf (s : FSt) (aside b : B) (h1 : okN s.fail) (h2 : okN s.fall) (hb : b.length < 1000000) (hg : (gF s.fs aside).b.length < 100000000) {R} (h : R (vi (s.append aside b).2) [bxO, fsC (s.append aside b).1 2, fsM (s.append aside b).1, byO b]) :
  ag Tryz.prog 83 [.ptr 0 0, .cptr [vs aside] 0, .ptr 3 0] [bxO, fsC s 2, fsM s, byO b] R := by
 refine ab (an := Ut) tab_ok Tryz.func83 ?_;conv=>whnf
 refine ls s aside b h1 h2 hb hg ?_;conv=>whnf
 exact h
theorem ye (s : FSt) (aside : B) (h1 : okN s.fail) (h2 : okN s.fall) {R} (h : R (vi (s.sync aside).2) [bxO, fsC (s.sync aside).1 2, fsM (s.sync aside).1]) :
  ag Tryz.prog 85 [.ptr 0 0, .cptr [vs aside] 0] [bxO, fsC s 2, fsM s] R := by
 refine ab (an := Ur) tab_ok Tryz.func85 ?_;conv=>whnf
 refine xd s aside h1 h2 ?_;conv=>whnf
 exact h
theorem yc (s : FSt) (aside name : B) (h1 : okN s.fail) (h2 : okN s.fall) {R} (h : R (vi (s.rename aside name).2) [bxO, fsC (s.rename aside name).1 2, fsM (s.rename aside name).1]) :
  ag Tryz.prog 86 [.ptr 0 0, .cptr [vs aside] 0, .cptr [vs name] 0] [bxO, fsC s 2, fsM s] R := by
 refine ab (an := Uq) tab_ok Tryz.func86 ?_;conv=>whnf
 refine A5 s aside name h1 h2 ?_;conv=>whnf
 exact h
def ic (s : FSt) (name aside b : B) : FSt × Int :=
 if (s.append aside b).2 ≠ 0 then s.append aside b
 else if ((s.append aside b).1.sync aside).2 ≠ 0 then (s.append aside b).1.sync aside
 else ((s.append aside b).1.sync aside).1.rename aside name
def cT (s : FSt) (name aside b : B) : FSt × Int :=
 if aside ∈ s.names then (if (s.remove aside).2 ≠ 0 then s.remove aside else ic (s.remove aside).1 name aside b) else ic s name aside b
def fn1 (aside : B) : AV := .fn (.func 82) [] [.ptr 1 0, .cptr [vs aside] 0]
def fn2 (aside : B) : AV := .fn (.func 83) [] [.ptr 1 0, .cptr [vs aside] 0, .ptr 4 0]
def fn3 (aside : B) : AV := .fn (.func 85) [] [.ptr 1 0, .cptr [vs aside] 0]
def fn4 (aside name : B) : AV := .fn (.func 86) [] [.ptr 1 0, .cptr [vs aside] 0, .cptr [vs name] 0]
def bx1 : aF := .cells 25 [.ptr 2 0]
theorem Ec (s : FSt) (name aside b : B) {nb fb : Nat} (hk : FOk s nb fb) (hfb : fb ≤ 90000000) (hna : aside.length < 1000000) (hb : b.length < 1000000) {R}
  (h : R (vi (ic s name aside b).2) [.fns 80 [fn2 aside, fn3 aside, fn4 aside name] 0, bx1, fsC (ic s name aside b).1 3, fsM (ic s name aside b).1, byO b]) :
  ag Tryz.prog 88 [.slv 0 0 0 0 3] [.fns 80 [fn2 aside, fn3 aside, fn4 aside name] 0, bx1, fsC s 3, fsM s, byO b] R := by
 refine ab (an := Q3) tab_ok Tryz.func88 ?_;conv=>whnf
 refine au.step ?_;conv=>whnf
 refine ⟨rfl, ?_⟩;conv=>whnf
 refine yf s aside b hk.fail hk.fall hb (by have := (hk.m.get aside).2; omega) ?_;have hk2 := iH hk (name := aside) (b := b) hna;conv=>whnf
 refine ae (fun g => ?_) (fun g => ?_)
 ·have g : (s.append aside b).2 ≠ 0 := by simpa using g
  rw [ic, if_pos g] at h;conv=>whnf
  exact h
 have g : ¬ (s.append aside b).2 ≠ 0 := by simpa using g
 rw [ic, if_neg g] at h;generalize (s.append aside b).1 = s1 at h hk2 ⊢;conv=>whnf
 refine au.step ?_;conv=>whnf
 refine ⟨rfl, ?_⟩;conv=>whnf
 refine ye s1 aside hk2.fail hk2.fall ?_;have hk3 := mn hk2 (name := aside);conv=>whnf
 refine ae (fun g2 => ?_) (fun g2 => ?_)
 ·have g2 : (s1.sync aside).2 ≠ 0 := by simpa using g2
  rw [if_pos g2] at h;conv=>whnf
  exact h
 have g2 : ¬ (s1.sync aside).2 ≠ 0 := by simpa using g2
 rw [if_neg g2] at h;generalize (s1.sync aside).1 = s2 at h hk3 ⊢;conv=>whnf
 refine au.step ?_;conv=>whnf
 refine ⟨rfl, ?_⟩;conv=>whnf
 refine yc s2 aside name hk3.fail hk3.fall ?_;conv=>whnf
 refine ae (fun g3 => ?_) (fun g3 => ?_)
 ·conv=>whnf
  exact h
 have g3 : (s2.rename aside name).2 = 0 := by simpa using g3
 rw [g3] at h;conv=>whnf
 refine au.step ?_;conv=>whnf
 exact h
theorem Eb (s : FSt) (name aside b : B) {nb fb : Nat} (hk : FOk s nb fb) (hfb : fb ≤ 90000000) (hna : aside.length < 1000000) (hb : b.length < 1000000) {R}
  (h : R (vi (if (s.remove aside).2 ≠ 0 then s.remove aside else ic (s.remove aside).1 name aside b).2) [.fns 80 [fn1 aside, fn2 aside, fn3 aside, fn4 aside name] 1, bx1, fsC (if (s.remove aside).2 ≠ 0 then s.remove aside else ic (s.remove aside).1 name aside b).1 3, fsM (if (s.remove aside).2 ≠ 0 then s.remove aside else ic (s.remove aside).1 name aside b).1, byO b]) :
  ag Tryz.prog 88 [.slv 0 0 1 0 4] [.fns 80 [fn1 aside, fn2 aside, fn3 aside, fn4 aside name] 1, bx1, fsC s 3, fsM s, byO b] R := by
 refine ab (an := Q3) tab_ok Tryz.func88 ?_;conv=>whnf
 refine au.step ?_;conv=>whnf
 refine ⟨rfl, ?_⟩;conv=>whnf
 refine Hf s aside hk.fail hk.fall ?_;have hk0 := lv hk (name := aside);conv=>whnf
 refine ae (fun g => ?_) (fun g => ?_)
 ·have g : (s.remove aside).2 ≠ 0 := by simpa using g
  rw [if_pos g] at h;conv=>whnf
  exact h
 have g : ¬ (s.remove aside).2 ≠ 0 := by simpa using g
 rw [if_neg g] at h;clear hk;generalize (s.remove aside).1 = s at h hk0 ⊢;have hk := hk0;clear hk0;conv=>whnf
 refine au.step ?_;conv=>whnf
 refine ⟨rfl, ?_⟩;conv=>whnf
 refine yf s aside b hk.fail hk.fall hb (by have := (hk.m.get aside).2; omega) ?_;have hk2 := iH hk (name := aside) (b := b) hna;conv=>whnf
 refine ae (fun g => ?_) (fun g => ?_)
 ·have g : (s.append aside b).2 ≠ 0 := by simpa using g
  rw [ic, if_pos g] at h;conv=>whnf
  exact h
 have g : ¬ (s.append aside b).2 ≠ 0 := by simpa using g
 rw [ic, if_neg g] at h;generalize (s.append aside b).1 = s1 at h hk2 ⊢;conv=>whnf
 refine au.step ?_;conv=>whnf
 refine ⟨rfl, ?_⟩;conv=>whnf
 refine ye s1 aside hk2.fail hk2.fall ?_;have hk3 := mn hk2 (name := aside);conv=>whnf
 refine ae (fun g2 => ?_) (fun g2 => ?_)
 ·have g2 : (s1.sync aside).2 ≠ 0 := by simpa using g2
  rw [if_pos g2] at h;conv=>whnf
  exact h
 have g2 : ¬ (s1.sync aside).2 ≠ 0 := by simpa using g2
 rw [if_neg g2] at h;generalize (s1.sync aside).1 = s2 at h hk3 ⊢;conv=>whnf
 refine au.step ?_;conv=>whnf
 refine ⟨rfl, ?_⟩;conv=>whnf
 refine yc s2 aside name hk3.fail hk3.fall ?_;conv=>whnf
 refine ae (fun g3 => ?_) (fun g3 => ?_)
 ·conv=>whnf
  exact h
 have g3 : (s2.rename aside name).2 = 0 := by simpa using g3
 rw [g3] at h;conv=>whnf
 refine au.step ?_;conv=>whnf
 exact h
theorem Dm (s : FSt) (name aside b : B) (hne : name ≠ aside) (v : Int) (l : List Rc) {nb fb : Nat} (hk : FOk s nb fb) (hnb : nb ≤ 900000) (hfb : fb ≤ 80000000) (hna : aside.length < 1000000) (hb : b.length < 1000000)
  (hput : ∀ {R : AV → List aF → Prop}, R (.tup [.sl none 1 (ai b), vi 0]) [] → ag Tryz.prog 81 [vi v, .sl none 7 (bf l)] [] R) {R} (h : R (vi (cT s name aside b).2) [fsC (cT s name aside b).1 1, fsM (cT s name aside b).1]) :
  ag Tryz.prog 37 [.ptr 0 0, vs name, vs aside, vi v, .sl none 7 (bf l)] [fsC s 1, fsM s] R := by
 refine ab (an := Ph) tab_ok Tryz.func37 ?_;have hlen := hk.m.len;have hnl : s.names.length ≤ nb := by
  rw [(dS s).length_eq];simpa [kys] using hlen
 conv=>whnf
 refine hput ?_;conv=>whnf
 refine am (decide_eq_false (fun e => hne (b9 e))) ?_;conv=>whnf
 refine i5 s (by omega) hk.m.names hk.m.nodup ?_;conv=>whnf
 refine fG s.names aside (by omega) ?_;conv=>whnf
 refine ae (fun g => ?_) (fun g => ?_)
 ·have g := of_decide_eq_true g;unfold cT at h;rw [if_pos g] at h;conv=>whnf
  refine ⟨by simp only [List.length_cons, List.length_nil]; decide, ?_⟩;conv=>whnf
  refine ⟨⟨rfl, rfl⟩, by simp only [List.length_cons, List.length_nil]; decide, ?_⟩;conv=>whnf
  refine Eb s name aside b hk (by omega) hna hb ?_;conv=>whnf
  exact h
 ·have g := of_decide_eq_false g;unfold cT at h;rw [if_neg g] at h;conv=>whnf
  refine ⟨by simp only [List.length_cons, List.length_nil]; decide, ?_⟩;conv=>whnf
  refine Ec s name aside b hk (by omega) hna hb ?_;conv=>whnf
  exact h
def zF : AV := .agg [vi 0, nlA, nlA, vi 0]
theorem MQ (s : FSt) (name : B) (v : Int) (l : List Rc) (hin : name ∈ kys s.fs) (hb : (gF s.fs name).b = aC v l) (hlen : (aC v l).length < 1000000)
  (hget : ∀ {R : AV → List aF → Prop}, R (.tup [.agg (ct v l), vi 0]) [] → ag Tryz.prog 89 [.sl none 1 (ai (aC v l))] [] R) {R} (h : R (.tup [.agg (ct v l), vi 0]) [fsC s 1, fsM s]) :
  ag Tryz.prog 38 [.ptr 0 0, vs name] [fsC s 1, fsM s] R := by
 refine ab (an := MM) tab_ok Tryz.func38 ?_;have hbl := aM (aC v l);conv=>whnf
 refine jP s name (by rw [hb]; omega) (fun _ => ?_) (fun hno => absurd hin hno);rw [hb];conv=>whnf
 refine hget ?_;conv=>whnf
 refine am (decide_eq_false (by rw [hbl]; omega)) ?_;conv=>whnf
 exact h
theorem Mn : FOk fs0 0 0 := ⟨⟨by decide, by simp [fs0], by simp [fs0], by simp [fs0], by simp [fs0, kys]⟩, (by decide : -1 ≤ (-1 : Int) ∧ (-1 : Int) < 9223372036854775808), (by decide : -1 ≤ (-1 : Int) ∧ (-1 : Int) < 9223372036854775808)⟩
theorem He (name aside b : B) (hne : name ≠ aside) : cT fs0 name aside b = (⟨[(name, ⟨b, b.length⟩)], -1, -1, false⟩, 0) := by
 have h1 : fs0.append aside b = (⟨[(aside, ⟨b, 0⟩)], -1, -1, false⟩, 0) := rfl;have h2 : (FSt.mk [(aside, ⟨b, 0⟩)] (-1) (-1) false).sync aside = (⟨[(aside, ⟨b, b.length⟩)], -1, -1, false⟩, 0) := by
  simp [FSt.sync, FSt.may, FSt.act, lk, cR, pt, gF, cnt]
 have h3 : (FSt.mk [(aside, ⟨b, b.length⟩)] (-1) (-1) false).rename aside name = (⟨[(name, ⟨b, b.length⟩)], -1, -1, false⟩, 0) := by
  simp [FSt.rename, FSt.may, FSt.act, lk, kc, pt, dl, gF, cnt]
 have hn : aside ∉ fs0.names := by simp [FSt.names, fq, fs0, kys]
 unfold cT ic;rw [if_neg hn, h1];simp only [h2, h3, ne_eq, not_true_eq_false, if_false]
end Go.Abs
end
section
namespace Go.Abs
open Go Go.Proofs Dig
theorem fp (s : FSt) (late : Bool) (g : FM → FM) : ((s.act late g).2 = 0 ∧ (s.act late g).1.fs = g s.fs) ∨ ((s.act late g).2 ≠ 0 ∧ ((s.act late g).1.fs = s.fs ∨ (late = true ∧ (s.act late g).1.fs = g s.fs))) := by
 unfold FSt.act;split
 ·refine .inr ⟨(by decide : (7 : Int) ≠ 0), ?_⟩
  cases late
  ·exact .inl rfl
  ·exact .inr ⟨rfl, rfl⟩
 ·split
  ·exact .inr ⟨(by decide : (8 : Int) ≠ 0), .inl rfl⟩
  ·exact .inl ⟨rfl, rfl⟩
def cu (s : FSt) (name : B) (b : B) : Prop := lk s.fs name = some ⟨b, b.length⟩
theorem rI (s : FSt) {log new F0 : B} (hnd : (kys s.fs).Nodup) (hne : log ≠ new) (h : cu s log F0) :
  ((s.remove new).2 = 0 ∧ cu (s.remove new).1 log F0 ∧ lk (s.remove new).1.fs new = none) ∨ ((s.remove new).2 ≠ 0 ∧ cu (s.remove new).1 log F0) := by
 have hg : lk (dl s.fs new) log = lk s.fs log ∧ lk (dl s.fs new) new = none := by
  rw [wb hnd, wb hnd, if_neg (Ne.symm hne), if_pos rfl];exact ⟨rfl, rfl⟩
 unfold FSt.remove;split
 ·rename_i hm;exact .inr ⟨hm, h⟩
 ·rcases fp s false (fun m => dl m new) with ⟨e, f⟩ | ⟨e, f | ⟨hl, _⟩⟩
  ·refine .inl ⟨e, ?_, ?_⟩
   ·unfold cu; rw [f, hg.1]; exact h
   ·rw [f]; exact hg.2
  ·refine .inr ⟨e, ?_⟩;unfold cu; rw [f]; exact h
  ·cases hl
end Go.Abs
end
section
namespace Go.Abs
open Go Go.Proofs Dig
attribute [local irreducible] aH aE aO firstIdx
def aS : B := [108, 111, 103]
def cB : B := [110, 101, 119]
def is3 (v : Int) : Prop := v = 1 ∨ v = 2 ∨ v = 3
theorem wR {v : Int} (hv : is3 v) (l : List Rc) (hl : l.length ≤ 1000) (hd : ∀ r ∈ l, r.deps.length < 100000) {R} (hy : (∀ r ∈ l, aR v r = true) → R (.tup [.sl none 1 (ai (aC v l)), vi 0]) []) (hn : (¬ ∀ r ∈ l, aR v r = true) → R (.tup [.val (.slice none 0 0), vi 1]) []) :
  ag Tryz.prog 81 [vi v, .sl none 7 (bf l)] [] R := by
 rcases hv with rfl | rfl | rfl
 ·exact O0 l hl hd hy hn
 ·exact KF (.inl rfl) l hl hd hy hn
 ·exact KF (.inr rfl) l hl hd hy hn
theorem KH {v : Int} (hv : is3 v) (l : List Rc) (hm : ∀ r ∈ l, aR v r = true) (hl : l.length ≤ 1100) {R} (h : R (.tup [.agg (ct v l), vi 0]) []) : ag Tryz.prog 89 [.sl none 1 (ai (aC v l))] [] R := by
 exact AM hv l hm hl h
theorem fg {v : Int} {l : List Rc} (hm : ∀ r ∈ l, aR v r = true) (hl : l.length ≤ 300) : (aC v l).length < 1000000 := by
 have h := jG (v := v) (l := l) (t := []) (fun r hr => aQ (hm r hr)) (by simp; omega);rw [cr];omega
theorem nv {v : Int} {l : List Rc} (hm : ∀ r ∈ l, aR v r = true) (hl : l.length ≤ 1100) : (aC v l).length < 4000000 := by
 have h := jG (v := v) (l := l) (t := []) (fun r hr => aQ (hm r hr)) (by simp; omega);rw [cr];omega
theorem mw : aS ≠ cB := by decide
def fsL (F : B) : FSt := ⟨[(aS, ⟨F, F.length⟩)], -1, -1, false⟩
theorem If (F : B) : cu (fsL F) aS F := by simp [cu, fsL, lk]
theorem TQ {a : Int} (h : 0 ≤ a ∧ a ≤ 255) : is3 (IntKind.i64.wrap (1 + IntKind.i64.wrap (a.tmod 3))) := by
 obtain ⟨n, rfl⟩ := Int.eq_ofNat_of_zero_le h.1;have e : (n : Int).tmod 3 = ((n % 3 : Nat) : Int) := by
  rw [Int.tmod_eq_emod_of_nonneg (Int.natCast_nonneg _)];omega
 rw [e, aK (x := ((n % 3 : Nat) : Int)) (by omega) (by omega), aK (by omega) (by omega)];unfold is3;omega
theorem GI {s : FSt} {nb fb : Nat} (h : FOk s nb fb) {n : Int} (hn : -9223372036854775808 ≤ n ∧ n < 9223372036854775808) : FOk ⟨s.fs, kM n, s.fall, s.down⟩ nb fb := ⟨h.m, uT hn, h.fall⟩
theorem GH {s : FSt} {nb fb : Nat} (h : FOk s nb fb) {n : Int} (hn : -9223372036854775808 ≤ n ∧ n < 9223372036854775808) : FOk ⟨s.fs, s.fail, kM n, s.down⟩ nb fb := ⟨h.m, h.fail, uT hn⟩
theorem LF {v : Int} (hv : v = 2 ∨ v = 3) (l : List Rc) (hl : l.length ≤ 1100) (hm : ∀ r ∈ l, aR v r = true) (x : AV) (hx : x = .sl none 1 (c6 (cN v l))) (n : Int) {R} (h : R (.tup [.ptr 0 0, vi 0]) (qw (lI v [] l))) :
  ag Tryz.prog 180 [.agg [vi v, .sl none 7 (bf l), x, vi n]] [] R := by
 subst hx;refine ab (an := NH) tab_ok Tryz.func180 ?_;have hsl := be l;conv=>whnf
 refine oy ?_;conv=>whnf
 by_cases hl0 : l = []
 ·subst hl0;refine au.step ?_;conv=>whnf
  exact h
 have hi : 0 < l.length := List.length_pos_iff.2 hl0;rw [ix (show lI v [] l ≠ [] from by
  obtain ⟨j, hj⟩ : ∃ j, l.length = j + 1 := ⟨l.length - 1, by omega⟩;have e : lI v [] l = tbP v l (j + 1) := by unfold tbP; rw [← hj, List.take_length]
  rw [e, ib (by omega)];exact lm (ne1 hv) _ _)] at h
 refine au.step ?_;conv=>whnf
 refine aI (by rw [hsl]; exact decide_eq_true (by omega)) ?_
 (conv=>whnf); (repeat ((with_reducible refine ac ?_ ?_); exact decide_eq_true (by omega); (conv=>whnf)))
 refine aa (show (0 : Int).toNat < l.length by simpa using hi) ?_;rw [show l[(0 : Int).toNat]'(by simpa using hi) = l[0] from rfl];conv=>whnf
 refine zH hv l[0] (hm _ (List.getElem_mem hi)) ?_;conv=>whnf
 rw [show IntKind.i64.wrap ((0 : Int) + 1) = ((1 : Nat) : Int) from rfl];have hT1 : bz v [] l[0] = tbP v l 1 := (ib hi).symm;rw [hT1];refine au.ind2 (fun (i : Nat) (T : List B) => [(13, vi i)]) (fun i T => [(ax 9 0, bN (ax 22 0) (ax 22 1) T), (ax 22 0, bM T), (ax 22 1, bL T)]) (fun i _ => l.length - i) (fun i T => 1 ≤ i ∧ i ≤ l.length ∧ T = tbP v l i) 1 _ rfl ⟨by omega, hi, rfl⟩ ?_;rintro i T ⟨h00, h0, hT⟩ IH;conv=>whnf
 refine ae (fun hc => ?_) (fun hc => ?_)
 ·have hi := ap hsl hc;have hmt : ∀ r ∈ l.take i, aR v r = true := fun r hr => hm r (List.mem_of_mem_take hr);have hTl : T.length ≤ 20000 := by rw [hT]; exact rB (by omega) hmt
  have IH := IH (i + 1) _ ⟨by omega, hi, rfl⟩ (by omega);rw [ib hi, ← hT] at IH
  (conv=>whnf); (repeat ((with_reducible refine ac ?_ ?_); exact decide_eq_true (by omega); (conv=>whnf)))
  refine idxNat (by simpa using hi) ?_;conv=>whnf
  refine zG hv l[i] T (by omega) (hm _ (List.getElem_mem hi)) ?_;conv=>whnf
  rw [al (by omega)];exact IH
 ·have hi := aw hsl hc;rw [show tbP v l i = lI v [] l from by unfold tbP; rw [List.take_of_length_le hi]] at hT;subst hT;conv=>whnf
  exact h
theorem yN {v : Int} (hv : v = 2 ∨ v = 3) (r : Rc) (hm : aR v r = true) (t : List B) (ht : t.length < 80000) {R} (h : R (.tup [.sl none 1 (ai (ay (bw v t r))), vi 0]) (qw (bz v t r))) :
  ag Tryz.prog 181 [vi v, .ptr 0 0, .agg r.enc] (qw t) R := by
 refine ab (an := { NG with keep := [(4, [1, 9, 10, 20, 21, 22])] }) tab_ok Tryz.func181 ?_;rw [ix (lm (ne1 hv) t r)] at h;by_cases h0 : t = []
 ·subst h0;obtain ⟨t, ht0⟩ : ∃ t : List B, t = [] := ⟨_, rfl⟩;rw [show qw [] = [dq] from rfl];conv=>whnf
  refine zH hv r hm ?_;rw [← ht0] at h ⊢;have ht : t.length < 80000 := by rw [ht0]; simp
  have hpl := iD (t := t) (aQ hm) (by omega);have hpf := dK (t := t) (aQ hm) (by omega);have hpc := gc (v := v) (t := t) (aQ hm).deps;generalize hps : bw v t r = ps at hpl hpf hpc h ⊢;have hrl := aP ps;conv=>whnf
  refine au.step ?_;conv=>whnf
  refine aI (by rw [hrl]; exact decide_eq_true (by omega)) ?_
  (conv=>whnf); (repeat ((with_reducible refine ac ?_ ?_); exact decide_eq_true (by omega); (conv=>whnf)))
  refine aa (show (0 : Int).toNat < ps.length from by show 0 < ps.length; omega) ?_;rw [show ps[(0 : Int).toNat]'(by show 0 < ps.length; omega) = ps[0] from rfl];conv=>whnf
  refine ag.args (leL.cons (cy 1) (leL.refl _)) (d8 [] ps[0] (by simp) (hpl _ (List.getElem_mem _)).1 (hpl _ (List.getElem_mem _)).2 ?_);have h1 : bq ps[0] = ay (ps.take 1) := by
   rw [show ps.take 1 = [] ++ [ps[0]] from by cases ps with | nil => simp at hpc | cons a l => rfl, dF];rfl
  rw [List.nil_append, h1];conv=>whnf
  rw [show IntKind.i64.wrap ((0 : Int) + 1) = ((1 : Nat) : Int) from rfl];refine au.ind2 (fun (k : Nat) (c : B) => [(10, .sl none 1 (ai c)), (22, vi k)]) (fun k c => [(0, bN (ax 17 0) (ax 17 1) (bz v t r)), (ax 17 0, bM (bz v t r)), (ax 17 1, bL (bz v t r))]) (fun k _ => ps.length - k) (fun k c => k ≤ ps.length ∧ c = ay (ps.take k)) 1 _ rfl ⟨by omega, rfl⟩ ?_;rintro k c ⟨hk0, hc0⟩ IH2;have hcl : c.length ≤ 3008 := by have := eW ps k; rw [hc0]; omega
  conv=>whnf
  refine ae (fun hk => ?_) (fun hk => ?_)
  ·have hk := ap hrl hk;have hp := hpl _ (List.getElem_mem hk);have hS : c ++ bq ps[k] = ay (ps.take (k + 1)) := by
    rw [hc0, List.take_succ_eq_append_getElem hk, dF]
   have IH2 := IH2 (k + 1) _ ⟨hk, hS⟩ (by omega)
   (conv=>whnf); (repeat ((with_reducible refine ac ?_ ?_); exact decide_eq_true (by omega); (conv=>whnf)))
   refine idxNat (by simpa using hk) ?_;conv=>whnf
   refine d8 c ps[k] (by omega) hp.1 hp.2 ?_;conv=>whnf
   rw [al (by omega)];exact IH2
  ·have hk := aw hrl hk;rw [List.take_of_length_le hk] at hc0;subst hc0;conv=>whnf
   exact h
 ·rw [ix h0];conv=>whnf
  refine zG hv r t (by omega) hm ?_;have hpl := iD (t := t) (aQ hm) (by omega);have hpf := dK (t := t) (aQ hm) (by omega);have hpc := gc (v := v) (t := t) (aQ hm).deps;generalize hps : bw v t r = ps at hpl hpf hpc h ⊢;have hrl := aP ps;conv=>whnf
  refine au.step ?_;conv=>whnf
  refine aI (by rw [hrl]; exact decide_eq_true (by omega)) ?_
  (conv=>whnf); (repeat ((with_reducible refine ac ?_ ?_); exact decide_eq_true (by omega); (conv=>whnf)))
  refine aa (show (0 : Int).toNat < ps.length from by show 0 < ps.length; omega) ?_;rw [show ps[(0 : Int).toNat]'(by show 0 < ps.length; omega) = ps[0] from rfl];conv=>whnf
  refine ag.args (leL.cons (cy 1) (leL.refl _)) (d8 [] ps[0] (by simp) (hpl _ (List.getElem_mem _)).1 (hpl _ (List.getElem_mem _)).2 ?_);have h1 : bq ps[0] = ay (ps.take 1) := by
   rw [show ps.take 1 = [] ++ [ps[0]] from by cases ps with | nil => simp at hpc | cons a l => rfl, dF];rfl
  rw [List.nil_append, h1];conv=>whnf
  rw [show IntKind.i64.wrap ((0 : Int) + 1) = ((1 : Nat) : Int) from rfl];refine au.ind2 (fun (k : Nat) (c : B) => [(10, .sl none 1 (ai c)), (22, vi k)]) (fun k c => [(0, bN 1 2 (bz v t r)), (1, bM (bz v t r)), (2, bL (bz v t r))]) (fun k _ => ps.length - k) (fun k c => k ≤ ps.length ∧ c = ay (ps.take k)) 1 _ rfl ⟨by omega, rfl⟩ ?_;rintro k c ⟨hk0, hc0⟩ IH2;have hcl : c.length ≤ 3008 := by have := eW ps k; rw [hc0]; omega
  conv=>whnf
  refine ae (fun hk => ?_) (fun hk => ?_)
  ·have hk := ap hrl hk;have hp := hpl _ (List.getElem_mem hk);have hS : c ++ bq ps[k] = ay (ps.take (k + 1)) := by
    rw [hc0, List.take_succ_eq_append_getElem hk, dF]
   have IH2 := IH2 (k + 1) _ ⟨hk, hS⟩ (by omega)
   (conv=>whnf); (repeat ((with_reducible refine ac ?_ ?_); exact decide_eq_true (by omega); (conv=>whnf)))
   refine idxNat (by simpa using hk) ?_;conv=>whnf
   refine d8 c ps[k] (by omega) hp.1 hp.2 ?_;conv=>whnf
   rw [al (by omega)];exact IH2
  ·have hk := aw hrl hk;rw [List.take_of_length_le hk] at hc0;subst hc0;conv=>whnf
   exact h
theorem mM (l : List Rc) (hl : l.length < 1000000) {R} (h1 : l = [] → R (.val (.slice none 0 0)) []) (h2 : R (.sl (some 0) 7 (bf l)) [.row 67 7 (bf l).length]) :
  ag Tryz.prog 182 [.sl none 7 (bf l)] [] R := by
 refine ab (an := NF) tab_ok Tryz.func182 ?_;have hsl := be l;conv=>whnf
 intro b hb;refine ae (fun g => ?_) (fun g => ?_)
 ·have e := hb g;have e : l = [] := by
   cases l with
   | nil => rfl
   | cons r l => simp [bf] at e
  conv=>whnf
  exact h1 e
 ·conv=>whnf
  refine ⟨rfl, (by show (0 + (bf l).length) * (88 + 1) ≤ _; omega), ?_⟩;conv=>whnf
  rw [show [].length + (bf l).length = (bf l).length by simp, show [] ++ bf l = bf l from rfl];exact h2
theorem gS (b : List Nat) (hb : b.length < 1000000) {R} (h1 : b = [] → R (.val (.slice none 0 0)) []) (h : R (.sl (some 0) 1 (c6 b)) [.row 3 1 b.length]) : ag Tryz.prog 183 [.sl none 1 (c6 b)] [] R := by
 refine ab (an := { R5 with keepRes := true }) tab_ok Tryz.func183 ?_;have hsl := cb b;conv=>whnf
 intro p hp;refine ae (fun g => ?_) (fun g => ?_)
 ·have e := hp g;have e : b = [] := by cases b with | nil => rfl | cons a b => cases e
  conv=>whnf
  exact h1 e
 ·conv=>whnf
  refine ⟨rfl, (by show (0 + (c6 b).length) * (8 + 1) ≤ _; omega), ?_⟩;conv=>whnf
  rw [show [] ++ c6 b = c6 b from rfl, hsl, show [].length + b.length = b.length by simp];exact h
def cd (v : Int) (l : List Rc) (r : Rc) : B := ay (bw v (lI v [] l) r)
theorem ir (v : Int) (l : List Rc) (r : Rc) : aC v (l ++ [r]) = aC v l ++ cd v l r := by
 unfold aC cd;rw [eR, dG, List.append_assoc];simp [aW]
theorem dy (v : Int) (l : List Rc) (r : Rc) : cN v (l ++ [r]) = cN v l ++ [(aC v (l ++ [r])).length] := by
 unfold cN;rw [List.length_append, List.length_singleton, List.range_succ, List.map_append];congr 1
 ·refine List.map_congr_left fun i hi => ?_;have hi := List.mem_range.1 hi;rw [List.take_append_of_le_length (by omega)]
 ·rw [List.map_singleton, show l.length + 1 = (l ++ [r]).length by simp, List.take_length]
theorem ju (l : List Rc) (r : Rc) : bf (l ++ [r]) = bf l ++ [r.enc] := by simp [bf]
theorem gR (l : List Nat) (n : Nat) : c6 (l ++ [n]) = c6 l ++ [[vi (n : Int)]] := by simp [c6]
theorem EI {v : Int} (hv : v = 2 ∨ v = 3) (r : Rc) (hm : aR v r = true) (t : List B) (ht : t = []) {R} (h : R (.tup [.sl none 1 (ai (ay (bw v t r))), vi 0]) [bN 1 2 (bz v t r), bM (bz v t r), bL (bz v t r)]) :
  ag Tryz.prog 181 [vi v, .ptr 0 0, .agg r.enc] [dq] R := by
 have h1 := yN hv r hm t (by rw [ht]; simp) (R := R);rw [ix (lm (ne1 hv) t r)] at h1;have h2 := h1 h;rw [ht] at h2;exact h2
theorem EH {v : Int} (hv : v = 2 ∨ v = 3) (r : Rc) (hm : aR v r = true) (t : List B) (ht : t ≠ []) (hl : t.length < 80000) {R} (h : R (.tup [.sl none 1 (ai (ay (bw v t r))), vi 0]) [bN 1 2 (bz v t r), bM (bz v t r), bL (bz v t r)]) :
  ag Tryz.prog 181 [vi v, .ptr 0 0, .agg r.enc] [bN 1 2 t, bM t, bL t] R := by
 have h1 := yN hv r hm t hl (R := R);rw [ix (lm (ne1 hv) t r)] at h1;have h2 := h1 h;rw [ix ht] at h2;exact h2
theorem pT {v : Int} (hv : v = 2 ∨ v = 3) (s : FSt) (name : B) (hn : name.length < 1000000) {nb fb : Nat} (hk : FOk s nb fb) (hfb : fb ≤ 80000000) (l : List Rc) (hl : l.length ≤ 1100) (hm : ∀ r ∈ l, aR v r = true) (r : Rc) (hr : aR v r = true) {R}
  (h1 : (s.append name (cd v l r)).2 ≠ 0 → R (.tup [zF, vi (s.append name (cd v l r)).2]) [fsC (s.append name (cd v l r)).1 1, fsM (s.append name (cd v l r)).1])
  (h2 : (s.append name (cd v l r)).2 = 0 → R (.tup [.agg (ct v (l ++ [r])), vi 0]) [fsC (s.append name (cd v l r)).1 1, fsM (s.append name (cd v l r)).1]) :
  ag Tryz.prog 139 [.ptr 0 0, vs name, .agg (ct v l), .agg r.enc] [fsC s 1, fsM s] R := by
 have hv13 : 1 ≤ v ∧ v ≤ 3 := by omega
 refine ag.res ?_;refine ab (an := K9) tab_ok Tryz.func139 ?_;have hM : ∀ x ∈ l, kW v x := fun x hx => aQ (hm x hx);have hMr := aQ hr;have hfl := nv hm hl;have htl := lH (v := v) (l := l) (t := []) hM;simp at htl;have hpf := dK (v := v) (t := lI v [] l) hMr (by omega);have hsl := be l;have hel := gD v l;have hil := cb (cN v l);have hml : (cd v l r).length ≤ 3000 := hpf;conv=>whnf
 refine am (decide_eq_false (by omega)) ?_;conv=>whnf
 refine am (decide_eq_false (by omega)) ?_;conv=>whnf
 refine LF hv l (by omega) hm _ rfl _ ?_;obtain ⟨T, hT⟩ : ∃ T, T = lI v [] l := ⟨_, rfl⟩;have hmo : cd v l r = ay (bw v T r) := by rw [hT]; rfl
 rw [← hT] at htl ⊢;rw [hmo] at h1 h2 hml;have hend : IntKind.i64.wrap (((aC v l).length : Int) + ((ai (ay (bw v T r))).length : Int)) = ((aC v (l ++ [r])).length : Int) := by
  rw [ir, hmo, List.length_append, aM, aK (by omega) (by omega)];omega
 by_cases hl0 : T = []
 ·rw [show qw T = [dq] from by rw [hl0]; rfl];conv=>whnf
  refine EI hv r hr T hl0 ?_;conv=>whnf
  refine ls s name (ay (bw v T r)) hk.fail hk.fall (by omega) (by have := (hk.m.get name).2; omega) ?_;conv=>whnf
  refine ae (fun g => ?_) (fun g => ?_)
  ·conv=>whnf
   exact bB (h1 (by simpa using g))
  have h2 := h2 (by simpa using g);generalize ay (bw v T r) = F at hml hend h2 ⊢;conv=>whnf
  rw [hend];refine mM l (by omega) (fun e => ?_) ?_
  ·conv=>whnf
   refine fS r (by have := hMr.deps; omega) ?_;conv=>whnf
   refine ⟨by rw [bH]; simp only [List.length_cons, List.length_nil]; decide, ?_⟩;conv=>whnf
   obtain ⟨X, hXX⟩ : ∃ X, X = [r.enc] := ⟨_, rfl⟩;have hX : bf (l ++ [r]) = X := by rw [ju, e, hXX]; rfl
   refine gS (cN v l) (by omega) (fun e2 => ?_) ?_
   ·conv=>whnf
    refine ⟨by rw [aZ]; simp only [List.length_cons, List.length_nil]; decide, ?_⟩;conv=>whnf
    have er : ct v (l ++ [r]) = [vi v, .sl none 7 X, .sl none 1 [[vi ((aC v (l ++ [r])).length : Int)]], vi ((aC v (l ++ [r])).length : Int)] := by
     unfold ct;rw [dy, e2, ← hX];rfl
    rw [er, hXX] at h2;exact bB h2
   ·conv=>whnf
    refine ⟨hil.symm, by rw [hil, hel, aZ]; simp only [List.length_cons, List.length_nil]; omega, ?_⟩;conv=>whnf
    have er : ct v (l ++ [r]) = [vi v, .sl none 7 X, .sl none 1 (c6 (cN v l) ++ [[vi ((aC v (l ++ [r])).length : Int)]]), vi ((aC v (l ++ [r])).length : Int)] := by
     unfold ct;rw [← hX, dy, gR]
    rw [er, hXX] at h2;exact bB h2
  ·conv=>whnf
   refine fS r (by have := hMr.deps; omega) ?_;conv=>whnf
   refine ⟨rfl, by rw [bH, hsl]; simp only [List.length_cons, List.length_nil]; omega, ?_⟩;conv=>whnf
   obtain ⟨X, hXX⟩ : ∃ X, X = bf l ++ [r.enc] := ⟨_, rfl⟩;have hX : bf (l ++ [r]) = X := by rw [ju, hXX]
   refine gS (cN v l) (by omega) (fun e2 => ?_) ?_
   ·conv=>whnf
    refine ⟨by rw [aZ]; simp only [List.length_cons, List.length_nil]; decide, ?_⟩;conv=>whnf
    have er : ct v (l ++ [r]) = [vi v, .sl none 7 X, .sl none 1 [[vi ((aC v (l ++ [r])).length : Int)]], vi ((aC v (l ++ [r])).length : Int)] := by
     unfold ct;rw [dy, e2, ← hX];rfl
    rw [er, hXX] at h2;exact bB h2
   ·conv=>whnf
    refine ⟨hil.symm, by rw [hil, hel, aZ]; simp only [List.length_cons, List.length_nil]; omega, ?_⟩;conv=>whnf
    have er : ct v (l ++ [r]) = [vi v, .sl none 7 X, .sl none 1 (c6 (cN v l) ++ [[vi ((aC v (l ++ [r])).length : Int)]]), vi ((aC v (l ++ [r])).length : Int)] := by
     unfold ct;rw [← hX, dy, gR]
    rw [er, hXX] at h2;exact bB h2
 ·rw [ix hl0];conv=>whnf
  refine EH hv r hr T hl0 (by omega) ?_;conv=>whnf
  refine ls s name (ay (bw v T r)) hk.fail hk.fall (by omega) (by have := (hk.m.get name).2; omega) ?_;conv=>whnf
  refine ae (fun g => ?_) (fun g => ?_)
  ·conv=>whnf
   exact bB (h1 (by simpa using g))
  have h2 := h2 (by simpa using g);generalize ay (bw v T r) = F at hml hend h2 ⊢;conv=>whnf
  rw [hend];refine mM l (by omega) (fun e => ?_) ?_
  ·conv=>whnf
   refine fS r (by have := hMr.deps; omega) ?_;conv=>whnf
   refine ⟨by rw [bH]; simp only [List.length_cons, List.length_nil]; decide, ?_⟩;conv=>whnf
   obtain ⟨X, hXX⟩ : ∃ X, X = [r.enc] := ⟨_, rfl⟩;have hX : bf (l ++ [r]) = X := by rw [ju, e, hXX]; rfl
   refine gS (cN v l) (by omega) (fun e2 => ?_) ?_
   ·conv=>whnf
    refine ⟨by rw [aZ]; simp only [List.length_cons, List.length_nil]; decide, ?_⟩;conv=>whnf
    have er : ct v (l ++ [r]) = [vi v, .sl none 7 X, .sl none 1 [[vi ((aC v (l ++ [r])).length : Int)]], vi ((aC v (l ++ [r])).length : Int)] := by
     unfold ct;rw [dy, e2, ← hX];rfl
    rw [er, hXX] at h2;exact bB h2
   ·conv=>whnf
    refine ⟨hil.symm, by rw [hil, hel, aZ]; simp only [List.length_cons, List.length_nil]; omega, ?_⟩;conv=>whnf
    have er : ct v (l ++ [r]) = [vi v, .sl none 7 X, .sl none 1 (c6 (cN v l) ++ [[vi ((aC v (l ++ [r])).length : Int)]]), vi ((aC v (l ++ [r])).length : Int)] := by
     unfold ct;rw [← hX, dy, gR]
    rw [er, hXX] at h2;exact bB h2
  ·conv=>whnf
   refine fS r (by have := hMr.deps; omega) ?_;conv=>whnf
   refine ⟨rfl, by rw [bH, hsl]; simp only [List.length_cons, List.length_nil]; omega, ?_⟩;conv=>whnf
   obtain ⟨X, hXX⟩ : ∃ X, X = bf l ++ [r.enc] := ⟨_, rfl⟩;have hX : bf (l ++ [r]) = X := by rw [ju, hXX]
   refine gS (cN v l) (by omega) (fun e2 => ?_) ?_
   ·conv=>whnf
    refine ⟨by rw [aZ]; simp only [List.length_cons, List.length_nil]; decide, ?_⟩;conv=>whnf
    have er : ct v (l ++ [r]) = [vi v, .sl none 7 X, .sl none 1 [[vi ((aC v (l ++ [r])).length : Int)]], vi ((aC v (l ++ [r])).length : Int)] := by
     unfold ct;rw [dy, e2, ← hX];rfl
    rw [er, hXX] at h2;exact bB h2
   ·conv=>whnf
    refine ⟨hil.symm, by rw [hil, hel, aZ]; simp only [List.length_cons, List.length_nil]; omega, ?_⟩;conv=>whnf
    have er : ct v (l ++ [r]) = [vi v, .sl none 7 X, .sl none 1 (c6 (cN v l) ++ [[vi ((aC v (l ++ [r])).length : Int)]]), vi ((aC v (l ++ [r])).length : Int)] := by
     unfold ct;rw [← hX, dy, gR]
    rw [er, hXX] at h2;exact bB h2
theorem lh (p : B) (P : List B) : ay (p :: P) = bq p ++ ay P := rfl
theorem wM : ∀ (P : List B) (m : Nat), (∀ p ∈ P, 1 ≤ p.length ∧ p.length ≤ 2048) → m ≤ (ay P).length →
  ∃ (c : Nat) (t : B), c ≤ P.length ∧ (ay P).take m = ay (P.take c) ++ t ∧ qr t ∧ t.length < 3000 ∧ (c < P.length → m < (ay (P.take (c + 1))).length) := by
 intro P
 induction P with
 | nil =>
  intro m _ hm;exact ⟨0, [], by simp, by simp [ay], .inl rfl, by simp, fun h => by simp at h⟩
 | cons p P ih =>
  intro m hP hm;have hp := hP p List.mem_cons_self;have hfl := lU hp.2;rw [lh] at hm ⊢;by_cases hlt : m < (bq p).length
  ·refine ⟨0, (bq p).take m, by simp, ?_, ?_, by rw [List.length_take]; omega, fun _ => ?_⟩
   ·rw [List.take_append_of_le_length (by omega)];simp [ay]
   ·by_cases h0 : m = 0
    ·exact .inl (by rw [h0]; rfl)
    ·exact .inr ⟨p, m, hp.1, hp.2, by omega, hlt, rfl⟩
   ·rw [List.take_succ_cons, List.take_zero, lh, List.length_append];omega
  ·obtain ⟨m', rfl⟩ : ∃ m', m = (bq p).length + m' := ⟨m - (bq p).length, by omega⟩;rw [List.length_append] at hm;obtain ⟨c, t, h1, h2, h3, h4, h5⟩ := ih m' (fun q hq => hP q (List.mem_cons_of_mem _ hq)) (by omega);refine ⟨c + 1, t, by simpa using h1, ?_, h3, h4, fun h => ?_⟩
   ·rw [List.take_length_add_append, h2, List.take_succ_cons, lh, List.append_assoc]
   ·rw [List.take_succ_cons, lh, List.length_append];have := h5 (by simpa using h);omega
theorem CW {v : Int} (hv : v ≠ 1) : ∀ (l : List Rc) (T : List B) (c : Nat), (∀ r ∈ l, kW v r) → c ≤ (aW v T l).length →
  ∃ (j : Nat) (ms : List B), j ≤ l.length ∧ (aW v T l).take c = aW v T (l.take j) ++ ms.map bu ∧ ms.length < 100 ∧ (∀ m ∈ ms, m.length ≤ 64) ∧ ∀ i, i ≤ l.length → (aW v T (l.take i)).length ≤ c → i ≤ j := by
 intro l
 induction l with
 | nil =>
  intro T c _ hc;exact ⟨0, [], by simp, by simp [aW], by simp, by simp, fun i hi _ => by simpa using hi⟩
 | cons r l ih =>
  intro T c hM hc;have hMr := hM r List.mem_cons_self;have hd := hMr.deps;rw [aW] at hc ⊢;by_cases hlt : c < (bw v T r).length
  ·have hnl := lQ (bg r) T;have hnr := dw r;have hpp : bw v T r = (cI T (bg r)).map bu ++ [bS v (bz v T r) r] := by
    unfold bw fY;rw [if_neg hv]
   have hcl : c ≤ (cI T (bg r)).length := by
    rw [hpp] at hlt;simp at hlt;omega
   refine ⟨0, (cI T (bg r)).take c, by simp, ?_, by rw [List.length_take]; omega, ?_, fun i hi hle => ?_⟩
   ·rw [List.take_append_of_le_length (by omega), hpp, List.take_append_of_le_length (by simpa using hcl)];simp [aW, List.map_take]
   ·intro m hm;have h1 := vX (bg r) T m (List.mem_of_mem_take hm);have h2 : m ∈ bK r := ia.1 h1;exact (fM hMr m h2).2
   ·cases i with
    | zero => omega
    | succ i =>
     exfalso;rw [List.take_succ_cons, aW, List.length_append] at hle;omega
  ·obtain ⟨c', rfl⟩ : ∃ c', c = (bw v T r).length + c' := ⟨c - (bw v T r).length, by omega⟩;rw [List.length_append] at hc;obtain ⟨j, ms, h1, h2, h3, h4, h5⟩ := ih (bz v T r) c' (fun q hq => hM q (List.mem_cons_of_mem _ hq)) (by omega);refine ⟨j + 1, ms, by simpa using h1, ?_, h3, h4, fun i hi hle => ?_⟩
   ·rw [List.take_length_add_append, h2, List.take_succ_cons, aW, List.append_assoc]
   ·cases i with
    | zero => omega
    | succ i =>
     rw [List.take_succ_cons, aW, List.length_append] at hle;have := h5 i (by simpa using hi) (by omega);omega
theorem Ky {v : Int} (hv : v ≠ 1) {l : List Rc} (hm : ∀ r ∈ l, aR v r = true) (hl : l.length ≤ 1100) {m : Nat} (h8 : 8 ≤ m) (hle : m ≤ (aC v l).length) :
  ∃ (j : Nat) (ms : List B) (t : B), j ≤ l.length ∧ (aC v l).take m = aC v (l.take j) ++ ay (ms.map bu) ++ t ∧ ms.length < 100 ∧ (∀ m ∈ ms, m.length ≤ 64) ∧ qr t ∧ t.length < 3000 ∧ ∀ i, i ≤ l.length → (aC v (l.take i)).length ≤ m → i ≤ j := by
 have hM : ∀ r ∈ l, kW v r := fun r hr => aQ (hm r hr);have hlens := nS (v := v) (l := l) (t := []) hM (by simp; omega);obtain ⟨m', rfl⟩ : ∃ m', m = 8 + m' := ⟨m - 8, by omega⟩;rw [cr] at hle;obtain ⟨c, t, c1, c2, c3, c4, c5⟩ := wM (aW v [] l) m' hlens (by omega);obtain ⟨j, ms, j1, j2, j3, j4, j5⟩ := CW hv l [] c hM c1;refine ⟨j, ms, t, j1, ?_, j3, j4, c3, c4, fun i hi hil => j5 i hi ?_⟩
 ·unfold aC;rw [show 8 + m' = (dL v).length + m' from by rw [eV], List.take_length_add_append, c2, j2, dG];simp only [List.append_assoc]
 ·refine Nat.le_of_not_lt fun hlt => ?_;have e : aW v [] l = aW v [] (l.take i) ++ aW v (lI v [] (l.take i)) (l.drop i) := by rw [← eR, List.take_append_drop]
  have hlen : (aW v [] (l.take i)).length ≤ (aW v [] l).length := by rw [e, List.length_append]; omega
  have h1 := c5 (by omega);have h2 : (aW v [] l).take (c + 1) = (aW v [] (l.take i)).take (c + 1) := by
   rw [e, List.take_append_of_le_length (by omega)]
  rw [h2] at h1;have h3 := eW (aW v [] (l.take i)) (c + 1);rw [cr] at hil;omega
theorem cu.key {s : FSt} {name b : B} (h : cu s name b) : name ∈ kys s.fs := lT h
theorem cu.get {s : FSt} {name b : B} (h : cu s name b) : gF s.fs name = ⟨b, b.length⟩ := by unfold gF; rw [show lk s.fs name = _ from h]; rfl
def eo (s : FSt) : Prop := s.fail = -1 ∧ s.fall = -1 ∧ s.down = false
theorem u6 {s : FSt} (hc : eo s) {name b : B} (hw : cu s name b) {n : Nat} (hn : n ≤ b.length) : (s.truncate name (n : Int)).2 = 0 ∧ cu (s.truncate name (n : Int)).1 name (b.take n) ∧ eo (s.truncate name (n : Int)).1 := by
 obtain ⟨h1, h2, h3⟩ := hc;have hm : s.may name = 0 := by unfold FSt.may; rw [h3, show lk s.fs name = _ from hw]; rfl
 have hg := hw.get;unfold FSt.truncate;rw [if_neg (by rw [hm]; simp), if_neg (by rw [hg]; show ¬ ((n : Int) < 0 ∨ ((b.length : Nat) : Int) < (n : Int)); omega)];unfold FSt.act;rw [if_neg (by rw [h2]; decide), if_neg (by rw [h1]; decide)];refine ⟨rfl, ?_, by show cnt s.fail = -1; rw [h1]; rfl, by show cnt s.fall = -1; rw [h2]; rfl, h3⟩;unfold cu;show lk (oJ name (n : Int).toNat s.fs) name = _;unfold oJ;rw [jN, if_pos rfl, hg, Int.toNat_natCast];simp only [List.length_take, Option.some.injEq, Fl.mk.injEq, true_and];omega
structure Te (x : List Rc) (s : FSt) (j w sy : Nat) : Prop where
 hok : FOk s 100 2000000
 hsy : sy ≤ j
 hj : j ≤ w
 hw : w ≤ x.length
 hmay : ∀ r ∈ x.take j, aR 3 r = true
 hlog : ∃ k, lk s.fs aS = some ⟨aC 3 (x.take j), k⟩ ∧ (aC 3 (x.take sy)).length ≤ k
theorem Te.crash {x : List Rc} {s : FSt} {j w sy : Nat} (h : Te x s j w sy) (hx : x.length ≤ 30) (keep : List Int) :
  ∃ (m : Nat) (ms : List B) (t : B), sy ≤ m ∧ m ≤ w ∧ (∀ r ∈ x.take m, aR 3 r = true) ∧ ms.length < 100 ∧ (∀ m ∈ ms, m.length ≤ 64) ∧ qr t ∧ t.length < 3000 ∧ cu (s.crash keep) aS (aC 3 (x.take m) ++ ay (ms.map bu) ++ t) ∧ FOk (s.crash keep) 100 2000000 := by
 obtain ⟨k, hk, hsy⟩ := h.hlog;obtain ⟨c1, c2, c3⟩ := oe h.hok keep;obtain ⟨m, m1, m2, m3⟩ := c3 aS (lT hk);have hg : gF s.fs aS = ⟨aC 3 (x.take j), k⟩ := by unfold gF; rw [hk]; rfl
 rw [hg] at m1 m2 m3;have hjl : (x.take j).length = j := by rw [List.length_take]; have := h.hj; have := h.hw; omega
 have h8 : 8 ≤ m := by
  have := cr 3 (x.take sy);have m1 : k ≤ m := m1;omega
 obtain ⟨m', ms, t, e1, e2, e3, e4, e5, e6, e7⟩ := Ky (v := 3) (by decide) h.hmay (by rw [hjl]; have := h.hj; have := h.hw; omega) h8 m2;have htt : ∀ i, i ≤ j → (x.take j).take i = x.take i := fun i hi => by rw [List.take_take, Nat.min_eq_left hi]
 rw [hjl] at e1 e7;rw [htt m' e1] at e2;refine ⟨m', ms, t, ?_, Nat.le_trans e1 h.hj, ?_, e3, e4, e5, e6, ?_, c1⟩
 ·refine e7 sy h.hsy ?_;rw [htt sy h.hsy];have m1 : k ≤ m := m1;omega
 ·intro r hr;rw [← htt m' e1] at hr;exact h.hmay r (List.mem_of_mem_take hr)
 ·have hin : aS ∈ kys (s.crash keep).fs := by rw [c2]; exact lT hk
  unfold cu;rw [← e2]
  cases e : lk (s.crash keep).fs aS with
  | none => exact absurd hin (fQ.1 e)
  | some f =>
   have : gF (s.crash keep).fs aS = f := by unfold gF; rw [e]; rfl
   rw [this] at m3;rw [m3];have m2 : m ≤ (aC 3 (x.take j)).length := m2;simp only [List.length_take, Option.some.injEq, Fl.mk.injEq, true_and];omega
def stO (over : Bool) (n : Nat) (v : Int) (l : List Rc) : aF := .cells 92 [.val (.bool over), .ptr n 0, vi v, .sl none 7 (bf l), .sl none 1 (c6 (cN v l)), vi (((aC v l).length : Nat) : Int)]
theorem ku (e : Int) (v : Int) (l : List Rc) (s : FSt) {R} (h : R (vi e) [stO (e == 7) 1 v l, fsC s 2, fsM s]) :
  ag Tryz.prog 63 [.ptr 0 0, vi e] [stO false 1 v l, fsC s 2, fsM s] R := by
 refine ab (an := UJ) tab_ok Tryz.func63 ?_;conv=>whnf
 exact h
theorem ow (o : Bool) (v : Int) (l : List Rc) (s : FSt) {R} (h : R (.val (.bool o)) [stO o 1 v l, fsC s 2, fsM s]) :
  ag Tryz.prog 31 [.ptr 0 0] [stO o 1 v l, fsC s 2, fsM s] R := by
 refine ab (an := U8) tab_ok Tryz.func31 ?_;conv=>whnf
 exact h
theorem ux (o : Bool) (v : Int) (l : List Rc) (s : FSt) {R} (h : R (vi v) [stO o 1 v l, fsC s 2, fsM s]) :
  ag Tryz.prog 42 [.ptr 0 0] [stO o 1 v l, fsC s 2, fsM s] R := by
 refine ab (an := U1) tab_ok Tryz.func42 ?_;conv=>whnf
 exact h
theorem kG (o : Bool) (v : Int) (l : List Rc) (hl : l.length < 100000) (hd : ∀ r ∈ l, r.deps.length < 1000000) (s : FSt) {R} (h : R (.sl none 7 (bf (ar l))) [stO o 1 v l, fsC s 2, fsM s]) :
  ag Tryz.prog 44 [.ptr 0 0] [stO o 1 v l, fsC s 2, fsM s] R := by
 refine ab (an := U0) tab_ok Tryz.func44 ?_;conv=>whnf
 refine FK l (by omega) hd ?_;conv=>whnf
 exact h
theorem lr (v : Int) (l : List Rc) (s : FSt) (h1 : okN s.fail) (h2 : okN s.fall) {R} (h : R (vi (s.sync aS).2) [stO ((s.sync aS).2 == 7) 1 v l, fsC (s.sync aS).1 2, fsM (s.sync aS).1]) :
  ag Tryz.prog 27 [.ptr 0 0] [stO false 1 v l, fsC s 2, fsM s] R := by
 refine ab (an := Q9) tab_ok Tryz.func27 ?_;conv=>whnf
 refine xd s aS h1 h2 ?_;generalize s.sync aS = se at h ⊢;obtain ⟨s2, e⟩ := se;conv=>whnf
 refine ku e v l s2 ?_;conv=>whnf
 exact h
theorem bY (o : Bool) (v : Int) (l : List Rc) (hl : l.length < 100000) (hd : ∀ r ∈ l, r.deps.length < 1000000) (s : FSt) {R} (h : R (.sl none 7 (bf l)) [stO o 1 v l, fsC s 2, fsM s]) :
  ag Tryz.prog 15 [.ptr 0 0] [stO o 1 v l, fsC s 2, fsM s] R := by
 refine ab (an := Vj) tab_ok Tryz.func15 ?_;have hsl := be l;conv=>whnf
 refine au.ind1 (fun (i : Nat) => [(3, .sl (some (ak 3)) 7 (bf (l.take i))), (12, vi i)]) (fun i => [(0, stO o 1 v l), (1, fsC s 2), (2, fsM s), (ak 3, .row 67 7 i)]) (fun i => l.length - i) (fun i => i ≤ l.length) 0 rfl (by omega) ?_;intro i hi0 IH;conv=>whnf
 refine ae (fun hc => ?_) (fun hc => ?_)
 ·have hi := ap hsl hc;have IH := IH (i + 1) hi (by omega);rw [yv hi] at IH;have hst : (bf (l.take i)).length = i := by rw [be, List.length_take]; omega
  (conv=>whnf); (repeat ((with_reducible refine ac ?_ ?_); exact decide_eq_true (by omega); (conv=>whnf)))
  refine idxNat (by simpa using hi) ?_;conv=>whnf
  refine fS l[i] (hd _ (List.getElem_mem hi)) ?_;conv=>whnf
  refine ⟨hst.symm, by rw [hst, bH]; simp only [List.length_cons, List.length_nil]; omega, ?_⟩;conv=>whnf
  rw [al (by omega), hst];exact IH
 ·have hi := aw hsl hc;rw [List.take_of_length_le hi];conv=>whnf
  exact h
def bT (v : Int) (s : FSt) (l : List Rc) (r : Rc) : FSt × Int := s.append aS (cd v l r)
theorem nK (v : Int) (hv : is3 v) {R} (h : R (.tup [.ptr 2 0, vi 0]) [fsC (fsL (aC v [])) 1, fsM (fsL (aC v [])), stO false 0 v []]) :
  ag Tryz.prog 9 [.ptr 0 0, vi v] [fsC fs0 1, fsM fs0] R := by
 refine ab (an := { an9 with cst := [] }) tab_ok Tryz.func9 ?_;have hm0 : ∀ r ∈ ([] : List Rc), aR v r = true := by simp
 have hs := fg (v := v) (l := []) hm0 (by simp);have hst := He aS cB (aC v []) mw;have hg1 : ¬ v < 1 := by unfold is3 at hv; omega
 have hg2 : ¬ 3 < v := by unfold is3 at hv; omega
 conv=>whnf
 refine am (decide_eq_false hg1) ?_;conv=>whnf
 refine am (decide_eq_false hg2) ?_;conv=>whnf
 refine oB fs0 ?_;conv=>whnf
 refine i5 fs0 (by simp [fs0]) (by simp [fs0, kys]) (by simp [fs0, kys]) ?_;rw [show fs0.names = [] from by simp [FSt.names, fq, fs0, kys]];conv=>whnf
 refine fG [] cB (by simp) ?_;conv=>whnf
 refine fG [] aS (by simp) ?_;conv=>whnf
 refine ag.args ?_ (Dm fs0 aS cB (aC v []) mw v [] Mn (by omega) (by omega) (by decide) hs (fun hR => wR hv [] (by simp) (by simp) (fun _ => hR) (fun hno => absurd hm0 hno)) ?_)
 ·exact leL.cons (.refl _) (leL.cons (.refl _) (leL.cons (.refl _) (leL.cons (.refl _) (leL.cons (cy 7) leL.nil))))
 rw [hst];have hw := If (aC v []);have hh : R (.tup [.ptr 2 0, vi 0]) [fsC ⟨[(aS, ⟨aC v [], (aC v []).length⟩)], -1, -1, false⟩ 1, fsM ⟨[(aS, ⟨aC v [], (aC v []).length⟩)], -1, -1, false⟩, stO false 0 v []] := h;have hw : cu ⟨[(aS, ⟨aC v [], (aC v []).length⟩)], -1, -1, false⟩ aS (aC v []) := hw;generalize (FSt.mk [(aS, ⟨aC v [], (aC v []).length⟩)] (-1) (-1) false) = s at hh hw ⊢;conv=>whnf
 refine MQ s aS v [] hw.key (by rw [hw.get]) hs (fun hR => KH hv [] hm0 (by simp) hR) ?_;conv=>whnf
 exact hh
structure Opr where
 kind : Int
 r : Rc
 name : B
 l : List Rc
 version : Int
 n : Int
def Opr.enc (o : Opr) : List AV := [vi o.kind, vi o.r.kind, vs o.r.target, uv o.r.rule, .sl none 3 (dV o.r.deps), uv o.r.out, uv o.r.wen, vs o.r.tag, vs o.name, .sl none 7 (bf o.l), vi o.version, vi o.n]
theorem lD {s : FSt} (h : eo s) (late : Bool) (g : FM → FM) : (s.act late g).2 = 0 ∧ (s.act late g).1.fs = g s.fs ∧ eo (s.act late g).1 := by
 obtain ⟨h0, h1, h2⟩ := h;unfold FSt.act;rw [if_neg (by rw [h1]; decide), if_neg (by rw [h0]; decide)];exact ⟨rfl, rfl, by show cnt s.fail = -1; rw [h0]; rfl, by show cnt s.fall = -1; rw [h1]; rfl, h2⟩
theorem EB {s : FSt} (hd : s.down = false) {name : B} (h : name ∈ kys s.fs) : s.may name = 0 := by
 unfold FSt.may;rw [hd]
 cases e : lk s.fs name with
 | none => exact absurd h (fQ.1 e)
 | some f => rfl
theorem kO {s : FSt} (h : eo s) (name b : B) : (s.append name b).2 = 0 ∧ (s.append name b).1.fs = ec name b s.fs ∧ eo (s.append name b).1 := by
 unfold FSt.append;rw [if_neg (by rw [h.2.2]; decide)];exact lD h true _
theorem m8 {s : FSt} (h : eo s) {name : B} (hn : name ∈ kys s.fs) : (s.sync name).2 = 0 ∧ (s.sync name).1.fs = cR name s.fs ∧ eo (s.sync name).1 := by
 unfold FSt.sync;rw [if_neg (by rw [EB h.2.2 hn]; decide)];exact lD h false _
theorem oX {s : FSt} (h : eo s) {a : B} (hn : a ∈ kys s.fs) : (s.remove a).2 = 0 ∧ eo (s.remove a).1 := by
 unfold FSt.remove;rw [if_neg (by rw [EB h.2.2 hn]; decide)];exact ⟨(lD h false _).1, (lD h false _).2.2⟩
theorem LG (l : List Rc) (hl : l.length ≤ 1100) (hm : ∀ r ∈ l, aR 1 r = true) (x : AV) (hx : x = .sl none 1 (c6 (cN 1 l))) (n : Int) {R} (h : R (.tup [.ptr 0 0, vi 0]) [dq]) :
  ag Tryz.prog 180 [.agg [vi 1, .sl none 7 (bf l), x, vi n]] [] R := by
 subst hx;refine ab (an := NH) tab_ok Tryz.func180 ?_;have hsl := be l;conv=>whnf
 refine oy ?_;conv=>whnf
 refine au.ind1 (fun (i : Nat) => [(13, vi i)]) (fun i => [(ax 9 0, dq)]) (fun i => l.length - i) (fun i => i ≤ l.length) 0 rfl (by omega) ?_;intro i h0 IH;conv=>whnf
 refine ae (fun hc => ?_) (fun hc => ?_)
 ·have hi := ap hsl hc;have IH := IH (i + 1) hi (by omega)
  (conv=>whnf); (repeat ((with_reducible refine ac ?_ ?_); exact decide_eq_true (by omega); (conv=>whnf)))
  refine idxNat (by simpa using hi) ?_;conv=>whnf
  refine zI l[i] (hm _ (List.getElem_mem hi)) ?_;conv=>whnf
  rw [al (by omega)];exact IH
 ·conv=>whnf
  exact h
theorem B0 (t : List B) (r : Rc) : bw 1 t r = [bS 1 t r] := by simp [bw, fY, bz]
theorem HX (r : Rc) (hm : aR 1 r = true) (t : List B) (ht0 : t = []) {R} (h : R (.tup [.sl none 1 (ai (ay (bw 1 t r))), vi 0]) [dq]) :
  ag Tryz.prog 181 [vi 1, .ptr 0 0, .agg r.enc] [dq] R := by
 subst ht0;refine ab (an := NG) tab_ok Tryz.func181 ?_;have hpl := iD (t := []) (aQ hm) (by simp);rw [B0] at hpl h;have hpl := hpl _ (List.mem_singleton.2 rfl);have hfr : ay [bS 1 [] r] = [] ++ bq (bS 1 [] r) := by simp [ay]
 rw [hfr] at h;conv=>whnf
 refine zI r hm ?_;rw [B0];generalize bS 1 [] r = p at hpl h ⊢;have hrl := aP [p];conv=>whnf
 refine au.step ?_;conv=>whnf
 refine ag.args (leL.cons (cy 1) (leL.refl _)) (d8 [] p (by simp) hpl.1 hpl.2 ?_);conv=>whnf
 refine au.step ?_;conv=>whnf
 exact h
theorem Ia (s : FSt) (name : B) (hn : name.length < 1000000) {nb fb : Nat} (hk : FOk s nb fb) (hfb : fb ≤ 80000000) (l : List Rc) (hl : l.length ≤ 1100) (hm : ∀ r ∈ l, aR 1 r = true) (r : Rc) (hr : aR 1 r = true) {R}
  (h1 : (s.append name (cd 1 l r)).2 ≠ 0 → R (.tup [zF, vi (s.append name (cd 1 l r)).2]) [fsC (s.append name (cd 1 l r)).1 1, fsM (s.append name (cd 1 l r)).1])
  (h2 : (s.append name (cd 1 l r)).2 = 0 → R (.tup [.agg (ct 1 (l ++ [r])), vi 0]) [fsC (s.append name (cd 1 l r)).1 1, fsM (s.append name (cd 1 l r)).1]) :
  ag Tryz.prog 139 [.ptr 0 0, vs name, .agg (ct 1 l), .agg r.enc] [fsC s 1, fsM s] R := by
 refine ag.res ?_;refine ab (an := K9) tab_ok Tryz.func139 ?_;have hM : ∀ x ∈ l, kW 1 x := fun x hx => aQ (hm x hx);have hMr := aQ hr;have hfl := nv hm hl;have htl := lH (v := 1) (l := l) (t := []) hM;simp at htl;have hpf := dK (v := 1) (t := lI 1 [] l) hMr (by omega);have hsl := be l;have hel := gD 1 l;have hil := cb (cN 1 l);have hml : (cd 1 l r).length ≤ 3000 := hpf;conv=>whnf
 refine LG l (by omega) hm _ rfl _ ?_;obtain ⟨T, hT⟩ : ∃ T, T = lI 1 [] l := ⟨_, rfl⟩;have hmo : cd 1 l r = ay (bw 1 T r) := by rw [hT]; rfl
 rw [← hT] at htl;rw [hmo] at h1 h2 hml;have hl0 : T = [] := by rw [hT]; exact vb _ _
 have hend : IntKind.i64.wrap (((aC 1 l).length : Int) + ((ai (ay (bw 1 T r))).length : Int)) = ((aC 1 (l ++ [r])).length : Int) := by
  rw [ir, hmo, List.length_append, aM, aK (by omega) (by omega)];omega
 conv=>whnf
 refine HX r hr T hl0 ?_;conv=>whnf
 refine ls s name (ay (bw 1 T r)) hk.fail hk.fall (by omega) (by have := (hk.m.get name).2; omega) ?_;conv=>whnf
 refine ae (fun g => ?_) (fun g => ?_)
 ·conv=>whnf
  exact bB (h1 (by simpa using g))
 have h2 := h2 (by simpa using g);generalize ay (bw 1 T r) = F at hml hend h2 ⊢;conv=>whnf
 rw [hend];refine mM l (by omega) (fun e => ?_) ?_
 ·conv=>whnf
  refine fS r (by have := hMr.deps; omega) ?_;conv=>whnf
  refine ⟨by rw [bH]; simp only [List.length_cons, List.length_nil]; decide, ?_⟩;conv=>whnf
  obtain ⟨X, hXX⟩ : ∃ X, X = [r.enc] := ⟨_, rfl⟩;have hX : bf (l ++ [r]) = X := by rw [ju, e, hXX]; rfl
  refine gS (cN 1 l) (by omega) (fun e2 => ?_) ?_
  ·conv=>whnf
   refine ⟨by rw [aZ]; simp only [List.length_cons, List.length_nil]; decide, ?_⟩;conv=>whnf
   have er : ct 1 (l ++ [r]) = [vi 1, .sl none 7 X, .sl none 1 [[vi ((aC 1 (l ++ [r])).length : Int)]], vi ((aC 1 (l ++ [r])).length : Int)] := by
    unfold ct;rw [dy, e2, ← hX];rfl
   rw [er, hXX] at h2;exact bB h2
  ·conv=>whnf
   refine ⟨hil.symm, by rw [hil, hel, aZ]; simp only [List.length_cons, List.length_nil]; omega, ?_⟩;conv=>whnf
   have er : ct 1 (l ++ [r]) = [vi 1, .sl none 7 X, .sl none 1 (c6 (cN 1 l) ++ [[vi ((aC 1 (l ++ [r])).length : Int)]]), vi ((aC 1 (l ++ [r])).length : Int)] := by
    unfold ct;rw [← hX, dy, gR]
   rw [er, hXX] at h2;exact bB h2
 ·conv=>whnf
  refine fS r (by have := hMr.deps; omega) ?_;conv=>whnf
  refine ⟨rfl, by rw [bH, hsl]; simp only [List.length_cons, List.length_nil]; omega, ?_⟩;conv=>whnf
  obtain ⟨X, hXX⟩ : ∃ X, X = bf l ++ [r.enc] := ⟨_, rfl⟩;have hX : bf (l ++ [r]) = X := by rw [ju, hXX]
  refine gS (cN 1 l) (by omega) (fun e2 => ?_) ?_
  ·conv=>whnf
   refine ⟨by rw [aZ]; simp only [List.length_cons, List.length_nil]; decide, ?_⟩;conv=>whnf
   have er : ct 1 (l ++ [r]) = [vi 1, .sl none 7 X, .sl none 1 [[vi ((aC 1 (l ++ [r])).length : Int)]], vi ((aC 1 (l ++ [r])).length : Int)] := by
    unfold ct;rw [dy, e2, ← hX];rfl
   rw [er, hXX] at h2;exact bB h2
  ·conv=>whnf
   refine ⟨hil.symm, by rw [hil, hel, aZ]; simp only [List.length_cons, List.length_nil]; omega, ?_⟩;conv=>whnf
   have er : ct 1 (l ++ [r]) = [vi 1, .sl none 7 X, .sl none 1 (c6 (cN 1 l) ++ [[vi ((aC 1 (l ++ [r])).length : Int)]]), vi ((aC 1 (l ++ [r])).length : Int)] := by
    unfold ct;rw [← hX, dy, gR]
   rw [er, hXX] at h2;exact bB h2
theorem Cj {v : Int} (hv : is3 v) (s : FSt) (name : B) (hn : name.length < 1000000) {nb fb : Nat} (hk : FOk s nb fb) (hfb : fb ≤ 80000000) (l : List Rc) (hl : l.length ≤ 1100) (hm : ∀ r ∈ l, aR v r = true) (r : Rc) (hr : aR v r = true) {R}
  (h1 : (s.append name (cd v l r)).2 ≠ 0 → R (.tup [zF, vi (s.append name (cd v l r)).2]) [fsC (s.append name (cd v l r)).1 1, fsM (s.append name (cd v l r)).1])
  (h2 : (s.append name (cd v l r)).2 = 0 → R (.tup [.agg (ct v (l ++ [r])), vi 0]) [fsC (s.append name (cd v l r)).1 1, fsM (s.append name (cd v l r)).1]) :
  ag Tryz.prog 139 [.ptr 0 0, vs name, .agg (ct v l), .agg r.enc] [fsC s 1, fsM s] R := by
 rcases hv with rfl | rfl | rfl
 ·exact Ia s name hn hk hfb l hl hm r hr h1 h2
 ·exact pT (.inl rfl) s name hn hk hfb l hl hm r hr h1 h2
 ·exact pT (.inr rfl) s name hn hk hfb l hl hm r hr h1 h2
theorem s7 : ∀ (l : List Rc) (T : List B), aW 1 T l = l.map (bS 1 T) := by
 intro l
 induction l with
 | nil => intro T; rfl
 | cons r l ih =>
  intro T;rw [aW, List.map_cons, nC, ih];simp [bw, fY, bz]
theorem AI {v : Int} (l : List Rc) (T : List B) (c : Nat) (hM : ∀ r ∈ l, kW v r) (hc : c ≤ (aW v T l).length) :
  ∃ (j : Nat) (ms : List B), j ≤ l.length ∧ (aW v T l).take c = aW v T (l.take j) ++ ms.map bu ∧ (v = 1 → ms = []) ∧ ms.length < 100 ∧ (∀ m ∈ ms, m.length ≤ 64) ∧ ∀ i, i ≤ l.length → (aW v T (l.take i)).length ≤ c → i ≤ j := by
 by_cases hv : v = 1
 ·subst hv;rw [s7] at hc ⊢;simp only [List.length_map] at hc;refine ⟨c, [], hc, ?_, fun _ => rfl, by simp, by simp, fun i hi hle => ?_⟩
  ·rw [s7, List.map_take]; simp
  ·rw [s7] at hle;simp at hle;omega
 ·obtain ⟨j, ms, h1, h2, h3, h4, h5⟩ := CW hv l T c hM hc;exact ⟨j, ms, h1, h2, fun e => absurd e hv, h3, h4, h5⟩
theorem MD {v : Int} {l : List Rc} (hm : ∀ r ∈ l, aR v r = true) (hl : l.length ≤ 1100) {m : Nat} (h8 : 8 ≤ m) (hle : m ≤ (aC v l).length) :
  ∃ (j : Nat) (ms : List B) (t : B), j ≤ l.length ∧ (aC v l).take m = aC v (l.take j) ++ ay (ms.map bu) ++ t ∧ (v = 1 → ms = []) ∧ ms.length < 100 ∧ (∀ m ∈ ms, m.length ≤ 64) ∧ qr t ∧ t.length < 3000 ∧ ∀ i, i ≤ l.length → (aC v (l.take i)).length ≤ m → i ≤ j := by
 have hM : ∀ r ∈ l, kW v r := fun r hr => aQ (hm r hr);have hlens := nS (v := v) (l := l) (t := []) hM (by simp; omega);obtain ⟨m', rfl⟩ : ∃ m', m = 8 + m' := ⟨m - 8, by omega⟩;rw [cr] at hle;obtain ⟨c, t, c1, c2, c3, c4, c5⟩ := wM (aW v [] l) m' hlens (by omega);obtain ⟨j, ms, j1, j2, j0, j3, j4, j5⟩ := AI l [] c hM c1;refine ⟨j, ms, t, j1, ?_, j0, j3, j4, c3, c4, fun i hi hil => j5 i hi ?_⟩
 ·unfold aC;rw [show 8 + m' = (dL v).length + m' from by rw [eV], List.take_length_add_append, c2, j2, dG];simp only [List.append_assoc]
 ·refine Nat.le_of_not_lt fun hlt => ?_;have e : aW v [] l = aW v [] (l.take i) ++ aW v (lI v [] (l.take i)) (l.drop i) := by rw [← eR, List.take_append_drop]
  have hlen : (aW v [] (l.take i)).length ≤ (aW v [] l).length := by rw [e, List.length_append]; omega
  have h1 := c5 (by omega);have h2 : (aW v [] l).take (c + 1) = (aW v [] (l.take i)).take (c + 1) := by
   rw [e, List.take_append_of_le_length (by omega)]
  rw [h2] at h1;have h3 := eW (aW v [] (l.take i)) (c + 1);rw [cr] at hil;omega
structure I2 (v : Int) (l : List Rc) (b : B) : Prop where
 hm : ∀ r ∈ l, aR v r = true
 hl : l.length ≤ 1100
 cut : ∃ (ms : List B) (t : B), b = aC v l ++ ay (ms.map bu) ++ t ∧ (v = 1 → ms = []) ∧ ms.length < 100 ∧ (∀ m ∈ ms, m.length ≤ 64) ∧ qr t ∧ t.length < 3000
theorem I2.len {v : Int} {l : List Rc} {b : B} (h : I2 v l b) : b.length < 5000000 ∧ (aC v l).length < 4000000 ∧ (aC v l).length ≤ b.length := by
 obtain ⟨hm, hl, ms, t, hb, _, hml, hmf, _, htl⟩ := h;have hs := nv hm hl;have hfm := mD (l := ms.map bu) (k := 65) (fun p hp => by
  obtain ⟨m, hm1, rfl⟩ := List.mem_map.1 hp;have := hmf m hm1;simp [bu]; omega) (by omega)
 rw [List.length_map] at hfm;rw [hb, List.length_append, List.length_append];omega
theorem GS (s : FSt) (name : B) {nb fb : Nat} (hk : FOk s nb fb) (hc : eo s) {v : Int} (hv : is3 v) {l : List Rc} {b : B} (hcf : I2 v l b)
  (hw : cu s name b) {R} (h : ∀ s', FOk s' nb fb → eo s' → cu s' name (aC v l) → R (.tup [.agg (ct v l), vi 0]) [fsC s' 1, fsM s']) :
  ag Tryz.prog 38 [.ptr 0 0, vs name] [fsC s 1, fsM s] R := by
 refine ab (an := MM) tab_ok Tryz.func38 ?_;obtain ⟨hb1, hs, hb2⟩ := hcf.len;obtain ⟨hm, hl, ms, t, hb, hms, hml, hmf, ht, htl⟩ := hcf;have hin := hw.key;have hg := hw.get;have hget := fun R hR => AO hv l hm hl ms hms hml hmf t ht htl (R := R) hR;rw [← hb] at hget;have hbl := aM b;conv=>whnf
 refine jP s name (by rw [hg]; show b.length < _; omega) (fun _ => ?_) (fun hno => absurd hin hno);rw [hg];show _;conv=>whnf
 refine hget _ ?_;conv=>whnf
 refine ae (fun g => ?_) (fun g => ?_)
 ·have g := of_decide_eq_true g;obtain ⟨e1, e2, e3⟩ := u6 hc hw (n := (aC v l).length) (by omega);have htk : b.take (aC v l).length = aC v l := by rw [hb, List.append_assoc]; exact List.take_left
  rw [htk] at e2;have hk2 := oP hk (name := name) (size := ((aC v l).length : Int));conv=>whnf
  refine pE s name _ hk.fail hk.fall (by rw [hg]; show b.length < _; omega) ?_;rw [e1];have hh := h _ hk2 e3 e2;generalize (s.truncate name ((aC v l).length : Int)).1 = s2 at hh ⊢;conv=>whnf
  exact hh
 ·have g := of_decide_eq_false g;rw [hbl] at g;have hbl2 : b.length = (aC v l).length + (ay (ms.map bu)).length + t.length := by rw [hb, List.length_append, List.length_append]
  have e1 : ay (ms.map bu) = [] := List.length_eq_zero_iff.1 (by omega);have e2 : t = [] := List.length_eq_zero_iff.1 (by omega);have e3 : b = aC v l := by rw [hb, e1, e2]; simp
  rw [e3] at hw;conv=>whnf
  exact h s hk hc hw
theorem Ju {v : Int} (hv : is3 v) (s : FSt) {nb fb : Nat} (hk : FOk s nb fb) (hfb : fb ≤ 80000000) (l : List Rc) (hl : l.length ≤ 1100) (hm : ∀ r ∈ l, aR v r = true) (r : Rc) (hr : aR v r = true) {R}
  (h1 : (bT v s l r).2 ≠ 0 → R (vi (bT v s l r).2) [stO ((bT v s l r).2 == 7) 1 v l, fsC (bT v s l r).1 2, fsM (bT v s l r).1])
  (h2 : (bT v s l r).2 = 0 → R (vi 0) [stO false 1 v (l ++ [r]), fsC (bT v s l r).1 2, fsM (bT v s l r).1]) :
  ag Tryz.prog 95 [.ptr 0 0, .agg r.enc] [stO false 1 v l, fsC s 2, fsM s] R := by
 refine ab (an := { O9 with anyo := [1] }) tab_ok Tryz.func95 ?_;unfold bT at h1 h2;conv=>whnf
 repeat' first | exact trivial | apply And.intro | ((fail_if_success (refine (show ag _ _ _ _ _ from ?_))); (fail_if_success (refine aI ?_ ?_)); (conv=>whnf))
 all_goals refine Cj hv s aS (by decide) hk hfb l hl hm r hr ?_ ?_
 all_goals generalize s.append aS (cd v l r) = se at h1 h2 ⊢
 all_goals obtain ⟨s2, e⟩ := se
 all_goals intro he
 all_goals first | (have he : e ≠ 0 := he) | (have he : e = 0 := he; subst he)
 all_goals (repeat' first | exact trivial | apply And.intro | ((fail_if_success (refine (show ag _ _ _ _ _ from ?_))); (fail_if_success (refine aI ?_ ?_)); (conv=>whnf)))
 all_goals first | refine am (by simpa using he) ?_ | skip
 all_goals (repeat' first | exact trivial | apply And.intro | ((fail_if_success (refine (show ag _ _ _ _ _ from ?_))); (fail_if_success (refine aI ?_ ?_)); (conv=>whnf)))
 all_goals first | refine ku 0 v (l ++ [r]) s2 ?_ | refine ku e v l s2 ?_
 all_goals (conv=>whnf)
 all_goals first | exact h2 rfl | exact h1 he
theorem BG {v : Int} (hv : is3 v) (s : FSt) {nb fb : Nat} (hk : FOk s nb fb) (hfb : fb ≤ 80000000) (l : List Rc) (hl : l.length ≤ 1100) (hm : ∀ r ∈ l, aR v r = true) (r : Rc) (hkd : r.kind = 1) (hr : aR v r = true) {R}
  (h1 : (bT v s l r).2 ≠ 0 → R (vi (bT v s l r).2) [stO ((bT v s l r).2 == 7) 1 v l, fsC (bT v s l r).1 2, fsM (bT v s l r).1])
  (h2 : (bT v s l r).2 = 0 → R (vi 0) [stO false 1 v (l ++ [r]), fsC (bT v s l r).1 2, fsM (bT v s l r).1]) :
  ag Tryz.prog 46 [.ptr 0 0, .agg r.enc] [stO false 1 v l, fsC s 2, fsM s] R := by
 refine ab (an := ML) tab_ok Tryz.func46 ?_;have hd := (aQ hr).deps;conv=>whnf
 refine am (by simpa using hkd) ?_;conv=>whnf
 refine eG v r (by omega) fun p hp => ?_;rw [hr] at hp;subst hp;conv=>whnf
 refine Ju hv s hk hfb l hl hm r hr (fun he => ?_) (fun he => ?_)
 ·have h1 := h1 he;generalize bT v s l r = se at h1 he ⊢;obtain ⟨s2, e⟩ := se;conv=>whnf
  exact h1
 ·have h2 := h2 he;generalize bT v s l r = se at h2 he ⊢;obtain ⟨s2, e⟩ := se;conv=>whnf
  exact h2
theorem vh (s : FSt) {nb fb : Nat} (hk : FOk s nb fb) (hnb : nb ≤ 900000) (hfb : fb ≤ 80000000) (hc : eo s) {v : Int} (hv : is3 v) {l : List Rc} {b : B} (hcf : I2 v l b) (hw : cu s aS b) (u : Int) (hu : is3 u) {R}
  (h : ∀ s', FOk s' nb fb → eo s' → cu s' aS (aC v l) → R (.tup [.ptr 2 0, vi 0]) [fsC s' 1, fsM s', stO false 0 v l]) :
  ag Tryz.prog 9 [.ptr 0 0, vi u] [fsC s 1, fsM s] R := by
 refine ab (an := { an9 with cst := [] }) tab_ok Tryz.func9 ?_;have hg1 : ¬ u < 1 := by unfold is3 at hu; omega
 have hg2 : ¬ 3 < u := by unfold is3 at hu; omega
 have hlen := hk.m.len;have hnl : s.names.length ≤ nb := by
  rw [(dS s).length_eq];simpa [kys] using hlen
 have hlog : aS ∈ s.names := (dS s).mem_iff.2 hw.key;conv=>whnf
 refine am (decide_eq_false hg1) ?_;conv=>whnf
 refine am (decide_eq_false hg2) ?_;conv=>whnf
 refine oB s ?_;rw [hc.2.2];conv=>whnf
 refine i5 s (by omega) hk.m.names hk.m.nodup ?_;conv=>whnf
 refine fG s.names cB (by omega) ?_;conv=>whnf
 refine ae (fun g => ?_) (fun g => ?_)
 ·have g := (dS s).mem_iff.1 (of_decide_eq_true g);obtain ⟨e1, e2⟩ := oX hc g;have hk2 := lv hk (name := cB);have hw2 : cu (s.remove cB).1 aS b := by
   rcases rI s hk.m.nodup mw hw with ⟨_, h1, _⟩ | ⟨h0, _⟩
   ·exact h1
   ·exact absurd e1 h0
  conv=>whnf
  refine sJ s cB hk.fail hk.fall ?_;rw [e1];generalize hnm : s.names = nm at hlog hnl ⊢;generalize (s.remove cB).1 = s1 at e2 hk2 hw2 ⊢;conv=>whnf
  refine fG nm aS (by omega) ?_;rw [decide_eq_true hlog];conv=>whnf
  refine GS s1 aS hk2 e2 hv hcf hw2 fun s2 hk3 hc3 hw3 => ?_;have hh := h s2 hk3 hc3 hw3;conv=>whnf
  exact hh
 ·generalize hnm : s.names = nm at hlog hnl ⊢;conv=>whnf
  refine fG nm aS (by omega) ?_;rw [decide_eq_true hlog];conv=>whnf
  refine GS s aS hk hc hv hcf hw fun s2 hk3 hc3 hw3 => ?_;have hh := h s2 hk3 hc3 hw3;conv=>whnf
  exact hh
def rcO (out : List Sp) (o : Bool) (v : Int) (L : List Rc) (s : FSt) : List aF := [.cells 32 [.sl (some 1) 3 (sps out)], .row 45 3 out.length, .cells 27 [.ptr 3 0], stO o 4 v L, fsC s 5, fsM s]
theorem Ea {v : Int} (hv : is3 v) (s : FSt) {nb fb : Nat} (hk : FOk s nb fb) (hfb : fb ≤ 80000000) (L : List Rc) (hl : L.length ≤ 1100) (hm : ∀ r ∈ L, aR v r = true) (out : List Sp) (ho : out.length < 100000) (d : Dn) (hd : d.step.ran = true → d.trace.kind = 1 ∧ aR v d.trace = true) {R}
  (h0 : d.step.ran = false → R (vi 0) (rcO (out ++ [d.step]) false v L s))
  (h1 : d.step.ran = true → (bT v s L d.trace).2 ≠ 0 → R (vi (bT v s L d.trace).2) (rcO (out ++ [d.step]) ((bT v s L d.trace).2 == 7) v L (bT v s L d.trace).1))
  (h2 : d.step.ran = true → (bT v s L d.trace).2 = 0 → R (vi 0) (rcO (out ++ [d.step]) false v (L ++ [d.trace]) (bT v s L d.trace).1)) :
  ag Tryz.prog 45 [.agg (CG d), .ptr 0 0, .ptr 2 0] (rcO out false v L s) R := by
 refine ab (an := UZ) tab_ok Tryz.func45 ?_;have hsl := bA out;have e1 : sps out ++ [[AV.val (.string (ofB d.step.name)), .val (.bool d.step.ran), .val (.int .u64 (d.step.con.toNat : Int))]] = sps (out ++ [d.step]) := (ey out d.step).symm;have e2 : (sps out).length + [[AV.val (.string (ofB d.step.name)), .val (.bool d.step.ran), .val (.int .u64 (d.step.con.toNat : Int))]].length = (out ++ [d.step]).length := by simp [hsl]
 conv=>whnf
 refine ⟨hsl.symm, (by rw [hsl]; show (out.length + 1) * (32 + 1) ≤ _; omega), ?_⟩;conv=>whnf
 rw [e1, e2];refine ae (fun g => ?_) (fun g => ?_)
 ·have h1 := h1 g;have h2 := h2 g;obtain ⟨hkd, hr⟩ := hd g;conv=>whnf
  refine BG hv s hk hfb L hl hm d.trace hkd hr (fun he => ?_) (fun he => ?_)
  ·have h1 := h1 he;generalize bT v s L d.trace = se at h1 ⊢;obtain ⟨s2, e⟩ := se;conv=>whnf
   exact h1
  ·have h2 := h2 he;generalize bT v s L d.trace = se at h2 ⊢;obtain ⟨s2, e⟩ := se;conv=>whnf
   exact h2
 ·conv=>whnf
  exact h0 g
def cY (v : Int) : List Dn → FSt → List Rc → FSt × List Rc × Int
 | [], s, L => (s, L, 0)
 | d :: ds, s, L => if d.step.ran = true then (if (bT v s L d.trace).2 = 0 then cY v ds (bT v s L d.trace).1 (L ++ [d.trace]) else ((bT v s L d.trace).1, L, (bT v s L d.trace).2)) else cY v ds s L
theorem pN {v : Int} {s : FSt} {nb fb : Nat} (hk : FOk s nb fb) {L : List Rc} (hl : L.length ≤ 1100) (hm : ∀ r ∈ L, aR v r = true) {r : Rc} (hr : aR v r = true) : FOk (bT v s L r).1 (nb + 1) (fb + 3000) := by
 have htl := lH (v := v) (l := L) (t := []) (fun y hy => aQ (hm y hy));simp at htl;have hml : (cd v L r).length ≤ 3000 := dK (aQ hr) (by omega);exact (iH hk (name := aS) (b := cd v L r) (by decide)).mono (by omega) (by omega)
def wkO (out : List Sp) (ov : Bool) (v : Int) (L : List Rc) (s : FSt) : List aF := [.cells 32 [.sl (some 5) 3 (sps out)], .cells 27 [.ptr 2 0], stO ov 3 v L, fsC s 4, fsM s, .row 45 3 out.length]
theorem tI {v : Int} (hv : is3 v) (l : List Nd) (hl : fN l) (o : List Nat) (hb : ∀ b ∈ o, b < l.length) (hol64 : o.length ≤ 100) (S : List Rc) (hS : S.length < 1000000) (hSd : ∀ r ∈ S, r.deps.length < 1000000) (given : List Sp) (hg : given.length < 1000000) (w : U)
  (s0 : FSt) {nb fb : Nat} (hk0 : FOk s0 nb fb) (hfb : fb + 3000 * o.length ≤ 80000000) (L0 : List Rc) (hL0 : L0.length + o.length ≤ 1100) (hm0 : ∀ r ∈ L0, aR v r = true) (hmay : ∀ d ∈ aJ l S given w o, d.step.ran = true → d.trace.kind = 1 ∧ aR v d.trace = true) {R}
  (h1 : ∀ out : List Sp, (cY v (aJ l S given w o) s0 L0).2.2 ≠ 0 → R (vi (cY v (aJ l S given w o) s0 L0).2.2) (wkO out ((cY v (aJ l S given w o) s0 L0).2.2 == 7) v (cY v (aJ l S given w o) s0 L0).2.1 (cY v (aJ l S given w o) s0 L0).1))
  (h2 : (cY v (aJ l S given w o) s0 L0).2.2 = 0 → R (vi 0) (wkO (aq (aJ l S given w o)) false v (cY v (aJ l S given w o) s0 L0).2.1 (cY v (aJ l S given w o) s0 L0).1)) :
  ag Tryz.prog 43 [.sl none 4 (nds l), .sl none 1 (c6 o), .sl none 7 (bf S), .sl none 3 (sps given), uv w, .fn (.func 45) [] [.ptr 0 0, .ptr 1 0]] (wkO [] false v L0 s0) R := by
 refine ab (an := Pd) tab_ok Tryz.func43 ?_;have hol := cb o;obtain ⟨hlen, hsm⟩ := hl;generalize hres : cY v (aJ l S given w o) s0 L0 = res at h1 h2;conv=>whnf
 refine au.ind4 (fun (i : Nat) (dn : List Dn) (s : FSt) (L : List Rc) => [(13, .sl (some (ak 13)) 3 (sps (aq dn))), (20, vi i)])
  (fun i dn s L => [(0, .cells 32 [.sl (some 5) 3 (sps (aq dn))]), (1, .cells 27 [.ptr 2 0]), (2, stO false 3 v L), (3, fsC s 4), (4, fsM s), (5, .row 45 3 (aq dn).length), (ak 13, .row 45 3 (aq dn).length)])
  (fun i _ _ _ => o.length - i) (fun i dn s L => i ≤ o.length ∧ dn = aJ l S given w (o.take i) ∧ cY v ((aJ l S given w o).drop i) s L = res ∧ FOk s (nb + i) (fb + 3000 * i) ∧ L.length ≤ L0.length + i ∧ ∀ r ∈ L, aR v r = true) 0 [] s0 L0 rfl ⟨by omega, rfl, hres, hk0, by omega, hm0⟩ ?_
 rintro i dn s L ⟨h0, ho, hrn, hk, hL, hm⟩ IH;have hdl : dn.length = i := by rw [ho]; exact jU S given w hb i h0
 conv=>whnf
 refine ae (fun hc => ?_) (fun hc => ?_)
 ·have hc := ap hol hc;have hbi := hb _ (List.getElem_mem hc);have hsn := gj (l := l) S given w hc hbi;rw [← ho] at hsn;have hdi := kE (l := l) S given w hb hc;rw [jT S given w hb (Nat.le_of_lt hc), ← ho] at hdi;have hdr : (aJ l S given w o).drop i = bQ l[o[i]] S (aq dn) given w :: (aJ l S given w o).drop (i + 1) := by
   obtain ⟨q1, q2⟩ := List.getElem?_eq_some_iff.1 hdi;rw [List.drop_eq_getElem_cons q1, q2]
  have hmem := List.mem_of_getElem? hdi
  (conv=>whnf); (repeat ((with_reducible refine ac ?_ ?_); exact decide_eq_true (by omega); (conv=>whnf)))
  refine idxNat (by simpa using hc) ?_
  (conv=>whnf); (repeat ((with_reducible refine ac ?_ ?_); exact decide_eq_true (by omega); (conv=>whnf)))
  refine aa (show ((o[i] : Nat) : Int).toNat < l.length by simpa using hbi) ?_;rw [show l[((o[i] : Nat) : Int).toNat]'(by simpa using hbi) = l[o[i]] from by congr 1];have hnd : l[o[i]].deps.length < 10000 := (hsm _ (List.getElem_mem hbi)).1;generalize l[o[i]] = n at hsn hdi hdr hmem hnd ⊢;conv=>whnf
  refine pc n hnd S hS hSd (aq dn) given (by simp [aq]; omega) hg w fun d hd => ?_;rw [← hd] at hsn hdi hdr hmem;clear hd;rw [hdr] at hrn;have hdm := hmay d hmem;have hsd : aq dn ++ [d.step] = aq (dn ++ [d]) := (aY dn d).symm;have hnext := IH (i + 1) (dn ++ [d]);have hpl : (sps (aq dn)).length = (aq dn).length := bA _;have hsl : (aq dn).length = i := by simpa [aq] using hdl
  generalize hout : aq dn = out at hsd hnext hpl hsl ⊢;conv=>whnf
  refine Ea hv s hk (by omega) L (by omega) hm out (by omega) d hdm (fun g => ?_) (fun g he => ?_) (fun g he => ?_)
  ·conv=>whnf
   refine ⟨hpl.symm, (by rw [hpl]; show (out.length + 1) * (32 + 1) ≤ _; omega), ?_⟩;conv=>whnf
   rw [show sps out ++ [[AV.val (.string (ofB d.step.name)), .val (.bool d.step.ran), .val (.int .u64 (d.step.con.toNat : Int))]] = sps (out ++ [d.step]) from (ey out d.step).symm,
    show (sps out).length + [[AV.val (.string (ofB d.step.name)), .val (.bool d.step.ran), .val (.int .u64 (d.step.con.toNat : Int))]].length = (out ++ [d.step]).length from by simp [hpl], al (by omega)]
   rw [hsd];refine hnext s L ⟨by omega, hsn.symm, ?_, hk.mono (by omega) (by omega), by omega, hm⟩ (by omega);rw [← hrn, cY, if_neg (by simp [g])]
  ·rw [cY, if_pos g, if_neg he] at hrn;have h1 := h1 (out ++ [d.step]);rw [← hrn] at h1;have h1 := h1 he;generalize bT v s L d.trace = se at h1 he ⊢;obtain ⟨s2, e⟩ := se;conv=>whnf
   refine aI (by simpa using he) ?_;conv=>whnf
   exact h1
  ·rw [cY, if_pos g, if_pos he] at hrn;have hk2 := pN hk (show L.length ≤ 1100 by omega) hm (hdm g).2;generalize bT v s L d.trace = se at hrn he hk2 ⊢;obtain ⟨s2, e⟩ := se;conv=>whnf
   refine ⟨hpl.symm, (by rw [hpl]; show (out.length + 1) * (32 + 1) ≤ _; omega), ?_⟩;conv=>whnf
   rw [show sps out ++ [[AV.val (.string (ofB d.step.name)), .val (.bool d.step.ran), .val (.int .u64 (d.step.con.toNat : Int))]] = sps (out ++ [d.step]) from (ey out d.step).symm,
    show (sps out).length + [[AV.val (.string (ofB d.step.name)), .val (.bool d.step.ran), .val (.int .u64 (d.step.con.toNat : Int))]].length = (out ++ [d.step]).length from by simp [hpl], al (by omega)]
   rw [hsd];refine hnext s2 (L ++ [d.trace]) ⟨by omega, hsn.symm, hrn, hk2.mono (by omega) (by omega), by simp; omega, fun r hr => ?_⟩ (by omega);rcases List.mem_append.1 hr with hr | hr
   ·exact hm r hr
   ·rw [List.mem_singleton.1 hr]; exact (hdm g).2
 ·have hc := aw hol hc;rw [List.take_of_length_le hc] at ho;rw [List.drop_eq_nil_of_le (by rw [eK S given w hb]; exact hc)] at hrn;rw [← ho, ← hrn] at h2;have h2 := h2 rfl;conv=>whnf
  exact h2
theorem pa (l : List Nd) (hl : fN l) (v : Int) (L : List Rc) (s : FSt) {R} (h : ∀ o e, o = cp l → e = aV l → R (.tup [.sl none 1 (c6 o), vi e]) [stO false 1 v L, fsC s 2, fsM s]) : ag Tryz.prog 41 [.ptr 0 0, .sl none 4 (nds l)] [stO false 1 v L, fsC s 2, fsM s] R := by
 refine ab (an := Pe) tab_ok Tryz.func41 ?_;conv=>whnf
 refine ow false v L s ?_;conv=>whnf
 refine Dr l hl fun o e ho he => ?_;have h := h o e ho he;conv=>whnf
 exact h
theorem Ht (s : Sp) {R} (h : R (.val (.bool s.ran)) []) : ag Tryz.prog 48 [.agg s.enc] [] R := by
 refine ab (an := UX) tab_ok Tryz.func48 ?_;conv=>whnf
 exact h
theorem zU (l : List Sp) (hl : l.length < 1000000) {R} (h : ∀ p : Int, (0 ≤ p ↔ ∃ s ∈ l, s.ran = true) → R (vi p) []) :
  ag Tryz.prog 96 [.sl none 3 (sps l), .fn (.func 48) [] []] [] R := by
 refine ab (an := Uh) tab_ok Tryz.func96 ?_;have hsl := bA l;rw [eO] at hsl ⊢;conv=>whnf
 refine au.ind1 (fun (i : Nat) => [(8, vi i)]) (fun _ => []) (fun i => l.length - i) (fun i => i ≤ l.length ∧ ∀ d ∈ l.take i, d.ran = false) 0 rfl ⟨by omega, by simp⟩ ?_;rintro i ⟨h0, h1⟩ IH;conv=>whnf
 refine ae (fun hc => ?_) (fun hc => ?_)
 ·have hc := ap hsl hc
  (conv=>whnf); (repeat ((with_reducible refine ac ?_ ?_); exact decide_eq_true (by omega); (conv=>whnf)))
  refine idxNat (by simpa using hc) ?_;generalize hx : l[i] = x;conv=>whnf
  refine Ht x ?_;conv=>whnf
  refine ae (fun he => ?_) (fun he => ?_)
  ·conv=>whnf
   exact h _ ⟨fun _ => ⟨_, List.getElem_mem hc, by rw [hx]; exact he⟩, fun _ => by omega⟩
  ·conv=>whnf
   rw [al (by omega)];refine IH (i + 1) ⟨by omega, fun d hd => ?_⟩ (by omega);rw [List.take_succ_eq_append_getElem hc, List.mem_append, List.mem_singleton] at hd;rcases hd with hd | rfl
   ·exact h1 d hd
   ·rw [hx]; exact he
 ·have hc := aw hsl hc;rw [List.take_of_length_le hc] at h1;conv=>whnf
  exact h (-1) ⟨fun hh => by omega, fun ⟨d, hd, hn⟩ => by rw [h1 d hd] at hn; cases hn⟩
theorem rL (l : List Sp) (hl : l.length < 1000000) {R} (h : R (.val (.bool (l.any (·.ran)))) []) :
  ag Tryz.prog 47 [.sl none 3 (sps l), .fn (.func 48) [] []] [] R := by
 refine ab (an := UY) tab_ok Tryz.func47 ?_;conv=>whnf
 refine zU l hl fun p hp => ?_;have e : decide (0 ≤ p) = l.any (·.ran) := by
  rw [Bool.eq_iff_iff, decide_eq_true_eq, hp, List.any_eq_true]
 rw [← e] at h;conv=>whnf
 exact h
theorem F8 {v : Int} : ∀ (ds : List Dn) (s : FSt) (L : List Rc) {nb fb : Nat}, FOk s nb fb → L.length + ds.length ≤ 1100 → (∀ r ∈ L, aR v r = true) → (∀ d ∈ ds, d.step.ran = true → aR v d.trace = true) →
  FOk (cY v ds s L).1 (nb + ds.length) (fb + 3000 * ds.length) ∧ (cY v ds s L).2.1.length ≤ L.length + ds.length ∧ ∀ r ∈ (cY v ds s L).2.1, aR v r = true := by
 intro ds
 induction ds with
 | nil => intro s L nb fb hk _ hm _; exact ⟨hk, Nat.le_refl _, hm⟩
 | cons d ds ih =>
  intro s L nb fb hk hl hm hmay;simp only [List.length_cons] at hl ⊢;have hr := hmay d (by simp);have hmay2 := fun d hd => hmay d (List.mem_cons_of_mem _ hd);unfold cY;split
  ·rename_i g;have hk2 := pN hk (show L.length ≤ 1100 by omega) hm (hr g);split
   ·obtain ⟨h1, h2, h3⟩ := ih (bT v s L d.trace).1 (L ++ [d.trace]) hk2 (by simp; omega) (fun r hr2 => by
     rcases List.mem_append.1 hr2 with hr2 | hr2
     ·exact hm r hr2
     ·rw [List.mem_singleton.1 hr2]; exact hr g) hmay2
    exact ⟨h1.mono (by omega) (by omega), by simp at h2; omega, h3⟩
   ·exact ⟨hk2.mono (by omega) (by omega), by simp, hm⟩
  ·obtain ⟨h1, h2, h3⟩ := ih s L hk (by omega) hm hmay2;exact ⟨h1.mono (by omega) (by omega), by omega, h3⟩
def gi (v : Int) (ds : List Dn) (s : FSt) (L : List Rc) : FSt × List Rc × Int :=
 if (cY v ds s L).2.2 = 0 ∧ (aq ds).any (·.ran) = true then (((cY v ds s L).1.sync aS).1, (cY v ds s L).2.1, ((cY v ds s L).1.sync aS).2) else cY v ds s L
def wen (v : Int) (w : U) : U := if v = 1 then 0 else w
theorem n7 {v : Int} {L : List Rc} (hm : ∀ r ∈ L, aR v r = true) : ∀ r ∈ ar L, r.deps.length < 1000000 := fun r hr => by
 have := (aQ (hm r (jy hr).1)).deps;omega
theorem jm {v : Int} (hv : is3 v) (l : List Nd) (hl : fN l) (hl2 : l.length ≤ 100) (given : List Sp) (hg : given.length < 1000000) (w : U) (s : FSt) {nb fb : Nat} (hk : FOk s nb fb) (hfb : fb ≤ 70000000) (L : List Rc) (hL : L.length ≤ 1030) (hm : ∀ r ∈ L, aR v r = true) {R}
  (h1 : aV l ≠ 0 → R (.tup [.val (.slice none 0 0), vi (aV l)]) [stO false 1 v L, fsC s 2, fsM s])
  (h2 : aV l = 0 → ∀ f, f = gi v (bG l (ar L) given (wen v w)) s L → f.2.2 ≠ 0 → R (.tup [.val (.slice none 0 0), vi f.2.2]) [stO (f.2.2 == 7) 1 v f.2.1, fsC f.1 2, fsM f.1])
  (h3 : aV l = 0 → ∀ f, f = gi v (bG l (ar L) given (wen v w)) s L → f.2.2 = 0 → R (.tup [.sl none 3 (sps (aq (bG l (ar L) given (wen v w)))), vi 0]) [stO false 1 v f.2.1, fsC f.1 2, fsM f.1]) :
  ag Tryz.prog 12 [.ptr 0 0, .sl none 4 (nds l), .sl none 3 (sps given), uv w] [stO false 1 v L, fsC s 2, fsM s] R := by
 refine ab (an := { Pi with cst := [] }) tab_ok Tryz.func12 ?_;have hdl := fk L;have hLd : ∀ r ∈ L, r.deps.length < 1000000 := fun r hr => by have := (aQ (hm r hr)).deps; omega
 conv=>whnf
 refine pa l hl v L s fun o e ho he => ?_;conv=>whnf
 refine ae (fun g => ?_) (fun g => ?_)
 ·have g : e ≠ 0 := by simpa using g
  have h1 := h1 (by rw [← he]; exact g);rw [← he] at h1;conv=>whnf
  exact h1
 have g : e = 0 := by simpa using g
 have hck : aV l = 0 := by rw [← he]; exact g
 have h2 := h2 hck _ rfl;have h3 := h3 hck _ rfl;have hv3 : v = 1 ∨ v = 2 ∨ v = 3 := hv;have hwen : v = 1 → wen v w = 0 := fun e => by rw [wen, if_pos e]
 have hmay : ∀ d ∈ bG l (ar L) given (wen v w), d.step.ran = true → d.trace.kind = 1 ∧ aR v d.trace = true := fun d hd hr => ⟨(gt (pb hck) hd hr).1, nI hv3 hck hwen d hd hr⟩;have hdn : (bG l (ar L) given (wen v w)).length ≤ 64 := by rw [bG, eK _ _ _ (fun b hb => iE hb), jH hck]; exact (eM hck).2.2.2
 have hbo : ∀ b ∈ o, b < l.length := fun b hb => iE (by rw [← ho]; exact hb);have hol : o.length ≤ 64 := by rw [ho, jH hck]; exact (eM hck).2.2.2
 obtain ⟨hk2, hL2, hm2⟩ := F8 (bG l (ar L) given (wen v w)) s L hk (by omega) hm (fun d hd hr => (hmay d hd hr).2);unfold gi at h2 h3;rw [bG, ← ho] at h2 h3 hmay hk2 hL2 hm2;clear he h1;conv=>whnf
 refine ux false v L s ?_;conv=>whnf
 refine ae (fun q => ?_) (fun q => ?_)
 ·have q : v = 1 := by simpa using q
  have hw0 : wen v w = 0 := hwen q;rw [hw0] at h2 h3 hmay hk2 hL2 hm2;conv=>whnf
  refine kG false v L (by omega) hLd s ?_;conv=>whnf
  refine ag.nilbox 0 _ 45 3 rfl ?_;refine tI hv l hl o hbo (by omega) (ar L) (by omega) (n7 hm) given hg 0 s hk (by omega) L (by omega) hm hmay (fun out he => ?_) (fun he => ?_)
  ·rw [if_neg (fun hx => he hx.1)] at h2;have h2 := h2 he;generalize cY v (aJ l (ar L) given 0 o) s L = res at he h2 ⊢;obtain ⟨s2, L2, x⟩ := res;have he : x ≠ 0 := he;conv=>whnf
   refine am (by simpa using he) ?_;conv=>whnf
   refine aI (by simpa using he) ?_;conv=>whnf
   exact h2
  ·generalize hst : aq (aJ l (ar L) given 0 o) = out at h2 h3 ⊢;have hou : out.length < 1000000 := by rw [← hst, aq, List.length_map, eK _ _ _ hbo]; omega
   generalize cY v (aJ l (ar L) given 0 o) s L = res at he h2 h3 hk2 hL2 hm2 ⊢;obtain ⟨s2, L2, x⟩ := res;have he : x = 0 := he;subst he;conv=>whnf
   refine rL out hou ?_;generalize hra : out.any (·.ran) = ra at h2 h3
   cases ra with
   | false =>
    rw [if_neg (by simp)] at h3;have h3 := h3 rfl;conv=>whnf
    exact h3
   | true =>
    rw [if_pos ⟨rfl, rfl⟩] at h2 h3;conv=>whnf
    refine lr v L2 s2 hk2.fail hk2.fall ?_;have h2 : (s2.sync aS).2 ≠ 0 → R (.tup [.val (.slice none 0 0), vi (s2.sync aS).2]) [stO ((s2.sync aS).2 == 7) 1 v L2, fsC (s2.sync aS).1 2, fsM (s2.sync aS).1] := h2;have h3 : (s2.sync aS).2 = 0 → R (.tup [.sl none 3 (sps out), vi 0]) [stO false 1 v L2, fsC (s2.sync aS).1 2, fsM (s2.sync aS).1] := h3;generalize s2.sync aS = se at h2 h3 ⊢;obtain ⟨s3, y⟩ := se;by_cases hy : y = 0
    ·subst hy;have h3 := h3 rfl;conv=>whnf
     exact h3
    ·have h2 := h2 hy;conv=>whnf
     refine aI (by simpa using hy) ?_;conv=>whnf
     exact h2
 ·have q : v ≠ 1 := by simpa using q
  have hw0 : wen v w = w := by rw [wen, if_neg q]
  rw [hw0] at h2 h3 hmay hk2 hL2 hm2;conv=>whnf
  refine kG false v L (by omega) hLd s ?_;conv=>whnf
  refine ag.nilbox 0 _ 45 3 rfl ?_;refine tI hv l hl o hbo (by omega) (ar L) (by omega) (n7 hm) given hg w s hk (by omega) L (by omega) hm hmay (fun out he => ?_) (fun he => ?_)
  ·rw [if_neg (fun hx => he hx.1)] at h2;have h2 := h2 he;generalize cY v (aJ l (ar L) given w o) s L = res at he h2 ⊢;obtain ⟨s2, L2, x⟩ := res;have he : x ≠ 0 := he;conv=>whnf
   refine am (by simpa using he) ?_;conv=>whnf
   refine aI (by simpa using he) ?_;conv=>whnf
   exact h2
  ·generalize hst : aq (aJ l (ar L) given w o) = out at h2 h3 ⊢;have hou : out.length < 1000000 := by rw [← hst, aq, List.length_map, eK _ _ _ hbo]; omega
   generalize cY v (aJ l (ar L) given w o) s L = res at he h2 h3 hk2 hL2 hm2 ⊢;obtain ⟨s2, L2, x⟩ := res;have he : x = 0 := he;subst he;conv=>whnf
   refine rL out hou ?_;generalize hra : out.any (·.ran) = ra at h2 h3
   cases ra with
   | false =>
    rw [if_neg (by simp)] at h3;have h3 := h3 rfl;conv=>whnf
    exact h3
   | true =>
    rw [if_pos ⟨rfl, rfl⟩] at h2 h3;conv=>whnf
    refine lr v L2 s2 hk2.fail hk2.fall ?_;have h2 : (s2.sync aS).2 ≠ 0 → R (.tup [.val (.slice none 0 0), vi (s2.sync aS).2]) [stO ((s2.sync aS).2 == 7) 1 v L2, fsC (s2.sync aS).1 2, fsM (s2.sync aS).1] := h2;have h3 : (s2.sync aS).2 = 0 → R (.tup [.sl none 3 (sps out), vi 0]) [stO false 1 v L2, fsC (s2.sync aS).1 2, fsM (s2.sync aS).1] := h3;generalize s2.sync aS = se at h2 h3 ⊢;obtain ⟨s3, y⟩ := se;by_cases hy : y = 0
    ·subst hy;have h3 := h3 rfl;conv=>whnf
     exact h3
    ·have h2 := h2 hy;conv=>whnf
     refine aI (by simpa using hy) ?_;conv=>whnf
     exact h2
end Go.Abs
end
section
namespace Go.Abs
open Go Go.Proofs
theorem ag.freeze {P : Program} {f : FuncId} {args : List AV} {R : AV → List aF → Prop} {t : TypeId} {sz ver : Nat} {l : List (List AV)} {cs : List AV} (hcs : cE.go cs = true) (hnm : cL cs = [])
  (hc : ag P f args [] fun r os => r = .agg (.slv 0 sz ver 0 l.length :: cs) ∧ os = [.vec t sz l ver]) (h : R (.agg (.sl none sz l :: cs)) []) : ag P f args [] R := by
 refine ⟨fun G w vals hW hA => (hc.run G w vals hW hA).mono ?_⟩;rintro e w' ⟨v, r, os', G', h1, ⟨rfl, rfl⟩, h3, h4, h5, h6, h7, _, _⟩;have hno : ∀ n b, ¬ G.at n b := fun n b hb => by
  rcases hb with hb | ⟨u, t', hb, _⟩ <;> (obtain ⟨o, ho⟩ := hW.dom _ _ hb; cases ho)
 obtain ⟨u, xs, o1, o2, o3, o4, o5⟩ := h4.obj 0 (.vec t sz l ver) rfl;have hK0 : ∀ b o v, G'.K b o = some v → ig G'.K u xs b o = some v := fun b o v e => by
  by_cases hb : some b = u.ownBlock
  ·rw [o5 b hb.symm o] at e; cases e
  ·simp [ig, hb, e]
 simp only [Rep, aB] at h3;obtain ⟨vs, rfl, x, us, rfl, ⟨⟨A, c, rfl, _, hlc⟩, u', top, e1, e2, e3⟩, hus⟩ := h3;rw [o1] at e1;injection e1 with e1
 injection e1 with e1 e1'
 subst e1 e1';obtain ⟨A0, L, c0, A', hu, hL, hLc, hv, hA0, hgg⟩ := e3 rfl;refine ⟨_, .agg (.sl none sz l :: cs), [], ⟨ig G'.K u xs, fun _ => none⟩, h1, h, ?_, ⟨?_, ?_, ?_, ?_, h4.glob.mono hK0⟩, ⟨fun b o v e => hK0 _ _ _ (h5.K _ _ _ e), fun n b e => ?_, fun n u t e => ?_⟩, ⟨h6.os, h6.tape, h6.output, h6.size, h6.block, fun b o hb hT => ?_⟩, ?_, ?_, ?_⟩
 ·simp only [Rep];refine ⟨_, rfl, ?_⟩;simp only [aB];refine ⟨_, _, rfl, ?_, aB.nameless (G := G') hK0 _ _ hcs hus⟩;simp only [Rep];refine ⟨⟨A, c, rfl, hlc, ?_⟩, trivial⟩;by_cases hl0 : l = []
  ·subst hl0; simp [eh]
  ·obtain ⟨g, hg1, hg2⟩ := hgg (fun e => hl0 (List.eq_nil_of_length_eq_zero e));injection hv with hv1 hv2 hv3
   rw [hv1, hg2, Nat.zero_mul];refine eh.of_flat (aB.nameless (G := G') hK0 _ _ (qR o4) o3) o4 fun j v hj => ?_;have : some g = u.ownBlock := by rw [hu, hg1]; rfl
   simp only [ig, this, if_true];simpa using hj
 ·intro b o v e;have e : ig G'.K u xs b o = some v := e;by_cases hb : some b = u.ownBlock
  ·simp only [ig, hb, if_true] at e;exact rF (K := G'.K) o2 hb e
  ·simp only [ig, hb, if_false] at e;exact h4.know _ _ _ e
 ·intro n o e; cases e
 ·intro n g e; cases e
 ·intro n m b e;rcases e with e | ⟨u, t', e, _⟩ <;> cases e
 ·exact absurd (.inl e) (hno n b)
 ·obtain ⟨o, ho⟩ := hW.dom _ _ e; cases ho
 ·show ig G'.K u xs b o = _;have hne : some b ≠ u.ownBlock := fun e => by
   rcases h7 0 b (.inr ⟨u, ver, o1, e.symm⟩) with ⟨m, hm⟩ | hm
   ·exact hno m b hm
   ·omega
  simp only [ig, hne, if_false];exact h6.knew b o hb hT
 ·intro n b e;rcases e with e | ⟨u, t', e, _⟩ <;> cases e
 ·intro i o e; cases e
 ·intro m hm;exfalso;simp only [AV.names, cL, hnm] at hm
  cases hm
end Go.Abs
end
section
namespace Go.Abs
open Go Go.Proofs
attribute [local irreducible] aH aE aO firstIdx
def wF (m : FM) (n : B) : FM := m.filter fun p => decide (p.1 ≠ n)
def ke (n : B) (w : FM) : Nat → Nat
 | 0 => 0
 | k + 1 => match w[k]? with
  | some p => if ltB n p.1 = true then ke n w k else k + 1
  | none => k + 1
theorem ME (n : B) (w : FM) : ∀ k, ke n w k ≤ k := by
 intro k
 induction k with
 | zero => exact Nat.le_refl _
 | succ k ih =>
  unfold ke;split
  ·split
   ·omega
   ·omega
  ·omega
def rpt (m : FM) (n : B) (f : Fl) : FM := let w := wF m n; w.take (ke n w w.length) ++ (n, f) :: w.drop (ke n w w.length)
def vJ (n b : B) (m : FM) : FM := rpt m n ⟨(gF m n).b ++ b, (gF m n).safe⟩
def vH (n : B) (m : FM) : FM := rpt m n ⟨(gF m n).b, (gF m n).b.length⟩
def FSt.rappend (s : FSt) (n b : B) : FSt × Int := if s.down then (s, 7) else s.act true (vJ n b)
def FSt.rsync (s : FSt) (n : B) : FSt × Int := if s.may n ≠ 0 then (s, s.may n) else s.act false (vH n)
def FSt.rremove (s : FSt) (n : B) : FSt × Int := if s.may n ≠ 0 then (s, s.may n) else s.act false fun m => wF m n
structure ROk (s : FSt) : Prop where
 len : s.fs.length < 900000
 names : ∀ x ∈ kys s.fs, x.length < 1000000
 fail : okN s.fail
 fall : okN s.fall
end Go.Abs
end
section
namespace Go.Abs
open Go Go.Proofs Dig
attribute [local irreducible] aH aE aO firstIdx
theorem nJ (n k : Nat) : ((n : Nat) : Int).tmod (k : Int) = ((n % k : Nat) : Int) := by
 rw [Int.tmod_eq_emod_of_nonneg (Int.natCast_nonneg _)];exact (Int.natCast_emod n k).symm
theorem Ga (m : FM) (n : B) (f : Fl) : (rpt m n f).length ≤ m.length + 1 := by
 have h := List.length_filter_le (fun p : B × Fl => decide (p.1 ≠ n)) m;have hc := ME n (wF m n) (wF m n).length;unfold rpt;simp only [List.length_append, List.length_take, List.length_cons, List.length_drop];unfold wF at hc ⊢;omega
theorem LU {m : FM} {n : B} {f : Fl} {p : B × Fl} (h : p ∈ rpt m n f) : p = (n, f) ∨ (p ∈ m ∧ p.1 ≠ n) := by
 have hw : ∀ q, q ∈ wF m n → q ∈ m ∧ q.1 ≠ n := fun q hq => by
  have := List.mem_filter.1 hq;exact ⟨this.1, by simpa using this.2⟩
 unfold rpt at h;rcases List.mem_append.1 h with h | h
 ·exact .inr (hw p (List.mem_of_mem_take h))
 ·rcases List.mem_cons.1 h with h | h
  ·exact .inl h
  ·exact .inr (hw p (List.mem_of_mem_drop h))
theorem ROk.act {s : FSt} (h : ROk s) (late : Bool) {g : FM → FM} (h1 : (g s.fs).length < 900000) (h2 : ∀ x ∈ kys (g s.fs), x.length < 1000000) : ROk (s.act late g).1 := by
 unfold FSt.act;split
 ·cases late
  ·exact ⟨h.len, h.names, jW h.fail, jW h.fall⟩
  ·exact ⟨h1, h2, jW h.fail, jW h.fall⟩
 ·split
  ·exact ⟨h.len, h.names, jW h.fail, jW h.fall⟩
  ·exact ⟨h1, h2, jW h.fail, jW h.fall⟩
theorem yq {m : FM} (h : ∀ x ∈ kys m, x.length < 1000000) {n : B} (hn : n.length < 1000000) (f : Fl) : ∀ x ∈ kys (rpt m n f), x.length < 1000000 := fun x hx => by
 obtain ⟨p, hp, rfl⟩ := List.mem_map.1 hx;rcases LU hp with e | ⟨e, _⟩
 ·rw [e]; exact hn
 ·exact h _ (List.mem_map_of_mem e)
theorem I9 {m : FM} (h : ∀ x ∈ kys m, x.length < 1000000) (n : B) : ∀ x ∈ kys (wF m n), x.length < 1000000 := fun x hx => by
 obtain ⟨p, hp, rfl⟩ := List.mem_map.1 hx;exact h p.1 (List.mem_map_of_mem (List.mem_filter.1 hp).1)
theorem ROk.append {s : FSt} (h : ROk s) (hl : s.fs.length < 800000) {n : B} (hn : n.length < 1000000) (b : B) : ROk (s.rappend n b).1 ∧ (s.rappend n b).1.fs.length ≤ s.fs.length + 1 := by
 have hr := Ga s.fs n ⟨(gF s.fs n).b ++ b, (gF s.fs n).safe⟩;unfold FSt.rappend;split
 ·exact ⟨h, by show s.fs.length ≤ _; omega⟩
 ·refine ⟨h.act true (by show (rpt _ _ _).length < _; omega) (yq h.names hn _), ?_⟩;unfold FSt.act;split
  ·exact hr
  ·split
   ·show s.fs.length ≤ _; omega
   ·exact hr
theorem ROk.sync {s : FSt} (h : ROk s) (hl : s.fs.length < 800000) {n : B} (hn : n.length < 1000000) : ROk (s.rsync n).1 := by
 have hr := Ga s.fs n ⟨(gF s.fs n).b, (gF s.fs n).b.length⟩;unfold FSt.rsync;split
 ·exact h
 ·exact h.act false (by show (rpt _ _ _).length < _; omega) (yq h.names hn _)
theorem ROk.remove {s : FSt} (h : ROk s) (n : B) : ROk (s.rremove n).1 ∧ (s.rremove n).1.fs.length ≤ s.fs.length := by
 have hw : (wF s.fs n).length ≤ s.fs.length := List.length_filter_le _ _;unfold FSt.rremove;split
 ·exact ⟨h, Nat.le_refl _⟩
 ·have := h.len;refine ⟨h.act false (by show (wF _ _).length < _; omega) (I9 h.names n), ?_⟩;unfold FSt.act;split
  ·exact Nat.le_refl _
  ·split
   ·exact Nat.le_refl _
   ·exact hw
def fsK (b : B) (k : Nat) : FSt := ⟨[(aS, ⟨b, k⟩)], -1, -1, false⟩
theorem wq (F b : B) (k : Nat) : (fsK F k).append aS b = (fsK (F ++ b) k, 0) := by
 simp [FSt.append, FSt.act, fsK, ec, pt, gF, lk, cnt]
theorem Kb {b : B} {k : Nat} (h : k ≤ b.length) : FOk (fsK b k) 1 b.length := ⟨⟨by simp [fsK, kys], by simpa [fsK] using h, by simp [fsK], by simp [fsK], by simp [fsK, kys, aS]⟩, (by decide : -1 ≤ (-1 : Int) ∧ (-1 : Int) < 9223372036854775808), (by decide : -1 ≤ (-1 : Int) ∧ (-1 : Int) < 9223372036854775808)⟩
def fsV (v : Int) (L : List Rc) : FSt := fsK (aC v L) 8
theorem wo (v : Int) {L : List Rc} (hm : ∀ r ∈ L, aR v r = true) (hl : L.length ≤ 300) : FOk (fsV v L) 1 1000000 := (Kb (by rw [cr]; omega)).mono (Nat.le_refl _) (by have := fg hm hl; omega)
theorem r9 (v : Int) : fsL (aC v []) = fsV v [] := by
 have e : (aC v []).length = 8 := by rw [cr]; simp [aW, ay]
 show FSt.mk [(aS, ⟨aC v [], (aC v []).length⟩)] (-1) (-1) false = FSt.mk [(aS, ⟨aC v [], 8⟩)] (-1) (-1) false;rw [e]
theorem Ka (F : B) (k : Nat) : (fsK F k).sync aS = (fsK F F.length, 0) := by
 simp [FSt.sync, FSt.may, FSt.act, fsK, lk, cR, pt, gF, cnt, kys]
theorem Jz (v : Int) (k : Nat) : ∀ (ds : List Dn) (L : List Rc), cY v ds (fsK (aC v L) k) L = (fsK (aC v (L ++ aL ds)) k, L ++ aL ds, 0) := by
 intro ds
 induction ds with
 | nil => intro L; simp [cY, aL]
 | cons d ds ih =>
  intro L;have hp : bT v (fsK (aC v L) k) L d.trace = (fsK (aC v (L ++ [d.trace])) k, 0) := by unfold bT; rw [wq, ir]
  unfold cY;by_cases g : d.step.ran = true
  ·rw [if_pos g, hp, if_pos rfl, ih];simp [aL, g]
  ·rw [if_neg g, ih];simp [aL, g]
theorem pq (v : Int) (k : Nat) (ds : List Dn) (L : List Rc) : ∃ k', (k = k' ∨ k' = (aC v (L ++ aL ds)).length) ∧ gi v ds (fsK (aC v L) k) L = (fsK (aC v (L ++ aL ds)) k', L ++ aL ds, 0) := by
 unfold gi;rw [Jz];split
 ·exact ⟨_, .inr rfl, by simp only [Ka]⟩
 ·exact ⟨k, .inl rfl, rfl⟩
theorem GD {v : Int} {L : List Rc} (hm : ∀ r ∈ L, aR v r = true) (hl : L.length ≤ 1100) {k : Nat} (hk : k ≤ (aC v L).length) : FOk (fsK (aC v L) k) 1 4000000 :=
 (Kb hk).mono (Nat.le_refl _) (by have := nv hm hl; omega)
theorem ja (n : U) {R} (h : ∀ d, d = gY n → R (uv d) []) : ag Tryz.prog 32 [uv n] [] R := by
 refine ab (an := U7) tab_ok Tryz.func32 ?_;conv=>whnf
 rw [show (11400714819323198485 : Int) = (Hw.toNat : Int) from rfl, show (3573116690164977347 : Int) = ((back other).toNat : Int) from by decide +kernel, show (10871156337175269513 : Int) = ((back first).toNat : Int) from by decide +kernel];have e31 := fun x => rA x 31 (by omega) (c := 2147483648) rfl;have e62 := fun x => rA x 62 (by omega) (c := 4611686018427387904) rfl;have e27 := fun x => rA x 27 (by omega) (c := 134217728) rfl;have e54 := fun x => rA x 54 (by omega) (c := 18014398509481984) rfl;have e30 := fun x => rA x 30 (by omega) (c := 1073741824) rfl;have e60 := fun x => rA x 60 (by omega) (c := 1152921504606846976) rfl;have hup : ∀ k (x : U), (x ^^^ (x >>> k)) ^^^ (x >>> (k + k)) = up k x := fun k x => by
  unfold up;rw [BitVec.ushiftRight_xor_distrib, ← BitVec.shiftRight_add, BitVec.xor_assoc]
 rw [e31, mj, e62, mj, hup 31, u3, e27, mj, e54, mj, hup 27, u3, e30, mj, e60, mj, hup 30, Jd];exact h _ rfl
def kg : List Nd := [⟨[97], true, 0, []⟩, ⟨[98], false, 1, [[97]]⟩]
theorem uj : cp kg = [0, 1] := by decide +kernel
theorem kK : aV kg = 0 := by decide +kernel
theorem ui : fN kg := by
 refine ⟨by decide, ?_⟩;simp [kg]
theorem uh (w : U) : aq (bG kg (ar []) [] w) = [⟨[97], false, 0⟩, ⟨[98], true, iO 1 [0]⟩] := by
 rw [bG, uj];rfl
theorem Kg {a : List Sp} {c : U} (h : a.map nc = [([97], 0), ([98], c)]) (hr : ∀ s ∈ a, s.ran = false) : a = [⟨[97], false, 0⟩, ⟨[98], false, c⟩] := by
 have hl := congrArg List.length h;simp only [List.length_map, List.length_cons, List.length_nil] at hl;obtain ⟨s, t, rfl⟩ : ∃ s t, a = [s, t] := by
  cases a with
  | nil => simp at hl
  | cons s a => cases a with
   | nil => simp at hl
   | cons t a => cases a with
    | nil => exact ⟨s, t, rfl⟩
    | cons u a => simp at hl
 simp only [List.map_cons, List.map_nil, nc, List.cons.injEq, Prod.mk.injEq, and_true] at h;have h1 := hr s (by simp);have h2 := hr t (by simp);obtain ⟨n1, r1, c1⟩ := s;obtain ⟨n2, r2, c2⟩ := t;simp only at h h1 h2;obtain ⟨⟨rfl, rfl⟩, rfl, rfl⟩ := h;subst h1 h2;rfl
theorem Cx (w u : U) : aq (bG kg (ar ([] ++ aL (bG kg (ar []) [] w))) [] u) = [⟨[97], false, 0⟩, ⟨[98], false, iO 1 [0]⟩] := by
 obtain ⟨h1, h2, _⟩ := kz (given := []) (w := w) (pb kK) [] u;refine Kg ?_ fun s hs => ?_
 ·rw [bG, bG, h1];have := uh w;rw [bG] at this;rw [this];rfl
 ·obtain ⟨d, hd, rfl⟩ := List.mem_map.1 hs;exact h2 d hd
theorem wx (s : AV) (w : AV) {own o1 o2 : Option Nm} : leL [s, .sl own 4 [[vs [97], .val (.bool true), .val (.int .u64 0), .val (.slice none 0 0)], [vs [98], .val (.bool false), .val (.int .u64 1), .sl none 1 [[vs [97]]]]], .val (.slice none 0 0), w] [s, .sl none 4 (nds kg), .sl none 3 (sps []), w] := by
 refine leL.cons (.refl _) (leL.cons (Na _ _ (leE.cons ?_ rfl (leE.cons (leL.refl _) rfl leE.nil))) (leL.cons (cy 3) (leL.refl _)));exact leL.cons (.refl _) (leL.cons (.refl _) (leL.cons (.refl _) (leL.cons (cy 1) leL.nil)))
theorem cc {R} (h : R (.val (.bool true)) []) : ag Tryz.prog 7 [] [] R := by
 refine ab (an := an7) tab_ok Tryz.func7 ?_;have hv : is3 3 := .inr (.inr rfl);conv=>whnf
 refine mC ?_;conv=>whnf
 refine nK 3 hv ?_;rw [r9];conv=>whnf
 refine ag.args (wx _ _ (o1 := none) (o2 := none)) (jm hv kg ui (by decide) [] (by simp) 5 (fsV 3 []) (wo 3 (by simp) (by simp)) (by omega) [] (by simp) (by simp) (fun hc => absurd kK hc) (fun _ f hf he => ?_) (fun _ f hf _ => ?_))
 ·obtain ⟨k, _, hk⟩ := pq 3 8 (bG kg (ar []) [] (wen 3 5)) [];rw [hf, fsV, hk] at he;exact absurd rfl he
 obtain ⟨k, hk0, hk⟩ := pq 3 8 (bG kg (ar []) [] (wen 3 5)) [];rw [fsV, hk] at hf;rw [uh];have hmT : ∀ r ∈ [] ++ aL (bG kg (ar []) [] (wen 3 5)), aR 3 r = true := fun r hr => by
  rw [List.nil_append] at hr;obtain ⟨d, hd, rfl⟩ := List.mem_map.1 hr;rw [List.mem_filter] at hd;exact nI (.inr (.inr rfl)) kK (fun e => by cases e) d hd.1 hd.2
 have hlT : ([] ++ aL (bG kg (ar []) [] (wen 3 5))).length ≤ 10 := by
  have h1 := fL (bG kg (ar []) [] (wen 3 5));have h2 : (bG kg (ar []) [] (wen 3 5)).length = 2 := by rw [bG, eK _ _ _ (pb kK).hb, uj]; rfl
  rw [List.nil_append]; omega
 have hag := Cx (wen 3 5) (wen 3 6);generalize hL : [] ++ aL (bG kg (ar []) [] (wen 3 5)) = L at hf hmT hlT hag hk0;subst hf;have hkl : k ≤ (aC 3 L).length := by
  rcases hk0 with rfl | rfl
  ·rw [cr]; omega
  ·exact Nat.le_refl _
 have hfok := GD hmT (by omega) hkl;generalize hc : iO 1 [0] = c at hag ⊢;obtain ⟨s1, hs1⟩ : ∃ s1, s1 = fsK (aC 3 L) k := ⟨_, rfl⟩;rw [← hs1] at hfok ⊢;conv=>whnf
 refine ag.args (wx _ _ (o1 := none) (o2 := none)) (jm hv kg ui (by decide) [] (by simp) 6 s1 hfok (by omega) L (by omega) hmT (fun hc => absurd kK hc) (fun _ f hf he => ?_) (fun _ f hf _ => ?_))
 ·obtain ⟨k2, _, hk2⟩ := pq 3 k (bG kg (ar L) [] (wen 3 6)) L;rw [hf, hs1, hk2] at he;exact absurd rfl he
 rw [hag];conv=>whnf
 refine aI (by simp [Sp.v]) ?_;conv=>whnf
 refine jt 7 fun d hd => ?_;conv=>whnf
 refine ja d fun e he => ?_;rw [hd, lB] at he;subst he;conv=>whnf
 exact h
theorem ga (l : List Nd) (hl : fN l) (given : List Sp) (hg : given.length < 1000000) {R} (h : ∀ c e, c = gI l given → e = aV l → R (.tup [.sl none 3 (sps c), vi e]) []) :
  ag Tryz.prog 14 [.sl none 4 (nds l), .sl none 3 (sps given)] [] R := by
 refine ab (an := Vk) tab_ok Tryz.func14 ?_;have hsl := ij l;have hl' := hl;obtain ⟨hlen, hsm⟩ := hl;conv=>whnf
 refine lK l hl' fun e he => ?_;conv=>whnf
 refine ae (fun g => ?_) (fun g => ?_)
 ·have g : e ≠ 0 := by simpa using g
  conv=>whnf
  refine h [] e ?_ he;unfold gI;rw [cp, if_neg (by rw [← he]; exact g)];rfl
 have g : e = 0 := by simpa using g
 have hchk : aV l = 0 := by rw [← he, g]
 have hnd : (l.map (·.name)).Nodup := by
  refine (oh l [] ?_).1;unfold aV at hchk;split at hchk
  ·cases hchk
  ·split at hchk
   ·rename_i h1 h2; exact absurd hchk h2
   ·rename_i h1 h2; exact Classical.byContradiction fun e => h2 e
 conv=>whnf
 refine k9 l hl' hnd fun o ho => ?_;have ho : o = cp l := by rw [ho, cp, if_pos hchk]
 have hol := cb o;have hbd : ∀ b ∈ o, b < l.length := fun b hb => iE (by rw [← ho]; exact hb);have hoL : o.length ≤ l.length := by rw [ho]; exact qI l
 conv=>whnf
 refine au.ind2 (fun (i : Nat) (out : List Sp) => [(6, .sl (some (ak 14)) 3 (sps out)), (9, vi i)])
  (fun i out => [(ak 14, .row 45 3 out.length)])
  (fun i _ => o.length - i) (fun i out => i ≤ o.length ∧ out = cP l given (o.take i)) 0 [] rfl ⟨by omega, rfl⟩ ?_
 rintro i out ⟨h0, hout⟩ IH;have hpl := bA out;have hol2 : out.length ≤ i := by rw [hout]; have := AJ l given (o.take i); simp at this; omega
 conv=>whnf
 refine ae (fun hc => ?_) (fun hc => ?_)
 ·have hc := ap hol hc;have hb := hbd _ (List.getElem_mem hc);have hsn := qY (l := l) given hc hb;rw [← hout] at hsn
  (conv=>whnf); (repeat ((with_reducible refine ac ?_ ?_); exact decide_eq_true (by omega); (conv=>whnf)))
  refine idxNat (by simpa using hc) ?_
  (conv=>whnf); (repeat ((with_reducible refine ac ?_ ?_); exact decide_eq_true (by omega); (conv=>whnf)))
  refine aa (show ((o[i] : Nat) : Int).toNat < l.length by simpa using hb) ?_;rw [show l[((o[i] : Nat) : Int).toNat]'(by simpa using hb) = l[o[i]] from by congr 1];generalize hn : l[o[i]] = n at hsn ⊢;have hnd : n.deps.length < 10000 := by rw [← hn]; exact (hsm _ (List.getElem_mem hb)).1
  have hsd := aD n.deps;conv=>whnf
  refine ae (fun hs => ?_) (fun hs => ?_)
  ·conv=>whnf
   refine i7 given hg n.name fun d hd => ?_;conv=>whnf
   refine ⟨hpl.symm, (by rw [hpl]; show (out.length + 1) * (32 + 1) ≤ _; omega), ?_⟩;conv=>whnf
   have f1 : out ++ [⟨n.name, !n.source, d⟩] = cP l given (o.take (i + 1)) := by rw [hsn, hs, hd]; simp
   have e1 : sps out ++ [[AV.val (Value.string (ofB n.name)), AV.val (Value.bool !n.source), AV.val (Value.int IntKind.u64 (d.toNat : Int))]] = sps (out ++ [⟨n.name, !n.source, d⟩]) := by simp [sps, iT, Sp.v]
   have e2 : (sps out).length + [[AV.val (Value.string (ofB n.name)), AV.val (Value.bool !n.source), AV.val (Value.int IntKind.u64 (d.toNat : Int))]].length = (out ++ [(⟨n.name, !n.source, d⟩ : Sp)]).length := by simp [hpl]
   rw [e1, e2, al (by omega)];exact IH (i + 1) (out ++ [⟨n.name, !n.source, d⟩]) ⟨by omega, f1⟩ (by omega)
  ·conv=>whnf
   refine au.ind2 (fun (j : Nat) (ds : List U) => [(12, .sl (some (ak 42)) 1 (du ds)), (13, vi j)])
    (fun j ds => [(ak 14, .row 45 3 out.length), (ak 42, .row 33 1 ds.length)])
    (fun j _ => n.deps.length - j) (fun j ds => j ≤ n.deps.length ∧ ds = (n.deps.take j).map (dN out)) 0 [] rfl ⟨by omega, by simp⟩ ?_
   rintro j ds ⟨hj0, hds⟩ IH2;have hdl := jw ds;have hdj : ds.length = j := by rw [hds]; simp; omega
   conv=>whnf
   refine ae (fun hc2 => ?_) (fun hc2 => ?_)
   ·have hc2 := ap hsd hc2
    (conv=>whnf); (repeat ((with_reducible refine ac ?_ ?_); exact decide_eq_true (by omega); (conv=>whnf)))
    refine idxNat (by simpa using hc2) ?_;conv=>whnf
    refine i7 out (by omega) n.deps[j] fun d hd => ?_;conv=>whnf
    refine ⟨hdl.symm, (by rw [hdl]; show (ds.length + 1) * (8 + 1) ≤ _; omega), ?_⟩;conv=>whnf
    have e1 : du ds ++ [[AV.val (Value.int IntKind.u64 (d.toNat : Int))]] = du (ds ++ [d]) := by simp [du, uv]
    have e2 : (du ds).length + [[AV.val (Value.int IntKind.u64 (d.toNat : Int))]].length = (ds ++ [d]).length := by simp [hdl]
    rw [e1, e2, al (by omega)];refine IH2 (j + 1) (ds ++ [d]) ⟨by omega, ?_⟩ (by omega);rw [List.take_succ_eq_append_getElem hc2, hds, List.map_append, hd];rfl
   ·have hc2 := aw hsd hc2;rw [List.take_of_length_le hc2] at hds;conv=>whnf
    refine iV n.rule ds (by omega) rfl fun d hd => ?_;conv=>whnf
    refine ⟨hpl.symm, (by rw [hpl]; show (out.length + 1) * (32 + 1) ≤ _; omega), ?_⟩;conv=>whnf
    have f1 : out ++ [⟨n.name, !n.source, d⟩] = cP l given (o.take (i + 1)) := by rw [hsn, hs, hd, hds]; simp
    have e1 : sps out ++ [[AV.val (Value.string (ofB n.name)), AV.val (Value.bool !n.source), AV.val (Value.int IntKind.u64 (d.toNat : Int))]] = sps (out ++ [⟨n.name, !n.source, d⟩]) := by simp [sps, iT, Sp.v]
    have e2 : (sps out).length + [[AV.val (Value.string (ofB n.name)), AV.val (Value.bool !n.source), AV.val (Value.int IntKind.u64 (d.toNat : Int))]].length = (out ++ [(⟨n.name, !n.source, d⟩ : Sp)]).length := by simp [hpl]
    rw [e1, e2, al (by omega)];exact IH (i + 1) (out ++ [⟨n.name, !n.source, d⟩]) ⟨by omega, f1⟩ (by omega)
 ·have hc := aw hol hc;rw [List.take_of_length_le hc, ho] at hout;conv=>whnf
  exact h out 0 hout hchk.symm
theorem u4 {n : Nat} {x : List AV} (h : cA tab (n + 3) 45 x) : ∃ s : Sp, x = iT s.v := by
 obtain ⟨a1, r1, rfl, ⟨s, rfl, hs⟩, a2, r2, rfl, ⟨b, rfl⟩, a3, r3, rfl, ⟨u, rfl, hu⟩, rfl⟩ : ∃ a r, x = a ++ r ∧ (∃ s : ByteArray, a = [.val (.string s)] ∧ s.size ≤ maxLen) ∧
   ∃ a r', r = a ++ r' ∧ (∃ b, a = [.val (.bool b)]) ∧ ∃ a r'', r' = a ++ r'' ∧ (∃ y, a = [.val (.int .u64 y)] ∧ (Lit.int .u64 y).wf = true) ∧ r'' = [] := h
 refine ⟨⟨bs s, b, BitVec.ofInt 64 u⟩, ?_⟩;simp only [iT, Sp.v, kV, List.cons_append, List.nil_append];rw [← oN hu]
theorem tM {n : Nat} {l : List (List AV)} (h : ∀ x ∈ l, cA tab (n + 3) 45 x) : ∃ m : List Sp, l = sps m := by
 induction l with
 | nil => exact ⟨[], rfl⟩
 | cons x l ih =>
  obtain ⟨m, rfl⟩ := ih fun y hy => h y (by simp [hy]);obtain ⟨s, rfl⟩ := u4 (h x (by simp));exact ⟨s :: m, rfl⟩
theorem FQ (l : List Sp) (hl : l.length ≤ maxLen) {R} (h : ∀ b : Bool, (b = true → l.length ≤ 100 ∧ ∀ s ∈ l, s.name.length ≤ 100) → R (.val (.bool b)) []) :
  ag Tryz.prog 40 [.sl none 3 (sps l)] [] R := by
 refine ab (an := Pg) tab_ok Tryz.func40 ?_;have hsl := bA l;have hmx : maxLen ≤ 9223372036854775807 := by decide
 conv=>whnf
 refine au.ind1 (fun (i : Nat) => [(7, vi i)]) (fun _ => []) (fun i => l.length - i) (fun i => i ≤ l.length ∧ ∀ s ∈ l.take i, s.name.length ≤ 100) 0 rfl ⟨Nat.zero_le _, by simp⟩ ?_;rintro i ⟨hi, hn⟩ IH;conv=>whnf
 refine ae (fun hc => ?_) (fun hc => ?_)
 ·have hc := ap hsl hc;have hsn : l[i].v.name.size = l[i].name.length := aG _
  (conv=>whnf); (repeat ((with_reducible refine ac ?_ ?_); exact decide_eq_true (by omega); (conv=>whnf)))
  refine aa (show (i : Int).toNat < (l.map Sp.v).length by simpa using hc) ?_;rw [show (l.map Sp.v)[(i : Int).toNat]'(by simpa using hc) = l[i].v from by simp];conv=>whnf
  rw [hsn];refine ae (fun hb => ?_) (fun hb => ?_)
  ·conv=>whnf
   exact h false (by simp)
  ·conv=>whnf
   rw [aK (by omega) (by omega), show ((i : Int) + 1) = ((i + 1 : Nat) : Int) by omega];refine IH (i + 1) ⟨by omega, fun s hs => ?_⟩ (by omega);rw [List.take_succ_eq_append_getElem hc, List.mem_append, List.mem_singleton] at hs;rcases hs with hs | rfl
   ·exact hn s hs
   ·simp at hb;omega
 ·have hc := aw hsl hc;rw [List.take_of_length_le hc] at hn;conv=>whnf
  rw [hsl];refine h _ fun hb => ⟨?_, hn⟩;simp at hb;omega
structure Pu (l : List Nd) (given : List Sp) : Prop where
 fN : fN l
 len : l.length ≤ 80
 given : given.length ≤ 100
theorem iY (l : List Nd) (g : List Sp) (hl : l.length ≤ maxLen) (hn : ∀ n ∈ l, n.deps.length ≤ maxLen) (hg : g.length ≤ maxLen) {R} (h : ∀ b : Bool, (b = false → Pu l g) → R (.val (.bool b)) []) :
  ag Tryz.prog 10 [.sl none 4 (nds l), .sl none 3 (sps g)] [] R := by
 refine ab (an := S9) tab_ok Tryz.func10 ?_;conv=>whnf
 refine uu l hl hn fun b hb => ?_
 cases b with
 | true =>
  conv=>whnf
  exact h _ (fun e => by cases e)
 | false =>
  obtain ⟨h1, h2⟩ := hb rfl;conv=>whnf
  refine FQ g hg fun b hb => ?_;conv=>whnf
  refine h _ fun e => ?_;have hb := hb (by simpa using e);exact ⟨⟨by omega, fun n hn => by have := h2 n hn; exact ⟨by omega, by omega, fun d hd => by have := this.2.2 d hd; omega⟩⟩, h1, hb.1⟩
theorem ml {n : Nat} {x : List AV} (h : cA tab (n + 6) 35 x) : ∃ (l : List Nd) (g : List Sp) (w : U), x = [.sl none 4 (nds l), .sl none 3 (sps g), uv w] ∧ l.length ≤ maxLen ∧ (∀ n ∈ l, n.deps.length ≤ maxLen) ∧ g.length ≤ maxLen := by
 have h : mW (cA tab (n + 5)) [31, 32, 33] x := h;obtain ⟨p, q, rfl, h1, r, s, rfl, h2, t, u, rfl, h3, rfl⟩ := h;obtain ⟨y, rfl, e1, e2⟩ : ∃ y : List (List AV), p = [.sl none 4 y] ∧ y.length ≤ maxLen ∧ ∀ z ∈ y, cA tab (n + 4) 73 z := h1;obtain ⟨l, rfl, hl⟩ := oO (n := n + 1) e2;obtain ⟨y, rfl, f1, f2⟩ : ∃ y : List (List AV), r = [.sl none 3 y] ∧ y.length ≤ maxLen ∧ ∀ z ∈ y, cA tab (n + 4) 45 z := h2;obtain ⟨g, rfl⟩ := tM (n := n + 1) f2;obtain ⟨w, rfl, hw⟩ : ∃ w, t = [.val (.int .u64 w)] ∧ (Lit.int .u64 w).wf = true := h3;refine ⟨l, g, BitVec.ofInt 64 w, ?_, by simpa [nds] using e1, hl, by simpa [sps] using f1⟩;rw [uv, ← oN hw];rfl
theorem gX {l : List Nd} (h : aV l ≠ 0) (state : List Rc) (given : List Sp) (w : U) : bG l state given w = [] := by
 rw [bG, cp, if_neg h]; rfl
theorem uR {v : Int} (hv : is3 v) (l : List Nd) (state : List Rc) (given : List Sp) {w : U} (hw : v = 1 → w = 0) : ∀ r ∈ aL (bG l state given w), aR v r = true := by
 intro r hr;obtain ⟨d, hd, rfl⟩ := List.mem_map.1 hr;rw [List.mem_filter] at hd;by_cases hc : aV l = 0
 ·exact nI hv hc hw d hd.1 hd.2
 ·rw [gX hc] at hd
  cases hd.1
theorem gk (l : List Nd) (state : List Rc) (given : List Sp) (w : U) : (bG l state given w).length ≤ 64 := by
 by_cases hc : aV l = 0
 ·rw [bG, eK _ _ _ (pb hc).hb, jH hc]; exact (eM hc).2.2.2
 ·rw [gX hc]; simp
end Go.Abs
end
section
namespace Go.Abs
open Go Go.Proofs Dig
def Vld (r : Rc) : Prop := (∀ d ∈ r.deps, d.order = false) ∧ r.out = dig (iO r.rule (r.deps.map fun d => gY d.hash))
theorem Fd {ns : List B} {hs : List U} (h : hs.length = ns.length) : (dH ns hs).map (·.hash) = hs ∧ ∀ d ∈ dH ns hs, d.order = false := by
 induction ns generalizing hs with
 | nil =>
  have e1 : hs = [] := List.eq_nil_of_length_eq_zero (by simpa using h);subst e1;exact ⟨rfl, by simp [dH]⟩
 | cons n ns ih =>
  cases hs with
  | nil => simp at h
  | cons x hs =>
   obtain ⟨h1, h2⟩ := ih (hs := hs) (by simpa using h);refine ⟨by simp [dH, h1], fun d hd => ?_⟩;simp only [dH, List.mem_cons] at hd;rcases hd with rfl | hd
   ·rfl
   ·exact h2 d hd
theorem ze (c : List U) : c.map (gY ∘ dig) = c := by
 have : (gY ∘ dig) = id := by funext x; exact lB x
 rw [this, List.map_id]
theorem Lz (n : Nd) {c : List U} (hc : c.length = n.deps.length) (w : U) : Vld (trN n c w) := by
 obtain ⟨h1, h2⟩ := Fd (ns := n.deps) (hs := c.map dig) (by simp [hc]);refine ⟨h2, ?_⟩;have e : (dH n.deps (c.map dig)).map (fun d => gY d.hash) = c := by
  have := congrArg (List.map gY) h1;rw [List.map_map, List.map_map] at this;rw [show (fun d : Dp => gY d.hash) = gY ∘ (fun d : Dp => d.hash) from rfl, this];exact ze c
 show dig (iO n.rule c) = dig (iO n.rule ((dH n.deps (c.map dig)).map fun d => gY d.hash));rw [e]
theorem J1 {ds : List Dp} {hs : List U} (hl : hs.length = ds.length) (ho : ∀ d ∈ ds, d.order = false) (h : eC ds hs = false) : ds.map (·.hash) = hs := by
 induction ds generalizing hs with
 | nil => exact (List.eq_nil_of_length_eq_zero (by simpa using hl)).symm
 | cons d ds ih =>
  cases hs with
  | nil => simp at hl
  | cons x hs =>
   simp only [eC, ho d (by simp), Bool.not_false, Bool.true_and, Bool.or_eq_false_iff, decide_eq_false_iff_not, Classical.not_not] at h;rw [List.map_cons, h.1, ih (by simpa using hl) (fun d hd => ho d (by simp [hd])) h.2]
theorem I8 {n : Nd} {S : List Rc} {c : List U} (hs : n.source = false) (hc : c.length = n.deps.length) (hv : ∀ r ∈ S, Vld r) (h : kX n S (c.map dig) = 0) : gY (cz S n.name).out = iO n.rule c := by
 rw [kX, if_neg (by simp [hs])] at h;split at h
 ·cases h
 rename_i hf
 cases hfp : cJ S n.name with
 | none => rw [hfp] at hf; exact absurd rfl hf
 | some r =>
  have hr := hv r (Ih hfp).1;rw [cz, hfp, Option.getD_some] at h ⊢;unfold uZ at h;split at h
  ·cases h
  rename_i h1;split at h
  ·cases h
  rename_i h2;split at h
  ·cases h
  rename_i h3;have h1 : r.rule = n.rule := Classical.not_not.1 h1;have h2 : fZ n r (c.map dig) = false := by simpa using h2
  have h3 : eC r.deps (c.map dig) = false := by simpa using h3
  simp only [fZ, Bool.or_eq_false_iff, decide_eq_false_iff_not, Classical.not_not] at h2;have hl : r.deps.length = n.deps.length := by rw [← h2.2]; simp
  have h4 := J1 (ds := r.deps) (hs := c.map dig) (by simp [hc, hl]) hr.1 h3;have e : r.deps.map (fun d => gY d.hash) = c := by
   have := congrArg (List.map gY) h4;rw [List.map_map, List.map_map] at this;rw [show (fun d : Dp => gY d.hash) = gY ∘ (fun d : Dp => d.hash) from rfl, this];exact ze c
  rw [hr.2, lB, e, h1]
theorem Fg {l : List Nd} {L : List Rc} {given : List Sp} {w : U} {o : List Nat} (ho : oG l o) (hv : ∀ r ∈ L, Vld r) : ∀ i, i ≤ o.length →
  (aq (aJ l (ar L) given w (o.take i))).map nc = (cP l given (o.take i)).map nc := by
 intro i;have hv2 : ∀ r ∈ ar L, Vld r := fun r hr => hv r (jy hr).1;generalize ar L = S at hv2 ⊢
 induction i with
 | zero => intro _; rfl
 | succ i ih =>
  intro hi;have hi : i < o.length := hi;have i1 := ih (Nat.le_of_lt hi);have hl : o[i] < l.length := ho.hb _ (List.getElem_mem _);rw [gj S given w hi hl, qY given hi hl, aY, List.map_append, List.map_append, i1];have hc := GM i1 l[o[i]];generalize aq (aJ l S given w (o.take i)) = A at hc ⊢;generalize cP l given (o.take i) = C at hc ⊢;have key : nc (bQ l[o[i]] S A given w).step = (l[o[i]].name, if l[o[i]].source = true then dN given l[o[i]].name else iO l[o[i]].rule (kL C l[o[i]])) := by
   by_cases hs : l[o[i]].source = true
   ·simp [bQ, hs, nc]
   have hs0 : l[o[i]].source = false := by simpa using hs
   rw [if_neg hs];by_cases hy : kX l[o[i]] S ((kL A l[o[i]]).map dig) = 0
   ·have := I8 hs0 (pA _ _) hv2 hy;rw [bQ, if_neg hs, if_pos hy, nc, this, hc]
   ·rw [bQ, if_neg hs, if_neg hy, nc, hc]
  rw [List.map_cons, List.map_nil, key];rfl
theorem lC {l : List Nd} {L : List Rc} {given : List Sp} {w : U} (hc : aV l = 0) (hv : ∀ r ∈ L, Vld r) : (aq (bG l (ar L) given w)).map nc = (gI l given).map nc := by
 have h := Fg (given := given) (w := w) (pb hc) hv (cp l).length (Nat.le_refl _);rwa [List.take_length] at h
theorem hZ {l : List Nd} {state : List Rc} {given : List Sp} {w : U} : ∀ r ∈ aL (bG l state given w), Vld r := by
 intro r hr;obtain ⟨d, hd, rfl⟩ := List.mem_map.1 hr;rw [List.mem_filter] at hd;obtain ⟨i, hi, rfl⟩ := n9 (fH l) hd.1;rw [(nj hd.2).1];exact Lz _ (pA _ _) w
end Go.Abs
end
section
namespace Go.Abs
open Go Go.Proofs Dig
attribute [local irreducible] aH aE aO firstIdx
theorem zl (s : FSt) (late : Bool) (g : FM → FM) : ((s.act late g).2 = 0 ∧ (s.act late g).1.fs = g s.fs) ∨ ((s.act late g).2 = 8 ∧ (s.act late g).1.fs = s.fs) ∨ ((s.act late g).2 = 7 ∧ ((s.act late g).1.fs = s.fs ∨ (late = true ∧ (s.act late g).1.fs = g s.fs))) := by
 unfold FSt.act;split
 ·refine .inr (.inr ⟨rfl, ?_⟩)
  cases late
  ·exact .inl rfl
  ·exact .inr ⟨rfl, rfl⟩
 ·split
  ·exact .inr (.inl ⟨rfl, rfl⟩)
  ·exact .inl ⟨rfl, rfl⟩
theorem AZ {s : FSt} {log F b : B} {k : Nat} (h : lk s.fs log = some ⟨F, k⟩) :
  ((s.append log b).2 = 0 ∧ lk (s.append log b).1.fs log = some ⟨F ++ b, k⟩) ∨ ((s.append log b).2 = 8 ∧ lk (s.append log b).1.fs log = some ⟨F, k⟩) ∨ ((s.append log b).2 = 7 ∧ (lk (s.append log b).1.fs log = some ⟨F, k⟩ ∨ lk (s.append log b).1.fs log = some ⟨F ++ b, k⟩)) := by
 have hg : lk (ec log b s.fs) log = some ⟨F ++ b, k⟩ := by
  unfold ec;rw [jN, if_pos rfl];simp [gF, h]
 unfold FSt.append;split
 ·exact .inr (.inr ⟨rfl, .inl h⟩)
 ·rcases zl s true (ec log b) with ⟨e, f⟩ | ⟨e, f⟩ | ⟨e, f | ⟨_, f⟩⟩
  ·exact .inl ⟨e, by rw [f]; exact hg⟩
  ·exact .inr (.inl ⟨e, by rw [f]; exact h⟩)
  ·exact .inr (.inr ⟨e, .inl (by rw [f]; exact h)⟩)
  ·exact .inr (.inr ⟨e, .inr (by rw [f]; exact hg)⟩)
theorem DQ {s : FSt} {log F : B} {k : Nat} (h : lk s.fs log = some ⟨F, k⟩) :
  ((s.sync log).2 = 0 ∧ lk (s.sync log).1.fs log = some ⟨F, F.length⟩) ∨ ((s.sync log).2 ≠ 0 ∧ lk (s.sync log).1.fs log = some ⟨F, k⟩) := by
 have hg : lk (cR log s.fs) log = some ⟨F, F.length⟩ := by
  unfold cR;rw [jN, if_pos rfl];simp [gF, h]
 unfold FSt.sync;split
 ·rename_i hm;exact .inr ⟨hm, h⟩
 ·rcases zl s false (cR log) with ⟨e, f⟩ | ⟨e, f⟩ | ⟨e, f | ⟨hl, _⟩⟩
  ·exact .inl ⟨e, by rw [f]; exact hg⟩
  ·exact .inr ⟨by rw [e]; decide, by rw [f]; exact h⟩
  ·exact .inr ⟨by rw [e]; decide, by rw [f]; exact h⟩
  ·cases hl
structure KI (v : Int) (l : List Rc) (n : Nat) (s : FSt) (nb fb : Nat) : Prop where
 hv : is3 v
 hm : ∀ r ∈ l, aR v r = true
 hn : n ≤ l.length
 hok : FOk s nb fb
 hlog : ∃ k, lk s.fs aS = some ⟨aC v l, k⟩ ∧ (aC v (l.take n)).length ≤ k
theorem KI.put3 {v : Int} {l : List Rc} {n : Nat} {s s2 : FSt} {nb fb : Nat} (h : KI v l n s nb fb) (hl : l.length ≤ 1100) {r : Rc} (hr : aR v r = true) {e : Int} (he : bT v s l r = (s2, e)) :
  (e = 0 ∧ KI v (l ++ [r]) n s2 (nb + 1) (fb + 3000)) ∨ (e = 8 ∧ KI v l n s2 (nb + 1) (fb + 3000)) ∨ (e = 7 ∧ (KI v l n s2 (nb + 1) (fb + 3000) ∨ KI v (l ++ [r]) n s2 (nb + 1) (fb + 3000))) := by
 obtain ⟨k, hk, hsy⟩ := h.hlog;have htl := lH (v := v) (l := l) (t := []) (fun y hy => aQ (h.hm y hy));simp at htl;have hml : (cd v l r).length ≤ 3000 := dK (aQ hr) (by omega);have hok := (iH h.hok (name := aS) (b := cd v l r) (by decide)).mono (nb' := nb + 1) (fb' := fb + 3000) (by omega) (by omega);have h3 := AZ (b := cd v l r) hk;rw [← ir] at h3;unfold bT at he;rw [he] at h3 hok;have A : lk s2.fs aS = some ⟨aC v l, k⟩ → KI v l n s2 (nb + 1) (fb + 3000) := fun hh => ⟨h.hv, h.hm, h.hn, hok, k, hh, hsy⟩;have C : lk s2.fs aS = some ⟨aC v (l ++ [r]), k⟩ → KI v (l ++ [r]) n s2 (nb + 1) (fb + 3000) := fun hh => by
  refine ⟨h.hv, fun y hy => ?_, by have := h.hn; simp; omega, hok, k, hh, ?_⟩
  ·rcases List.mem_append.1 hy with hy | hy
   ·exact h.hm y hy
   ·rw [List.mem_singleton.1 hy]; exact hr
  ·rw [List.take_append_of_le_length h.hn]; exact hsy
 rcases h3 with ⟨e1, h1⟩ | ⟨e1, h1⟩ | ⟨e1, h1 | h1⟩
 ·exact .inl ⟨e1, C h1⟩
 ·exact .inr (.inl ⟨e1, A h1⟩)
 ·exact .inr (.inr ⟨e1, .inl (A h1)⟩)
 ·exact .inr (.inr ⟨e1, .inr (C h1)⟩)
theorem KI.mono {v : Int} {l : List Rc} {n : Nat} {s : FSt} {nb fb nb' fb' : Nat} (h : KI v l n s nb fb) (h1 : nb ≤ nb') (h2 : fb ≤ fb') : KI v l n s nb' fb' := ⟨h.hv, h.hm, h.hn, h.hok.mono h1 h2, h.hlog⟩
theorem KI.put {v : Int} {l : List Rc} {n : Nat} {s s2 : FSt} {nb fb : Nat} (h : KI v l n s nb fb) (hl : l.length ≤ 1100) {r : Rc} (hr : aR v r = true) {e : Int} (he : bT v s l r = (s2, e)) :
  (e = 0 ∧ KI v (l ++ [r]) n s2 (nb + 2) (fb + 1000000)) ∨ (e = 8 ∧ KI v l n s2 (nb + 2) (fb + 1000000)) ∨ (e = 7 ∧ (KI v l n s2 (nb + 2) (fb + 1000000) ∨ KI v (l ++ [r]) n s2 (nb + 2) (fb + 1000000))) := by
 rcases h.put3 hl hr he with ⟨e1, h1⟩ | ⟨e1, h1⟩ | ⟨e1, h1 | h1⟩
 ·exact .inl ⟨e1, h1.mono (by omega) (by omega)⟩
 ·exact .inr (.inl ⟨e1, h1.mono (by omega) (by omega)⟩)
 ·exact .inr (.inr ⟨e1, .inl (h1.mono (by omega) (by omega))⟩)
 ·exact .inr (.inr ⟨e1, .inr (h1.mono (by omega) (by omega))⟩)
theorem KI.commit {v : Int} {l : List Rc} {n : Nat} {s s2 : FSt} {nb fb : Nat} (h : KI v l n s nb fb) {e : Int} (he : s.sync aS = (s2, e)) :
  (e = 0 ∧ KI v l l.length s2 (nb + 2) (fb + 1000000)) ∨ (e ≠ 0 ∧ KI v l n s2 (nb + 2) (fb + 1000000)) := by
 obtain ⟨k, hk, hsy⟩ := h.hlog;have hok := (mn h.hok (name := aS)).mono (nb' := nb + 2) (fb' := fb + 1000000) (by omega) (by omega);have h3 := DQ hk;rw [he] at h3 hok;rcases h3 with ⟨e1, h1⟩ | ⟨e1, h1⟩
 ·exact .inl ⟨e1, h.hv, h.hm, Nat.le_refl _, hok, _, h1, by rw [List.take_length]; exact Nat.le_refl _⟩
 ·exact .inr ⟨e1, h.hv, h.hm, h.hn, hok, k, h1, hsy⟩
theorem KI.crash {v : Int} {l : List Rc} {n : Nat} {s : FSt} {nb fb : Nat} (h : KI v l n s nb fb) (hl : l.length ≤ 1100) (keep : List Int) :
  ∃ (m : Nat) (b : B), n ≤ m ∧ m ≤ l.length ∧ I2 v (l.take m) b ∧ cu (s.crash keep) aS b ∧ FOk (s.crash keep) nb fb := by
 obtain ⟨k, hk, hsy⟩ := h.hlog;obtain ⟨c1, c2, c3⟩ := oe h.hok keep;obtain ⟨m, m1, m2, m3⟩ := c3 aS (lT hk);have hg : gF s.fs aS = ⟨aC v l, k⟩ := by unfold gF; rw [hk]; rfl
 rw [hg] at m1 m2 m3;have m1 : k ≤ m := m1;have m2 : m ≤ (aC v l).length := m2;have h8 : 8 ≤ m := by
  have := cr v (l.take n);omega
 obtain ⟨m', ms, t, e1, e2, e0, e3, e4, e5, e6, e7⟩ := MD h.hm hl h8 m2;refine ⟨m', (aC v l).take m, e7 n h.hn (by omega), e1, ⟨fun r hr => h.hm r (List.mem_of_mem_take hr), by rw [List.length_take]; omega, ms, t, e2, e0, e3, e4, e5, e6⟩, ?_, c1⟩;have hin : aS ∈ kys (s.crash keep).fs := by rw [c2]; exact lT hk
 unfold cu
 cases e : lk (s.crash keep).fs aS with
 | none => exact absurd hin (fQ.1 e)
 | some f =>
  have : gF (s.crash keep).fs aS = f := by unfold gF; rw [e]; rfl
  rw [this] at m3;rw [m3];simp only [List.length_take, Option.some.injEq, Fl.mk.injEq, true_and];omega
theorem J9 {v : Int} (hv : is3 v) {L : List Rc} (hm : ∀ r ∈ L, aR v r = true) (hl : L.length ≤ 300) : KI v L 0 (fsV v L) 1 1000000 := by
 refine ⟨hv, hm, Nat.zero_le _, wo v hm hl, 8, by simp [fsV, fsK, lk], ?_⟩;rw [List.take_zero, cr];simp [aW, ay]
theorem KI.fall {v : Int} {l : List Rc} {n : Nat} {s : FSt} {nb fb : Nat} (h : KI v l n s nb fb) {c : Int} (hc : -9223372036854775808 ≤ c ∧ c < 9223372036854775808) : KI v l n ⟨s.fs, s.fail, kM c, s.down⟩ nb fb := ⟨h.hv, h.hm, h.hn, GH h.hok hc, h.hlog⟩
theorem KI.fail {v : Int} {l : List Rc} {n : Nat} {s : FSt} {nb fb : Nat} (h : KI v l n s nb fb) {c : Int} (hc : -9223372036854775808 ≤ c ∧ c < 9223372036854775808) : KI v l n ⟨s.fs, kM c, s.fall, s.down⟩ nb fb := ⟨h.hv, h.hm, h.hn, GI h.hok hc, h.hlog⟩
theorem KI.zero {v : Int} {l : List Rc} {n : Nat} {s : FSt} {nb fb : Nat} (h : KI v l n s nb fb) : KI v l 0 s nb fb := by
 obtain ⟨k, h1, h2⟩ := h.hlog;refine ⟨h.hv, h.hm, Nat.zero_le _, h.hok, k, h1, ?_⟩;have e1 := cr v (l.take n);have e2 : (aC v (l.take 0)).length = 8 := by rw [cr]; simp [aW, ay]
 omega
theorem Hn {v : Int} {n : Nat} : ∀ (ds : List Dn) (s : FSt) (L : List Rc) {nb fb : Nat}, KI v L n s nb fb → eo s → L.length + ds.length ≤ 1100 → (∀ d ∈ ds, d.step.ran = true → aR v d.trace = true) →
  (cY v ds s L).2.2 = 0 ∧ (cY v ds s L).2.1 = L ++ aL ds ∧ eo (cY v ds s L).1 ∧ KI v (L ++ aL ds) n (cY v ds s L).1 (nb + ds.length) (fb + 3000 * ds.length) := by
 intro ds
 induction ds with
 | nil => intro s L nb fb hk hc _ _; exact ⟨rfl, by simp [cY, aL], hc, by simpa [aL, cY] using hk⟩
 | cons d ds ih =>
  intro s L nb fb hk hc hl hm;simp only [List.length_cons] at hl ⊢;unfold cY;by_cases g : d.step.ran = true
  ·obtain ⟨c1, _, c3⟩ := kO hc aS (cd v L d.trace);rw [if_pos g, if_pos (show (bT v s L d.trace).2 = 0 from c1)];rcases hk.put3 (by omega) (hm d (by simp) g) (s2 := (bT v s L d.trace).1) (e := (bT v s L d.trace).2) rfl with ⟨_, h1⟩ | ⟨e1, _⟩ | ⟨e1, _⟩
   ·obtain ⟨i1, i2, i3, i4⟩ := ih _ (L ++ [d.trace]) h1 c3 (by simp; omega) fun x hx => hm x (by simp [hx]);have e : L ++ aL (d :: ds) = (L ++ [d.trace]) ++ aL ds := by simp [aL, g]
    rw [e];exact ⟨i1, i2, i3, i4.mono (by omega) (by omega)⟩
   ·rw [show (bT v s L d.trace).2 = 0 from c1] at e1; cases e1
   ·rw [show (bT v s L d.trace).2 = 0 from c1] at e1; cases e1
  ·rw [if_neg g];obtain ⟨i1, i2, i3, i4⟩ := ih s L hk hc (by omega) fun x hx => hm x (by simp [hx]);have e : aL (d :: ds) = aL ds := by simp [aL, g]
   rw [e];exact ⟨i1, i2, i3, i4.mono (by omega) (by omega)⟩
theorem Ii {v : Int} {n : Nat} (ds : List Dn) (s : FSt) (L : List Rc) {nb fb : Nat} (hk : KI v L n s nb fb) (hc : eo s) (hl : L.length + ds.length ≤ 1100) (hm : ∀ d ∈ ds, d.step.ran = true → aR v d.trace = true) :
  (gi v ds s L).2.2 = 0 ∧ (gi v ds s L).2.1 = L ++ aL ds ∧ eo (gi v ds s L).1 ∧ ∃ m, KI v (L ++ aL ds) m (gi v ds s L).1 (nb + ds.length + 2) (fb + 3000 * ds.length + 1000000) := by
 obtain ⟨h1, h2, h3, h4⟩ := Hn ds s L hk hc hl hm;unfold gi;split
 ·obtain ⟨k, hkk, _⟩ := h4.hlog;obtain ⟨c1, _, c3⟩ := m8 h3 (lT hkk);refine ⟨c1, h2, c3, ?_⟩;rcases h4.commit (s2 := ((cY v ds s L).1.sync aS).1) (e := ((cY v ds s L).1.sync aS).2) rfl with ⟨_, h5⟩ | ⟨h5, _⟩
  ·exact ⟨_, h5⟩
  ·exact absurd c1 h5
 ·exact ⟨h1, h2, h3, n, h4.mono (by omega) (by omega)⟩
theorem JA {v : Int} {n : Nat} : ∀ (ds : List Dn) (s : FSt) (L : List Rc) {nb fb : Nat}, KI v L n s nb fb → L.length + ds.length ≤ 1100 → (∀ d ∈ ds, d.step.ran = true → aR v d.trace = true) →
  ∃ M, KI v M n (cY v ds s L).1 (nb + ds.length) (fb + 3000 * ds.length) ∧ M.length ≤ L.length + ds.length ∧ (∀ x ∈ M, x ∈ L ∨ x ∈ aL ds) ∧ ((cY v ds s L).2.2 = 0 → M = (cY v ds s L).2.1) := by
 intro ds
 induction ds with
 | nil => intro s L nb fb hk _ _; exact ⟨L, hk, by simp, fun x hx => .inl hx, fun _ => rfl⟩
 | cons d ds ih =>
  intro s L nb fb hk hl hm;simp only [List.length_cons] at hl ⊢;unfold cY;by_cases g : d.step.ran = true
  ·have e : aL (d :: ds) = d.trace :: aL ds := by simp [aL, g]
   rw [e];have h3 := hk.put3 (by omega) (hm d (by simp) g) (s2 := (bT v s L d.trace).1) (e := (bT v s L d.trace).2) rfl;rw [if_pos g];split
   ·rename_i hz;rcases h3 with ⟨_, h1⟩ | ⟨e1, _⟩ | ⟨e1, _⟩
    ·obtain ⟨M, i1, i2, i3, i4⟩ := ih _ (L ++ [d.trace]) h1 (by simp; omega) fun x hx => hm x (by simp [hx]);refine ⟨M, i1.mono (by omega) (by omega), by simp at i2; omega, fun x hx => ?_, i4⟩;rcases i3 x hx with hx | hx
     ·rcases List.mem_append.1 hx with hx | hx
      ·exact .inl hx
      ·exact .inr (by rw [List.mem_singleton.1 hx]; simp)
     ·exact .inr (by simp [hx])
    ·rw [hz] at e1; cases e1
    ·rw [hz] at e1; cases e1
   ·rename_i hz;rcases h3 with ⟨e1, _⟩ | ⟨_, h1⟩ | ⟨_, h1 | h1⟩
    ·exact absurd e1 hz
    ·exact ⟨L, h1.mono (by omega) (by omega), by omega, fun x hx => .inl hx, fun e0 => absurd e0 hz⟩
    ·exact ⟨L, h1.mono (by omega) (by omega), by omega, fun x hx => .inl hx, fun e0 => absurd e0 hz⟩
    ·refine ⟨L ++ [d.trace], h1.mono (by omega) (by omega), by simp, fun x hx => ?_, fun e0 => absurd e0 hz⟩;rcases List.mem_append.1 hx with hx | hx
     ·exact .inl hx
     ·exact .inr (by rw [List.mem_singleton.1 hx]; simp)
  ·rw [if_neg g];obtain ⟨M, i1, i2, i3, i4⟩ := ih s L hk (by omega) fun x hx => hm x (by simp [hx]);have e : aL (d :: ds) = aL ds := by simp [aL, g]
   rw [e];exact ⟨M, i1.mono (by omega) (by omega), by omega, i3, i4⟩
theorem Kj {v : Int} {n : Nat} (ds : List Dn) (s : FSt) (L : List Rc) {nb fb : Nat} (hk : KI v L n s nb fb) (hl : L.length + ds.length ≤ 1100) (hm : ∀ d ∈ ds, d.step.ran = true → aR v d.trace = true) :
  ∃ M, KI v M 0 (gi v ds s L).1 (nb + ds.length + 2) (fb + 3000 * ds.length + 1000000) ∧ M.length ≤ L.length + ds.length ∧ ∀ x ∈ M, x ∈ L ∨ x ∈ aL ds := by
 obtain ⟨M, h1, h2, h3, h4⟩ := JA ds s L hk hl hm;unfold gi;split
 ·rename_i hz;refine ⟨M, ?_, h2, h3⟩;rcases h1.commit (s2 := ((cY v ds s L).1.sync aS).1) (e := ((cY v ds s L).1.sync aS).2) rfl with ⟨_, h5⟩ | ⟨_, h5⟩
  ·exact h5.zero
  ·exact h5.zero
 ·exact ⟨M, h1.zero.mono (by omega) (by omega), h2, h3⟩
theorem fI {v : Int} (l : List Nd) (hl : fN l) (hl2 : l.length ≤ 100) (given : List Sp) (hg : given.length < 1000000) (w : U) (L : List Rc) (hL : L.length ≤ 1030) {s : FSt} {nb fb : Nat} (hk : KI v L 0 s nb fb) (hfb : fb ≤ 70000000) (hc : eo s) {R}
  (h : ∀ s2, KI v (L ++ aL (bG l (ar L) given (wen v w))) 0 s2 (nb + 100) (fb + 1200000) → eo s2 → R (.tup [.sl none 3 (sps (aq (bG l (ar L) given (wen v w)))), vi (aV l)]) [stO false 1 v (L ++ aL (bG l (ar L) given (wen v w))), fsC s2 2, fsM s2]) :
  ag Tryz.prog 12 [.ptr 0 0, .sl none 4 (nds l), .sl none 3 (sps given), uv w] [stO false 1 v L, fsC s 2, fsM s] R := by
 have hmay := uR hk.hv l (ar L) given (w := wen v w) (fun e => by rw [wen, if_pos e]);have h64 := gk l (ar L) given (wen v w);obtain ⟨f1, f2, f3, m, f4⟩ := Ii (bG l (ar L) given (wen v w)) s L hk hc (by omega) (fun d hd hr => hmay _ (List.mem_map.2 ⟨d, List.mem_filter.2 ⟨hd, hr⟩, rfl⟩));refine ag.res (jm hk.hv l hl hl2 given hg w s hk.hok hfb L hL hk.hm (fun hcn => ?_) (fun hc0 f hf he => ?_) (fun hc0 f hf _ => ?_))
 ·have h := h s;rw [gX hcn] at h;have h := h (by simpa [aL] using hk.mono (by omega) (by omega)) hc;rw [show L ++ aL [] = L from by simp [aL]] at h;exact cf (gg (leL.cons (cy 3) (leL.refl _))) rfl h
 ·rw [hf] at he; exact absurd f1 he
 ·have h := h _ (f4.zero.mono (by omega) (by omega)) f3;rw [hc0] at h;rw [hf, f2];exact bB h
theorem zg {v : Int} (l : List Nd) (hl : fN l) (hl2 : l.length ≤ 100) (given : List Sp) (hg : given.length < 1000000) (w : U) (L : List Rc) (hL : L.length ≤ 1030) {s : FSt} {nb fb : Nat} (hk : KI v L 0 s nb fb) (hfb : fb ≤ 70000000) {R}
  (h : ∀ (P : List Sp) (e : Int) (ov : Bool) (L2 M : List Rc) (s2 : FSt), KI v M 0 s2 (nb + 100) (fb + 1200000) → M.length ≤ L.length + 64 → (∀ x ∈ M, x ∈ L ∨ x ∈ aL (bG l (ar L) given (wen v w))) → R (.tup [.sl none 3 (sps P), vi e]) [stO ov 1 v L2, fsC s2 2, fsM s2]) :
  ag Tryz.prog 12 [.ptr 0 0, .sl none 4 (nds l), .sl none 3 (sps given), uv w] [stO false 1 v L, fsC s 2, fsM s] R := by
 have hmay := uR hk.hv l (ar L) given (w := wen v w) (fun e => by rw [wen, if_pos e]);have h64 := gk l (ar L) given (wen v w);obtain ⟨M, f1, f2, f3⟩ := Kj (bG l (ar L) given (wen v w)) s L hk (by omega) (fun d hd hr => hmay _ (List.mem_map.2 ⟨d, List.mem_filter.2 ⟨hd, hr⟩, rfl⟩));refine ag.res (jm hk.hv l hl hl2 given hg w s hk.hok hfb L hL hk.hm (fun hcn => ?_) (fun hc0 f hf he => ?_) (fun hc0 f hf _ => ?_))
 ·exact cf (gg (leL.cons (cy 3) (leL.refl _))) rfl (h [] _ false L L s (hk.mono (by omega) (by omega)) (by omega) fun x hx => .inl hx)
 ·rw [hf];exact cf (gg (leL.cons (cy 3) (leL.refl _))) rfl (h [] _ _ _ M _ (f1.mono (by omega) (by omega)) (by omega) f3)
 ·rw [hf];exact bB (h _ _ _ _ M _ (f1.mono (by omega) (by omega)) (by omega) f3)
structure Cs where
 l : List Nd
 g : List Sp
 w : U
def Cs.enc (c : Cs) : List AV := [.sl none 4 (nds c.l), .sl none 3 (sps c.g), uv c.w]
def Cs.ok (c : Cs) : Prop := c.l.length ≤ maxLen ∧ (∀ n ∈ c.l, n.deps.length ≤ maxLen) ∧ c.g.length ≤ maxLen
def css (l : List Cs) : List (List AV) := l.map Cs.enc
theorem qX (l : List Cs) : (css l).length = l.length := by simp [css]
def Jg (l : List Int) : List (List AV) := l.map fun x => [.val (.int .u16 x)]
theorem Bk (l : List Int) : (Jg l).length = l.length := by simp [Jg]
def stN : Bool → Nat
 | true => ax 97 0
 | false => ax 37 0
structure BI (v : Int) (L : List Rc) (s : FSt) (i : Nat) : Prop where
 ki : KI v L 0 s (10 + 1000 * i) (1000000 + 4000000 * i)
 calm : eo s
 vld : ∀ r ∈ L, Vld r
 len : L.length ≤ 128 * i
theorem MZ {x : Int} (h : 0 ≤ x ∧ x ≤ 65535) : -9223372036854775808 ≤ IntKind.i64.wrap (x.tmod 7) ∧ IntKind.i64.wrap (x.tmod 7) < 9223372036854775808 := by
 obtain ⟨n, rfl⟩ := Int.eq_ofNat_of_zero_le h.1;rw [show (n : Int).tmod 7 = ((n % 7 : Nat) : Int) from nJ n 7, aK (x := ((n % 7 : Nat) : Int)) (by omega) (by omega)];omega
theorem tF (a : Int) (ha : 0 ≤ a ∧ a ≤ 255) (l : List Cs) (hll : l.length ≤ maxLen) (hok : ∀ c ∈ l, c.ok) (kp : List Int) (hkpl : kp.length ≤ maxLen) (hkk : ∀ x ∈ kp, 0 ≤ x ∧ x ≤ 65535) {R} (h : R (.val (.bool true)) []) :
  ag Tryz.prog 3 [.val (.int .u8 a), .sl none 3 (css l), .sl none 1 (Jg kp)] [] R := by
 refine ab (an := { an3 with pre := [(16, [2, 7, 10, 11, 46, 47, 48])] }) tab_ok Tryz.func3 ?_;have hmx : maxLen ≤ 9223372036854775807 := by decide
 have hsl := qX l;have hkl := Bk kp;conv=>whnf
 refine ae (fun q1 => ?_) (fun q1 => ?_)
 ·conv=>whnf
  refine cc ?_;conv=>whnf
  exact h
 conv=>whnf
 refine ae (fun q2 => ?_) (fun q2 => ?_)
 ·conv=>whnf
  refine cc ?_;conv=>whnf
  exact h
 have hl8 : l.length ≤ 8 := by have := of_decide_eq_false q1; omega
 have hk8 : kp.length ≤ 8 := by have := of_decide_eq_false q2; omega
 conv=>whnf
 refine mC ?_;conv=>whnf
 have hv := TQ ha;generalize IntKind.i64.wrap (1 + IntKind.i64.wrap (a.tmod 3)) = v at hv ⊢;refine nK v hv ?_;rw [r9];have hB0 : BI v [] (fsV v []) 0 := ⟨(J9 hv (by simp) (by simp)).mono (by omega) (by omega), ⟨rfl, rfl, rfl⟩, by simp, by simp⟩;generalize fsV v [] = s0 at hB0 ⊢;conv=>whnf
 refine au.ind4 (fun (i : Nat) (b : Bool) (L : List Rc) (s : FSt) => [(8, .ptr (stN b) 0), (48, vi i)]) (fun i b L s => [(ax 30 0, fsC s (ax 30 1)), (stN b, stO false (ax 30 0) v L), (ax 30 1, fsM s)]) (fun i _ _ _ => l.length - i) (fun i b L s => i ≤ l.length ∧ BI v L s i) 0 false [] s0 rfl ⟨Nat.zero_le _, hB0⟩ ?_;rintro i b L s ⟨hi0, hB⟩ IH
 cases b with
 | false =>
  have hcc := qX l;conv=>whnf
  refine ae (fun hx => ?_) (fun hx => ?_)
  ·have hi := ap hsl hx;have hco := hok _ (List.getElem_mem hi)
   (conv=>whnf); (repeat ((with_reducible refine ac ?_ ?_); exact decide_eq_true (by omega); (conv=>whnf)))
   refine idxNat (by simpa using hi) ?_;generalize l[i] = c at hco ⊢;obtain ⟨o1, o2, o3⟩ := hco;conv=>whnf
   refine iY c.l c.g o1 o2 o3 fun q hq => ?_
   cases q with
   | true =>
    conv=>whnf
    refine cc ?_;conv=>whnf
    exact h
   | false =>
   obtain ⟨hsm, hl80, hg100⟩ := hq rfl;obtain ⟨hK, hcm, hvl, hLn⟩ := hB;conv=>whnf
   refine ae (fun hx2 => ?_) (fun hx2 => ?_)
   ·have hi2 := ap hkl hx2;have hko := hkk _ (List.getElem_mem hi2)
    (conv=>whnf); (repeat ((with_reducible refine ac ?_ ?_); exact decide_eq_true (by omega); (conv=>whnf)))
    refine idxNat (by simpa using hi2) ?_;conv=>whnf
    refine ae (fun hx3 => ?_) (fun hx3 => ?_)
    ·(conv=>whnf); (repeat ((with_reducible refine ac ?_ ?_); exact decide_eq_true (by omega); (conv=>whnf)))
     refine idxNat (by simpa using hi2) ?_;conv=>whnf
     refine mc s _ ?_;have hKf := hK.fall (MZ hko);rw [show fsM s = fsM (FSt.mk s.fs s.fail (kM (IntKind.i64.wrap (kp[i].tmod 7))) s.down) from rfl];generalize (FSt.mk s.fs s.fail (kM (IntKind.i64.wrap (kp[i].tmod 7))) s.down) = sf at hKf ⊢;conv=>whnf
     refine zg c.l hsm (by omega) c.g (by omega) c.w L (by omega) hKf (by omega) fun Pf ef ov Lf M s1 hKM hMl hMx => ?_
     (conv=>whnf); (repeat ((with_reducible refine ac ?_ ?_); exact decide_eq_true (by omega); (conv=>whnf)))
     refine idxNat (by simpa using hi2) ?_;conv=>whnf
     refine uw s1 [IntKind.i64.wrap kp[i]] hKM.hok (by omega) (by omega) (by simp) ?_;obtain ⟨m, bb, _, m2, m3, m4, m5⟩ := hKM.crash (by omega) [IntKind.i64.wrap kp[i]];have hcr : eo (s1.crash [IntKind.i64.wrap kp[i]]) := ⟨rfl, rfl, rfl⟩;generalize s1.crash [IntKind.i64.wrap kp[i]] = s4 at m4 m5 hcr ⊢;conv=>whnf
     refine vh s4 m5 (by omega) (by omega) hcr hK.hv m3 m4 1 (.inl rfl) fun s5 n1 n2 n3 => ?_;have hvt := hZ (l := c.l) (state := ar L) (given := c.g) (w := wen v c.w);have hvM : ∀ r ∈ M.take m, Vld r := fun r hr => by
      rcases hMx r (List.mem_of_mem_take hr) with hr | hr
      ·exact hvl r hr
      ·exact hvt r hr
     have hKn : KI v (M.take m) 0 s5 (10 + 1000 * i + 100) (1000000 + 4000000 * i + 1200000) := (KI.mk hK.hv m3.hm (Nat.le_refl _) n1 ⟨_, n3, by rw [List.take_length]; exact Nat.le_refl _⟩ : KI v (M.take m) (M.take m).length s5 _ _).zero;have hLm : (M.take m).length ≤ 128 * i + 64 := by rw [List.length_take]; omega
     clear hKf hKM m3 m4 m5 hcr n1 n3 hMx hvt hvl hK hcm hLn;generalize M.take m = L at hvM hKn hLm ⊢;have hvl := hvM;have hK := hKn;have hcm := n2;clear hvM hKn n2;generalize s5 = s at hK hcm ⊢;conv=>whnf
     have hcc := hK.hv;obtain ⟨D, hD⟩ : ∃ D, D = bG c.l (ar L) c.g (wen v c.w) := ⟨_, rfl⟩;have hcl := fun hck => lC (l := c.l) (L := L) (given := c.g) (w := wen v c.w) hck hvl;have hag := kz (l := c.l) (given := c.g) (w := wen v c.w) (fH c.l) L (wen v (c.w + 1));have hvt := hZ (l := c.l) (state := ar L) (given := c.g) (w := wen v c.w);have hD64 := gk c.l (ar L) c.g (wen v c.w);rw [show aJ c.l (ar L) c.g (wen v c.w) (cp c.l) = D from hD.symm] at hag;rw [← hD] at hcl hvt hD64;refine fI c.l hsm (by omega) c.g (by omega) c.w L (by omega) hK (by omega) hcm fun s2 hK2 hcm2 => ?_;rw [← hD] at hK2 ⊢;have htl := fL D;obtain ⟨L2, hL2⟩ : ∃ L2, L2 = L ++ aL D := ⟨_, rfl⟩;have hL2l : L2.length ≤ 128 * (i + 1) := by rw [hL2]; simp; omega
     have hvl2 : ∀ r ∈ L2, Vld r := fun r hr => by
      rw [hL2] at hr;rcases List.mem_append.1 hr with hr | hr
      ·exact hvl r hr
      ·exact hvt r hr
     rw [← hL2] at hK2 hag ⊢;have hL2d : ∀ r ∈ L2, r.deps.length < 1000000 := fun r hr => by have := (aQ (hK2.hm r hr)).deps; omega
     have hnc : (aq D).map nc = (gI c.l c.g).map nc := by
      by_cases hck : aV c.l = 0
      ·exact hcl hck
      ·rw [hD, gX hck, gI, cp, if_neg hck]; rfl
     obtain ⟨P, hP⟩ : ∃ P, P = aq D := ⟨_, rfl⟩;rw [← hP] at hnc hag ⊢;have hP64 : P.length ≤ 64 := by rw [hP]; simpa [aq] using hD64
     have hsP : (sps P).length = P.length := bA P;conv=>whnf
     refine ga c.l hsm c.g (by omega) fun C e hC he => ?_;rw [← hC] at hnc;rw [← he];have hCP : C.length = P.length := by have := congrArg List.length hnc; simp at this; omega
     have hsC : (sps C).length = C.length := bA C;conv=>whnf
     refine am (by simp) ?_;conv=>whnf
     refine am (by rw [hsP, hsC, hCP]; simp) ?_;rw [eO P] at hsP ⊢;rw [eO C];conv=>whnf
     refine au.ind1 (fun (k : Nat) => [(137, vi k)]) (fun _ => [(ax 30 0, fsC s2 (ax 30 1)), (stN true, stO false (ax 30 0) v L2), (ax 30 1, fsM s2)]) (fun k => P.length - k) (fun k => k ≤ P.length) 0 rfl (Nat.zero_le _) ?_;rintro k hk IH2;conv=>whnf
     refine ae (fun hx => ?_) (fun hx => ?_)
     ·have hx := ap hsP hx;have hy : k < C.length := by omega
      have hpc : nc P[k] = nc C[k] := by
       have := congrArg (fun z => z[k]?) hnc;simpa only [List.getElem?_map, List.getElem?_eq_getElem hx, List.getElem?_eq_getElem hy, Option.map_some, Option.some.injEq] using this
      (conv=>whnf); (repeat ((with_reducible refine ac ?_ ?_); exact decide_eq_true (by omega); (conv=>whnf)))
      refine idxNat (by simpa using hx) ?_
      (conv=>whnf); (repeat ((with_reducible refine ac ?_ ?_); exact decide_eq_true (by omega); (conv=>whnf)))
      refine idxNat (by simpa using hy) ?_;simp only [nc, Prod.mk.injEq] at hpc;conv=>whnf
      refine am (by rw [hpc.1]; simp) ?_
      (conv=>whnf); (repeat ((with_reducible refine ac ?_ ?_); exact decide_eq_true (by omega); (conv=>whnf)))
      refine idxNat (by simpa using hx) ?_
      (conv=>whnf); (repeat ((with_reducible refine ac ?_ ?_); exact decide_eq_true (by omega); (conv=>whnf)))
      refine idxNat (by simpa using hy) ?_;generalize P[k] = p at hpc ⊢;generalize C[k] = q at hpc ⊢;conv=>whnf
      refine am (by rw [hpc.2]; simp) ?_;conv=>whnf
      rw [al (by omega)];exact IH2 (k + 1) (by omega) (by omega)
     clear IH2 hx hk;conv=>whnf
     refine bY false v L2 (by omega) hL2d s2 ?_;conv=>whnf
     rw [show IntKind.u64.wrap ((c.w.toNat : Int) + 1) = ((c.w + 1).toNat : Int) from tL c.w 1];obtain ⟨g1, g2, g3⟩ := hag;refine fI c.l hsm (by omega) c.g (by omega) (c.w + 1) L2 (by omega) hK2 (by omega) hcm2 fun s3 hK3 hcm3 => ?_;rw [show aL (bG c.l (ar L2) c.g (wen v (c.w + 1))) = [] from g3, List.append_nil] at hK3 ⊢;obtain ⟨A, hA⟩ : ∃ A, A = aq (bG c.l (ar L2) c.g (wen v (c.w + 1))) := ⟨_, rfl⟩;have hAn : A.map nc = P.map nc := by rw [hA]; exact g1
     have hAr : ∀ x ∈ A, x.ran = false := fun x hx => by
      rw [hA] at hx;obtain ⟨d, hd, rfl⟩ := List.mem_map.1 hx;exact g2 d hd
     have hAP : A.length = P.length := by have := congrArg List.length hAn; simpa using this
     have hsA : (sps A).length = A.length := bA A;rw [← hA, ← he];conv=>whnf
     refine am (by simp) ?_;conv=>whnf
     refine am (by rw [hsP, hsA, hAP]; simp) ?_;conv=>whnf
     refine bY false v L2 (by omega) hL2d s3 ?_;conv=>whnf
     refine iJ L2 L2 (by omega) hL2d fun p hp => ?_;have hp : p = true := by rw [hp]; exact decide_eq_true rfl
     subst hp;rw [eO A] at hsA ⊢;conv=>whnf
     refine au.ind1 (fun (k : Nat) => [(198, vi k)]) (fun _ => [(ax 30 0, fsC s3 (ax 30 1)), (stN true, stO false (ax 30 0) v L2), (ax 30 1, fsM s3)]) (fun k => A.length - k) (fun k => k ≤ A.length) 0 rfl (Nat.zero_le _) ?_;rintro k hk IH2;conv=>whnf
     refine ae (fun hx => ?_) (fun hx => ?_)
     ·have hx := ap hsA hx;have hy : k < P.length := by omega
      have hpc : nc A[k] = nc P[k] := by
       have := congrArg (fun z => z[k]?) hAn;simpa only [List.getElem?_map, List.getElem?_eq_getElem hx, List.getElem?_eq_getElem hy, Option.map_some, Option.some.injEq] using this
      have hrn := hAr _ (List.getElem_mem hx)
      (conv=>whnf); (repeat ((with_reducible refine ac ?_ ?_); exact decide_eq_true (by omega); (conv=>whnf)))
      refine idxNat (by simpa using hx) ?_;conv=>whnf
      refine am hrn ?_
      (conv=>whnf); (repeat ((with_reducible refine ac ?_ ?_); exact decide_eq_true (by omega); (conv=>whnf)))
      refine idxNat (by simpa using hx) ?_
      (conv=>whnf); (repeat ((with_reducible refine ac ?_ ?_); exact decide_eq_true (by omega); (conv=>whnf)))
      refine idxNat (by simpa using hy) ?_;generalize A[k] = p at hpc ⊢;generalize P[k] = q at hpc ⊢;simp only [nc, Prod.mk.injEq] at hpc;conv=>whnf
      refine am (by rw [hpc.2]; simp) ?_;conv=>whnf
      rw [al (by omega)];exact IH2 (k + 1) (by omega) (by omega)
     conv=>whnf
     rw [al (by omega)];exact IH (i + 1) true L2 s3 ⟨by omega, ⟨hK3.mono (by omega) (by omega), hcm3, hvl2, hL2l⟩⟩ (by omega)
    ·conv=>whnf
     have hcc := hK.hv;obtain ⟨D, hD⟩ : ∃ D, D = bG c.l (ar L) c.g (wen v c.w) := ⟨_, rfl⟩;have hcl := fun hck => lC (l := c.l) (L := L) (given := c.g) (w := wen v c.w) hck hvl;have hag := kz (l := c.l) (given := c.g) (w := wen v c.w) (fH c.l) L (wen v (c.w + 1));have hvt := hZ (l := c.l) (state := ar L) (given := c.g) (w := wen v c.w);have hD64 := gk c.l (ar L) c.g (wen v c.w);rw [show aJ c.l (ar L) c.g (wen v c.w) (cp c.l) = D from hD.symm] at hag;rw [← hD] at hcl hvt hD64;refine fI c.l hsm (by omega) c.g (by omega) c.w L (by omega) hK (by omega) hcm fun s2 hK2 hcm2 => ?_;rw [← hD] at hK2 ⊢;have htl := fL D;obtain ⟨L2, hL2⟩ : ∃ L2, L2 = L ++ aL D := ⟨_, rfl⟩;have hL2l : L2.length ≤ 128 * (i + 1) := by rw [hL2]; simp; omega
     have hvl2 : ∀ r ∈ L2, Vld r := fun r hr => by
      rw [hL2] at hr;rcases List.mem_append.1 hr with hr | hr
      ·exact hvl r hr
      ·exact hvt r hr
     rw [← hL2] at hK2 hag ⊢;have hL2d : ∀ r ∈ L2, r.deps.length < 1000000 := fun r hr => by have := (aQ (hK2.hm r hr)).deps; omega
     have hnc : (aq D).map nc = (gI c.l c.g).map nc := by
      by_cases hck : aV c.l = 0
      ·exact hcl hck
      ·rw [hD, gX hck, gI, cp, if_neg hck]; rfl
     obtain ⟨P, hP⟩ : ∃ P, P = aq D := ⟨_, rfl⟩;rw [← hP] at hnc hag ⊢;have hP64 : P.length ≤ 64 := by rw [hP]; simpa [aq] using hD64
     have hsP : (sps P).length = P.length := bA P;conv=>whnf
     refine ga c.l hsm c.g (by omega) fun C e hC he => ?_;rw [← hC] at hnc;rw [← he];have hCP : C.length = P.length := by have := congrArg List.length hnc; simp at this; omega
     have hsC : (sps C).length = C.length := bA C;conv=>whnf
     refine am (by simp) ?_;conv=>whnf
     refine am (by rw [hsP, hsC, hCP]; simp) ?_;rw [eO P] at hsP ⊢;rw [eO C];conv=>whnf
     refine au.ind1 (fun (k : Nat) => [(137, vi k)]) (fun _ => [(ax 30 0, fsC s2 (ax 30 1)), (stN false, stO false (ax 30 0) v L2), (ax 30 1, fsM s2)]) (fun k => P.length - k) (fun k => k ≤ P.length) 0 rfl (Nat.zero_le _) ?_;rintro k hk IH2;conv=>whnf
     refine ae (fun hx => ?_) (fun hx => ?_)
     ·have hx := ap hsP hx;have hy : k < C.length := by omega
      have hpc : nc P[k] = nc C[k] := by
       have := congrArg (fun z => z[k]?) hnc;simpa only [List.getElem?_map, List.getElem?_eq_getElem hx, List.getElem?_eq_getElem hy, Option.map_some, Option.some.injEq] using this
      (conv=>whnf); (repeat ((with_reducible refine ac ?_ ?_); exact decide_eq_true (by omega); (conv=>whnf)))
      refine idxNat (by simpa using hx) ?_
      (conv=>whnf); (repeat ((with_reducible refine ac ?_ ?_); exact decide_eq_true (by omega); (conv=>whnf)))
      refine idxNat (by simpa using hy) ?_;simp only [nc, Prod.mk.injEq] at hpc;conv=>whnf
      refine am (by rw [hpc.1]; simp) ?_
      (conv=>whnf); (repeat ((with_reducible refine ac ?_ ?_); exact decide_eq_true (by omega); (conv=>whnf)))
      refine idxNat (by simpa using hx) ?_
      (conv=>whnf); (repeat ((with_reducible refine ac ?_ ?_); exact decide_eq_true (by omega); (conv=>whnf)))
      refine idxNat (by simpa using hy) ?_;generalize P[k] = p at hpc ⊢;generalize C[k] = q at hpc ⊢;conv=>whnf
      refine am (by rw [hpc.2]; simp) ?_;conv=>whnf
      rw [al (by omega)];exact IH2 (k + 1) (by omega) (by omega)
     clear IH2 hx hk;conv=>whnf
     refine bY false v L2 (by omega) hL2d s2 ?_;conv=>whnf
     rw [show IntKind.u64.wrap ((c.w.toNat : Int) + 1) = ((c.w + 1).toNat : Int) from tL c.w 1];obtain ⟨g1, g2, g3⟩ := hag;refine fI c.l hsm (by omega) c.g (by omega) (c.w + 1) L2 (by omega) hK2 (by omega) hcm2 fun s3 hK3 hcm3 => ?_;rw [show aL (bG c.l (ar L2) c.g (wen v (c.w + 1))) = [] from g3, List.append_nil] at hK3 ⊢;obtain ⟨A, hA⟩ : ∃ A, A = aq (bG c.l (ar L2) c.g (wen v (c.w + 1))) := ⟨_, rfl⟩;have hAn : A.map nc = P.map nc := by rw [hA]; exact g1
     have hAr : ∀ x ∈ A, x.ran = false := fun x hx => by
      rw [hA] at hx;obtain ⟨d, hd, rfl⟩ := List.mem_map.1 hx;exact g2 d hd
     have hAP : A.length = P.length := by have := congrArg List.length hAn; simpa using this
     have hsA : (sps A).length = A.length := bA A;rw [← hA, ← he];conv=>whnf
     refine am (by simp) ?_;conv=>whnf
     refine am (by rw [hsP, hsA, hAP]; simp) ?_;conv=>whnf
     refine bY false v L2 (by omega) hL2d s3 ?_;conv=>whnf
     refine iJ L2 L2 (by omega) hL2d fun p hp => ?_;have hp : p = true := by rw [hp]; exact decide_eq_true rfl
     subst hp;rw [eO A] at hsA ⊢;conv=>whnf
     refine au.ind1 (fun (k : Nat) => [(198, vi k)]) (fun _ => [(ax 30 0, fsC s3 (ax 30 1)), (stN false, stO false (ax 30 0) v L2), (ax 30 1, fsM s3)]) (fun k => A.length - k) (fun k => k ≤ A.length) 0 rfl (Nat.zero_le _) ?_;rintro k hk IH2;conv=>whnf
     refine ae (fun hx => ?_) (fun hx => ?_)
     ·have hx := ap hsA hx;have hy : k < P.length := by omega
      have hpc : nc A[k] = nc P[k] := by
       have := congrArg (fun z => z[k]?) hAn;simpa only [List.getElem?_map, List.getElem?_eq_getElem hx, List.getElem?_eq_getElem hy, Option.map_some, Option.some.injEq] using this
      have hrn := hAr _ (List.getElem_mem hx)
      (conv=>whnf); (repeat ((with_reducible refine ac ?_ ?_); exact decide_eq_true (by omega); (conv=>whnf)))
      refine idxNat (by simpa using hx) ?_;conv=>whnf
      refine am hrn ?_
      (conv=>whnf); (repeat ((with_reducible refine ac ?_ ?_); exact decide_eq_true (by omega); (conv=>whnf)))
      refine idxNat (by simpa using hx) ?_
      (conv=>whnf); (repeat ((with_reducible refine ac ?_ ?_); exact decide_eq_true (by omega); (conv=>whnf)))
      refine idxNat (by simpa using hy) ?_;generalize A[k] = p at hpc ⊢;generalize P[k] = q at hpc ⊢;simp only [nc, Prod.mk.injEq] at hpc;conv=>whnf
      refine am (by rw [hpc.2]; simp) ?_;conv=>whnf
      rw [al (by omega)];exact IH2 (k + 1) (by omega) (by omega)
     conv=>whnf
     rw [al (by omega)];exact IH (i + 1) false L2 s3 ⟨by omega, ⟨hK3.mono (by omega) (by omega), hcm3, hvl2, hL2l⟩⟩ (by omega)
   ·conv=>whnf
    have hcc := hK.hv;obtain ⟨D, hD⟩ : ∃ D, D = bG c.l (ar L) c.g (wen v c.w) := ⟨_, rfl⟩;have hcl := fun hck => lC (l := c.l) (L := L) (given := c.g) (w := wen v c.w) hck hvl;have hag := kz (l := c.l) (given := c.g) (w := wen v c.w) (fH c.l) L (wen v (c.w + 1));have hvt := hZ (l := c.l) (state := ar L) (given := c.g) (w := wen v c.w);have hD64 := gk c.l (ar L) c.g (wen v c.w);rw [show aJ c.l (ar L) c.g (wen v c.w) (cp c.l) = D from hD.symm] at hag;rw [← hD] at hcl hvt hD64;refine fI c.l hsm (by omega) c.g (by omega) c.w L (by omega) hK (by omega) hcm fun s2 hK2 hcm2 => ?_;rw [← hD] at hK2 ⊢;have htl := fL D;obtain ⟨L2, hL2⟩ : ∃ L2, L2 = L ++ aL D := ⟨_, rfl⟩;have hL2l : L2.length ≤ 128 * (i + 1) := by rw [hL2]; simp; omega
    have hvl2 : ∀ r ∈ L2, Vld r := fun r hr => by
     rw [hL2] at hr;rcases List.mem_append.1 hr with hr | hr
     ·exact hvl r hr
     ·exact hvt r hr
    rw [← hL2] at hK2 hag ⊢;have hL2d : ∀ r ∈ L2, r.deps.length < 1000000 := fun r hr => by have := (aQ (hK2.hm r hr)).deps; omega
    have hnc : (aq D).map nc = (gI c.l c.g).map nc := by
     by_cases hck : aV c.l = 0
     ·exact hcl hck
     ·rw [hD, gX hck, gI, cp, if_neg hck]; rfl
    obtain ⟨P, hP⟩ : ∃ P, P = aq D := ⟨_, rfl⟩;rw [← hP] at hnc hag ⊢;have hP64 : P.length ≤ 64 := by rw [hP]; simpa [aq] using hD64
    have hsP : (sps P).length = P.length := bA P;conv=>whnf
    refine ga c.l hsm c.g (by omega) fun C e hC he => ?_;rw [← hC] at hnc;rw [← he];have hCP : C.length = P.length := by have := congrArg List.length hnc; simp at this; omega
    have hsC : (sps C).length = C.length := bA C;conv=>whnf
    refine am (by simp) ?_;conv=>whnf
    refine am (by rw [hsP, hsC, hCP]; simp) ?_;rw [eO P] at hsP ⊢;rw [eO C];conv=>whnf
    refine au.ind1 (fun (k : Nat) => [(137, vi k)]) (fun _ => [(ax 30 0, fsC s2 (ax 30 1)), (stN false, stO false (ax 30 0) v L2), (ax 30 1, fsM s2)]) (fun k => P.length - k) (fun k => k ≤ P.length) 0 rfl (Nat.zero_le _) ?_;rintro k hk IH2;conv=>whnf
    refine ae (fun hx => ?_) (fun hx => ?_)
    ·have hx := ap hsP hx;have hy : k < C.length := by omega
     have hpc : nc P[k] = nc C[k] := by
      have := congrArg (fun z => z[k]?) hnc;simpa only [List.getElem?_map, List.getElem?_eq_getElem hx, List.getElem?_eq_getElem hy, Option.map_some, Option.some.injEq] using this
     (conv=>whnf); (repeat ((with_reducible refine ac ?_ ?_); exact decide_eq_true (by omega); (conv=>whnf)))
     refine idxNat (by simpa using hx) ?_
     (conv=>whnf); (repeat ((with_reducible refine ac ?_ ?_); exact decide_eq_true (by omega); (conv=>whnf)))
     refine idxNat (by simpa using hy) ?_;simp only [nc, Prod.mk.injEq] at hpc;conv=>whnf
     refine am (by rw [hpc.1]; simp) ?_
     (conv=>whnf); (repeat ((with_reducible refine ac ?_ ?_); exact decide_eq_true (by omega); (conv=>whnf)))
     refine idxNat (by simpa using hx) ?_
     (conv=>whnf); (repeat ((with_reducible refine ac ?_ ?_); exact decide_eq_true (by omega); (conv=>whnf)))
     refine idxNat (by simpa using hy) ?_;generalize P[k] = p at hpc ⊢;generalize C[k] = q at hpc ⊢;conv=>whnf
     refine am (by rw [hpc.2]; simp) ?_;conv=>whnf
     rw [al (by omega)];exact IH2 (k + 1) (by omega) (by omega)
    clear IH2 hx hk;conv=>whnf
    refine bY false v L2 (by omega) hL2d s2 ?_;conv=>whnf
    rw [show IntKind.u64.wrap ((c.w.toNat : Int) + 1) = ((c.w + 1).toNat : Int) from tL c.w 1];obtain ⟨g1, g2, g3⟩ := hag;refine fI c.l hsm (by omega) c.g (by omega) (c.w + 1) L2 (by omega) hK2 (by omega) hcm2 fun s3 hK3 hcm3 => ?_;rw [show aL (bG c.l (ar L2) c.g (wen v (c.w + 1))) = [] from g3, List.append_nil] at hK3 ⊢;obtain ⟨A, hA⟩ : ∃ A, A = aq (bG c.l (ar L2) c.g (wen v (c.w + 1))) := ⟨_, rfl⟩;have hAn : A.map nc = P.map nc := by rw [hA]; exact g1
    have hAr : ∀ x ∈ A, x.ran = false := fun x hx => by
     rw [hA] at hx;obtain ⟨d, hd, rfl⟩ := List.mem_map.1 hx;exact g2 d hd
    have hAP : A.length = P.length := by have := congrArg List.length hAn; simpa using this
    have hsA : (sps A).length = A.length := bA A;rw [← hA, ← he];conv=>whnf
    refine am (by simp) ?_;conv=>whnf
    refine am (by rw [hsP, hsA, hAP]; simp) ?_;conv=>whnf
    refine bY false v L2 (by omega) hL2d s3 ?_;conv=>whnf
    refine iJ L2 L2 (by omega) hL2d fun p hp => ?_;have hp : p = true := by rw [hp]; exact decide_eq_true rfl
    subst hp;rw [eO A] at hsA ⊢;conv=>whnf
    refine au.ind1 (fun (k : Nat) => [(198, vi k)]) (fun _ => [(ax 30 0, fsC s3 (ax 30 1)), (stN false, stO false (ax 30 0) v L2), (ax 30 1, fsM s3)]) (fun k => A.length - k) (fun k => k ≤ A.length) 0 rfl (Nat.zero_le _) ?_;rintro k hk IH2;conv=>whnf
    refine ae (fun hx => ?_) (fun hx => ?_)
    ·have hx := ap hsA hx;have hy : k < P.length := by omega
     have hpc : nc A[k] = nc P[k] := by
      have := congrArg (fun z => z[k]?) hAn;simpa only [List.getElem?_map, List.getElem?_eq_getElem hx, List.getElem?_eq_getElem hy, Option.map_some, Option.some.injEq] using this
     have hrn := hAr _ (List.getElem_mem hx)
     (conv=>whnf); (repeat ((with_reducible refine ac ?_ ?_); exact decide_eq_true (by omega); (conv=>whnf)))
     refine idxNat (by simpa using hx) ?_;conv=>whnf
     refine am hrn ?_
     (conv=>whnf); (repeat ((with_reducible refine ac ?_ ?_); exact decide_eq_true (by omega); (conv=>whnf)))
     refine idxNat (by simpa using hx) ?_
     (conv=>whnf); (repeat ((with_reducible refine ac ?_ ?_); exact decide_eq_true (by omega); (conv=>whnf)))
     refine idxNat (by simpa using hy) ?_;generalize A[k] = p at hpc ⊢;generalize P[k] = q at hpc ⊢;simp only [nc, Prod.mk.injEq] at hpc;conv=>whnf
     refine am (by rw [hpc.2]; simp) ?_;conv=>whnf
     rw [al (by omega)];exact IH2 (k + 1) (by omega) (by omega)
    conv=>whnf
    rw [al (by omega)];exact IH (i + 1) false L2 s3 ⟨by omega, ⟨hK3.mono (by omega) (by omega), hcm3, hvl2, hL2l⟩⟩ (by omega)
  ·conv=>whnf
   refine cc ?_;conv=>whnf
   exact h
 | true =>
  have hcc := qX l;conv=>whnf
  refine ae (fun hx => ?_) (fun hx => ?_)
  ·have hi := ap hsl hx;have hco := hok _ (List.getElem_mem hi)
   (conv=>whnf); (repeat ((with_reducible refine ac ?_ ?_); exact decide_eq_true (by omega); (conv=>whnf)))
   refine idxNat (by simpa using hi) ?_;generalize l[i] = c at hco ⊢;obtain ⟨o1, o2, o3⟩ := hco;conv=>whnf
   refine iY c.l c.g o1 o2 o3 fun q hq => ?_
   cases q with
   | true =>
    conv=>whnf
    refine cc ?_;conv=>whnf
    exact h
   | false =>
   obtain ⟨hsm, hl80, hg100⟩ := hq rfl;obtain ⟨hK, hcm, hvl, hLn⟩ := hB;conv=>whnf
   refine ae (fun hx2 => ?_) (fun hx2 => ?_)
   ·have hi2 := ap hkl hx2;have hko := hkk _ (List.getElem_mem hi2)
    (conv=>whnf); (repeat ((with_reducible refine ac ?_ ?_); exact decide_eq_true (by omega); (conv=>whnf)))
    refine idxNat (by simpa using hi2) ?_;conv=>whnf
    refine ae (fun hx3 => ?_) (fun hx3 => ?_)
    ·(conv=>whnf); (repeat ((with_reducible refine ac ?_ ?_); exact decide_eq_true (by omega); (conv=>whnf)))
     refine idxNat (by simpa using hi2) ?_;conv=>whnf
     refine mc s _ ?_;have hKf := hK.fall (MZ hko);rw [show fsM s = fsM (FSt.mk s.fs s.fail (kM (IntKind.i64.wrap (kp[i].tmod 7))) s.down) from rfl];generalize (FSt.mk s.fs s.fail (kM (IntKind.i64.wrap (kp[i].tmod 7))) s.down) = sf at hKf ⊢;conv=>whnf
     refine zg c.l hsm (by omega) c.g (by omega) c.w L (by omega) hKf (by omega) fun Pf ef ov Lf M s1 hKM hMl hMx => ?_
     (conv=>whnf); (repeat ((with_reducible refine ac ?_ ?_); exact decide_eq_true (by omega); (conv=>whnf)))
     refine idxNat (by simpa using hi2) ?_;conv=>whnf
     refine uw s1 [IntKind.i64.wrap kp[i]] hKM.hok (by omega) (by omega) (by simp) ?_;obtain ⟨m, bb, _, m2, m3, m4, m5⟩ := hKM.crash (by omega) [IntKind.i64.wrap kp[i]];have hcr : eo (s1.crash [IntKind.i64.wrap kp[i]]) := ⟨rfl, rfl, rfl⟩;generalize s1.crash [IntKind.i64.wrap kp[i]] = s4 at m4 m5 hcr ⊢;conv=>whnf
     refine vh s4 m5 (by omega) (by omega) hcr hK.hv m3 m4 1 (.inl rfl) fun s5 n1 n2 n3 => ?_;have hvt := hZ (l := c.l) (state := ar L) (given := c.g) (w := wen v c.w);have hvM : ∀ r ∈ M.take m, Vld r := fun r hr => by
      rcases hMx r (List.mem_of_mem_take hr) with hr | hr
      ·exact hvl r hr
      ·exact hvt r hr
     have hKn : KI v (M.take m) 0 s5 (10 + 1000 * i + 100) (1000000 + 4000000 * i + 1200000) := (KI.mk hK.hv m3.hm (Nat.le_refl _) n1 ⟨_, n3, by rw [List.take_length]; exact Nat.le_refl _⟩ : KI v (M.take m) (M.take m).length s5 _ _).zero;have hLm : (M.take m).length ≤ 128 * i + 64 := by rw [List.length_take]; omega
     clear hKf hKM m3 m4 m5 hcr n1 n3 hMx hvt hvl hK hcm hLn;generalize M.take m = L at hvM hKn hLm ⊢;have hvl := hvM;have hK := hKn;have hcm := n2;clear hvM hKn n2;generalize s5 = s at hK hcm ⊢;conv=>whnf
     have hcc := hK.hv;obtain ⟨D, hD⟩ : ∃ D, D = bG c.l (ar L) c.g (wen v c.w) := ⟨_, rfl⟩;have hcl := fun hck => lC (l := c.l) (L := L) (given := c.g) (w := wen v c.w) hck hvl;have hag := kz (l := c.l) (given := c.g) (w := wen v c.w) (fH c.l) L (wen v (c.w + 1));have hvt := hZ (l := c.l) (state := ar L) (given := c.g) (w := wen v c.w);have hD64 := gk c.l (ar L) c.g (wen v c.w);rw [show aJ c.l (ar L) c.g (wen v c.w) (cp c.l) = D from hD.symm] at hag;rw [← hD] at hcl hvt hD64;refine fI c.l hsm (by omega) c.g (by omega) c.w L (by omega) hK (by omega) hcm fun s2 hK2 hcm2 => ?_;rw [← hD] at hK2 ⊢;have htl := fL D;obtain ⟨L2, hL2⟩ : ∃ L2, L2 = L ++ aL D := ⟨_, rfl⟩;have hL2l : L2.length ≤ 128 * (i + 1) := by rw [hL2]; simp; omega
     have hvl2 : ∀ r ∈ L2, Vld r := fun r hr => by
      rw [hL2] at hr;rcases List.mem_append.1 hr with hr | hr
      ·exact hvl r hr
      ·exact hvt r hr
     rw [← hL2] at hK2 hag ⊢;have hL2d : ∀ r ∈ L2, r.deps.length < 1000000 := fun r hr => by have := (aQ (hK2.hm r hr)).deps; omega
     have hnc : (aq D).map nc = (gI c.l c.g).map nc := by
      by_cases hck : aV c.l = 0
      ·exact hcl hck
      ·rw [hD, gX hck, gI, cp, if_neg hck]; rfl
     obtain ⟨P, hP⟩ : ∃ P, P = aq D := ⟨_, rfl⟩;rw [← hP] at hnc hag ⊢;have hP64 : P.length ≤ 64 := by rw [hP]; simpa [aq] using hD64
     have hsP : (sps P).length = P.length := bA P;conv=>whnf
     refine ga c.l hsm c.g (by omega) fun C e hC he => ?_;rw [← hC] at hnc;rw [← he];have hCP : C.length = P.length := by have := congrArg List.length hnc; simp at this; omega
     have hsC : (sps C).length = C.length := bA C;conv=>whnf
     refine am (by simp) ?_;conv=>whnf
     refine am (by rw [hsP, hsC, hCP]; simp) ?_;rw [eO P] at hsP ⊢;rw [eO C];conv=>whnf
     refine au.ind1 (fun (k : Nat) => [(137, vi k)]) (fun _ => [(ax 30 0, fsC s2 (ax 30 1)), (stN true, stO false (ax 30 0) v L2), (ax 30 1, fsM s2)]) (fun k => P.length - k) (fun k => k ≤ P.length) 0 rfl (Nat.zero_le _) ?_;rintro k hk IH2;conv=>whnf
     refine ae (fun hx => ?_) (fun hx => ?_)
     ·have hx := ap hsP hx;have hy : k < C.length := by omega
      have hpc : nc P[k] = nc C[k] := by
       have := congrArg (fun z => z[k]?) hnc;simpa only [List.getElem?_map, List.getElem?_eq_getElem hx, List.getElem?_eq_getElem hy, Option.map_some, Option.some.injEq] using this
      (conv=>whnf); (repeat ((with_reducible refine ac ?_ ?_); exact decide_eq_true (by omega); (conv=>whnf)))
      refine idxNat (by simpa using hx) ?_
      (conv=>whnf); (repeat ((with_reducible refine ac ?_ ?_); exact decide_eq_true (by omega); (conv=>whnf)))
      refine idxNat (by simpa using hy) ?_;simp only [nc, Prod.mk.injEq] at hpc;conv=>whnf
      refine am (by rw [hpc.1]; simp) ?_
      (conv=>whnf); (repeat ((with_reducible refine ac ?_ ?_); exact decide_eq_true (by omega); (conv=>whnf)))
      refine idxNat (by simpa using hx) ?_
      (conv=>whnf); (repeat ((with_reducible refine ac ?_ ?_); exact decide_eq_true (by omega); (conv=>whnf)))
      refine idxNat (by simpa using hy) ?_;generalize P[k] = p at hpc ⊢;generalize C[k] = q at hpc ⊢;conv=>whnf
      refine am (by rw [hpc.2]; simp) ?_;conv=>whnf
      rw [al (by omega)];exact IH2 (k + 1) (by omega) (by omega)
     clear IH2 hx hk;conv=>whnf
     refine bY false v L2 (by omega) hL2d s2 ?_;conv=>whnf
     rw [show IntKind.u64.wrap ((c.w.toNat : Int) + 1) = ((c.w + 1).toNat : Int) from tL c.w 1];obtain ⟨g1, g2, g3⟩ := hag;refine fI c.l hsm (by omega) c.g (by omega) (c.w + 1) L2 (by omega) hK2 (by omega) hcm2 fun s3 hK3 hcm3 => ?_;rw [show aL (bG c.l (ar L2) c.g (wen v (c.w + 1))) = [] from g3, List.append_nil] at hK3 ⊢;obtain ⟨A, hA⟩ : ∃ A, A = aq (bG c.l (ar L2) c.g (wen v (c.w + 1))) := ⟨_, rfl⟩;have hAn : A.map nc = P.map nc := by rw [hA]; exact g1
     have hAr : ∀ x ∈ A, x.ran = false := fun x hx => by
      rw [hA] at hx;obtain ⟨d, hd, rfl⟩ := List.mem_map.1 hx;exact g2 d hd
     have hAP : A.length = P.length := by have := congrArg List.length hAn; simpa using this
     have hsA : (sps A).length = A.length := bA A;rw [← hA, ← he];conv=>whnf
     refine am (by simp) ?_;conv=>whnf
     refine am (by rw [hsP, hsA, hAP]; simp) ?_;conv=>whnf
     refine bY false v L2 (by omega) hL2d s3 ?_;conv=>whnf
     refine iJ L2 L2 (by omega) hL2d fun p hp => ?_;have hp : p = true := by rw [hp]; exact decide_eq_true rfl
     subst hp;rw [eO A] at hsA ⊢;conv=>whnf
     refine au.ind1 (fun (k : Nat) => [(198, vi k)]) (fun _ => [(ax 30 0, fsC s3 (ax 30 1)), (stN true, stO false (ax 30 0) v L2), (ax 30 1, fsM s3)]) (fun k => A.length - k) (fun k => k ≤ A.length) 0 rfl (Nat.zero_le _) ?_;rintro k hk IH2;conv=>whnf
     refine ae (fun hx => ?_) (fun hx => ?_)
     ·have hx := ap hsA hx;have hy : k < P.length := by omega
      have hpc : nc A[k] = nc P[k] := by
       have := congrArg (fun z => z[k]?) hAn;simpa only [List.getElem?_map, List.getElem?_eq_getElem hx, List.getElem?_eq_getElem hy, Option.map_some, Option.some.injEq] using this
      have hrn := hAr _ (List.getElem_mem hx)
      (conv=>whnf); (repeat ((with_reducible refine ac ?_ ?_); exact decide_eq_true (by omega); (conv=>whnf)))
      refine idxNat (by simpa using hx) ?_;conv=>whnf
      refine am hrn ?_
      (conv=>whnf); (repeat ((with_reducible refine ac ?_ ?_); exact decide_eq_true (by omega); (conv=>whnf)))
      refine idxNat (by simpa using hx) ?_
      (conv=>whnf); (repeat ((with_reducible refine ac ?_ ?_); exact decide_eq_true (by omega); (conv=>whnf)))
      refine idxNat (by simpa using hy) ?_;generalize A[k] = p at hpc ⊢;generalize P[k] = q at hpc ⊢;simp only [nc, Prod.mk.injEq] at hpc;conv=>whnf
      refine am (by rw [hpc.2]; simp) ?_;conv=>whnf
      rw [al (by omega)];exact IH2 (k + 1) (by omega) (by omega)
     conv=>whnf
     rw [al (by omega)];exact IH (i + 1) true L2 s3 ⟨by omega, ⟨hK3.mono (by omega) (by omega), hcm3, hvl2, hL2l⟩⟩ (by omega)
    ·conv=>whnf
     have hcc := hK.hv;obtain ⟨D, hD⟩ : ∃ D, D = bG c.l (ar L) c.g (wen v c.w) := ⟨_, rfl⟩;have hcl := fun hck => lC (l := c.l) (L := L) (given := c.g) (w := wen v c.w) hck hvl;have hag := kz (l := c.l) (given := c.g) (w := wen v c.w) (fH c.l) L (wen v (c.w + 1));have hvt := hZ (l := c.l) (state := ar L) (given := c.g) (w := wen v c.w);have hD64 := gk c.l (ar L) c.g (wen v c.w);rw [show aJ c.l (ar L) c.g (wen v c.w) (cp c.l) = D from hD.symm] at hag;rw [← hD] at hcl hvt hD64;refine fI c.l hsm (by omega) c.g (by omega) c.w L (by omega) hK (by omega) hcm fun s2 hK2 hcm2 => ?_;rw [← hD] at hK2 ⊢;have htl := fL D;obtain ⟨L2, hL2⟩ : ∃ L2, L2 = L ++ aL D := ⟨_, rfl⟩;have hL2l : L2.length ≤ 128 * (i + 1) := by rw [hL2]; simp; omega
     have hvl2 : ∀ r ∈ L2, Vld r := fun r hr => by
      rw [hL2] at hr;rcases List.mem_append.1 hr with hr | hr
      ·exact hvl r hr
      ·exact hvt r hr
     rw [← hL2] at hK2 hag ⊢;have hL2d : ∀ r ∈ L2, r.deps.length < 1000000 := fun r hr => by have := (aQ (hK2.hm r hr)).deps; omega
     have hnc : (aq D).map nc = (gI c.l c.g).map nc := by
      by_cases hck : aV c.l = 0
      ·exact hcl hck
      ·rw [hD, gX hck, gI, cp, if_neg hck]; rfl
     obtain ⟨P, hP⟩ : ∃ P, P = aq D := ⟨_, rfl⟩;rw [← hP] at hnc hag ⊢;have hP64 : P.length ≤ 64 := by rw [hP]; simpa [aq] using hD64
     have hsP : (sps P).length = P.length := bA P;conv=>whnf
     refine ga c.l hsm c.g (by omega) fun C e hC he => ?_;rw [← hC] at hnc;rw [← he];have hCP : C.length = P.length := by have := congrArg List.length hnc; simp at this; omega
     have hsC : (sps C).length = C.length := bA C;conv=>whnf
     refine am (by simp) ?_;conv=>whnf
     refine am (by rw [hsP, hsC, hCP]; simp) ?_;rw [eO P] at hsP ⊢;rw [eO C];conv=>whnf
     refine au.ind1 (fun (k : Nat) => [(137, vi k)]) (fun _ => [(ax 30 0, fsC s2 (ax 30 1)), (stN true, stO false (ax 30 0) v L2), (ax 30 1, fsM s2)]) (fun k => P.length - k) (fun k => k ≤ P.length) 0 rfl (Nat.zero_le _) ?_;rintro k hk IH2;conv=>whnf
     refine ae (fun hx => ?_) (fun hx => ?_)
     ·have hx := ap hsP hx;have hy : k < C.length := by omega
      have hpc : nc P[k] = nc C[k] := by
       have := congrArg (fun z => z[k]?) hnc;simpa only [List.getElem?_map, List.getElem?_eq_getElem hx, List.getElem?_eq_getElem hy, Option.map_some, Option.some.injEq] using this
      (conv=>whnf); (repeat ((with_reducible refine ac ?_ ?_); exact decide_eq_true (by omega); (conv=>whnf)))
      refine idxNat (by simpa using hx) ?_
      (conv=>whnf); (repeat ((with_reducible refine ac ?_ ?_); exact decide_eq_true (by omega); (conv=>whnf)))
      refine idxNat (by simpa using hy) ?_;simp only [nc, Prod.mk.injEq] at hpc;conv=>whnf
      refine am (by rw [hpc.1]; simp) ?_
      (conv=>whnf); (repeat ((with_reducible refine ac ?_ ?_); exact decide_eq_true (by omega); (conv=>whnf)))
      refine idxNat (by simpa using hx) ?_
      (conv=>whnf); (repeat ((with_reducible refine ac ?_ ?_); exact decide_eq_true (by omega); (conv=>whnf)))
      refine idxNat (by simpa using hy) ?_;generalize P[k] = p at hpc ⊢;generalize C[k] = q at hpc ⊢;conv=>whnf
      refine am (by rw [hpc.2]; simp) ?_;conv=>whnf
      rw [al (by omega)];exact IH2 (k + 1) (by omega) (by omega)
     clear IH2 hx hk;conv=>whnf
     refine bY false v L2 (by omega) hL2d s2 ?_;conv=>whnf
     rw [show IntKind.u64.wrap ((c.w.toNat : Int) + 1) = ((c.w + 1).toNat : Int) from tL c.w 1];obtain ⟨g1, g2, g3⟩ := hag;refine fI c.l hsm (by omega) c.g (by omega) (c.w + 1) L2 (by omega) hK2 (by omega) hcm2 fun s3 hK3 hcm3 => ?_;rw [show aL (bG c.l (ar L2) c.g (wen v (c.w + 1))) = [] from g3, List.append_nil] at hK3 ⊢;obtain ⟨A, hA⟩ : ∃ A, A = aq (bG c.l (ar L2) c.g (wen v (c.w + 1))) := ⟨_, rfl⟩;have hAn : A.map nc = P.map nc := by rw [hA]; exact g1
     have hAr : ∀ x ∈ A, x.ran = false := fun x hx => by
      rw [hA] at hx;obtain ⟨d, hd, rfl⟩ := List.mem_map.1 hx;exact g2 d hd
     have hAP : A.length = P.length := by have := congrArg List.length hAn; simpa using this
     have hsA : (sps A).length = A.length := bA A;rw [← hA, ← he];conv=>whnf
     refine am (by simp) ?_;conv=>whnf
     refine am (by rw [hsP, hsA, hAP]; simp) ?_;conv=>whnf
     refine bY false v L2 (by omega) hL2d s3 ?_;conv=>whnf
     refine iJ L2 L2 (by omega) hL2d fun p hp => ?_;have hp : p = true := by rw [hp]; exact decide_eq_true rfl
     subst hp;rw [eO A] at hsA ⊢;conv=>whnf
     refine au.ind1 (fun (k : Nat) => [(198, vi k)]) (fun _ => [(ax 30 0, fsC s3 (ax 30 1)), (stN true, stO false (ax 30 0) v L2), (ax 30 1, fsM s3)]) (fun k => A.length - k) (fun k => k ≤ A.length) 0 rfl (Nat.zero_le _) ?_;rintro k hk IH2;conv=>whnf
     refine ae (fun hx => ?_) (fun hx => ?_)
     ·have hx := ap hsA hx;have hy : k < P.length := by omega
      have hpc : nc A[k] = nc P[k] := by
       have := congrArg (fun z => z[k]?) hAn;simpa only [List.getElem?_map, List.getElem?_eq_getElem hx, List.getElem?_eq_getElem hy, Option.map_some, Option.some.injEq] using this
      have hrn := hAr _ (List.getElem_mem hx)
      (conv=>whnf); (repeat ((with_reducible refine ac ?_ ?_); exact decide_eq_true (by omega); (conv=>whnf)))
      refine idxNat (by simpa using hx) ?_;conv=>whnf
      refine am hrn ?_
      (conv=>whnf); (repeat ((with_reducible refine ac ?_ ?_); exact decide_eq_true (by omega); (conv=>whnf)))
      refine idxNat (by simpa using hx) ?_
      (conv=>whnf); (repeat ((with_reducible refine ac ?_ ?_); exact decide_eq_true (by omega); (conv=>whnf)))
      refine idxNat (by simpa using hy) ?_;generalize A[k] = p at hpc ⊢;generalize P[k] = q at hpc ⊢;simp only [nc, Prod.mk.injEq] at hpc;conv=>whnf
      refine am (by rw [hpc.2]; simp) ?_;conv=>whnf
      rw [al (by omega)];exact IH2 (k + 1) (by omega) (by omega)
     conv=>whnf
     rw [al (by omega)];exact IH (i + 1) true L2 s3 ⟨by omega, ⟨hK3.mono (by omega) (by omega), hcm3, hvl2, hL2l⟩⟩ (by omega)
   ·conv=>whnf
    have hcc := hK.hv;obtain ⟨D, hD⟩ : ∃ D, D = bG c.l (ar L) c.g (wen v c.w) := ⟨_, rfl⟩;have hcl := fun hck => lC (l := c.l) (L := L) (given := c.g) (w := wen v c.w) hck hvl;have hag := kz (l := c.l) (given := c.g) (w := wen v c.w) (fH c.l) L (wen v (c.w + 1));have hvt := hZ (l := c.l) (state := ar L) (given := c.g) (w := wen v c.w);have hD64 := gk c.l (ar L) c.g (wen v c.w);rw [show aJ c.l (ar L) c.g (wen v c.w) (cp c.l) = D from hD.symm] at hag;rw [← hD] at hcl hvt hD64;refine fI c.l hsm (by omega) c.g (by omega) c.w L (by omega) hK (by omega) hcm fun s2 hK2 hcm2 => ?_;rw [← hD] at hK2 ⊢;have htl := fL D;obtain ⟨L2, hL2⟩ : ∃ L2, L2 = L ++ aL D := ⟨_, rfl⟩;have hL2l : L2.length ≤ 128 * (i + 1) := by rw [hL2]; simp; omega
    have hvl2 : ∀ r ∈ L2, Vld r := fun r hr => by
     rw [hL2] at hr;rcases List.mem_append.1 hr with hr | hr
     ·exact hvl r hr
     ·exact hvt r hr
    rw [← hL2] at hK2 hag ⊢;have hL2d : ∀ r ∈ L2, r.deps.length < 1000000 := fun r hr => by have := (aQ (hK2.hm r hr)).deps; omega
    have hnc : (aq D).map nc = (gI c.l c.g).map nc := by
     by_cases hck : aV c.l = 0
     ·exact hcl hck
     ·rw [hD, gX hck, gI, cp, if_neg hck]; rfl
    obtain ⟨P, hP⟩ : ∃ P, P = aq D := ⟨_, rfl⟩;rw [← hP] at hnc hag ⊢;have hP64 : P.length ≤ 64 := by rw [hP]; simpa [aq] using hD64
    have hsP : (sps P).length = P.length := bA P;conv=>whnf
    refine ga c.l hsm c.g (by omega) fun C e hC he => ?_;rw [← hC] at hnc;rw [← he];have hCP : C.length = P.length := by have := congrArg List.length hnc; simp at this; omega
    have hsC : (sps C).length = C.length := bA C;conv=>whnf
    refine am (by simp) ?_;conv=>whnf
    refine am (by rw [hsP, hsC, hCP]; simp) ?_;rw [eO P] at hsP ⊢;rw [eO C];conv=>whnf
    refine au.ind1 (fun (k : Nat) => [(137, vi k)]) (fun _ => [(ax 30 0, fsC s2 (ax 30 1)), (stN true, stO false (ax 30 0) v L2), (ax 30 1, fsM s2)]) (fun k => P.length - k) (fun k => k ≤ P.length) 0 rfl (Nat.zero_le _) ?_;rintro k hk IH2;conv=>whnf
    refine ae (fun hx => ?_) (fun hx => ?_)
    ·have hx := ap hsP hx;have hy : k < C.length := by omega
     have hpc : nc P[k] = nc C[k] := by
      have := congrArg (fun z => z[k]?) hnc;simpa only [List.getElem?_map, List.getElem?_eq_getElem hx, List.getElem?_eq_getElem hy, Option.map_some, Option.some.injEq] using this
     (conv=>whnf); (repeat ((with_reducible refine ac ?_ ?_); exact decide_eq_true (by omega); (conv=>whnf)))
     refine idxNat (by simpa using hx) ?_
     (conv=>whnf); (repeat ((with_reducible refine ac ?_ ?_); exact decide_eq_true (by omega); (conv=>whnf)))
     refine idxNat (by simpa using hy) ?_;simp only [nc, Prod.mk.injEq] at hpc;conv=>whnf
     refine am (by rw [hpc.1]; simp) ?_
     (conv=>whnf); (repeat ((with_reducible refine ac ?_ ?_); exact decide_eq_true (by omega); (conv=>whnf)))
     refine idxNat (by simpa using hx) ?_
     (conv=>whnf); (repeat ((with_reducible refine ac ?_ ?_); exact decide_eq_true (by omega); (conv=>whnf)))
     refine idxNat (by simpa using hy) ?_;generalize P[k] = p at hpc ⊢;generalize C[k] = q at hpc ⊢;conv=>whnf
     refine am (by rw [hpc.2]; simp) ?_;conv=>whnf
     rw [al (by omega)];exact IH2 (k + 1) (by omega) (by omega)
    clear IH2 hx hk;conv=>whnf
    refine bY false v L2 (by omega) hL2d s2 ?_;conv=>whnf
    rw [show IntKind.u64.wrap ((c.w.toNat : Int) + 1) = ((c.w + 1).toNat : Int) from tL c.w 1];obtain ⟨g1, g2, g3⟩ := hag;refine fI c.l hsm (by omega) c.g (by omega) (c.w + 1) L2 (by omega) hK2 (by omega) hcm2 fun s3 hK3 hcm3 => ?_;rw [show aL (bG c.l (ar L2) c.g (wen v (c.w + 1))) = [] from g3, List.append_nil] at hK3 ⊢;obtain ⟨A, hA⟩ : ∃ A, A = aq (bG c.l (ar L2) c.g (wen v (c.w + 1))) := ⟨_, rfl⟩;have hAn : A.map nc = P.map nc := by rw [hA]; exact g1
    have hAr : ∀ x ∈ A, x.ran = false := fun x hx => by
     rw [hA] at hx;obtain ⟨d, hd, rfl⟩ := List.mem_map.1 hx;exact g2 d hd
    have hAP : A.length = P.length := by have := congrArg List.length hAn; simpa using this
    have hsA : (sps A).length = A.length := bA A;rw [← hA, ← he];conv=>whnf
    refine am (by simp) ?_;conv=>whnf
    refine am (by rw [hsP, hsA, hAP]; simp) ?_;conv=>whnf
    refine bY false v L2 (by omega) hL2d s3 ?_;conv=>whnf
    refine iJ L2 L2 (by omega) hL2d fun p hp => ?_;have hp : p = true := by rw [hp]; exact decide_eq_true rfl
    subst hp;rw [eO A] at hsA ⊢;conv=>whnf
    refine au.ind1 (fun (k : Nat) => [(198, vi k)]) (fun _ => [(ax 30 0, fsC s3 (ax 30 1)), (stN true, stO false (ax 30 0) v L2), (ax 30 1, fsM s3)]) (fun k => A.length - k) (fun k => k ≤ A.length) 0 rfl (Nat.zero_le _) ?_;rintro k hk IH2;conv=>whnf
    refine ae (fun hx => ?_) (fun hx => ?_)
    ·have hx := ap hsA hx;have hy : k < P.length := by omega
     have hpc : nc A[k] = nc P[k] := by
      have := congrArg (fun z => z[k]?) hAn;simpa only [List.getElem?_map, List.getElem?_eq_getElem hx, List.getElem?_eq_getElem hy, Option.map_some, Option.some.injEq] using this
     have hrn := hAr _ (List.getElem_mem hx)
     (conv=>whnf); (repeat ((with_reducible refine ac ?_ ?_); exact decide_eq_true (by omega); (conv=>whnf)))
     refine idxNat (by simpa using hx) ?_;conv=>whnf
     refine am hrn ?_
     (conv=>whnf); (repeat ((with_reducible refine ac ?_ ?_); exact decide_eq_true (by omega); (conv=>whnf)))
     refine idxNat (by simpa using hx) ?_
     (conv=>whnf); (repeat ((with_reducible refine ac ?_ ?_); exact decide_eq_true (by omega); (conv=>whnf)))
     refine idxNat (by simpa using hy) ?_;generalize A[k] = p at hpc ⊢;generalize P[k] = q at hpc ⊢;simp only [nc, Prod.mk.injEq] at hpc;conv=>whnf
     refine am (by rw [hpc.2]; simp) ?_;conv=>whnf
     rw [al (by omega)];exact IH2 (k + 1) (by omega) (by omega)
    conv=>whnf
    rw [al (by omega)];exact IH (i + 1) true L2 s3 ⟨by omega, ⟨hK3.mono (by omega) (by omega), hcm3, hvl2, hL2l⟩⟩ (by omega)
  ·conv=>whnf
   refine cc ?_;conv=>whnf
   exact h
theorem Bl {x : List (List AV)} (h : ∀ y ∈ x, cA tab 11 35 y) : ∃ l : List Cs, x = css l ∧ ∀ c ∈ l, c.ok := by
 induction x with
 | nil => exact ⟨[], rfl, by simp⟩
 | cons y x ih =>
  obtain ⟨l, rfl, hl⟩ := ih fun z hz => h z (by simp [hz]);obtain ⟨m, g, w, rfl, a1, a2, a3⟩ := ml (n := 5) (h y (by simp));refine ⟨⟨m, g, w⟩ :: l, rfl, fun c hc => ?_⟩;rcases List.mem_cons.1 hc with rfl | hc
  ·exact ⟨a1, a2, a3⟩
  ·exact hl c hc
theorem DG {x : List (List AV)} (h : ∀ y ∈ x, cA tab 11 37 y) : ∃ l : List Int, x = Jg l ∧ ∀ c ∈ l, 0 ≤ c ∧ c ≤ 65535 := by
 induction x with
 | nil => exact ⟨[], rfl, by simp⟩
 | cons y x ih =>
  obtain ⟨l, rfl, hl⟩ := ih fun z hz => h z (by simp [hz]);obtain ⟨u, rfl, hu⟩ : ∃ u, y = [.val (.int .u16 u)] ∧ (Lit.int .u16 u).wf = true := h y (by simp);simp only [Lit.wf, Bool.and_eq_true, decide_eq_true_eq] at hu;have e1 : IntKind.u16.min = 0 := rfl;have e2 : IntKind.u16.max = 65535 := rfl;rw [e1, e2] at hu;refine ⟨u :: l, rfl, fun c hc => ?_⟩;rcases List.mem_cons.1 hc with rfl | hc
  ·exact hu
  ·exact hl c hc
theorem BuildClean_row (l : List AV) (h : fT tab 12 [5, 22, 23] l) : ag Tryz.prog 3 l [] fun r _ => r = .val (.bool true) := by
 obtain ⟨a, l3, rfl, ha, h1⟩ := MJ h;obtain ⟨v, l4, rfl, h2, h3⟩ := h1;obtain ⟨x, e, hxl, hx⟩ : ∃ x : List (List AV), [v] = [.sl none 3 x] ∧ x.length ≤ maxLen ∧ ∀ y ∈ x, cA tab 11 35 y := h2;obtain ⟨cs, rfl, hcs⟩ := Bl hx;simp only [List.cons.injEq, and_true] at e;subst e;obtain ⟨v, l5, rfl, h4, h5⟩ := h3;obtain ⟨x, e, hyl, hy⟩ : ∃ x : List (List AV), [v] = [.sl none 1 x] ∧ x.length ≤ maxLen ∧ ∀ y ∈ x, cA tab 11 37 y := h4;obtain ⟨ks, rfl, hks⟩ := DG hy;simp only [List.cons.injEq, and_true] at e;subst e;obtain rfl := sE h5;exact tF a ha cs (by simpa [css] using hxl) hcs ks (by simpa [Jg] using hyl) hks rfl
end Go.Abs
end
