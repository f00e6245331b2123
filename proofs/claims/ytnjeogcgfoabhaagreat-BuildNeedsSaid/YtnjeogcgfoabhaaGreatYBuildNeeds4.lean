/- Several texts of this claim, one behind the other: PJ, PK, PL, PM, MC, PO, SA, SB, SC, SD, SE, TA, TB, TC, ZE, ZF, UD, UF, UG, UH, UA, UB, UC, UE, UI, UJ, UK, UL, UM. -/
import Derived.Test.YtnjeogcgfoabhaaGreatYBuildNeeds3
import Derived.Test.YtnjeogcgfoabhaaGreatE0BA
set_option maxRecDepth 100000
set_option maxHeartbeats 4000000
set_option linter.unusedVariables false
set_option linter.unusedSimpArgs false
section
namespace Go.Abs
open Go Go.Proofs Dig
attribute [local irreducible] aH aE aO firstIdx
theorem LF {v : Int} (hv : v = 2 ∨ v = 3) (l : List Rc) (hl : l.length ≤ 1100) (hm : ∀ r ∈ l, aR v r = true) (x : AV) (hx : x = .sl none 1 (c6 (cN v l))) (n : Int) {R} (h : R (.tup [.ptr 0 0, vi 0]) (qw (lI v [] l))) :
  ag Tryz.prog 180 [.agg [vi v, .sl none 7 (bf l), x, vi n]] [] R := by
 subst hx;refine ab (an := NH) tab_ok Tryz.func180 ?_;have hsl := be l;conv=>whnf
 refine oy ?_;conv=>whnf
 by_cases hl0 : l = []
 ·subst hl0;refine au.step ?_;conv=>whnf
  exact h
 have hi : 0 < l.length := List.length_pos_iff.2 hl0;rw [ix (show lI v [] l ≠ [] from by
  obtain ⟨j, hj⟩ : ∃ j, l.length = j + 1 := ⟨l.length - 1, by omega⟩;have e : lI v [] l = tbP v l (j + 1) := by unfold tbP; rw [← hj, List.take_length]
  rw [e, ib (by omega)];exact lm (ne1 hv) _ _)] at h
 refine au.step ?_;conv=>whnf
 refine aI (by rw [hsl]; exact decide_eq_true (by omega)) ?_
 (conv=>whnf); (repeat ((with_reducible refine ac ?_ ?_); exact decide_eq_true (by omega); (conv=>whnf)))
 refine aa (show (0 : Int).toNat < l.length by simpa using hi) ?_;rw [show l[(0 : Int).toNat]'(by simpa using hi) = l[0] from rfl];conv=>whnf
 refine zH hv l[0] (hm _ (List.getElem_mem hi)) ?_;conv=>whnf
 rw [show IntKind.i64.wrap ((0 : Int) + 1) = ((1 : Nat) : Int) from rfl];have hT1 : bz v [] l[0] = tbP v l 1 := (ib hi).symm;rw [hT1];refine au.ind2 (fun (i : Nat) (T : List B) => [(13, vi i)]) (fun i T => [(ax 9 0, bN (ax 22 0) (ax 22 1) T), (ax 22 0, bM T), (ax 22 1, bL T)]) (fun i _ => l.length - i) (fun i T => 1 ≤ i ∧ i ≤ l.length ∧ T = tbP v l i) 1 _ rfl ⟨by omega, hi, rfl⟩ ?_;rintro i T ⟨h00, h0, hT⟩ IH;conv=>whnf
 refine ae (fun hc => ?_) (fun hc => ?_)
 ·have hi := ap hsl hc;have hmt : ∀ r ∈ l.take i, aR v r = true := fun r hr => hm r (List.mem_of_mem_take hr);have hTl : T.length ≤ 20000 := by rw [hT]; exact rB (by omega) hmt
  have IH := IH (i + 1) _ ⟨by omega, hi, rfl⟩ (by omega);rw [ib hi, ← hT] at IH
  (conv=>whnf); (repeat ((with_reducible refine ac ?_ ?_); exact decide_eq_true (by omega); (conv=>whnf)))
  refine idxNat (by simpa using hi) ?_;conv=>whnf
  refine zG hv l[i] T (by omega) (hm _ (List.getElem_mem hi)) ?_;conv=>whnf
  rw [al (by omega)];exact IH
 ·have hi := aw hsl hc;rw [show tbP v l i = lI v [] l from by unfold tbP; rw [List.take_of_length_le hi]] at hT;subst hT;conv=>whnf
  exact h
theorem yN {v : Int} (hv : v = 2 ∨ v = 3) (r : Rc) (hm : aR v r = true) (t : List B) (ht : t.length < 80000) {R} (h : R (.tup [.sl none 1 (ai (ay (bw v t r))), vi 0]) (qw (bz v t r))) :
  ag Tryz.prog 181 [vi v, .ptr 0 0, .agg r.enc] (qw t) R := by
 refine ab (an := { NG with keep := [(4, [1, 9, 10, 20, 21, 22])] }) tab_ok Tryz.func181 ?_;rw [ix (lm (ne1 hv) t r)] at h;by_cases h0 : t = []
 ·subst h0;obtain ⟨t, ht0⟩ : ∃ t : List B, t = [] := ⟨_, rfl⟩;rw [show qw [] = [dq] from rfl];conv=>whnf
  refine zH hv r hm ?_;rw [← ht0] at h ⊢;have ht : t.length < 80000 := by rw [ht0]; simp
  have hpl := iD (t := t) (aQ hm) (by omega);have hpf := dK (t := t) (aQ hm) (by omega);have hpc := gc (v := v) (t := t) (aQ hm).deps;generalize hps : bw v t r = ps at hpl hpf hpc h ⊢;have hrl := aP ps;conv=>whnf
  refine au.step ?_;conv=>whnf
  refine aI (by rw [hrl]; exact decide_eq_true (by omega)) ?_
  (conv=>whnf); (repeat ((with_reducible refine ac ?_ ?_); exact decide_eq_true (by omega); (conv=>whnf)))
  refine aa (show (0 : Int).toNat < ps.length from by show 0 < ps.length; omega) ?_;rw [show ps[(0 : Int).toNat]'(by show 0 < ps.length; omega) = ps[0] from rfl];conv=>whnf
  refine ag.args (leL.cons (cy 1) (leL.refl _)) (d8 [] ps[0] (by simp) (hpl _ (List.getElem_mem _)).1 (hpl _ (List.getElem_mem _)).2 ?_);have h1 : bq ps[0] = ay (ps.take 1) := by
   rw [show ps.take 1 = [] ++ [ps[0]] from by cases ps with | nil => simp at hpc | cons a l => rfl, dF];rfl
  rw [List.nil_append, h1];conv=>whnf
  rw [show IntKind.i64.wrap ((0 : Int) + 1) = ((1 : Nat) : Int) from rfl];refine au.ind2 (fun (k : Nat) (c : B) => [(10, .sl none 1 (ai c)), (22, vi k)]) (fun k c => [(0, bN (ax 17 0) (ax 17 1) (bz v t r)), (ax 17 0, bM (bz v t r)), (ax 17 1, bL (bz v t r))]) (fun k _ => ps.length - k) (fun k c => k ≤ ps.length ∧ c = ay (ps.take k)) 1 _ rfl ⟨by omega, rfl⟩ ?_;rintro k c ⟨hk0, hc0⟩ IH2;have hcl : c.length ≤ 3008 := by have := eW ps k; rw [hc0]; omega
  conv=>whnf
  refine ae (fun hk => ?_) (fun hk => ?_)
  ·have hk := ap hrl hk;have hp := hpl _ (List.getElem_mem hk);have hS : c ++ bq ps[k] = ay (ps.take (k + 1)) := by
    rw [hc0, List.take_succ_eq_append_getElem hk, dF]
   have IH2 := IH2 (k + 1) _ ⟨hk, hS⟩ (by omega)
   (conv=>whnf); (repeat ((with_reducible refine ac ?_ ?_); exact decide_eq_true (by omega); (conv=>whnf)))
   refine idxNat (by simpa using hk) ?_;conv=>whnf
   refine d8 c ps[k] (by omega) hp.1 hp.2 ?_;conv=>whnf
   rw [al (by omega)];exact IH2
  ·have hk := aw hrl hk;rw [List.take_of_length_le hk] at hc0;subst hc0;conv=>whnf
   exact h
 ·rw [ix h0];conv=>whnf
  refine zG hv r t (by omega) hm ?_;have hpl := iD (t := t) (aQ hm) (by omega);have hpf := dK (t := t) (aQ hm) (by omega);have hpc := gc (v := v) (t := t) (aQ hm).deps;generalize hps : bw v t r = ps at hpl hpf hpc h ⊢;have hrl := aP ps;conv=>whnf
  refine au.step ?_;conv=>whnf
  refine aI (by rw [hrl]; exact decide_eq_true (by omega)) ?_
  (conv=>whnf); (repeat ((with_reducible refine ac ?_ ?_); exact decide_eq_true (by omega); (conv=>whnf)))
  refine aa (show (0 : Int).toNat < ps.length from by show 0 < ps.length; omega) ?_;rw [show ps[(0 : Int).toNat]'(by show 0 < ps.length; omega) = ps[0] from rfl];conv=>whnf
  refine ag.args (leL.cons (cy 1) (leL.refl _)) (d8 [] ps[0] (by simp) (hpl _ (List.getElem_mem _)).1 (hpl _ (List.getElem_mem _)).2 ?_);have h1 : bq ps[0] = ay (ps.take 1) := by
   rw [show ps.take 1 = [] ++ [ps[0]] from by cases ps with | nil => simp at hpc | cons a l => rfl, dF];rfl
  rw [List.nil_append, h1];conv=>whnf
  rw [show IntKind.i64.wrap ((0 : Int) + 1) = ((1 : Nat) : Int) from rfl];refine au.ind2 (fun (k : Nat) (c : B) => [(10, .sl none 1 (ai c)), (22, vi k)]) (fun k c => [(0, bN 1 2 (bz v t r)), (1, bM (bz v t r)), (2, bL (bz v t r))]) (fun k _ => ps.length - k) (fun k c => k ≤ ps.length ∧ c = ay (ps.take k)) 1 _ rfl ⟨by omega, rfl⟩ ?_;rintro k c ⟨hk0, hc0⟩ IH2;have hcl : c.length ≤ 3008 := by have := eW ps k; rw [hc0]; omega
  conv=>whnf
  refine ae (fun hk => ?_) (fun hk => ?_)
  ·have hk := ap hrl hk;have hp := hpl _ (List.getElem_mem hk);have hS : c ++ bq ps[k] = ay (ps.take (k + 1)) := by
    rw [hc0, List.take_succ_eq_append_getElem hk, dF]
   have IH2 := IH2 (k + 1) _ ⟨hk, hS⟩ (by omega)
   (conv=>whnf); (repeat ((with_reducible refine ac ?_ ?_); exact decide_eq_true (by omega); (conv=>whnf)))
   refine idxNat (by simpa using hk) ?_;conv=>whnf
   refine d8 c ps[k] (by omega) hp.1 hp.2 ?_;conv=>whnf
   rw [al (by omega)];exact IH2
  ·have hk := aw hrl hk;rw [List.take_of_length_le hk] at hc0;subst hc0;conv=>whnf
   exact h
theorem mM (l : List Rc) (hl : l.length < 1000000) {R} (h1 : l = [] → R (.val (.slice none 0 0)) []) (h2 : R (.sl (some 0) 7 (bf l)) [.row 67 7 (bf l).length]) :
  ag Tryz.prog 182 [.sl none 7 (bf l)] [] R := by
 refine ab (an := NF) tab_ok Tryz.func182 ?_;have hsl := be l;conv=>whnf
 intro b hb;refine ae (fun g => ?_) (fun g => ?_)
 ·have e := hb g;have e : l = [] := by
   cases l with
   | nil => rfl
   | cons r l => simp [bf] at e
  conv=>whnf
  exact h1 e
 ·conv=>whnf
  refine ⟨rfl, (by show (0 + (bf l).length) * (88 + 1) ≤ _; omega), ?_⟩;conv=>whnf
  rw [show [].length + (bf l).length = (bf l).length by simp, show [] ++ bf l = bf l from rfl];exact h2
theorem gS (b : List Nat) (hb : b.length < 1000000) {R} (h1 : b = [] → R (.val (.slice none 0 0)) []) (h : R (.sl (some 0) 1 (c6 b)) [.row 3 1 b.length]) : ag Tryz.prog 183 [.sl none 1 (c6 b)] [] R := by
 refine ab (an := { R5 with keepRes := true }) tab_ok Tryz.func183 ?_;have hsl := cb b;conv=>whnf
 intro p hp;refine ae (fun g => ?_) (fun g => ?_)
 ·have e := hp g;have e : b = [] := by cases b with | nil => rfl | cons a b => cases e
  conv=>whnf
  exact h1 e
 ·conv=>whnf
  refine ⟨rfl, (by show (0 + (c6 b).length) * (8 + 1) ≤ _; omega), ?_⟩;conv=>whnf
  rw [show [] ++ c6 b = c6 b from rfl, hsl, show [].length + b.length = b.length by simp];exact h
def cd (v : Int) (l : List Rc) (r : Rc) : B := ay (bw v (lI v [] l) r)
theorem ir (v : Int) (l : List Rc) (r : Rc) : aC v (l ++ [r]) = aC v l ++ cd v l r := by
 unfold aC cd;rw [eR, dG, List.append_assoc];simp [aW]
theorem dy (v : Int) (l : List Rc) (r : Rc) : cN v (l ++ [r]) = cN v l ++ [(aC v (l ++ [r])).length] := by
 unfold cN;rw [List.length_append, List.length_singleton, List.range_succ, List.map_append];congr 1
 ·refine List.map_congr_left fun i hi => ?_;have hi := List.mem_range.1 hi;rw [List.take_append_of_le_length (by omega)]
 ·rw [List.map_singleton, show l.length + 1 = (l ++ [r]).length by simp, List.take_length]
theorem ju (l : List Rc) (r : Rc) : bf (l ++ [r]) = bf l ++ [r.enc] := by simp [bf]
theorem gR (l : List Nat) (n : Nat) : c6 (l ++ [n]) = c6 l ++ [[vi (n : Int)]] := by simp [c6]
theorem EI {v : Int} (hv : v = 2 ∨ v = 3) (r : Rc) (hm : aR v r = true) (t : List B) (ht : t = []) {R} (h : R (.tup [.sl none 1 (ai (ay (bw v t r))), vi 0]) [bN 1 2 (bz v t r), bM (bz v t r), bL (bz v t r)]) :
  ag Tryz.prog 181 [vi v, .ptr 0 0, .agg r.enc] [dq] R := by
 have h1 := yN hv r hm t (by rw [ht]; simp) (R := R);rw [ix (lm (ne1 hv) t r)] at h1;have h2 := h1 h;rw [ht] at h2;exact h2
theorem EH {v : Int} (hv : v = 2 ∨ v = 3) (r : Rc) (hm : aR v r = true) (t : List B) (ht : t ≠ []) (hl : t.length < 80000) {R} (h : R (.tup [.sl none 1 (ai (ay (bw v t r))), vi 0]) [bN 1 2 (bz v t r), bM (bz v t r), bL (bz v t r)]) :
  ag Tryz.prog 181 [vi v, .ptr 0 0, .agg r.enc] [bN 1 2 t, bM t, bL t] R := by
 have h1 := yN hv r hm t hl (R := R);rw [ix (lm (ne1 hv) t r)] at h1;have h2 := h1 h;rw [ix ht] at h2;exact h2
theorem pT {v : Int} (hv : v = 2 ∨ v = 3) (s : FSt) (name : B) (hn : name.length < 1000000) {nb fb : Nat} (hk : FOk s nb fb) (hfb : fb ≤ 80000000) (l : List Rc) (hl : l.length ≤ 1100) (hm : ∀ r ∈ l, aR v r = true) (r : Rc) (hr : aR v r = true) {R}
  (h1 : (s.append name (cd v l r)).2 ≠ 0 → R (.tup [zF, vi (s.append name (cd v l r)).2]) [fsC (s.append name (cd v l r)).1 1, fsM (s.append name (cd v l r)).1])
  (h2 : (s.append name (cd v l r)).2 = 0 → R (.tup [.agg (ct v (l ++ [r])), vi 0]) [fsC (s.append name (cd v l r)).1 1, fsM (s.append name (cd v l r)).1]) :
  ag Tryz.prog 139 [.ptr 0 0, vs name, .agg (ct v l), .agg r.enc] [fsC s 1, fsM s] R := by
 have hv13 : 1 ≤ v ∧ v ≤ 3 := by omega
 refine ag.res ?_;refine ab (an := K9) tab_ok Tryz.func139 ?_;have hM : ∀ x ∈ l, kW v x := fun x hx => aQ (hm x hx);have hMr := aQ hr;have hfl := nv hm hl;have htl := lH (v := v) (l := l) (t := []) hM;simp at htl;have hpf := dK (v := v) (t := lI v [] l) hMr (by omega);have hsl := be l;have hel := gD v l;have hil := cb (cN v l);have hml : (cd v l r).length ≤ 3000 := hpf;conv=>whnf
 refine am (decide_eq_false (by omega)) ?_;conv=>whnf
 refine am (decide_eq_false (by omega)) ?_;conv=>whnf
 refine LF hv l (by omega) hm _ rfl _ ?_;obtain ⟨T, hT⟩ : ∃ T, T = lI v [] l := ⟨_, rfl⟩;have hmo : cd v l r = ay (bw v T r) := by rw [hT]; rfl
 rw [← hT] at htl ⊢;rw [hmo] at h1 h2 hml;have hend : IntKind.i64.wrap (((aC v l).length : Int) + ((ai (ay (bw v T r))).length : Int)) = ((aC v (l ++ [r])).length : Int) := by
  rw [ir, hmo, List.length_append, aM, aK (by omega) (by omega)];omega
 by_cases hl0 : T = []
 ·rw [show qw T = [dq] from by rw [hl0]; rfl];conv=>whnf
  refine EI hv r hr T hl0 ?_;conv=>whnf
  refine ls s name (ay (bw v T r)) hk.fail hk.fall (by omega) (by have := (hk.m.get name).2; omega) ?_;conv=>whnf
  refine ae (fun g => ?_) (fun g => ?_)
  ·conv=>whnf
   exact bB (h1 (by simpa using g))
  have h2 := h2 (by simpa using g);generalize ay (bw v T r) = F at hml hend h2 ⊢;conv=>whnf
  rw [hend];refine mM l (by omega) (fun e => ?_) ?_
  ·conv=>whnf
   refine fS r (by have := hMr.deps; omega) ?_;conv=>whnf
   refine ⟨by rw [bH]; simp only [List.length_cons, List.length_nil]; decide, ?_⟩;conv=>whnf
   obtain ⟨X, hXX⟩ : ∃ X, X = [r.enc] := ⟨_, rfl⟩;have hX : bf (l ++ [r]) = X := by rw [ju, e, hXX]; rfl
   refine gS (cN v l) (by omega) (fun e2 => ?_) ?_
   ·conv=>whnf
    refine ⟨by rw [aZ]; simp only [List.length_cons, List.length_nil]; decide, ?_⟩;conv=>whnf
    have er : ct v (l ++ [r]) = [vi v, .sl none 7 X, .sl none 1 [[vi ((aC v (l ++ [r])).length : Int)]], vi ((aC v (l ++ [r])).length : Int)] := by
     unfold ct;rw [dy, e2, ← hX];rfl
    rw [er, hXX] at h2;exact bB h2
   ·conv=>whnf
    refine ⟨hil.symm, by rw [hil, hel, aZ]; simp only [List.length_cons, List.length_nil]; omega, ?_⟩;conv=>whnf
    have er : ct v (l ++ [r]) = [vi v, .sl none 7 X, .sl none 1 (c6 (cN v l) ++ [[vi ((aC v (l ++ [r])).length : Int)]]), vi ((aC v (l ++ [r])).length : Int)] := by
     unfold ct;rw [← hX, dy, gR]
    rw [er, hXX] at h2;exact bB h2
  ·conv=>whnf
   refine fS r (by have := hMr.deps; omega) ?_;conv=>whnf
   refine ⟨rfl, by rw [bH, hsl]; simp only [List.length_cons, List.length_nil]; omega, ?_⟩;conv=>whnf
   obtain ⟨X, hXX⟩ : ∃ X, X = bf l ++ [r.enc] := ⟨_, rfl⟩;have hX : bf (l ++ [r]) = X := by rw [ju, hXX]
   refine gS (cN v l) (by omega) (fun e2 => ?_) ?_
   ·conv=>whnf
    refine ⟨by rw [aZ]; simp only [List.length_cons, List.length_nil]; decide, ?_⟩;conv=>whnf
    have er : ct v (l ++ [r]) = [vi v, .sl none 7 X, .sl none 1 [[vi ((aC v (l ++ [r])).length : Int)]], vi ((aC v (l ++ [r])).length : Int)] := by
     unfold ct;rw [dy, e2, ← hX];rfl
    rw [er, hXX] at h2;exact bB h2
   ·conv=>whnf
    refine ⟨hil.symm, by rw [hil, hel, aZ]; simp only [List.length_cons, List.length_nil]; omega, ?_⟩;conv=>whnf
    have er : ct v (l ++ [r]) = [vi v, .sl none 7 X, .sl none 1 (c6 (cN v l) ++ [[vi ((aC v (l ++ [r])).length : Int)]]), vi ((aC v (l ++ [r])).length : Int)] := by
     unfold ct;rw [← hX, dy, gR]
    rw [er, hXX] at h2;exact bB h2
 ·rw [ix hl0];conv=>whnf
  refine EH hv r hr T hl0 (by omega) ?_;conv=>whnf
  refine ls s name (ay (bw v T r)) hk.fail hk.fall (by omega) (by have := (hk.m.get name).2; omega) ?_;conv=>whnf
  refine ae (fun g => ?_) (fun g => ?_)
  ·conv=>whnf
   exact bB (h1 (by simpa using g))
  have h2 := h2 (by simpa using g);generalize ay (bw v T r) = F at hml hend h2 ⊢;conv=>whnf
  rw [hend];refine mM l (by omega) (fun e => ?_) ?_
  ·conv=>whnf
   refine fS r (by have := hMr.deps; omega) ?_;conv=>whnf
   refine ⟨by rw [bH]; simp only [List.length_cons, List.length_nil]; decide, ?_⟩;conv=>whnf
   obtain ⟨X, hXX⟩ : ∃ X, X = [r.enc] := ⟨_, rfl⟩;have hX : bf (l ++ [r]) = X := by rw [ju, e, hXX]; rfl
   refine gS (cN v l) (by omega) (fun e2 => ?_) ?_
   ·conv=>whnf
    refine ⟨by rw [aZ]; simp only [List.length_cons, List.length_nil]; decide, ?_⟩;conv=>whnf
    have er : ct v (l ++ [r]) = [vi v, .sl none 7 X, .sl none 1 [[vi ((aC v (l ++ [r])).length : Int)]], vi ((aC v (l ++ [r])).length : Int)] := by
     unfold ct;rw [dy, e2, ← hX];rfl
    rw [er, hXX] at h2;exact bB h2
   ·conv=>whnf
    refine ⟨hil.symm, by rw [hil, hel, aZ]; simp only [List.length_cons, List.length_nil]; omega, ?_⟩;conv=>whnf
    have er : ct v (l ++ [r]) = [vi v, .sl none 7 X, .sl none 1 (c6 (cN v l) ++ [[vi ((aC v (l ++ [r])).length : Int)]]), vi ((aC v (l ++ [r])).length : Int)] := by
     unfold ct;rw [← hX, dy, gR]
    rw [er, hXX] at h2;exact bB h2
  ·conv=>whnf
   refine fS r (by have := hMr.deps; omega) ?_;conv=>whnf
   refine ⟨rfl, by rw [bH, hsl]; simp only [List.length_cons, List.length_nil]; omega, ?_⟩;conv=>whnf
   obtain ⟨X, hXX⟩ : ∃ X, X = bf l ++ [r.enc] := ⟨_, rfl⟩;have hX : bf (l ++ [r]) = X := by rw [ju, hXX]
   refine gS (cN v l) (by omega) (fun e2 => ?_) ?_
   ·conv=>whnf
    refine ⟨by rw [aZ]; simp only [List.length_cons, List.length_nil]; decide, ?_⟩;conv=>whnf
    have er : ct v (l ++ [r]) = [vi v, .sl none 7 X, .sl none 1 [[vi ((aC v (l ++ [r])).length : Int)]], vi ((aC v (l ++ [r])).length : Int)] := by
     unfold ct;rw [dy, e2, ← hX];rfl
    rw [er, hXX] at h2;exact bB h2
   ·conv=>whnf
    refine ⟨hil.symm, by rw [hil, hel, aZ]; simp only [List.length_cons, List.length_nil]; omega, ?_⟩;conv=>whnf
    have er : ct v (l ++ [r]) = [vi v, .sl none 7 X, .sl none 1 (c6 (cN v l) ++ [[vi ((aC v (l ++ [r])).length : Int)]]), vi ((aC v (l ++ [r])).length : Int)] := by
     unfold ct;rw [← hX, dy, gR]
    rw [er, hXX] at h2;exact bB h2
theorem lh (p : B) (P : List B) : ay (p :: P) = bq p ++ ay P := rfl
theorem wM : ∀ (P : List B) (m : Nat), (∀ p ∈ P, 1 ≤ p.length ∧ p.length ≤ 2048) → m ≤ (ay P).length →
  ∃ (c : Nat) (t : B), c ≤ P.length ∧ (ay P).take m = ay (P.take c) ++ t ∧ qr t ∧ t.length < 3000 ∧ (c < P.length → m < (ay (P.take (c + 1))).length) := by
 intro P
 induction P with
 | nil =>
  intro m _ hm;exact ⟨0, [], by simp, by simp [ay], .inl rfl, by simp, fun h => by simp at h⟩
 | cons p P ih =>
  intro m hP hm;have hp := hP p List.mem_cons_self;have hfl := lU hp.2;rw [lh] at hm ⊢;by_cases hlt : m < (bq p).length
  ·refine ⟨0, (bq p).take m, by simp, ?_, ?_, by rw [List.length_take]; omega, fun _ => ?_⟩
   ·rw [List.take_append_of_le_length (by omega)];simp [ay]
   ·by_cases h0 : m = 0
    ·exact .inl (by rw [h0]; rfl)
    ·exact .inr ⟨p, m, hp.1, hp.2, by omega, hlt, rfl⟩
   ·rw [List.take_succ_cons, List.take_zero, lh, List.length_append];omega
  ·obtain ⟨m', rfl⟩ : ∃ m', m = (bq p).length + m' := ⟨m - (bq p).length, by omega⟩;rw [List.length_append] at hm;obtain ⟨c, t, h1, h2, h3, h4, h5⟩ := ih m' (fun q hq => hP q (List.mem_cons_of_mem _ hq)) (by omega);refine ⟨c + 1, t, by simpa using h1, ?_, h3, h4, fun h => ?_⟩
   ·rw [List.take_length_add_append, h2, List.take_succ_cons, lh, List.append_assoc]
   ·rw [List.take_succ_cons, lh, List.length_append];have := h5 (by simpa using h);omega
theorem CW {v : Int} (hv : v ≠ 1) : ∀ (l : List Rc) (T : List B) (c : Nat), (∀ r ∈ l, kW v r) → c ≤ (aW v T l).length →
  ∃ (j : Nat) (ms : List B), j ≤ l.length ∧ (aW v T l).take c = aW v T (l.take j) ++ ms.map bu ∧ ms.length < 100 ∧ (∀ m ∈ ms, m.length ≤ 64) ∧ ∀ i, i ≤ l.length → (aW v T (l.take i)).length ≤ c → i ≤ j := by
 intro l
 induction l with
 | nil =>
  intro T c _ hc;exact ⟨0, [], by simp, by simp [aW], by simp, by simp, fun i hi _ => by simpa using hi⟩
 | cons r l ih =>
  intro T c hM hc;have hMr := hM r List.mem_cons_self;have hd := hMr.deps;rw [aW] at hc ⊢;by_cases hlt : c < (bw v T r).length
  ·have hnl := lQ (bg r) T;have hnr := dw r;have hpp : bw v T r = (cI T (bg r)).map bu ++ [bS v (bz v T r) r] := by
    unfold bw fY;rw [if_neg hv]
   have hcl : c ≤ (cI T (bg r)).length := by
    rw [hpp] at hlt;simp at hlt;omega
   refine ⟨0, (cI T (bg r)).take c, by simp, ?_, by rw [List.length_take]; omega, ?_, fun i hi hle => ?_⟩
   ·rw [List.take_append_of_le_length (by omega), hpp, List.take_append_of_le_length (by simpa using hcl)];simp [aW, List.map_take]
   ·intro m hm;have h1 := vX (bg r) T m (List.mem_of_mem_take hm);have h2 : m ∈ bK r := ia.1 h1;exact (fM hMr m h2).2
   ·cases i with
    | zero => omega
    | succ i =>
     exfalso;rw [List.take_succ_cons, aW, List.length_append] at hle;omega
  ·obtain ⟨c', rfl⟩ : ∃ c', c = (bw v T r).length + c' := ⟨c - (bw v T r).length, by omega⟩;rw [List.length_append] at hc;obtain ⟨j, ms, h1, h2, h3, h4, h5⟩ := ih (bz v T r) c' (fun q hq => hM q (List.mem_cons_of_mem _ hq)) (by omega);refine ⟨j + 1, ms, by simpa using h1, ?_, h3, h4, fun i hi hle => ?_⟩
   ·rw [List.take_length_add_append, h2, List.take_succ_cons, aW, List.append_assoc]
   ·cases i with
    | zero => omega
    | succ i =>
     rw [List.take_succ_cons, aW, List.length_append] at hle;have := h5 i (by simpa using hi) (by omega);omega
theorem Ky {v : Int} (hv : v ≠ 1) {l : List Rc} (hm : ∀ r ∈ l, aR v r = true) (hl : l.length ≤ 1100) {m : Nat} (h8 : 8 ≤ m) (hle : m ≤ (aC v l).length) :
  ∃ (j : Nat) (ms : List B) (t : B), j ≤ l.length ∧ (aC v l).take m = aC v (l.take j) ++ ay (ms.map bu) ++ t ∧ ms.length < 100 ∧ (∀ m ∈ ms, m.length ≤ 64) ∧ qr t ∧ t.length < 3000 ∧ ∀ i, i ≤ l.length → (aC v (l.take i)).length ≤ m → i ≤ j := by
 have hM : ∀ r ∈ l, kW v r := fun r hr => aQ (hm r hr);have hlens := nS (v := v) (l := l) (t := []) hM (by simp; omega);obtain ⟨m', rfl⟩ : ∃ m', m = 8 + m' := ⟨m - 8, by omega⟩;rw [cr] at hle;obtain ⟨c, t, c1, c2, c3, c4, c5⟩ := wM (aW v [] l) m' hlens (by omega);obtain ⟨j, ms, j1, j2, j3, j4, j5⟩ := CW hv l [] c hM c1;refine ⟨j, ms, t, j1, ?_, j3, j4, c3, c4, fun i hi hil => j5 i hi ?_⟩
 ·unfold aC;rw [show 8 + m' = (dL v).length + m' from by rw [eV], List.take_length_add_append, c2, j2, dG];simp only [List.append_assoc]
 ·refine Nat.le_of_not_lt fun hlt => ?_;have e : aW v [] l = aW v [] (l.take i) ++ aW v (lI v [] (l.take i)) (l.drop i) := by rw [← eR, List.take_append_drop]
  have hlen : (aW v [] (l.take i)).length ≤ (aW v [] l).length := by rw [e, List.length_append]; omega
  have h1 := c5 (by omega);have h2 : (aW v [] l).take (c + 1) = (aW v [] (l.take i)).take (c + 1) := by
   rw [e, List.take_append_of_le_length (by omega)]
  rw [h2] at h1;have h3 := eW (aW v [] (l.take i)) (c + 1);rw [cr] at hil;omega
theorem cu.key {s : FSt} {name b : B} (h : cu s name b) : name ∈ kys s.fs := lT h
theorem cu.get {s : FSt} {name b : B} (h : cu s name b) : gF s.fs name = ⟨b, b.length⟩ := by unfold gF; rw [show lk s.fs name = _ from h]; rfl
theorem wz0 (n : U) : ((n.toNat : Int) == 0) = decide (n = 0) := by
 by_cases e : n = 0
 ·simp [e]
 ·have : n.toNat ≠ 0 := fun x => e (BitVec.eq_of_toNat_eq (by simpa using x));rw [decide_eq_false e]; simp; omega
theorem wz1 (n : U) : ((n.toNat : Int) != 0) = decide (n ≠ 0) := by
 show (!((n.toNat : Int) == 0)) = _;rw [wz0]; by_cases e : n = 0 <;> simp [e]
theorem dz0 (l : List Dp) : ((((dV l).length : Nat) : Int) == 0) = decide (l = []) := by
 rw [bF]
 cases l with
 | nil => rfl
 | cons a l => simp; omega
def lN (r : Rc) (i : Nat) : List B := r.target :: (r.deps.take i).map (·.name)
theorem vQ (r : Rc) {i : Nat} (hi : i ≤ r.deps.length) (s : B) : s ∉ lN r i ↔ s ≠ r.target ∧ ∀ (j : Nat) (hj : j < r.deps.length), j < i → r.deps[j].name ≠ s := by
 unfold lN;simp only [List.mem_cons, List.mem_map, not_or, not_exists, not_and];refine and_congr Iff.rfl ⟨fun h j hj hji e => h r.deps[j] ?_ e, fun h d hd e => ?_⟩
 ·have : (r.deps.take i)[j]'(by simp; omega) = r.deps[j] := by simp
  rw [← this]; exact List.getElem_mem _
 ·obtain ⟨j, hj, rfl⟩ := List.getElem_of_mem hd;simp only [List.length_take] at hj;rw [List.getElem_take] at e;exact h j (by omega) (by omega) e
theorem s6 (r : Rc) {i : Nat} (hi : i < r.deps.length) : lN r (i + 1) = lN r i ++ [r.deps[i].name] := by
 unfold lN;rw [List.take_succ_eq_append_getElem hi, List.map_append, List.cons_append];rfl
theorem la (v : Int) (r : Rc) (hd : r.deps.length < 100000) {R} (h : ∀ p, p = aR v r → R (.val (.bool p)) []) : ag Tryz.prog 103 [vi v, .agg r.enc] [] R := by
 refine ab (an := S5) tab_ok Tryz.func103 ?_;have hst := aG r.tag;have hsl := bF r.deps;conv=>whnf
 refine ae (fun g1 => ?_) (fun g1 => ?_)
 ·conv=>whnf
  exact h false (by rw [aR, if_pos (by rw [g1]; rfl)])
 conv=>whnf
 refine ae (fun g2 => ?_) (fun g2 => ?_)
 ·have g2 : 3 < v := by simpa using g2
  conv=>whnf
  exact h false (by rw [aR, if_pos (by rw [g1, decide_eq_true g2]; rfl)])
 have g2 : ¬ 3 < v := by simpa using g2
 have g1' : ¬ v < 1 := by simpa using g1
 conv=>whnf
 refine iU r.target ?_;conv=>whnf
 refine ae (fun g3 => ?_) (fun g3 => ?_)
 ·conv=>whnf
  exact h false (by rw [aR, if_pos (by rw [g3]; simp)])
 have hm : aR v r = if r.kind = 1 then !dU v r && (decide (r.tag.length ≤ 64) && pz v r) else if r.kind = 2 then decide (r = qf r) else false := by
  rw [aR, if_neg (by rw [g1, decide_eq_false g2, g3]; simp)]
 conv=>whnf
 refine ae (fun k2 => ?_) (fun k2 => ?_)
 ·have k2 : r.kind = 2 := by simpa using k2
  have hm2 : aR v r = (decide (r.rule = 0) && (decide (r.deps = []) && (decide (r.out = 0) && (decide (r.wen = 0) && decide (r.tag = []))))) := by
   rw [hm, if_neg (by rw [k2]; decide), if_pos k2];have : (r = qf r) ↔ (r.rule = 0 ∧ r.deps = [] ∧ r.out = 0 ∧ r.wen = 0 ∧ r.tag = []) := by
    constructor
    ·intro e;have := congrArg Rc.rule e;have := congrArg Rc.deps e;have := congrArg Rc.out e;have := congrArg Rc.wen e;have := congrArg Rc.tag e;simp only [qf] at *;refine ⟨?_, ?_, ?_, ?_, ?_⟩ <;> assumption
    ·rintro ⟨h1, h2, h3, h4, h5⟩
     cases r;simp only [qf] at *;subst k2 h1 h2 h3 h4 h5;rfl
   by_cases e : r = qf r
   ·obtain ⟨a1, a2, a3, a4, a5⟩ := this.1 e;rw [decide_eq_true e, decide_eq_true a1, decide_eq_true a2, decide_eq_true a3, decide_eq_true a4, decide_eq_true a5]; rfl
   ·rw [decide_eq_false e];refine (Bool.eq_false_iff.2 fun hx => e (this.2 ?_)).symm;simpa using hx
  clear hm;conv=>whnf
  rw [wz0];refine ae (fun e1 => ?_) (fun e1 => ?_)
  ·rw [e1, Bool.true_and] at hm2;conv=>whnf
   rw [dz0];refine ae (fun e2 => ?_) (fun e2 => ?_)
   ·rw [e2, Bool.true_and] at hm2;conv=>whnf
    rw [wz0];refine ae (fun e3 => ?_) (fun e3 => ?_)
    ·rw [e3, Bool.true_and] at hm2;conv=>whnf
     rw [wz0];refine ae (fun e4 => ?_) (fun e4 => ?_)
     ·rw [e4, Bool.true_and] at hm2;conv=>whnf
      refine h _ ?_;rw [hm2];exact decide_eq_decide.2 ⟨fun e => b9 e, fun e => by rw [e]; rfl⟩
     ·conv=>whnf
      exact h false (by rw [hm2, e4]; rfl)
    ·conv=>whnf
     exact h false (by rw [hm2, e3]; rfl)
   ·conv=>whnf
    exact h false (by rw [hm2, e2]; rfl)
  ·conv=>whnf
   exact h false (by rw [hm2, e1]; rfl)
 have k2 : ¬ r.kind = 2 := by simpa using k2
 rw [if_neg k2] at hm;conv=>whnf
 refine ae (fun k1 => ?_) (fun k1 => ?_)
 ·have k1 : ¬ r.kind = 1 := by simpa using k1
  conv=>whnf
  exact h false (by rw [hm, if_neg k1])
 have k1 : r.kind = 1 := by simpa using k1
 rw [if_pos k1] at hm;conv=>whnf
 rw [hsl];refine ae (fun q1 => ?_) (fun q1 => ?_)
 ·have hbad : decide (r.deps.length ≤ 16) = false := by simp at q1 ⊢; omega
  conv=>whnf
  exact h false (by rw [hm, pz, hbad]; simp)
 have hdl : decide (r.deps.length ≤ 16) = true := by simp at q1 ⊢; omega
 conv=>whnf
 rw [hst];refine ae (fun q2 => ?_) (fun q2 => ?_)
 ·have hbad : decide (r.tag.length ≤ 64) = false := by simp at q2 ⊢; omega
  conv=>whnf
  exact h false (by rw [hm, hbad]; simp)
 have htl : decide (r.tag.length ≤ 64) = true := by simp at q2 ⊢; omega
 rw [htl, Bool.true_and, pz, hdl, Bool.and_true] at hm;have hv12 : v = 1 ↔ v < 2 := by omega
 conv=>whnf
 refine ae (fun v1 => ?_) (fun v1 => ?_)
 ·have v1 : v = 1 := by simpa using v1
  have e1 : decide (v < 2) = true := decide_eq_true (by omega);have e3 : decide (v < 3) = true := decide_eq_true (by omega);conv=>whnf
  rw [wz1];refine ae (fun w1 => ?_) (fun w1 => ?_)
  ·conv=>whnf
   exact h false (by rw [hm, dU, e1, w1]; rfl)
  ·conv=>whnf
   refine aI e3 ?_;conv=>whnf
   refine ae (fun t1 => ?_) (fun t1 => ?_)
   ·have t1 : r.tag ≠ [] := by intro e; rw [e] at t1; simp [ofB] at t1
    have t1 : decide (r.tag ≠ []) = true := decide_eq_true t1;conv=>whnf
    exact h false (by rw [hm, dU, e3, t1]; simp)
   ·have t1 : r.tag = [] := by
     have : ofB r.tag = { data := #[] } := by simpa using t1
     exact b9 (this.trans HJ.symm)
    have he : dU v r = false := by rw [dU, w1, t1]; simp
    rw [he, Bool.not_false, Bool.true_and] at hm;rw [hm] at h;conv=>whnf
    refine au.ind1 (fun (i : Nat) => [(5, vi i)]) (fun _ => []) (fun i => r.deps.length - i) (fun i => i ≤ r.deps.length ∧ dO v (r.deps.drop i) (lN r i) = dO v r.deps [r.target]) 0 rfl ⟨by omega, rfl⟩ ?_;rintro i ⟨h0, hD⟩ IH;conv=>whnf
    refine ae (fun hc => ?_) (fun hc => ?_)
    ·have hc := ap hsl hc;have hIH := IH (i + 1);clear IH;rw [List.drop_eq_getElem_cons hc, dO] at hD;rw [s6 r hc] at hIH;have hmem := vQ r h0 r.deps[i].name
     (conv=>whnf); (repeat ((with_reducible refine ac ?_ ?_); exact decide_eq_true (by omega); (conv=>whnf)))
     refine idxNat (by simpa using hc) ?_;generalize r.deps[i] = d at hD hIH hmem ⊢;conv=>whnf
     refine iU d.name ?_;conv=>whnf
     refine ae (fun n1 => ?_) (fun n1 => ?_)
     ·have n1 : dj d.name = false := by simpa using n1
      conv=>whnf
      exact h false (by rw [← hD, n1]; rfl)
     have n1 : dj d.name = true := by simpa using n1
     rw [n1, Bool.true_and] at hD;conv=>whnf
     refine ae (fun n2 => ?_) (fun n2 => ?_)
     ·have n2 : d.name = r.target := by simpa [bI] using n2
      have hb : decide (d.name ∉ lN r i) = false := decide_eq_false fun hx => (hmem.1 hx).1 n2;conv=>whnf
      exact h false (by rw [← hD, hb]; rfl)
     have n2 : d.name ≠ r.target := by simpa [bI] using n2
     conv=>whnf
     refine ae (fun o1 => ?_) (fun o1 => ?_)
     ·rw [o1, Bool.true_and] at hD;conv=>whnf
      refine ae (fun o2 => ?_) (fun o2 => ?_)
      ·rw [o2] at hD;conv=>whnf
       exact h false (by rw [← hD]; simp)
      ·rw [o2, Bool.not_false, Bool.true_and] at hD;conv=>whnf
       refine au.ind1 (fun (k : Nat) => [(7, vi k)]) (fun _ => []) (fun k => i - k) (fun k => k ≤ i ∧ ∀ (j : Nat) (hj : j < r.deps.length), j < k → r.deps[j].name ≠ d.name) 0 rfl ⟨by omega, fun j hj h => by omega⟩ ?_;rintro k ⟨hk0, hk1⟩ IH2;conv=>whnf
       refine ae (fun hk => ?_) (fun hk => ?_)
       ·have hk : k < i := by simp at hk; omega
        have hkl : k < r.deps.length := by omega
        (conv=>whnf); (repeat ((with_reducible refine ac ?_ ?_); exact decide_eq_true (by omega); (conv=>whnf)))
        refine idxNat (by simpa using hkl) ?_;conv=>whnf
        refine ae (fun q => ?_) (fun q => ?_)
        ·have q : r.deps[k].name = d.name := by simpa [bI] using q
         have hb : decide (d.name ∉ lN r i) = false := decide_eq_false fun hx => (hmem.1 hx).2 k hkl hk q;conv=>whnf
         exact h false (by rw [← hD, hb]; rfl)
        ·have q : r.deps[k].name ≠ d.name := by simpa [bI] using q
         have IH3 := IH2 (k + 1) ⟨by omega, fun j hj hjk => (Nat.lt_succ_iff_lt_or_eq.1 hjk).elim (fun e => hk1 j hj e) (fun e => by subst e; exact q)⟩ (by omega);conv=>whnf
         rw [al (by omega)];exact IH3
       ·have hk : k = i := by simp at hk; omega
        have hb : decide (d.name ∉ lN r i) = true := decide_eq_true (hmem.2 ⟨n2, fun j hj hji => hk1 j hj (by omega)⟩);rw [hb, Bool.true_and] at hD;conv=>whnf
        rw [al (by omega)];exact hIH ⟨by omega, hD⟩ (by omega)
     ·rw [o1, Bool.false_and, Bool.not_false, Bool.true_and] at hD;conv=>whnf
      refine au.ind1 (fun (k : Nat) => [(7, vi k)]) (fun _ => []) (fun k => i - k) (fun k => k ≤ i ∧ ∀ (j : Nat) (hj : j < r.deps.length), j < k → r.deps[j].name ≠ d.name) 0 rfl ⟨by omega, fun j hj h => by omega⟩ ?_;rintro k ⟨hk0, hk1⟩ IH2;conv=>whnf
      refine ae (fun hk => ?_) (fun hk => ?_)
      ·have hk : k < i := by simp at hk; omega
       have hkl : k < r.deps.length := by omega
       (conv=>whnf); (repeat ((with_reducible refine ac ?_ ?_); exact decide_eq_true (by omega); (conv=>whnf)))
       refine idxNat (by simpa using hkl) ?_;conv=>whnf
       refine ae (fun q => ?_) (fun q => ?_)
       ·have q : r.deps[k].name = d.name := by simpa [bI] using q
        have hb : decide (d.name ∉ lN r i) = false := decide_eq_false fun hx => (hmem.1 hx).2 k hkl hk q;conv=>whnf
        exact h false (by rw [← hD, hb]; rfl)
       ·have q : r.deps[k].name ≠ d.name := by simpa [bI] using q
        have IH3 := IH2 (k + 1) ⟨by omega, fun j hj hjk => (Nat.lt_succ_iff_lt_or_eq.1 hjk).elim (fun e => hk1 j hj e) (fun e => by subst e; exact q)⟩ (by omega);conv=>whnf
        rw [al (by omega)];exact IH3
      ·have hk : k = i := by simp at hk; omega
       have hb : decide (d.name ∉ lN r i) = true := decide_eq_true (hmem.2 ⟨n2, fun j hj hji => hk1 j hj (by omega)⟩);rw [hb, Bool.true_and] at hD;conv=>whnf
       rw [al (by omega)];exact hIH ⟨by omega, hD⟩ (by omega)
    ·have hc := aw hsl hc;rw [List.drop_eq_nil_of_le hc, dO] at hD;conv=>whnf
     exact h true hD
 ·have v1 : ¬ v = 1 := by simpa using v1
  have e1 : decide (v < 2) = false := decide_eq_false (by omega);conv=>whnf
  refine ae (fun e3 => ?_) (fun e3 => ?_)
  ·conv=>whnf
   refine ae (fun t1 => ?_) (fun t1 => ?_)
   ·have t1 : r.tag ≠ [] := by intro e; rw [e] at t1; simp [ofB] at t1
    have t1 : decide (r.tag ≠ []) = true := decide_eq_true t1;conv=>whnf
    exact h false (by rw [hm, dU, e3, t1]; simp)
   ·have t1 : r.tag = [] := by
     have : ofB r.tag = { data := #[] } := by simpa using t1
     exact b9 (this.trans HJ.symm)
    have he : dU v r = false := by rw [dU, e1, t1]; simp
    rw [he, Bool.not_false, Bool.true_and] at hm;rw [hm] at h;conv=>whnf
    refine au.ind1 (fun (i : Nat) => [(5, vi i)]) (fun _ => []) (fun i => r.deps.length - i) (fun i => i ≤ r.deps.length ∧ dO v (r.deps.drop i) (lN r i) = dO v r.deps [r.target]) 0 rfl ⟨by omega, rfl⟩ ?_;rintro i ⟨h0, hD⟩ IH;conv=>whnf
    refine ae (fun hc => ?_) (fun hc => ?_)
    ·have hc := ap hsl hc;have hIH := IH (i + 1);clear IH;rw [List.drop_eq_getElem_cons hc, dO] at hD;rw [s6 r hc] at hIH;have hmem := vQ r h0 r.deps[i].name
     (conv=>whnf); (repeat ((with_reducible refine ac ?_ ?_); exact decide_eq_true (by omega); (conv=>whnf)))
     refine idxNat (by simpa using hc) ?_;generalize r.deps[i] = d at hD hIH hmem ⊢;conv=>whnf
     refine iU d.name ?_;conv=>whnf
     refine ae (fun n1 => ?_) (fun n1 => ?_)
     ·have n1 : dj d.name = false := by simpa using n1
      conv=>whnf
      exact h false (by rw [← hD, n1]; rfl)
     have n1 : dj d.name = true := by simpa using n1
     rw [n1, Bool.true_and] at hD;conv=>whnf
     refine ae (fun n2 => ?_) (fun n2 => ?_)
     ·have n2 : d.name = r.target := by simpa [bI] using n2
      have hb : decide (d.name ∉ lN r i) = false := decide_eq_false fun hx => (hmem.1 hx).1 n2;conv=>whnf
      exact h false (by rw [← hD, hb]; rfl)
     have n2 : d.name ≠ r.target := by simpa [bI] using n2
     conv=>whnf
     refine ae (fun o1 => ?_) (fun o1 => ?_)
     ·rw [o1, Bool.true_and] at hD;conv=>whnf
      refine ae (fun o2 => ?_) (fun o2 => ?_)
      ·rw [o2] at hD;conv=>whnf
       exact h false (by rw [← hD]; simp)
      ·rw [o2, Bool.not_false, Bool.true_and] at hD;conv=>whnf
       refine au.ind1 (fun (k : Nat) => [(7, vi k)]) (fun _ => []) (fun k => i - k) (fun k => k ≤ i ∧ ∀ (j : Nat) (hj : j < r.deps.length), j < k → r.deps[j].name ≠ d.name) 0 rfl ⟨by omega, fun j hj h => by omega⟩ ?_;rintro k ⟨hk0, hk1⟩ IH2;conv=>whnf
       refine ae (fun hk => ?_) (fun hk => ?_)
       ·have hk : k < i := by simp at hk; omega
        have hkl : k < r.deps.length := by omega
        (conv=>whnf); (repeat ((with_reducible refine ac ?_ ?_); exact decide_eq_true (by omega); (conv=>whnf)))
        refine idxNat (by simpa using hkl) ?_;conv=>whnf
        refine ae (fun q => ?_) (fun q => ?_)
        ·have q : r.deps[k].name = d.name := by simpa [bI] using q
         have hb : decide (d.name ∉ lN r i) = false := decide_eq_false fun hx => (hmem.1 hx).2 k hkl hk q;conv=>whnf
         exact h false (by rw [← hD, hb]; rfl)
        ·have q : r.deps[k].name ≠ d.name := by simpa [bI] using q
         have IH3 := IH2 (k + 1) ⟨by omega, fun j hj hjk => (Nat.lt_succ_iff_lt_or_eq.1 hjk).elim (fun e => hk1 j hj e) (fun e => by subst e; exact q)⟩ (by omega);conv=>whnf
         rw [al (by omega)];exact IH3
       ·have hk : k = i := by simp at hk; omega
        have hb : decide (d.name ∉ lN r i) = true := decide_eq_true (hmem.2 ⟨n2, fun j hj hji => hk1 j hj (by omega)⟩);rw [hb, Bool.true_and] at hD;conv=>whnf
        rw [al (by omega)];exact hIH ⟨by omega, hD⟩ (by omega)
     ·rw [o1, Bool.false_and, Bool.not_false, Bool.true_and] at hD;conv=>whnf
      refine au.ind1 (fun (k : Nat) => [(7, vi k)]) (fun _ => []) (fun k => i - k) (fun k => k ≤ i ∧ ∀ (j : Nat) (hj : j < r.deps.length), j < k → r.deps[j].name ≠ d.name) 0 rfl ⟨by omega, fun j hj h => by omega⟩ ?_;rintro k ⟨hk0, hk1⟩ IH2;conv=>whnf
      refine ae (fun hk => ?_) (fun hk => ?_)
      ·have hk : k < i := by simp at hk; omega
       have hkl : k < r.deps.length := by omega
       (conv=>whnf); (repeat ((with_reducible refine ac ?_ ?_); exact decide_eq_true (by omega); (conv=>whnf)))
       refine idxNat (by simpa using hkl) ?_;conv=>whnf
       refine ae (fun q => ?_) (fun q => ?_)
       ·have q : r.deps[k].name = d.name := by simpa [bI] using q
        have hb : decide (d.name ∉ lN r i) = false := decide_eq_false fun hx => (hmem.1 hx).2 k hkl hk q;conv=>whnf
        exact h false (by rw [← hD, hb]; rfl)
       ·have q : r.deps[k].name ≠ d.name := by simpa [bI] using q
        have IH3 := IH2 (k + 1) ⟨by omega, fun j hj hjk => (Nat.lt_succ_iff_lt_or_eq.1 hjk).elim (fun e => hk1 j hj e) (fun e => by subst e; exact q)⟩ (by omega);conv=>whnf
        rw [al (by omega)];exact IH3
      ·have hk : k = i := by simp at hk; omega
       have hb : decide (d.name ∉ lN r i) = true := decide_eq_true (hmem.2 ⟨n2, fun j hj hji => hk1 j hj (by omega)⟩);rw [hb, Bool.true_and] at hD;conv=>whnf
       rw [al (by omega)];exact hIH ⟨by omega, hD⟩ (by omega)
    ·have hc := aw hsl hc;rw [List.drop_eq_nil_of_le hc, dO] at hD;conv=>whnf
     exact h true hD
  ·have he : dU v r = false := by rw [dU, e1, e3]; simp
   rw [he, Bool.not_false, Bool.true_and] at hm;rw [hm] at h;conv=>whnf
   refine au.ind1 (fun (i : Nat) => [(5, vi i)]) (fun _ => []) (fun i => r.deps.length - i) (fun i => i ≤ r.deps.length ∧ dO v (r.deps.drop i) (lN r i) = dO v r.deps [r.target]) 0 rfl ⟨by omega, rfl⟩ ?_;rintro i ⟨h0, hD⟩ IH;conv=>whnf
   refine ae (fun hc => ?_) (fun hc => ?_)
   ·have hc := ap hsl hc;have hIH := IH (i + 1);clear IH;rw [List.drop_eq_getElem_cons hc, dO] at hD;rw [s6 r hc] at hIH;have hmem := vQ r h0 r.deps[i].name
    (conv=>whnf); (repeat ((with_reducible refine ac ?_ ?_); exact decide_eq_true (by omega); (conv=>whnf)))
    refine idxNat (by simpa using hc) ?_;generalize r.deps[i] = d at hD hIH hmem ⊢;conv=>whnf
    refine iU d.name ?_;conv=>whnf
    refine ae (fun n1 => ?_) (fun n1 => ?_)
    ·have n1 : dj d.name = false := by simpa using n1
     conv=>whnf
     exact h false (by rw [← hD, n1]; rfl)
    have n1 : dj d.name = true := by simpa using n1
    rw [n1, Bool.true_and] at hD;conv=>whnf
    refine ae (fun n2 => ?_) (fun n2 => ?_)
    ·have n2 : d.name = r.target := by simpa [bI] using n2
     have hb : decide (d.name ∉ lN r i) = false := decide_eq_false fun hx => (hmem.1 hx).1 n2;conv=>whnf
     exact h false (by rw [← hD, hb]; rfl)
    have n2 : d.name ≠ r.target := by simpa [bI] using n2
    conv=>whnf
    refine ae (fun o1 => ?_) (fun o1 => ?_)
    ·rw [o1, Bool.true_and] at hD;conv=>whnf
     refine ae (fun o2 => ?_) (fun o2 => ?_)
     ·rw [o2] at hD;conv=>whnf
      exact h false (by rw [← hD]; simp)
     ·rw [o2, Bool.not_false, Bool.true_and] at hD;conv=>whnf
      refine au.ind1 (fun (k : Nat) => [(7, vi k)]) (fun _ => []) (fun k => i - k) (fun k => k ≤ i ∧ ∀ (j : Nat) (hj : j < r.deps.length), j < k → r.deps[j].name ≠ d.name) 0 rfl ⟨by omega, fun j hj h => by omega⟩ ?_;rintro k ⟨hk0, hk1⟩ IH2;conv=>whnf
      refine ae (fun hk => ?_) (fun hk => ?_)
      ·have hk : k < i := by simp at hk; omega
       have hkl : k < r.deps.length := by omega
       (conv=>whnf); (repeat ((with_reducible refine ac ?_ ?_); exact decide_eq_true (by omega); (conv=>whnf)))
       refine idxNat (by simpa using hkl) ?_;conv=>whnf
       refine ae (fun q => ?_) (fun q => ?_)
       ·have q : r.deps[k].name = d.name := by simpa [bI] using q
        have hb : decide (d.name ∉ lN r i) = false := decide_eq_false fun hx => (hmem.1 hx).2 k hkl hk q;conv=>whnf
        exact h false (by rw [← hD, hb]; rfl)
       ·have q : r.deps[k].name ≠ d.name := by simpa [bI] using q
        have IH3 := IH2 (k + 1) ⟨by omega, fun j hj hjk => (Nat.lt_succ_iff_lt_or_eq.1 hjk).elim (fun e => hk1 j hj e) (fun e => by subst e; exact q)⟩ (by omega);conv=>whnf
        rw [al (by omega)];exact IH3
      ·have hk : k = i := by simp at hk; omega
       have hb : decide (d.name ∉ lN r i) = true := decide_eq_true (hmem.2 ⟨n2, fun j hj hji => hk1 j hj (by omega)⟩);rw [hb, Bool.true_and] at hD;conv=>whnf
       rw [al (by omega)];exact hIH ⟨by omega, hD⟩ (by omega)
    ·rw [o1, Bool.false_and, Bool.not_false, Bool.true_and] at hD;conv=>whnf
     refine au.ind1 (fun (k : Nat) => [(7, vi k)]) (fun _ => []) (fun k => i - k) (fun k => k ≤ i ∧ ∀ (j : Nat) (hj : j < r.deps.length), j < k → r.deps[j].name ≠ d.name) 0 rfl ⟨by omega, fun j hj h => by omega⟩ ?_;rintro k ⟨hk0, hk1⟩ IH2;conv=>whnf
     refine ae (fun hk => ?_) (fun hk => ?_)
     ·have hk : k < i := by simp at hk; omega
      have hkl : k < r.deps.length := by omega
      (conv=>whnf); (repeat ((with_reducible refine ac ?_ ?_); exact decide_eq_true (by omega); (conv=>whnf)))
      refine idxNat (by simpa using hkl) ?_;conv=>whnf
      refine ae (fun q => ?_) (fun q => ?_)
      ·have q : r.deps[k].name = d.name := by simpa [bI] using q
       have hb : decide (d.name ∉ lN r i) = false := decide_eq_false fun hx => (hmem.1 hx).2 k hkl hk q;conv=>whnf
       exact h false (by rw [← hD, hb]; rfl)
      ·have q : r.deps[k].name ≠ d.name := by simpa [bI] using q
       have IH3 := IH2 (k + 1) ⟨by omega, fun j hj hjk => (Nat.lt_succ_iff_lt_or_eq.1 hjk).elim (fun e => hk1 j hj e) (fun e => by subst e; exact q)⟩ (by omega);conv=>whnf
       rw [al (by omega)];exact IH3
     ·have hk : k = i := by simp at hk; omega
      have hb : decide (d.name ∉ lN r i) = true := decide_eq_true (hmem.2 ⟨n2, fun j hj hji => hk1 j hj (by omega)⟩);rw [hb, Bool.true_and] at hD;conv=>whnf
      rw [al (by omega)];exact hIH ⟨by omega, hD⟩ (by omega)
   ·have hc := aw hsl hc;rw [List.drop_eq_nil_of_le hc, dO] at hD;conv=>whnf
    exact h true hD
structure Te (x : List Rc) (s : FSt) (j w sy : Nat) : Prop where
 hok : FOk s 100 2000000
 hsy : sy ≤ j
 hj : j ≤ w
 hw : w ≤ x.length
 hmay : ∀ r ∈ x.take j, aR 3 r = true
 hlog : ∃ k, lk s.fs aS = some ⟨aC 3 (x.take j), k⟩ ∧ (aC 3 (x.take sy)).length ≤ k
theorem Te.crash {x : List Rc} {s : FSt} {j w sy : Nat} (h : Te x s j w sy) (hx : x.length ≤ 30) (keep : List Int) :
  ∃ (m : Nat) (ms : List B) (t : B), sy ≤ m ∧ m ≤ w ∧ (∀ r ∈ x.take m, aR 3 r = true) ∧ ms.length < 100 ∧ (∀ m ∈ ms, m.length ≤ 64) ∧ qr t ∧ t.length < 3000 ∧ cu (s.crash keep) aS (aC 3 (x.take m) ++ ay (ms.map bu) ++ t) ∧ FOk (s.crash keep) 100 2000000 := by
 obtain ⟨k, hk, hsy⟩ := h.hlog;obtain ⟨c1, c2, c3⟩ := oe h.hok keep;obtain ⟨m, m1, m2, m3⟩ := c3 aS (lT hk);have hg : gF s.fs aS = ⟨aC 3 (x.take j), k⟩ := by unfold gF; rw [hk]; rfl
 rw [hg] at m1 m2 m3;have hjl : (x.take j).length = j := by rw [List.length_take]; have := h.hj; have := h.hw; omega
 have h8 : 8 ≤ m := by
  have := cr 3 (x.take sy);have m1 : k ≤ m := m1;omega
 obtain ⟨m', ms, t, e1, e2, e3, e4, e5, e6, e7⟩ := Ky (v := 3) (by decide) h.hmay (by rw [hjl]; have := h.hj; have := h.hw; omega) h8 m2;have htt : ∀ i, i ≤ j → (x.take j).take i = x.take i := fun i hi => by rw [List.take_take, Nat.min_eq_left hi]
 rw [hjl] at e1 e7;rw [htt m' e1] at e2;refine ⟨m', ms, t, ?_, Nat.le_trans e1 h.hj, ?_, e3, e4, e5, e6, ?_, c1⟩
 ·refine e7 sy h.hsy ?_;rw [htt sy h.hsy];have m1 : k ≤ m := m1;omega
 ·intro r hr;rw [← htt m' e1] at hr;exact h.hmay r (List.mem_of_mem_take hr)
 ·have hin : aS ∈ kys (s.crash keep).fs := by rw [c2]; exact lT hk
  unfold cu;rw [← e2]
  cases e : lk (s.crash keep).fs aS with
  | none => exact absurd hin (fQ.1 e)
  | some f =>
   have : gF (s.crash keep).fs aS = f := by unfold gF; rw [e]; rfl
   rw [this] at m3;rw [m3];have m2 : m ≤ (aC 3 (x.take j)).length := m2;simp only [List.length_take, Option.some.injEq, Fl.mk.injEq, true_and];omega
def stO (over : Bool) (n : Nat) (v : Int) (l : List Rc) : aF := .cells 92 [.val (.bool over), .ptr n 0, vi v, .sl none 7 (bf l), .sl none 1 (c6 (cN v l)), vi (((aC v l).length : Nat) : Int)]
theorem ku (e : Int) (v : Int) (l : List Rc) (s : FSt) {R} (h : R (vi e) [stO (e == 7) 1 v l, fsC s 2, fsM s]) :
  ag Tryz.prog 63 [.ptr 0 0, vi e] [stO false 1 v l, fsC s 2, fsM s] R := by
 refine ab (an := UJ) tab_ok Tryz.func63 ?_;conv=>whnf
 exact h
theorem ow (o : Bool) (v : Int) (l : List Rc) (s : FSt) {R} (h : R (.val (.bool o)) [stO o 1 v l, fsC s 2, fsM s]) :
  ag Tryz.prog 31 [.ptr 0 0] [stO o 1 v l, fsC s 2, fsM s] R := by
 refine ab (an := U8) tab_ok Tryz.func31 ?_;conv=>whnf
 exact h
theorem ux (o : Bool) (v : Int) (l : List Rc) (s : FSt) {R} (h : R (vi v) [stO o 1 v l, fsC s 2, fsM s]) :
  ag Tryz.prog 42 [.ptr 0 0] [stO o 1 v l, fsC s 2, fsM s] R := by
 refine ab (an := U1) tab_ok Tryz.func42 ?_;conv=>whnf
 exact h
theorem kG (o : Bool) (v : Int) (l : List Rc) (hl : l.length < 100000) (hd : ∀ r ∈ l, r.deps.length < 1000000) (s : FSt) {R} (h : R (.sl none 7 (bf (ar l))) [stO o 1 v l, fsC s 2, fsM s]) :
  ag Tryz.prog 44 [.ptr 0 0] [stO o 1 v l, fsC s 2, fsM s] R := by
 refine ab (an := U0) tab_ok Tryz.func44 ?_;conv=>whnf
 refine FK l (by omega) hd ?_;conv=>whnf
 exact h
theorem lr (v : Int) (l : List Rc) (s : FSt) (h1 : okN s.fail) (h2 : okN s.fall) {R} (h : R (vi (s.sync aS).2) [stO ((s.sync aS).2 == 7) 1 v l, fsC (s.sync aS).1 2, fsM (s.sync aS).1]) :
  ag Tryz.prog 27 [.ptr 0 0] [stO false 1 v l, fsC s 2, fsM s] R := by
 refine ab (an := Q9) tab_ok Tryz.func27 ?_;conv=>whnf
 refine xd s aS h1 h2 ?_;generalize s.sync aS = se at h ⊢;obtain ⟨s2, e⟩ := se;conv=>whnf
 refine ku e v l s2 ?_;conv=>whnf
 exact h
theorem bY (o : Bool) (v : Int) (l : List Rc) (hl : l.length < 100000) (hd : ∀ r ∈ l, r.deps.length < 1000000) (s : FSt) {R} (h : R (.sl none 7 (bf l)) [stO o 1 v l, fsC s 2, fsM s]) :
  ag Tryz.prog 15 [.ptr 0 0] [stO o 1 v l, fsC s 2, fsM s] R := by
 refine ab (an := Vj) tab_ok Tryz.func15 ?_;have hsl := be l;conv=>whnf
 refine au.ind1 (fun (i : Nat) => [(3, .sl (some (ak 3)) 7 (bf (l.take i))), (12, vi i)]) (fun i => [(0, stO o 1 v l), (1, fsC s 2), (2, fsM s), (ak 3, .row 67 7 i)]) (fun i => l.length - i) (fun i => i ≤ l.length) 0 rfl (by omega) ?_;intro i hi0 IH;conv=>whnf
 refine ae (fun hc => ?_) (fun hc => ?_)
 ·have hi := ap hsl hc;have IH := IH (i + 1) hi (by omega);rw [yv hi] at IH;have hst : (bf (l.take i)).length = i := by rw [be, List.length_take]; omega
  (conv=>whnf); (repeat ((with_reducible refine ac ?_ ?_); exact decide_eq_true (by omega); (conv=>whnf)))
  refine idxNat (by simpa using hi) ?_;conv=>whnf
  refine fS l[i] (hd _ (List.getElem_mem hi)) ?_;conv=>whnf
  refine ⟨hst.symm, by rw [hst, bH]; simp only [List.length_cons, List.length_nil]; omega, ?_⟩;conv=>whnf
  rw [al (by omega), hst];exact IH
 ·have hi := aw hsl hc;rw [List.take_of_length_le hi];conv=>whnf
  exact h
def bT (v : Int) (s : FSt) (l : List Rc) (r : Rc) : FSt × Int := s.append aS (cd v l r)
theorem LN (o : Bool) (s : FSt) (v : Int) (l : List Rc) (r : Rc) (hd : r.deps.length < 100000) (hr : o = false → r.kind ≠ 1 ∨ aR v r = false) {R} (h1 : o = true → R (vi 7) [stO true 1 v l, fsC s 2, fsM s]) (h2 : o = false → R (vi 1) [stO false 1 v l, fsC s 2, fsM s]) :
  ag Tryz.prog 46 [.ptr 0 0, .agg r.enc] [stO o 1 v l, fsC s 2, fsM s] R := by
 refine ab (an := ML) tab_ok Tryz.func46 ?_
 cases o with
 | true =>
  conv=>whnf
  exact h1 rfl
 | false =>
  conv=>whnf
  refine ae (fun g => ?_) (fun g => ?_)
  ·conv=>whnf
   exact h2 rfl
  have g : r.kind = 1 := by simpa using g
  have hm : aR v r = false := (hr rfl).resolve_left fun hx => hx g;conv=>whnf
  refine eG v r hd fun p hp => ?_;rw [hm] at hp;subst hp;conv=>whnf
  exact h2 rfl
theorem zy (o : Bool) (v : Int) (l : List Rc) (hl : l.length < 100000) (hd : ∀ r ∈ l, r.deps.length < 1000000) (s : FSt) (t : B) {R} (h : R (.tup [.agg (cz (ar l) t).enc, .val (.bool (cJ (ar l) t).isSome)]) [stO o 1 v l, fsC s 2, fsM s]) :
  ag Tryz.prog 22 [.ptr 0 0, vs t] [stO o 1 v l, fsC s 2, fsM s] R := by
 refine ab (an := Vf) tab_ok Tryz.func22 ?_;conv=>whnf
 refine kG o v l hl hd s ?_;conv=>whnf
 refine rm (ar l) (by have := fk l; omega) (fun r hr => hd r (jy hr).1) t ?_;conv=>whnf
 exact h
theorem nK (v : Int) (hv : is3 v) {R} (h : R (.tup [.ptr 2 0, vi 0]) [fsC (fsL (aC v [])) 1, fsM (fsL (aC v [])), stO false 0 v []]) :
  ag Tryz.prog 9 [.ptr 0 0, vi v] [fsC fs0 1, fsM fs0] R := by
 refine ab (an := { an9 with cst := [] }) tab_ok Tryz.func9 ?_;have hm0 : ∀ r ∈ ([] : List Rc), aR v r = true := by simp
 have hs := fg (v := v) (l := []) hm0 (by simp);have hst := He aS cB (aC v []) mw;have hg1 : ¬ v < 1 := by unfold is3 at hv; omega
 have hg2 : ¬ 3 < v := by unfold is3 at hv; omega
 conv=>whnf
 refine am (decide_eq_false hg1) ?_;conv=>whnf
 refine am (decide_eq_false hg2) ?_;conv=>whnf
 refine oB fs0 ?_;conv=>whnf
 refine i5 fs0 (by simp [fs0]) (by simp [fs0, kys]) (by simp [fs0, kys]) ?_;rw [show fs0.names = [] from by simp [FSt.names, fq, fs0, kys]];conv=>whnf
 refine fG [] cB (by simp) ?_;conv=>whnf
 refine fG [] aS (by simp) ?_;conv=>whnf
 refine ag.args ?_ (Dm fs0 aS cB (aC v []) mw v [] Mn (by omega) (by omega) (by decide) hs (fun hR => wR hv [] (by simp) (by simp) (fun _ => hR) (fun hno => absurd hm0 hno)) ?_)
 ·exact leL.cons (.refl _) (leL.cons (.refl _) (leL.cons (.refl _) (leL.cons (.refl _) (leL.cons (cy 7) leL.nil))))
 rw [hst];have hw := If (aC v []);have hh : R (.tup [.ptr 2 0, vi 0]) [fsC ⟨[(aS, ⟨aC v [], (aC v []).length⟩)], -1, -1, false⟩ 1, fsM ⟨[(aS, ⟨aC v [], (aC v []).length⟩)], -1, -1, false⟩, stO false 0 v []] := h;have hw : cu ⟨[(aS, ⟨aC v [], (aC v []).length⟩)], -1, -1, false⟩ aS (aC v []) := hw;generalize (FSt.mk [(aS, ⟨aC v [], (aC v []).length⟩)] (-1) (-1) false) = s at hh hw ⊢;conv=>whnf
 refine MQ s aS v [] hw.key (by rw [hw.get]) hs (fun hR => KH hv [] hm0 (by simp) hR) ?_;conv=>whnf
 exact hh
structure Opr where
 kind : Int
 r : Rc
 name : B
 l : List Rc
 version : Int
 n : Int
def Opr.enc (o : Opr) : List AV := [vi o.kind, vi o.r.kind, vs o.r.target, uv o.r.rule, .sl none 3 (dV o.r.deps), uv o.r.out, uv o.r.wen, vs o.r.tag, vs o.name, .sl none 7 (bf o.l), vi o.version, vi o.n]
theorem LG (l : List Rc) (hl : l.length ≤ 1100) (hm : ∀ r ∈ l, aR 1 r = true) (x : AV) (hx : x = .sl none 1 (c6 (cN 1 l))) (n : Int) {R} (h : R (.tup [.ptr 0 0, vi 0]) [dq]) :
  ag Tryz.prog 180 [.agg [vi 1, .sl none 7 (bf l), x, vi n]] [] R := by
 subst hx;refine ab (an := NH) tab_ok Tryz.func180 ?_;have hsl := be l;conv=>whnf
 refine oy ?_;conv=>whnf
 refine au.ind1 (fun (i : Nat) => [(13, vi i)]) (fun i => [(ax 9 0, dq)]) (fun i => l.length - i) (fun i => i ≤ l.length) 0 rfl (by omega) ?_;intro i h0 IH;conv=>whnf
 refine ae (fun hc => ?_) (fun hc => ?_)
 ·have hi := ap hsl hc;have IH := IH (i + 1) hi (by omega)
  (conv=>whnf); (repeat ((with_reducible refine ac ?_ ?_); exact decide_eq_true (by omega); (conv=>whnf)))
  refine idxNat (by simpa using hi) ?_;conv=>whnf
  refine zI l[i] (hm _ (List.getElem_mem hi)) ?_;conv=>whnf
  rw [al (by omega)];exact IH
 ·conv=>whnf
  exact h
theorem B0 (t : List B) (r : Rc) : bw 1 t r = [bS 1 t r] := by simp [bw, fY, bz]
theorem HX (r : Rc) (hm : aR 1 r = true) (t : List B) (ht0 : t = []) {R} (h : R (.tup [.sl none 1 (ai (ay (bw 1 t r))), vi 0]) [dq]) :
  ag Tryz.prog 181 [vi 1, .ptr 0 0, .agg r.enc] [dq] R := by
 subst ht0;refine ab (an := NG) tab_ok Tryz.func181 ?_;have hpl := iD (t := []) (aQ hm) (by simp);rw [B0] at hpl h;have hpl := hpl _ (List.mem_singleton.2 rfl);have hfr : ay [bS 1 [] r] = [] ++ bq (bS 1 [] r) := by simp [ay]
 rw [hfr] at h;conv=>whnf
 refine zI r hm ?_;rw [B0];generalize bS 1 [] r = p at hpl h ⊢;have hrl := aP [p];conv=>whnf
 refine au.step ?_;conv=>whnf
 refine ag.args (leL.cons (cy 1) (leL.refl _)) (d8 [] p (by simp) hpl.1 hpl.2 ?_);conv=>whnf
 refine au.step ?_;conv=>whnf
 exact h
theorem Ia (s : FSt) (name : B) (hn : name.length < 1000000) {nb fb : Nat} (hk : FOk s nb fb) (hfb : fb ≤ 80000000) (l : List Rc) (hl : l.length ≤ 1100) (hm : ∀ r ∈ l, aR 1 r = true) (r : Rc) (hr : aR 1 r = true) {R}
  (h1 : (s.append name (cd 1 l r)).2 ≠ 0 → R (.tup [zF, vi (s.append name (cd 1 l r)).2]) [fsC (s.append name (cd 1 l r)).1 1, fsM (s.append name (cd 1 l r)).1])
  (h2 : (s.append name (cd 1 l r)).2 = 0 → R (.tup [.agg (ct 1 (l ++ [r])), vi 0]) [fsC (s.append name (cd 1 l r)).1 1, fsM (s.append name (cd 1 l r)).1]) :
  ag Tryz.prog 139 [.ptr 0 0, vs name, .agg (ct 1 l), .agg r.enc] [fsC s 1, fsM s] R := by
 refine ag.res ?_;refine ab (an := K9) tab_ok Tryz.func139 ?_;have hM : ∀ x ∈ l, kW 1 x := fun x hx => aQ (hm x hx);have hMr := aQ hr;have hfl := nv hm hl;have htl := lH (v := 1) (l := l) (t := []) hM;simp at htl;have hpf := dK (v := 1) (t := lI 1 [] l) hMr (by omega);have hsl := be l;have hel := gD 1 l;have hil := cb (cN 1 l);have hml : (cd 1 l r).length ≤ 3000 := hpf;conv=>whnf
 refine LG l (by omega) hm _ rfl _ ?_;obtain ⟨T, hT⟩ : ∃ T, T = lI 1 [] l := ⟨_, rfl⟩;have hmo : cd 1 l r = ay (bw 1 T r) := by rw [hT]; rfl
 rw [← hT] at htl;rw [hmo] at h1 h2 hml;have hl0 : T = [] := by rw [hT]; exact vb _ _
 have hend : IntKind.i64.wrap (((aC 1 l).length : Int) + ((ai (ay (bw 1 T r))).length : Int)) = ((aC 1 (l ++ [r])).length : Int) := by
  rw [ir, hmo, List.length_append, aM, aK (by omega) (by omega)];omega
 conv=>whnf
 refine HX r hr T hl0 ?_;conv=>whnf
 refine ls s name (ay (bw 1 T r)) hk.fail hk.fall (by omega) (by have := (hk.m.get name).2; omega) ?_;conv=>whnf
 refine ae (fun g => ?_) (fun g => ?_)
 ·conv=>whnf
  exact bB (h1 (by simpa using g))
 have h2 := h2 (by simpa using g);generalize ay (bw 1 T r) = F at hml hend h2 ⊢;conv=>whnf
 rw [hend];refine mM l (by omega) (fun e => ?_) ?_
 ·conv=>whnf
  refine fS r (by have := hMr.deps; omega) ?_;conv=>whnf
  refine ⟨by rw [bH]; simp only [List.length_cons, List.length_nil]; decide, ?_⟩;conv=>whnf
  obtain ⟨X, hXX⟩ : ∃ X, X = [r.enc] := ⟨_, rfl⟩;have hX : bf (l ++ [r]) = X := by rw [ju, e, hXX]; rfl
  refine gS (cN 1 l) (by omega) (fun e2 => ?_) ?_
  ·conv=>whnf
   refine ⟨by rw [aZ]; simp only [List.length_cons, List.length_nil]; decide, ?_⟩;conv=>whnf
   have er : ct 1 (l ++ [r]) = [vi 1, .sl none 7 X, .sl none 1 [[vi ((aC 1 (l ++ [r])).length : Int)]], vi ((aC 1 (l ++ [r])).length : Int)] := by
    unfold ct;rw [dy, e2, ← hX];rfl
   rw [er, hXX] at h2;exact bB h2
  ·conv=>whnf
   refine ⟨hil.symm, by rw [hil, hel, aZ]; simp only [List.length_cons, List.length_nil]; omega, ?_⟩;conv=>whnf
   have er : ct 1 (l ++ [r]) = [vi 1, .sl none 7 X, .sl none 1 (c6 (cN 1 l) ++ [[vi ((aC 1 (l ++ [r])).length : Int)]]), vi ((aC 1 (l ++ [r])).length : Int)] := by
    unfold ct;rw [← hX, dy, gR]
   rw [er, hXX] at h2;exact bB h2
 ·conv=>whnf
  refine fS r (by have := hMr.deps; omega) ?_;conv=>whnf
  refine ⟨rfl, by rw [bH, hsl]; simp only [List.length_cons, List.length_nil]; omega, ?_⟩;conv=>whnf
  obtain ⟨X, hXX⟩ : ∃ X, X = bf l ++ [r.enc] := ⟨_, rfl⟩;have hX : bf (l ++ [r]) = X := by rw [ju, hXX]
  refine gS (cN 1 l) (by omega) (fun e2 => ?_) ?_
  ·conv=>whnf
   refine ⟨by rw [aZ]; simp only [List.length_cons, List.length_nil]; decide, ?_⟩;conv=>whnf
   have er : ct 1 (l ++ [r]) = [vi 1, .sl none 7 X, .sl none 1 [[vi ((aC 1 (l ++ [r])).length : Int)]], vi ((aC 1 (l ++ [r])).length : Int)] := by
    unfold ct;rw [dy, e2, ← hX];rfl
   rw [er, hXX] at h2;exact bB h2
  ·conv=>whnf
   refine ⟨hil.symm, by rw [hil, hel, aZ]; simp only [List.length_cons, List.length_nil]; omega, ?_⟩;conv=>whnf
   have er : ct 1 (l ++ [r]) = [vi 1, .sl none 7 X, .sl none 1 (c6 (cN 1 l) ++ [[vi ((aC 1 (l ++ [r])).length : Int)]]), vi ((aC 1 (l ++ [r])).length : Int)] := by
    unfold ct;rw [← hX, dy, gR]
   rw [er, hXX] at h2;exact bB h2
theorem Cj {v : Int} (hv : is3 v) (s : FSt) (name : B) (hn : name.length < 1000000) {nb fb : Nat} (hk : FOk s nb fb) (hfb : fb ≤ 80000000) (l : List Rc) (hl : l.length ≤ 1100) (hm : ∀ r ∈ l, aR v r = true) (r : Rc) (hr : aR v r = true) {R}
  (h1 : (s.append name (cd v l r)).2 ≠ 0 → R (.tup [zF, vi (s.append name (cd v l r)).2]) [fsC (s.append name (cd v l r)).1 1, fsM (s.append name (cd v l r)).1])
  (h2 : (s.append name (cd v l r)).2 = 0 → R (.tup [.agg (ct v (l ++ [r])), vi 0]) [fsC (s.append name (cd v l r)).1 1, fsM (s.append name (cd v l r)).1]) :
  ag Tryz.prog 139 [.ptr 0 0, vs name, .agg (ct v l), .agg r.enc] [fsC s 1, fsM s] R := by
 rcases hv with rfl | rfl | rfl
 ·exact Ia s name hn hk hfb l hl hm r hr h1 h2
 ·exact pT (.inl rfl) s name hn hk hfb l hl hm r hr h1 h2
 ·exact pT (.inr rfl) s name hn hk hfb l hl hm r hr h1 h2
structure I2 (v : Int) (l : List Rc) (b : B) : Prop where
 hm : ∀ r ∈ l, aR v r = true
 hl : l.length ≤ 1100
 cut : ∃ (ms : List B) (t : B), b = aC v l ++ ay (ms.map bu) ++ t ∧ (v = 1 → ms = []) ∧ ms.length < 100 ∧ (∀ m ∈ ms, m.length ≤ 64) ∧ qr t ∧ t.length < 3000
theorem I2.len {v : Int} {l : List Rc} {b : B} (h : I2 v l b) : b.length < 5000000 ∧ (aC v l).length < 4000000 ∧ (aC v l).length ≤ b.length := by
 obtain ⟨hm, hl, ms, t, hb, _, hml, hmf, _, htl⟩ := h;have hs := nv hm hl;have hfm := mD (l := ms.map bu) (k := 65) (fun p hp => by
  obtain ⟨m, hm1, rfl⟩ := List.mem_map.1 hp;have := hmf m hm1;simp [bu]; omega) (by omega)
 rw [List.length_map] at hfm;rw [hb, List.length_append, List.length_append];omega
theorem Ju {v : Int} (hv : is3 v) (s : FSt) {nb fb : Nat} (hk : FOk s nb fb) (hfb : fb ≤ 80000000) (l : List Rc) (hl : l.length ≤ 1100) (hm : ∀ r ∈ l, aR v r = true) (r : Rc) (hr : aR v r = true) {R}
  (h1 : (bT v s l r).2 ≠ 0 → R (vi (bT v s l r).2) [stO ((bT v s l r).2 == 7) 1 v l, fsC (bT v s l r).1 2, fsM (bT v s l r).1])
  (h2 : (bT v s l r).2 = 0 → R (vi 0) [stO false 1 v (l ++ [r]), fsC (bT v s l r).1 2, fsM (bT v s l r).1]) :
  ag Tryz.prog 95 [.ptr 0 0, .agg r.enc] [stO false 1 v l, fsC s 2, fsM s] R := by
 refine ab (an := { O9 with anyo := [1] }) tab_ok Tryz.func95 ?_;unfold bT at h1 h2;conv=>whnf
 repeat' first | exact trivial | apply And.intro | ((fail_if_success (refine (show ag _ _ _ _ _ from ?_))); (fail_if_success (refine aI ?_ ?_)); (conv=>whnf))
 all_goals refine Cj hv s aS (by decide) hk hfb l hl hm r hr ?_ ?_
 all_goals generalize s.append aS (cd v l r) = se at h1 h2 ⊢
 all_goals obtain ⟨s2, e⟩ := se
 all_goals intro he
 all_goals first | (have he : e ≠ 0 := he) | (have he : e = 0 := he; subst he)
 all_goals (repeat' first | exact trivial | apply And.intro | ((fail_if_success (refine (show ag _ _ _ _ _ from ?_))); (fail_if_success (refine aI ?_ ?_)); (conv=>whnf)))
 all_goals first | refine am (by simpa using he) ?_ | skip
 all_goals (repeat' first | exact trivial | apply And.intro | ((fail_if_success (refine (show ag _ _ _ _ _ from ?_))); (fail_if_success (refine aI ?_ ?_)); (conv=>whnf)))
 all_goals first | refine ku 0 v (l ++ [r]) s2 ?_ | refine ku e v l s2 ?_
 all_goals (conv=>whnf)
 all_goals first | exact h2 rfl | exact h1 he
theorem BG {v : Int} (hv : is3 v) (s : FSt) {nb fb : Nat} (hk : FOk s nb fb) (hfb : fb ≤ 80000000) (l : List Rc) (hl : l.length ≤ 1100) (hm : ∀ r ∈ l, aR v r = true) (r : Rc) (hkd : r.kind = 1) (hr : aR v r = true) {R}
  (h1 : (bT v s l r).2 ≠ 0 → R (vi (bT v s l r).2) [stO ((bT v s l r).2 == 7) 1 v l, fsC (bT v s l r).1 2, fsM (bT v s l r).1])
  (h2 : (bT v s l r).2 = 0 → R (vi 0) [stO false 1 v (l ++ [r]), fsC (bT v s l r).1 2, fsM (bT v s l r).1]) :
  ag Tryz.prog 46 [.ptr 0 0, .agg r.enc] [stO false 1 v l, fsC s 2, fsM s] R := by
 refine ab (an := ML) tab_ok Tryz.func46 ?_;have hd := (aQ hr).deps;conv=>whnf
 refine am (by simpa using hkd) ?_;conv=>whnf
 refine eG v r (by omega) fun p hp => ?_;rw [hr] at hp;subst hp;conv=>whnf
 refine Ju hv s hk hfb l hl hm r hr (fun he => ?_) (fun he => ?_)
 ·have h1 := h1 he;generalize bT v s l r = se at h1 he ⊢;obtain ⟨s2, e⟩ := se;conv=>whnf
  exact h1
 ·have h2 := h2 he;generalize bT v s l r = se at h2 he ⊢;obtain ⟨s2, e⟩ := se;conv=>whnf
  exact h2
def rcO (out : List Sp) (o : Bool) (v : Int) (L : List Rc) (s : FSt) : List aF := [.cells 32 [.sl (some 1) 3 (sps out)], .row 45 3 out.length, .cells 27 [.ptr 3 0], stO o 4 v L, fsC s 5, fsM s]
theorem Ea {v : Int} (hv : is3 v) (s : FSt) {nb fb : Nat} (hk : FOk s nb fb) (hfb : fb ≤ 80000000) (L : List Rc) (hl : L.length ≤ 1100) (hm : ∀ r ∈ L, aR v r = true) (out : List Sp) (ho : out.length < 100000) (d : Dn) (hd : d.step.ran = true → d.trace.kind = 1 ∧ aR v d.trace = true) {R}
  (h0 : d.step.ran = false → R (vi 0) (rcO (out ++ [d.step]) false v L s))
  (h1 : d.step.ran = true → (bT v s L d.trace).2 ≠ 0 → R (vi (bT v s L d.trace).2) (rcO (out ++ [d.step]) ((bT v s L d.trace).2 == 7) v L (bT v s L d.trace).1))
  (h2 : d.step.ran = true → (bT v s L d.trace).2 = 0 → R (vi 0) (rcO (out ++ [d.step]) false v (L ++ [d.trace]) (bT v s L d.trace).1)) :
  ag Tryz.prog 45 [.agg (CG d), .ptr 0 0, .ptr 2 0] (rcO out false v L s) R := by
 refine ab (an := UZ) tab_ok Tryz.func45 ?_;have hsl := bA out;have e1 : sps out ++ [[AV.val (.string (ofB d.step.name)), .val (.bool d.step.ran), .val (.int .u64 (d.step.con.toNat : Int))]] = sps (out ++ [d.step]) := (ey out d.step).symm;have e2 : (sps out).length + [[AV.val (.string (ofB d.step.name)), .val (.bool d.step.ran), .val (.int .u64 (d.step.con.toNat : Int))]].length = (out ++ [d.step]).length := by simp [hsl]
 conv=>whnf
 refine ⟨hsl.symm, (by rw [hsl]; show (out.length + 1) * (32 + 1) ≤ _; omega), ?_⟩;conv=>whnf
 rw [e1, e2];refine ae (fun g => ?_) (fun g => ?_)
 ·have h1 := h1 g;have h2 := h2 g;obtain ⟨hkd, hr⟩ := hd g;conv=>whnf
  refine BG hv s hk hfb L hl hm d.trace hkd hr (fun he => ?_) (fun he => ?_)
  ·have h1 := h1 he;generalize bT v s L d.trace = se at h1 ⊢;obtain ⟨s2, e⟩ := se;conv=>whnf
   exact h1
  ·have h2 := h2 he;generalize bT v s L d.trace = se at h2 ⊢;obtain ⟨s2, e⟩ := se;conv=>whnf
   exact h2
 ·conv=>whnf
  exact h0 g
theorem BZ (out : List Sp) (ho : out.length < 100000) (d : Dn) {R} (h : R (vi 0) [.cells 32 [.sl (some 1) 3 (sps (out ++ [d.step]))], .row 45 3 (out ++ [d.step]).length]) :
  ag Tryz.prog 58 [.agg (CG d), .ptr 0 0] [.cells 32 [.sl (some 1) 3 (sps out)], .row 45 3 out.length] R := by
 refine ab (an := UN) tab_ok Tryz.func58 ?_;have hsl := bA out;have e1 : sps out ++ [[AV.val (.string (ofB d.step.name)), .val (.bool d.step.ran), .val (.int .u64 (d.step.con.toNat : Int))]] = sps (out ++ [d.step]) := (ey out d.step).symm;have e2 : (sps out).length + [[AV.val (.string (ofB d.step.name)), .val (.bool d.step.ran), .val (.int .u64 (d.step.con.toNat : Int))]].length = (out ++ [d.step]).length := by simp [hsl]
 conv=>whnf
 refine ⟨hsl.symm, (by rw [hsl]; show (out.length + 1) * (32 + 1) ≤ _; omega), ?_⟩;conv=>whnf
 rw [e1, e2];exact h
def qs (name : B) (a : Int × Int) (d : Dn) : Int × Int := if d.step.name = name then (d.why, 0) else a
theorem Dy (name : B) (a : Int × Int) (d : Dn) {R} (h : R (vi 0) [.cells 3 [vi (qs name a d).1], .cells 28 [vi (qs name a d).2]]) :
  ag Tryz.prog 59 [.agg (CG d), .cptr [vs name] 0, .ptr 0 0, .ptr 1 0] [.cells 3 [vi a.1], .cells 28 [vi a.2]] R := by
 refine ab (an := UM) tab_ok Tryz.func59 ?_;unfold qs at h;conv=>whnf
 refine ae (fun g => ?_) (fun g => ?_)
 ·have g : d.step.name = name := b9 (by simpa using g);rw [if_pos g] at h;conv=>whnf
  exact h
 ·have g : d.step.name ≠ name := fun e => by rw [e] at g; simp at g
  rw [if_neg g] at h;conv=>whnf
  exact h
def cY (v : Int) : List Dn → FSt → List Rc → FSt × List Rc × Int
 | [], s, L => (s, L, 0)
 | d :: ds, s, L => if d.step.ran = true then (if (bT v s L d.trace).2 = 0 then cY v ds (bT v s L d.trace).1 (L ++ [d.trace]) else ((bT v s L d.trace).1, L, (bT v s L d.trace).2)) else cY v ds s L
theorem pN {v : Int} {s : FSt} {nb fb : Nat} (hk : FOk s nb fb) {L : List Rc} (hl : L.length ≤ 1100) (hm : ∀ r ∈ L, aR v r = true) {r : Rc} (hr : aR v r = true) : FOk (bT v s L r).1 (nb + 1) (fb + 3000) := by
 have htl := lH (v := v) (l := L) (t := []) (fun y hy => aQ (hm y hy));simp at htl;have hml : (cd v L r).length ≤ 3000 := dK (aQ hr) (by omega);exact (iH hk (name := aS) (b := cd v L r) (by decide)).mono (by omega) (by omega)
def wkO (out : List Sp) (ov : Bool) (v : Int) (L : List Rc) (s : FSt) : List aF := [.cells 32 [.sl (some 5) 3 (sps out)], .cells 27 [.ptr 2 0], stO ov 3 v L, fsC s 4, fsM s, .row 45 3 out.length]
theorem tI {v : Int} (hv : is3 v) (l : List Nd) (hl : fN l) (o : List Nat) (hb : ∀ b ∈ o, b < l.length) (hol64 : o.length ≤ 100) (S : List Rc) (hS : S.length < 1000000) (hSd : ∀ r ∈ S, r.deps.length < 1000000) (given : List Sp) (hg : given.length < 1000000) (w : U)
  (s0 : FSt) {nb fb : Nat} (hk0 : FOk s0 nb fb) (hfb : fb + 3000 * o.length ≤ 80000000) (L0 : List Rc) (hL0 : L0.length + o.length ≤ 1100) (hm0 : ∀ r ∈ L0, aR v r = true) (hmay : ∀ d ∈ aJ l S given w o, d.step.ran = true → d.trace.kind = 1 ∧ aR v d.trace = true) {R}
  (h1 : ∀ out : List Sp, (cY v (aJ l S given w o) s0 L0).2.2 ≠ 0 → R (vi (cY v (aJ l S given w o) s0 L0).2.2) (wkO out ((cY v (aJ l S given w o) s0 L0).2.2 == 7) v (cY v (aJ l S given w o) s0 L0).2.1 (cY v (aJ l S given w o) s0 L0).1))
  (h2 : (cY v (aJ l S given w o) s0 L0).2.2 = 0 → R (vi 0) (wkO (aq (aJ l S given w o)) false v (cY v (aJ l S given w o) s0 L0).2.1 (cY v (aJ l S given w o) s0 L0).1)) :
  ag Tryz.prog 43 [.sl none 4 (nds l), .sl none 1 (c6 o), .sl none 7 (bf S), .sl none 3 (sps given), uv w, .fn (.func 45) [] [.ptr 0 0, .ptr 1 0]] (wkO [] false v L0 s0) R := by
 refine ab (an := Pd) tab_ok Tryz.func43 ?_;have hol := cb o;obtain ⟨hlen, hsm⟩ := hl;generalize hres : cY v (aJ l S given w o) s0 L0 = res at h1 h2;conv=>whnf
 refine au.ind4 (fun (i : Nat) (dn : List Dn) (s : FSt) (L : List Rc) => [(13, .sl (some (ak 13)) 3 (sps (aq dn))), (20, vi i)])
  (fun i dn s L => [(0, .cells 32 [.sl (some 5) 3 (sps (aq dn))]), (1, .cells 27 [.ptr 2 0]), (2, stO false 3 v L), (3, fsC s 4), (4, fsM s), (5, .row 45 3 (aq dn).length), (ak 13, .row 45 3 (aq dn).length)])
  (fun i _ _ _ => o.length - i) (fun i dn s L => i ≤ o.length ∧ dn = aJ l S given w (o.take i) ∧ cY v ((aJ l S given w o).drop i) s L = res ∧ FOk s (nb + i) (fb + 3000 * i) ∧ L.length ≤ L0.length + i ∧ ∀ r ∈ L, aR v r = true) 0 [] s0 L0 rfl ⟨by omega, rfl, hres, hk0, by omega, hm0⟩ ?_
 rintro i dn s L ⟨h0, ho, hrn, hk, hL, hm⟩ IH;have hdl : dn.length = i := by rw [ho]; exact jU S given w hb i h0
 conv=>whnf
 refine ae (fun hc => ?_) (fun hc => ?_)
 ·have hc := ap hol hc;have hbi := hb _ (List.getElem_mem hc);have hsn := gj (l := l) S given w hc hbi;rw [← ho] at hsn;have hdi := kE (l := l) S given w hb hc;rw [jT S given w hb (Nat.le_of_lt hc), ← ho] at hdi;have hdr : (aJ l S given w o).drop i = bQ l[o[i]] S (aq dn) given w :: (aJ l S given w o).drop (i + 1) := by
   obtain ⟨q1, q2⟩ := List.getElem?_eq_some_iff.1 hdi;rw [List.drop_eq_getElem_cons q1, q2]
  have hmem := List.mem_of_getElem? hdi
  (conv=>whnf); (repeat ((with_reducible refine ac ?_ ?_); exact decide_eq_true (by omega); (conv=>whnf)))
  refine idxNat (by simpa using hc) ?_
  (conv=>whnf); (repeat ((with_reducible refine ac ?_ ?_); exact decide_eq_true (by omega); (conv=>whnf)))
  refine aa (show ((o[i] : Nat) : Int).toNat < l.length by simpa using hbi) ?_;rw [show l[((o[i] : Nat) : Int).toNat]'(by simpa using hbi) = l[o[i]] from by congr 1];have hnd : l[o[i]].deps.length < 10000 := (hsm _ (List.getElem_mem hbi)).1;generalize l[o[i]] = n at hsn hdi hdr hmem hnd ⊢;conv=>whnf
  refine pc n hnd S hS hSd (aq dn) given (by simp [aq]; omega) hg w fun d hd => ?_;rw [← hd] at hsn hdi hdr hmem;clear hd;rw [hdr] at hrn;have hdm := hmay d hmem;have hsd : aq dn ++ [d.step] = aq (dn ++ [d]) := (aY dn d).symm;have hnext := IH (i + 1) (dn ++ [d]);have hpl : (sps (aq dn)).length = (aq dn).length := bA _;have hsl : (aq dn).length = i := by simpa [aq] using hdl
  generalize hout : aq dn = out at hsd hnext hpl hsl ⊢;conv=>whnf
  refine Ea hv s hk (by omega) L (by omega) hm out (by omega) d hdm (fun g => ?_) (fun g he => ?_) (fun g he => ?_)
  ·conv=>whnf
   refine ⟨hpl.symm, (by rw [hpl]; show (out.length + 1) * (32 + 1) ≤ _; omega), ?_⟩;conv=>whnf
   rw [show sps out ++ [[AV.val (.string (ofB d.step.name)), .val (.bool d.step.ran), .val (.int .u64 (d.step.con.toNat : Int))]] = sps (out ++ [d.step]) from (ey out d.step).symm,
    show (sps out).length + [[AV.val (.string (ofB d.step.name)), .val (.bool d.step.ran), .val (.int .u64 (d.step.con.toNat : Int))]].length = (out ++ [d.step]).length from by simp [hpl], al (by omega)]
   rw [hsd];refine hnext s L ⟨by omega, hsn.symm, ?_, hk.mono (by omega) (by omega), by omega, hm⟩ (by omega);rw [← hrn, cY, if_neg (by simp [g])]
  ·rw [cY, if_pos g, if_neg he] at hrn;have h1 := h1 (out ++ [d.step]);rw [← hrn] at h1;have h1 := h1 he;generalize bT v s L d.trace = se at h1 he ⊢;obtain ⟨s2, e⟩ := se;conv=>whnf
   refine aI (by simpa using he) ?_;conv=>whnf
   exact h1
  ·rw [cY, if_pos g, if_pos he] at hrn;have hk2 := pN hk (show L.length ≤ 1100 by omega) hm (hdm g).2;generalize bT v s L d.trace = se at hrn he hk2 ⊢;obtain ⟨s2, e⟩ := se;conv=>whnf
   refine ⟨hpl.symm, (by rw [hpl]; show (out.length + 1) * (32 + 1) ≤ _; omega), ?_⟩;conv=>whnf
   rw [show sps out ++ [[AV.val (.string (ofB d.step.name)), .val (.bool d.step.ran), .val (.int .u64 (d.step.con.toNat : Int))]] = sps (out ++ [d.step]) from (ey out d.step).symm,
    show (sps out).length + [[AV.val (.string (ofB d.step.name)), .val (.bool d.step.ran), .val (.int .u64 (d.step.con.toNat : Int))]].length = (out ++ [d.step]).length from by simp [hpl], al (by omega)]
   rw [hsd];refine hnext s2 (L ++ [d.trace]) ⟨by omega, hsn.symm, hrn, hk2.mono (by omega) (by omega), by simp; omega, fun r hr => ?_⟩ (by omega);rcases List.mem_append.1 hr with hr | hr
   ·exact hm r hr
   ·rw [List.mem_singleton.1 hr]; exact (hdm g).2
 ·have hc := aw hol hc;rw [List.take_of_length_le hc] at ho;rw [List.drop_eq_nil_of_le (by rw [eK S given w hb]; exact hc)] at hrn;rw [← ho, ← hrn] at h2;have h2 := h2 rfl;conv=>whnf
  exact h2
theorem Bf (l : List Nd) (hl : fN l) (o : List Nat) (hb : ∀ b ∈ o, b < l.length) (hol64 : o.length ≤ 100) (S : List Rc) (hS : S.length < 1000000) (hSd : ∀ r ∈ S, r.deps.length < 1000000) (given : List Sp) (hg : given.length < 1000000) (w : U) {R}
  (h : R (vi 0) [.cells 32 [.sl (some 1) 3 (sps (aq (aJ l S given w o)))], .row 45 3 (aq (aJ l S given w o)).length]) :
  ag Tryz.prog 43 [.sl none 4 (nds l), .sl none 1 (c6 o), .sl none 7 (bf S), .sl none 3 (sps given), uv w, .fn (.func 58) [] [.ptr 0 0]] [.cells 32 [.sl (some 1) 3 []], .row 45 3 0] R := by
 refine ab (an := Pd) tab_ok Tryz.func43 ?_;have hol := cb o;obtain ⟨hlen, hsm⟩ := hl;conv=>whnf
 refine au.ind2 (fun (i : Nat) (dn : List Dn) => [(13, .sl (some (ak 13)) 3 (sps (aq dn))), (20, vi i)])
  (fun i dn => [(0, .cells 32 [.sl (some 1) 3 (sps (aq dn))]), (1, .row 45 3 (aq dn).length), (ak 13, .row 45 3 (aq dn).length)])
  (fun i _ => o.length - i) (fun i dn => i ≤ o.length ∧ dn = aJ l S given w (o.take i)) 0 [] rfl ⟨by omega, rfl⟩ ?_
 rintro i dn ⟨h0, ho⟩ IH;have hdl : dn.length = i := by rw [ho]; exact jU S given w hb i h0
 conv=>whnf
 refine ae (fun hc => ?_) (fun hc => ?_)
 ·have hc := ap hol hc;have hbi := hb _ (List.getElem_mem hc);have hsn := gj (l := l) S given w hc hbi;rw [← ho] at hsn;have hdi := kE (l := l) S given w hb hc;rw [jT S given w hb (Nat.le_of_lt hc), ← ho] at hdi;have hdr : (aJ l S given w o).drop i = bQ l[o[i]] S (aq dn) given w :: (aJ l S given w o).drop (i + 1) := by
   obtain ⟨q1, q2⟩ := List.getElem?_eq_some_iff.1 hdi;rw [List.drop_eq_getElem_cons q1, q2]
  have hmem := List.mem_of_getElem? hdi
  (conv=>whnf); (repeat ((with_reducible refine ac ?_ ?_); exact decide_eq_true (by omega); (conv=>whnf)))
  refine idxNat (by simpa using hc) ?_
  (conv=>whnf); (repeat ((with_reducible refine ac ?_ ?_); exact decide_eq_true (by omega); (conv=>whnf)))
  refine aa (show ((o[i] : Nat) : Int).toNat < l.length by simpa using hbi) ?_;rw [show l[((o[i] : Nat) : Int).toNat]'(by simpa using hbi) = l[o[i]] from by congr 1];have hnd : l[o[i]].deps.length < 10000 := (hsm _ (List.getElem_mem hbi)).1;generalize l[o[i]] = n at hsn hdi hdr hmem hnd ⊢;conv=>whnf
  refine pc n hnd S hS hSd (aq dn) given (by simp [aq]; omega) hg w fun d hd => ?_;rw [← hd] at hsn hdi hdr hmem;clear hd;have hsd : aq dn ++ [d.step] = aq (dn ++ [d]) := (aY dn d).symm;have hnext := IH (i + 1) (dn ++ [d]);have hpl : (sps (aq dn)).length = (aq dn).length := bA _;have hsl : (aq dn).length = i := by simpa [aq] using hdl
  generalize hout : aq dn = out at hsd hnext hpl hsl ⊢;conv=>whnf
  refine BZ out (by omega) d ?_;conv=>whnf
  refine ⟨hpl.symm, (by rw [hpl]; show (out.length + 1) * (32 + 1) ≤ _; omega), ?_⟩;conv=>whnf
  rw [show sps out ++ [[AV.val (.string (ofB d.step.name)), .val (.bool d.step.ran), .val (.int .u64 (d.step.con.toNat : Int))]] = sps (out ++ [d.step]) from (ey out d.step).symm,
   show (sps out).length + [[AV.val (.string (ofB d.step.name)), .val (.bool d.step.ran), .val (.int .u64 (d.step.con.toNat : Int))]].length = (out ++ [d.step]).length from by simp [hpl], al (by omega)]
  rw [hsd];exact hnext ⟨by omega, hsn.symm⟩ (by omega)
 ·have hc := aw hol hc;rw [List.take_of_length_le hc] at ho;rw [← ho] at h;conv=>whnf
  exact h
theorem Be (l : List Nd) (hl : fN l) (o : List Nat) (hb : ∀ b ∈ o, b < l.length) (hol64 : o.length ≤ 100) (S : List Rc) (hS : S.length < 1000000) (hSd : ∀ r ∈ S, r.deps.length < 1000000) (given : List Sp) (hg : given.length < 1000000) (w : U) (name : B) (a0 : Int × Int) {R}
  (h : ∀ a, a = (aJ l S given w o).foldl (qs name) a0 → R (vi 0) [.cells 3 [vi a.1], .cells 28 [vi a.2]]) :
  ag Tryz.prog 43 [.sl none 4 (nds l), .sl none 1 (c6 o), .sl none 7 (bf S), .sl none 3 (sps given), uv w, .fn (.func 59) [] [.cptr [vs name] 0, .ptr 0 0, .ptr 1 0]] [.cells 3 [vi a0.1], .cells 28 [vi a0.2]] R := by
 refine ab (an := Pd) tab_ok Tryz.func43 ?_;have hol := cb o;obtain ⟨hlen, hsm⟩ := hl;conv=>whnf
 refine au.ind3 (fun (i : Nat) (dn : List Dn) (a : Int × Int) => [(13, .sl (some (ak 13)) 3 (sps (aq dn))), (20, vi i)])
  (fun i dn a => [(0, .cells 3 [vi a.1]), (1, .cells 28 [vi a.2]), (ak 13, .row 45 3 (aq dn).length)])
  (fun i _ _ => o.length - i) (fun i dn a => i ≤ o.length ∧ dn = aJ l S given w (o.take i) ∧ a = dn.foldl (qs name) a0) 0 [] a0 rfl ⟨by omega, rfl, rfl⟩ ?_
 rintro i dn a ⟨h0, ho, ha⟩ IH;have hdl : dn.length = i := by rw [ho]; exact jU S given w hb i h0
 conv=>whnf
 refine ae (fun hc => ?_) (fun hc => ?_)
 ·have hc := ap hol hc;have hbi := hb _ (List.getElem_mem hc);have hsn := gj (l := l) S given w hc hbi;rw [← ho] at hsn;have hdi := kE (l := l) S given w hb hc;rw [jT S given w hb (Nat.le_of_lt hc), ← ho] at hdi;have hdr : (aJ l S given w o).drop i = bQ l[o[i]] S (aq dn) given w :: (aJ l S given w o).drop (i + 1) := by
   obtain ⟨q1, q2⟩ := List.getElem?_eq_some_iff.1 hdi;rw [List.drop_eq_getElem_cons q1, q2]
  have hmem := List.mem_of_getElem? hdi
  (conv=>whnf); (repeat ((with_reducible refine ac ?_ ?_); exact decide_eq_true (by omega); (conv=>whnf)))
  refine idxNat (by simpa using hc) ?_
  (conv=>whnf); (repeat ((with_reducible refine ac ?_ ?_); exact decide_eq_true (by omega); (conv=>whnf)))
  refine aa (show ((o[i] : Nat) : Int).toNat < l.length by simpa using hbi) ?_;rw [show l[((o[i] : Nat) : Int).toNat]'(by simpa using hbi) = l[o[i]] from by congr 1];have hnd : l[o[i]].deps.length < 10000 := (hsm _ (List.getElem_mem hbi)).1;generalize l[o[i]] = n at hsn hdi hdr hmem hnd ⊢;conv=>whnf
  refine pc n hnd S hS hSd (aq dn) given (by simp [aq]; omega) hg w fun d hd => ?_;rw [← hd] at hsn hdi hdr hmem;clear hd;have hsd : aq dn ++ [d.step] = aq (dn ++ [d]) := (aY dn d).symm;have hnext := IH (i + 1) (dn ++ [d]);have hpl : (sps (aq dn)).length = (aq dn).length := bA _;have hsl : (aq dn).length = i := by simpa [aq] using hdl
  generalize hout : aq dn = out at hsd hnext hpl hsl ⊢;conv=>whnf
  refine Dy name a d ?_;generalize ha2 : qs name a d = a2;conv=>whnf
  refine ⟨hpl.symm, (by rw [hpl]; show (out.length + 1) * (32 + 1) ≤ _; omega), ?_⟩;conv=>whnf
  rw [show sps out ++ [[AV.val (.string (ofB d.step.name)), .val (.bool d.step.ran), .val (.int .u64 (d.step.con.toNat : Int))]] = sps (out ++ [d.step]) from (ey out d.step).symm,
   show (sps out).length + [[AV.val (.string (ofB d.step.name)), .val (.bool d.step.ran), .val (.int .u64 (d.step.con.toNat : Int))]].length = (out ++ [d.step]).length from by simp [hpl], al (by omega)]
  rw [hsd];exact hnext a2 ⟨by omega, hsn.symm, by rw [List.foldl_append, ← ha, ← ha2]; rfl⟩ (by omega)
 ·have hc := aw hol hc;rw [List.take_of_length_le hc] at ho;rw [ho] at ha;have h := h a ha;conv=>whnf
  exact h
theorem pa (l : List Nd) (hl : fN l) (v : Int) (L : List Rc) (s : FSt) {R} (h : ∀ o e, o = cp l → e = aV l → R (.tup [.sl none 1 (c6 o), vi e]) [stO false 1 v L, fsC s 2, fsM s]) : ag Tryz.prog 41 [.ptr 0 0, .sl none 4 (nds l)] [stO false 1 v L, fsC s 2, fsM s] R := by
 refine ab (an := Pe) tab_ok Tryz.func41 ?_;conv=>whnf
 refine ow false v L s ?_;conv=>whnf
 refine Dr l hl fun o e ho he => ?_;have h := h o e ho he;conv=>whnf
 exact h
theorem Ht (s : Sp) {R} (h : R (.val (.bool s.ran)) []) : ag Tryz.prog 48 [.agg s.enc] [] R := by
 refine ab (an := UX) tab_ok Tryz.func48 ?_;conv=>whnf
 exact h
theorem zU (l : List Sp) (hl : l.length < 1000000) {R} (h : ∀ p : Int, (0 ≤ p ↔ ∃ s ∈ l, s.ran = true) → R (vi p) []) :
  ag Tryz.prog 96 [.sl none 3 (sps l), .fn (.func 48) [] []] [] R := by
 refine ab (an := Uh) tab_ok Tryz.func96 ?_;have hsl := bA l;rw [eO] at hsl ⊢;conv=>whnf
 refine au.ind1 (fun (i : Nat) => [(8, vi i)]) (fun _ => []) (fun i => l.length - i) (fun i => i ≤ l.length ∧ ∀ d ∈ l.take i, d.ran = false) 0 rfl ⟨by omega, by simp⟩ ?_;rintro i ⟨h0, h1⟩ IH;conv=>whnf
 refine ae (fun hc => ?_) (fun hc => ?_)
 ·have hc := ap hsl hc
  (conv=>whnf); (repeat ((with_reducible refine ac ?_ ?_); exact decide_eq_true (by omega); (conv=>whnf)))
  refine idxNat (by simpa using hc) ?_;generalize hx : l[i] = x;conv=>whnf
  refine Ht x ?_;conv=>whnf
  refine ae (fun he => ?_) (fun he => ?_)
  ·conv=>whnf
   exact h _ ⟨fun _ => ⟨_, List.getElem_mem hc, by rw [hx]; exact he⟩, fun _ => by omega⟩
  ·conv=>whnf
   rw [al (by omega)];refine IH (i + 1) ⟨by omega, fun d hd => ?_⟩ (by omega);rw [List.take_succ_eq_append_getElem hc, List.mem_append, List.mem_singleton] at hd;rcases hd with hd | rfl
   ·exact h1 d hd
   ·rw [hx]; exact he
 ·have hc := aw hsl hc;rw [List.take_of_length_le hc] at h1;conv=>whnf
  exact h (-1) ⟨fun hh => by omega, fun ⟨d, hd, hn⟩ => by rw [h1 d hd] at hn; cases hn⟩
theorem rL (l : List Sp) (hl : l.length < 1000000) {R} (h : R (.val (.bool (l.any (·.ran)))) []) :
  ag Tryz.prog 47 [.sl none 3 (sps l), .fn (.func 48) [] []] [] R := by
 refine ab (an := UY) tab_ok Tryz.func47 ?_;conv=>whnf
 refine zU l hl fun p hp => ?_;have e : decide (0 ≤ p) = l.any (·.ran) := by
  rw [Bool.eq_iff_iff, decide_eq_true_eq, hp, List.any_eq_true]
 rw [← e] at h;conv=>whnf
 exact h
theorem F8 {v : Int} : ∀ (ds : List Dn) (s : FSt) (L : List Rc) {nb fb : Nat}, FOk s nb fb → L.length + ds.length ≤ 1100 → (∀ r ∈ L, aR v r = true) → (∀ d ∈ ds, d.step.ran = true → aR v d.trace = true) →
  FOk (cY v ds s L).1 (nb + ds.length) (fb + 3000 * ds.length) ∧ (cY v ds s L).2.1.length ≤ L.length + ds.length ∧ ∀ r ∈ (cY v ds s L).2.1, aR v r = true := by
 intro ds
 induction ds with
 | nil => intro s L nb fb hk _ hm _; exact ⟨hk, Nat.le_refl _, hm⟩
 | cons d ds ih =>
  intro s L nb fb hk hl hm hmay;simp only [List.length_cons] at hl ⊢;have hr := hmay d (by simp);have hmay2 := fun d hd => hmay d (List.mem_cons_of_mem _ hd);unfold cY;split
  ·rename_i g;have hk2 := pN hk (show L.length ≤ 1100 by omega) hm (hr g);split
   ·obtain ⟨h1, h2, h3⟩ := ih (bT v s L d.trace).1 (L ++ [d.trace]) hk2 (by simp; omega) (fun r hr2 => by
     rcases List.mem_append.1 hr2 with hr2 | hr2
     ·exact hm r hr2
     ·rw [List.mem_singleton.1 hr2]; exact hr g) hmay2
    exact ⟨h1.mono (by omega) (by omega), by simp at h2; omega, h3⟩
   ·exact ⟨hk2.mono (by omega) (by omega), by simp, hm⟩
  ·obtain ⟨h1, h2, h3⟩ := ih s L hk (by omega) hm hmay2;exact ⟨h1.mono (by omega) (by omega), by omega, h3⟩
def gi (v : Int) (ds : List Dn) (s : FSt) (L : List Rc) : FSt × List Rc × Int :=
 if (cY v ds s L).2.2 = 0 ∧ (aq ds).any (·.ran) = true then (((cY v ds s L).1.sync aS).1, (cY v ds s L).2.1, ((cY v ds s L).1.sync aS).2) else cY v ds s L
def wen (v : Int) (w : U) : U := if v = 1 then 0 else w
theorem n7 {v : Int} {L : List Rc} (hm : ∀ r ∈ L, aR v r = true) : ∀ r ∈ ar L, r.deps.length < 1000000 := fun r hr => by
 have := (aQ (hm r (jy hr).1)).deps;omega
theorem Db {v : Int} (l : List Nd) (hl : fN l) (hl2 : l.length ≤ 100) (given : List Sp) (hg : given.length < 1000000) (L : List Rc) (hL : L.length ≤ 1100) (hm : ∀ r ∈ L, aR v r = true) (s : FSt) {R}
  (h1 : aV l ≠ 0 → R (.tup [.val (.slice none 0 0), vi (aV l)]) [stO false 1 v L, fsC s 2, fsM s])
  (h2 : aV l = 0 → R (.tup [.sl none 3 (sps (aq (bG l (ar L) given 0))), vi 0]) [stO false 1 v L, fsC s 2, fsM s]) :
  ag Tryz.prog 19 [.ptr 0 0, .sl none 4 (nds l), .sl none 3 (sps given)] [stO false 1 v L, fsC s 2, fsM s] R := by
 refine ab (an := R2) tab_ok Tryz.func19 ?_;have hdl := fk L;conv=>whnf
 refine pa l hl v L s fun o e ho he => ?_;conv=>whnf
 refine ae (fun g => ?_) (fun g => ?_)
 ·have g : e ≠ 0 := by simpa using g
  have h1 := h1 (by rw [← he]; exact g);rw [← he] at h1;conv=>whnf
  exact h1
 ·have g : e = 0 := by simpa using g
  have h2 := h2 (by rw [← he]; exact g);rw [bG, ← ho] at h2;conv=>whnf
  refine kG false v L (by omega) (fun r hr => by have := (aQ (hm r hr)).deps; omega) s ?_;conv=>whnf
  refine ag.nilbox 0 _ 45 3 rfl ?_;refine Bf l hl o (fun b hb => iE (by rw [← ho]; exact hb)) (by rw [ho]; have := qI l; omega) (ar L) (by omega) (n7 hm) given hg 0 ?_;conv=>whnf
  exact h2
theorem q8 {v : Int} (l : List Nd) (hl : fN l) (hl2 : l.length ≤ 100) (given : List Sp) (hg : given.length < 1000000) (L : List Rc) (hL : L.length ≤ 1100) (hm : ∀ r ∈ L, aR v r = true) (s : FSt) (name : B) {R}
  (h1 : aV l ≠ 0 → R (.tup [vi 0, vi (aV l)]) [stO false 1 v L, fsC s 2, fsM s])
  (h2 : aV l = 0 → ∀ a, a = (bG l (ar L) given 0).foldl (qs name) (0, 6) → R (.tup [vi a.1, vi a.2]) [stO false 1 v L, fsC s 2, fsM s]) :
  ag Tryz.prog 20 [.ptr 0 0, .sl none 4 (nds l), .sl none 3 (sps given), vs name] [stO false 1 v L, fsC s 2, fsM s] R := by
 refine ab (an := R0) tab_ok Tryz.func20 ?_;have hdl := fk L;conv=>whnf
 refine pa l hl v L s fun o e ho he => ?_;conv=>whnf
 refine ae (fun g => ?_) (fun g => ?_)
 ·have g : e ≠ 0 := by simpa using g
  have h1 := h1 (by rw [← he]; exact g);rw [← he] at h1;conv=>whnf
  exact h1
 ·have g : e = 0 := by simpa using g
  have h2 := h2 (by rw [← he]; exact g);rw [bG, ← ho] at h2;conv=>whnf
  refine kG false v L (by omega) (fun r hr => by have := (aQ (hm r hr)).deps; omega) s ?_;conv=>whnf
  refine Be l hl o (fun b hb => iE (by rw [← ho]; exact hb)) (by rw [ho]; have := qI l; omega) (ar L) (by omega) (n7 hm) given hg 0 name (0, 6) fun a ha => ?_;have h2 := h2 a ha;conv=>whnf
  exact h2
theorem jm {v : Int} (hv : is3 v) (l : List Nd) (hl : fN l) (hl2 : l.length ≤ 100) (given : List Sp) (hg : given.length < 1000000) (w : U) (s : FSt) {nb fb : Nat} (hk : FOk s nb fb) (hfb : fb ≤ 70000000) (L : List Rc) (hL : L.length ≤ 1030) (hm : ∀ r ∈ L, aR v r = true) {R}
  (h1 : aV l ≠ 0 → R (.tup [.val (.slice none 0 0), vi (aV l)]) [stO false 1 v L, fsC s 2, fsM s])
  (h2 : aV l = 0 → ∀ f, f = gi v (bG l (ar L) given (wen v w)) s L → f.2.2 ≠ 0 → R (.tup [.val (.slice none 0 0), vi f.2.2]) [stO (f.2.2 == 7) 1 v f.2.1, fsC f.1 2, fsM f.1])
  (h3 : aV l = 0 → ∀ f, f = gi v (bG l (ar L) given (wen v w)) s L → f.2.2 = 0 → R (.tup [.sl none 3 (sps (aq (bG l (ar L) given (wen v w)))), vi 0]) [stO false 1 v f.2.1, fsC f.1 2, fsM f.1]) :
  ag Tryz.prog 12 [.ptr 0 0, .sl none 4 (nds l), .sl none 3 (sps given), uv w] [stO false 1 v L, fsC s 2, fsM s] R := by
 refine ab (an := { Pi with cst := [] }) tab_ok Tryz.func12 ?_;have hdl := fk L;have hLd : ∀ r ∈ L, r.deps.length < 1000000 := fun r hr => by have := (aQ (hm r hr)).deps; omega
 conv=>whnf
 refine pa l hl v L s fun o e ho he => ?_;conv=>whnf
 refine ae (fun g => ?_) (fun g => ?_)
 ·have g : e ≠ 0 := by simpa using g
  have h1 := h1 (by rw [← he]; exact g);rw [← he] at h1;conv=>whnf
  exact h1
 have g : e = 0 := by simpa using g
 have hck : aV l = 0 := by rw [← he]; exact g
 have h2 := h2 hck _ rfl;have h3 := h3 hck _ rfl;have hv3 : v = 1 ∨ v = 2 ∨ v = 3 := hv;have hwen : v = 1 → wen v w = 0 := fun e => by rw [wen, if_pos e]
 have hmay : ∀ d ∈ bG l (ar L) given (wen v w), d.step.ran = true → d.trace.kind = 1 ∧ aR v d.trace = true := fun d hd hr => ⟨(gt (pb hck) hd hr).1, nI hv3 hck hwen d hd hr⟩;have hdn : (bG l (ar L) given (wen v w)).length ≤ 64 := by rw [bG, eK _ _ _ (fun b hb => iE hb), jH hck]; exact (eM hck).2.2.2
 have hbo : ∀ b ∈ o, b < l.length := fun b hb => iE (by rw [← ho]; exact hb);have hol : o.length ≤ 64 := by rw [ho, jH hck]; exact (eM hck).2.2.2
 obtain ⟨hk2, hL2, hm2⟩ := F8 (bG l (ar L) given (wen v w)) s L hk (by omega) hm (fun d hd hr => (hmay d hd hr).2);unfold gi at h2 h3;rw [bG, ← ho] at h2 h3 hmay hk2 hL2 hm2;clear he h1;conv=>whnf
 refine ux false v L s ?_;conv=>whnf
 refine ae (fun q => ?_) (fun q => ?_)
 ·have q : v = 1 := by simpa using q
  have hw0 : wen v w = 0 := hwen q;rw [hw0] at h2 h3 hmay hk2 hL2 hm2;conv=>whnf
  refine kG false v L (by omega) hLd s ?_;conv=>whnf
  refine ag.nilbox 0 _ 45 3 rfl ?_;refine tI hv l hl o hbo (by omega) (ar L) (by omega) (n7 hm) given hg 0 s hk (by omega) L (by omega) hm hmay (fun out he => ?_) (fun he => ?_)
  ·rw [if_neg (fun hx => he hx.1)] at h2;have h2 := h2 he;generalize cY v (aJ l (ar L) given 0 o) s L = res at he h2 ⊢;obtain ⟨s2, L2, x⟩ := res;have he : x ≠ 0 := he;conv=>whnf
   refine am (by simpa using he) ?_;conv=>whnf
   refine aI (by simpa using he) ?_;conv=>whnf
   exact h2
  ·generalize hst : aq (aJ l (ar L) given 0 o) = out at h2 h3 ⊢;have hou : out.length < 1000000 := by rw [← hst, aq, List.length_map, eK _ _ _ hbo]; omega
   generalize cY v (aJ l (ar L) given 0 o) s L = res at he h2 h3 hk2 hL2 hm2 ⊢;obtain ⟨s2, L2, x⟩ := res;have he : x = 0 := he;subst he;conv=>whnf
   refine rL out hou ?_;generalize hra : out.any (·.ran) = ra at h2 h3
   cases ra with
   | false =>
    rw [if_neg (by simp)] at h3;have h3 := h3 rfl;conv=>whnf
    exact h3
   | true =>
    rw [if_pos ⟨rfl, rfl⟩] at h2 h3;conv=>whnf
    refine lr v L2 s2 hk2.fail hk2.fall ?_;have h2 : (s2.sync aS).2 ≠ 0 → R (.tup [.val (.slice none 0 0), vi (s2.sync aS).2]) [stO ((s2.sync aS).2 == 7) 1 v L2, fsC (s2.sync aS).1 2, fsM (s2.sync aS).1] := h2;have h3 : (s2.sync aS).2 = 0 → R (.tup [.sl none 3 (sps out), vi 0]) [stO false 1 v L2, fsC (s2.sync aS).1 2, fsM (s2.sync aS).1] := h3;generalize s2.sync aS = se at h2 h3 ⊢;obtain ⟨s3, y⟩ := se;by_cases hy : y = 0
    ·subst hy;have h3 := h3 rfl;conv=>whnf
     exact h3
    ·have h2 := h2 hy;conv=>whnf
     refine aI (by simpa using hy) ?_;conv=>whnf
     exact h2
 ·have q : v ≠ 1 := by simpa using q
  have hw0 : wen v w = w := by rw [wen, if_neg q]
  rw [hw0] at h2 h3 hmay hk2 hL2 hm2;conv=>whnf
  refine kG false v L (by omega) hLd s ?_;conv=>whnf
  refine ag.nilbox 0 _ 45 3 rfl ?_;refine tI hv l hl o hbo (by omega) (ar L) (by omega) (n7 hm) given hg w s hk (by omega) L (by omega) hm hmay (fun out he => ?_) (fun he => ?_)
  ·rw [if_neg (fun hx => he hx.1)] at h2;have h2 := h2 he;generalize cY v (aJ l (ar L) given w o) s L = res at he h2 ⊢;obtain ⟨s2, L2, x⟩ := res;have he : x ≠ 0 := he;conv=>whnf
   refine am (by simpa using he) ?_;conv=>whnf
   refine aI (by simpa using he) ?_;conv=>whnf
   exact h2
  ·generalize hst : aq (aJ l (ar L) given w o) = out at h2 h3 ⊢;have hou : out.length < 1000000 := by rw [← hst, aq, List.length_map, eK _ _ _ hbo]; omega
   generalize cY v (aJ l (ar L) given w o) s L = res at he h2 h3 hk2 hL2 hm2 ⊢;obtain ⟨s2, L2, x⟩ := res;have he : x = 0 := he;subst he;conv=>whnf
   refine rL out hou ?_;generalize hra : out.any (·.ran) = ra at h2 h3
   cases ra with
   | false =>
    rw [if_neg (by simp)] at h3;have h3 := h3 rfl;conv=>whnf
    exact h3
   | true =>
    rw [if_pos ⟨rfl, rfl⟩] at h2 h3;conv=>whnf
    refine lr v L2 s2 hk2.fail hk2.fall ?_;have h2 : (s2.sync aS).2 ≠ 0 → R (.tup [.val (.slice none 0 0), vi (s2.sync aS).2]) [stO ((s2.sync aS).2 == 7) 1 v L2, fsC (s2.sync aS).1 2, fsM (s2.sync aS).1] := h2;have h3 : (s2.sync aS).2 = 0 → R (.tup [.sl none 3 (sps out), vi 0]) [stO false 1 v L2, fsC (s2.sync aS).1 2, fsM (s2.sync aS).1] := h3;generalize s2.sync aS = se at h2 h3 ⊢;obtain ⟨s3, y⟩ := se;by_cases hy : y = 0
    ·subst hy;have h3 := h3 rfl;conv=>whnf
     exact h3
    ·have h2 := h2 hy;conv=>whnf
     refine aI (by simpa using hy) ?_;conv=>whnf
     exact h2
end Go.Abs
end
section
namespace Go.Abs
open Go Go.Proofs
attribute [local irreducible] aH aE aO firstIdx
def flE (p : B × Fl) : List AV := [vs p.1, vs p.2.b, vi (p.2.safe : Int)]
def dJ (m : FM) : List (List AV) := m.map flE
theorem dB (m : FM) : (dJ m).length = m.length := by simp [dJ]
def fsR (s : FSt) : List AV := [.sl none 3 (dJ s.fs), vi s.fail, vi s.fall, .val (.bool s.down)]
theorem vI {R} (h : R (.agg (fsR fs0)) []) : ag Tryz.prog 56 [] [] R := by
 refine ag.res ?_;refine ab (an := UP) tab_ok Tryz.func56 ?_;conv=>whnf
 exact cf (iL (leL.cons (cy 3) (leL.refl _))) rfl h
theorem Mg {m : FM} {n : B} : ∀ i, (∀ p ∈ m.take i, p.1 ≠ n) → lk m n = lk (m.drop i) n := by
 induction m with
 | nil => intro i h; simp
 | cons a m ih =>
  intro i h
  cases i with
  | zero => rfl
  | succ i =>
   obtain ⟨x, f⟩ := a;have h1 : x ≠ n := h (x, f) (by simp);rw [List.drop_succ_cons, ← ih i fun p hp => h p (by simp [hp])];simp [lk, h1]
theorem Ow {m : FM} {n : B} {i : Nat} (hi : i < m.length) (h : ∀ p ∈ m.take i, p.1 ≠ n) (he : m[i].1 = n) : lk m n = some m[i].2 := by
 rw [Mg i h, List.drop_eq_getElem_cons hi];simp [lk, he]
theorem zw {m : FM} {n : B} {i : Nat} (hi : i < m.length) (h : ∀ p ∈ m.take i, p.1 ≠ n) (he : m[i].1 ≠ n) : ∀ p ∈ m.take (i + 1), p.1 ≠ n := by
 intro p hp;rw [List.take_succ_eq_append_getElem hi] at hp;rcases List.mem_append.1 hp with hp | hp
 ·exact h p hp
 ·rw [List.mem_singleton.1 hp]; exact he
theorem fW (s : FSt) (hl : s.fs.length < 1000000) (n : B) {R} (h : R (.tup [.agg (flE (n, gF s.fs n)), .val (.bool (decide (n ∈ kys s.fs)))]) []) : ag Tryz.prog 73 [.agg (fsR s), vs n] [] R := by
 refine ab (an := UA) tab_ok Tryz.func73 ?_;have hsl := dB s.fs;generalize hm : s.fs = m at hl hsl h;conv=>whnf
 rw [hm];refine au.ind1 (fun (i : Nat) => [(6, vi i)]) (fun _ => [(ak 4, .cells 140 [vs [], vs [], vi 0])]) (fun i => m.length - i) (fun i => i ≤ m.length ∧ ∀ p ∈ m.take i, p.1 ≠ n) 0 rfl ⟨by omega, by simp⟩ ?_;rintro i ⟨h0, h1⟩ IH;conv=>whnf
 refine ae (fun hc => ?_) (fun hc => ?_)
 ·have hi := ap hsl hc
  (conv=>whnf); (repeat ((with_reducible refine ac ?_ ?_); exact decide_eq_true (by omega); (conv=>whnf)))
  refine idxNat (by simpa using hi) ?_;have hit := Ow hi h1;have hne := zw hi h1;have hmi : m[i] ∈ m := List.getElem_mem hi;generalize hp : m[i] = p at hit hne hmi;obtain ⟨x, f⟩ := p;conv=>whnf
  refine ae (fun g => ?_) (fun g => ?_)
  ·have g : x = n := b9 (of_decide_eq_true g);subst g;have e1 : gF m x = f := by unfold gF; rw [hit rfl]; rfl
   have e2 : decide (x ∈ kys m) = true := decide_eq_true (lT (hit rfl));rw [e1, e2] at h
   (conv=>whnf); (repeat ((with_reducible refine ac ?_ ?_); exact decide_eq_true (by omega); (conv=>whnf)))
   refine idxNat (by simpa using hi) ?_;rw [hp];conv=>whnf
   exact h
  ·have g : x ≠ n := fun e => by subst e; exact of_decide_eq_false g rfl
   have IH := IH (i + 1) ⟨hi, hne g⟩ (by omega);conv=>whnf
   rw [al (by omega)];exact IH
 ·have hi := aw hsl hc;rw [List.take_of_length_le hi] at h1;have hn : n ∉ kys m := fun hx => by
   obtain ⟨p, hp, e⟩ := List.mem_map.1 hx;exact h1 p hp e
  rw [decide_eq_false hn, show gF m n = flZ from by unfold gF; rw [fQ.2 hn]; rfl] at h;conv=>whnf
  exact h
end Go.Abs
end
section
namespace Go.Abs
open Go Go.Proofs
theorem ag.freeze {P : Program} {f : FuncId} {args : List AV} {R : AV → List aF → Prop} {t : TypeId} {sz ver : Nat} {l : List (List AV)} {cs : List AV} (hcs : cE.go cs = true) (hnm : cL cs = [])
  (hc : ag P f args [] fun r os => r = .agg (.slv 0 sz ver 0 l.length :: cs) ∧ os = [.vec t sz l ver]) (h : R (.agg (.sl none sz l :: cs)) []) : ag P f args [] R := by
 refine ⟨fun G w vals hW hA => (hc.run G w vals hW hA).mono ?_⟩;rintro e w' ⟨v, r, os', G', h1, ⟨rfl, rfl⟩, h3, h4, h5, h6, h7, _, _⟩;have hno : ∀ n b, ¬ G.at n b := fun n b hb => by
  rcases hb with hb | ⟨u, t', hb, _⟩ <;> (obtain ⟨o, ho⟩ := hW.dom _ _ hb; cases ho)
 obtain ⟨u, xs, o1, o2, o3, o4, o5⟩ := h4.obj 0 (.vec t sz l ver) rfl;have hK0 : ∀ b o v, G'.K b o = some v → ig G'.K u xs b o = some v := fun b o v e => by
  by_cases hb : some b = u.ownBlock
  ·rw [o5 b hb.symm o] at e; cases e
  ·simp [ig, hb, e]
 simp only [Rep, aB] at h3;obtain ⟨vs, rfl, x, us, rfl, ⟨⟨A, c, rfl, _, hlc⟩, u', top, e1, e2, e3⟩, hus⟩ := h3;rw [o1] at e1;injection e1 with e1
 injection e1 with e1 e1'
 subst e1 e1';obtain ⟨A0, L, c0, A', hu, hL, hLc, hv, hA0, hgg⟩ := e3 rfl;refine ⟨_, .agg (.sl none sz l :: cs), [], ⟨ig G'.K u xs, fun _ => none⟩, h1, h, ?_, ⟨?_, ?_, ?_, ?_, h4.glob.mono hK0⟩, ⟨fun b o v e => hK0 _ _ _ (h5.K _ _ _ e), fun n b e => ?_, fun n u t e => ?_⟩, ⟨h6.os, h6.tape, h6.output, h6.size, h6.block, fun b o hb hT => ?_⟩, ?_, ?_, ?_⟩
 ·simp only [Rep];refine ⟨_, rfl, ?_⟩;simp only [aB];refine ⟨_, _, rfl, ?_, aB.nameless (G := G') hK0 _ _ hcs hus⟩;simp only [Rep];refine ⟨⟨A, c, rfl, hlc, ?_⟩, trivial⟩;by_cases hl0 : l = []
  ·subst hl0; simp [eh]
  ·obtain ⟨g, hg1, hg2⟩ := hgg (fun e => hl0 (List.eq_nil_of_length_eq_zero e));injection hv with hv1 hv2 hv3
   rw [hv1, hg2, Nat.zero_mul];refine eh.of_flat (aB.nameless (G := G') hK0 _ _ (qR o4) o3) o4 fun j v hj => ?_;have : some g = u.ownBlock := by rw [hu, hg1]; rfl
   simp only [ig, this, if_true];simpa using hj
 ·intro b o v e;have e : ig G'.K u xs b o = some v := e;by_cases hb : some b = u.ownBlock
  ·simp only [ig, hb, if_true] at e;exact rF (K := G'.K) o2 hb e
  ·simp only [ig, hb, if_false] at e;exact h4.know _ _ _ e
 ·intro n o e; cases e
 ·intro n g e; cases e
 ·intro n m b e;rcases e with e | ⟨u, t', e, _⟩ <;> cases e
 ·exact absurd (.inl e) (hno n b)
 ·obtain ⟨o, ho⟩ := hW.dom _ _ e; cases ho
 ·show ig G'.K u xs b o = _;have hne : some b ≠ u.ownBlock := fun e => by
   rcases h7 0 b (.inr ⟨u, ver, o1, e.symm⟩) with ⟨m, hm⟩ | hm
   ·exact hno m b hm
   ·omega
  simp only [ig, hne, if_false];exact h6.knew b o hb hT
 ·intro n b e;rcases e with e | ⟨u, t', e, _⟩ <;> cases e
 ·intro i o e; cases e
 ·intro m hm;exfalso;simp only [AV.names, cL, hnm] at hm
  cases hm
end Go.Abs
end
section
namespace Go.Abs
open Go Go.Proofs
attribute [local irreducible] aH aE aO firstIdx
theorem kN : (tab.ti 140).bytes = 40 := rfl
def wF (m : FM) (n : B) : FM := m.filter fun p => decide (p.1 ≠ n)
theorem FX {m : FM} {n : B} {i : Nat} (hi : i < m.length) : wF (m.take (i + 1)) n = wF (m.take i) n ++ if m[i].1 = n then [] else [m[i]] := by
 unfold wF;rw [List.take_succ_eq_append_getElem hi, List.filter_append];congr 1;by_cases h : m[i].1 = n
 ·simp [h]
 ·simp [h]
theorem Ja (m : FM) (n : B) (i : Nat) : (wF (m.take i) n).length ≤ i := by
 unfold wF;have := List.length_filter_le (fun p : B × Fl => decide (p.1 ≠ n)) (m.take i);rw [List.length_take] at this;omega
theorem mE (l m : FM) : dJ (l ++ m) = dJ l ++ dJ m := by simp [dJ]
theorem oM (s : FSt) (hl : s.fs.length < 1000000) (n : B) {R} (h : R (.agg (fsR ⟨wF s.fs n, s.fail, s.fall, s.down⟩)) []) : ag Tryz.prog 141 [.agg (fsR s), vs n] [] R := by
 refine ab (an := NJ) tab_ok Tryz.func141 ?_;have hsl := dB s.fs;generalize hm : s.fs = m at hl hsl h;conv=>whnf
 rw [hm];refine au.ind2 (fun (i : Nat) (o : FM) => [(5, .sl (some (ak 7)) 3 (dJ o)), (6, vi i)]) (fun i o => [(ak 2, .cells 53 [.sl none 3 (dJ m), vi s.fail, vi s.fall, .val (.bool s.down)]), (ak 4, .cells 53 [.val (.slice none 0 0), vi 0, vi 0, .val (.bool false)]), (ak 7, .row 140 3 o.length)]) (fun i _ => m.length - i) (fun i o => i ≤ m.length ∧ o = wF (m.take i) n) 0 [] rfl ⟨by omega, rfl⟩ ?_;rintro i o ⟨h0, ho⟩ IH;have hst := dB o;have hol := Ja m n i;rw [← ho] at hol;conv=>whnf
 refine ae (fun hc => ?_) (fun hc => ?_)
 ·have hi := ap hsl hc;have hsn := FX (n := n) hi;rw [← ho] at hsn
  (conv=>whnf); (repeat ((with_reducible refine ac ?_ ?_); exact decide_eq_true (by omega); (conv=>whnf)))
  refine idxNat (by simpa using hi) ?_;generalize hp : m[i] = p at hsn;obtain ⟨x, f⟩ := p;conv=>whnf
  refine ae (fun g => ?_) (fun g => ?_)
  ·have g : x ≠ n := fun e => by
    have g : (!decide (ofB x = ofB n)) = true := g;rw [e] at g;simp at g
   rw [if_neg g] at hsn;have IH := IH (i + 1) _ ⟨hi, hsn.symm⟩ (by omega);rw [mE, List.length_append] at IH
   (conv=>whnf); (repeat ((with_reducible refine ac ?_ ?_); exact decide_eq_true (by omega); (conv=>whnf)))
   refine idxNat (by simpa using hi) ?_;rw [hp];conv=>whnf
   refine ⟨hst.symm, by rw [hst, kN]; simp only [List.length_cons, List.length_nil]; omega, ?_⟩;conv=>whnf
   rw [al (by omega)];rw [hst];exact IH
  ·have g : x = n := by
    have g : (!decide (ofB x = ofB n)) = false := g;refine b9 ?_;simpa using g
   rw [if_pos g, List.append_nil] at hsn;have IH := IH (i + 1) o ⟨hi, hsn.symm⟩ (by omega);conv=>whnf
   rw [al (by omega)];exact IH
 ·have hi := aw hsl hc;rw [List.take_of_length_le hi] at ho;subst ho;conv=>whnf
  exact h
theorem uY (s : FSt) (hl : s.fs.length < 1000000) (n : B) {R} (h : R (.agg [.slv 0 3 (wF s.fs n).length 0 (wF s.fs n).length, vi s.fail, vi s.fall, .val (.bool s.down)]) [.vec 140 3 (dJ (wF s.fs n)) (wF s.fs n).length]) : ag Tryz.prog 141 [.agg (fsR s), vs n] [] R := by
 refine ab (an := { NJ with keepRes := true, frv := [(5, 7)] }) tab_ok Tryz.func141 ?_;have hsl := dB s.fs;generalize hm : s.fs = m at hl hsl h;conv=>whnf
 rw [hm];refine au.ind2 (fun (i : Nat) (o : FM) => [(5, .slv (ak 7) 3 o.length 0 o.length), (6, vi i)]) (fun i o => [(ak 2, .cells 53 [.sl none 3 (dJ m), vi s.fail, vi s.fall, .val (.bool s.down)]), (ak 4, .cells 53 [.val (.slice none 0 0), vi 0, vi 0, .val (.bool false)]), (ak 7, .vec 140 3 (dJ o) o.length)]) (fun i _ => m.length - i) (fun i o => i ≤ m.length ∧ o = wF (m.take i) n) 0 [] rfl ⟨by omega, rfl⟩ ?_;rintro i o ⟨h0, ho⟩ IH;have hst := dB o;have hol := Ja m n i;rw [← ho] at hol;conv=>whnf
 refine ae (fun hc => ?_) (fun hc => ?_)
 ·have hi := ap hsl hc;have hsn := FX (n := n) hi;rw [← ho] at hsn
  (conv=>whnf); (repeat ((with_reducible refine ac ?_ ?_); exact decide_eq_true (by omega); (conv=>whnf)))
  refine idxNat (by simpa using hi) ?_;generalize hp : m[i] = p at hsn;obtain ⟨x, f⟩ := p;conv=>whnf
  refine ae (fun g => ?_) (fun g => ?_)
  ·have g : x ≠ n := fun e => by
    have g : (!decide (ofB x = ofB n)) = true := g;rw [e] at g;simp at g
   rw [if_neg g] at hsn;have IH := IH (i + 1) _ ⟨hi, hsn.symm⟩ (by omega);rw [mE, List.length_append] at IH
   (conv=>whnf); (repeat ((with_reducible refine ac ?_ ?_); exact decide_eq_true (by omega); (conv=>whnf)))
   refine idxNat (by simpa using hi) ?_;rw [hp];conv=>whnf
   refine ⟨⟨rfl, rfl, by omega⟩, by rw [kN]; simp only [List.length_cons, List.length_nil]; omega, ?_⟩;rw [List.take_of_length_le (show (dJ o).length ≤ o.length by omega)];conv=>whnf
   rw [al (by omega)];exact IH
  ·have g : x = n := by
    have g : (!decide (ofB x = ofB n)) = false := g;refine b9 ?_;simpa using g
   rw [if_pos g, List.append_nil] at hsn;have IH := IH (i + 1) o ⟨hi, hsn.symm⟩ (by omega);conv=>whnf
   rw [al (by omega)];exact IH
 ·have hi := aw hsl hc;rw [List.take_of_length_le hi] at ho;subst ho;conv=>whnf
  exact h
def ke (n : B) (w : FM) : Nat → Nat
 | 0 => 0
 | k + 1 => match w[k]? with
  | some p => if ltB n p.1 = true then ke n w k else k + 1
  | none => k + 1
theorem ME (n : B) (w : FM) : ∀ k, ke n w k ≤ k := by
 intro k
 induction k with
 | zero => exact Nat.le_refl _
 | succ k ih =>
  unfold ke;split
  ·split
   ·omega
   ·omega
  ·omega
def rpt (m : FM) (n : B) (f : Fl) : FM := let w := wF m n; w.take (ke n w w.length) ++ (n, f) :: w.drop (ke n w w.length)
theorem qC (s : FSt) (hl : s.fs.length < 1000000) (hn : ∀ x ∈ kys s.fs, x.length < 1000000) (n : B) (f : Fl) (hnl : n.length < 1000000) {R} (h : R (.agg (fsR ⟨rpt s.fs n f, s.fail, s.fall, s.down⟩)) []) : ag Tryz.prog 150 [.agg (fsR s), .agg (flE (n, f))] [] R := by
 refine ag.freeze (t := 140) (sz := 3) (ver := (wF s.fs n).length + 2) (l := dJ (rpt s.fs n f)) (cs := [vi s.fail, vi s.fall, .val (.bool s.down)]) rfl rfl ?_ h;clear h R;refine ab (an := { Su with anyo := [6] }) tab_ok Tryz.func150 ?_;conv=>whnf
 refine uY s hl n ?_;have hwn : ∀ p ∈ wF s.fs n, p.1.length < 1000000 := fun p hp => hn p.1 (List.mem_map_of_mem (List.mem_filter.1 hp).1);have hwl : (wF s.fs n).length < 1000000 := Nat.lt_of_le_of_lt (List.length_filter_le _ _) hl;unfold rpt;generalize wF s.fs n = W at hwn hwl ⊢;have hsl := dB W;conv=>whnf
 refine au.ind1 (fun (k : Nat) => [(5, vi k)]) (fun k => [(ak 2, .cells 53 [.slv (ax 10 0) 3 W.length 0 W.length, vi s.fail, vi s.fall, .val (.bool s.down)]), (ak 4, .cells 53 [.val (.slice none 0 0), vi 0, vi 0, .val (.bool false)]), (ax 10 0, .vec 140 3 (dJ W) W.length)]) (fun k => k) (fun k => k ≤ W.length ∧ ke n W k = ke n W W.length) W.length rfl ⟨Nat.le_refl _, rfl⟩ ?_;rintro k ⟨h0, hk⟩ IH;show _;conv=>whnf
 refine ae (fun g => ?_) (fun g => ?_)
 ·have g : 0 < k := by have := of_decide_eq_true g; omega
  obtain ⟨j, rfl⟩ : ∃ j, k = j + 1 := ⟨k - 1, by omega⟩;have ej : IntKind.i64.wrap (((j + 1 : Nat) : Int) - 1) = (j : Int) := by rw [aK (by omega) (by omega)]; omega
  have hj : j < W.length := by omega
  conv=>whnf
  rw [ej];refine ac (decide_eq_true (by omega)) ?_;conv=>whnf
  refine ⟨rfl, aa (show 0 + (j : Int).toNat < W.length by simpa using hj) ?_⟩;rw [show W[0 + (j : Int).toNat]'(by simpa using hj) = W[j] from by congr 1; omega];have hwj := hwn _ (List.getElem_mem hj);have hcut : ke n W (j + 1) = if ltB n W[j].1 = true then ke n W j else j + 1 := by
   conv => lhs; unfold ke
   rw [List.getElem?_eq_getElem hj]
  generalize W[j] = p at hwj hcut;obtain ⟨x, fx⟩ := p;conv=>whnf
  refine oA n x hnl hwj fun q hq => ?_
  cases q with
  | true =>
   rw [show ltB n x = true from hq.symm, if_pos rfl] at hcut;have IH := IH j ⟨by omega, by rw [← hcut]; exact hk⟩ (by omega);conv=>whnf
   rw [ej];exact IH
  | false =>
   rw [show ltB n x = false from hq.symm, if_neg (by simp)] at hcut;have hkk : ke n W W.length = j + 1 := by rw [← hk, hcut]
   clear IH hcut hk hq hwj;generalize j + 1 = k at hkk h0 ⊢;clear ej;conv=>whnf
   refine ac (decide_eq_true (by omega)) ?_;conv=>whnf
   refine ac (decide_eq_true (Int.le_refl _)) ?_;conv=>whnf
   refine ⟨⟨rfl, rfl⟩, by rw [kN]; simp only [List.length_nil]; omega, ?_⟩;have hrest : [] ++ List.take (((W.length : Nat) : Int).toNat - ((k : Nat) : Int).toNat) (List.drop (0 + ((k : Nat) : Int).toNat) (dJ W)) = dJ (W.drop k) := by
    rw [List.nil_append, Nat.zero_add, Int.toNat_natCast, Int.toNat_natCast, List.take_of_length_le (by rw [List.length_drop, hsl]; exact Nat.le_refl _)];simp [dJ, List.map_drop]
   rw [hrest];conv=>whnf
   refine ⟨?_, trivial⟩;conv=>whnf
   refine ac (decide_eq_true (by omega)) ?_;conv=>whnf
   refine ⟨?_, trivial⟩;conv=>whnf
   refine ⟨⟨rfl, rfl, by rw [hsl, Int.toNat_natCast]; omega⟩, by rw [kN, Int.toNat_natCast]; simp only [List.length_cons, List.length_nil]; omega, ?_⟩;conv=>whnf
   have htk : List.take (((k : Nat) : Int).toNat - ((0 : Nat) : Int).toNat) (dJ W) = dJ (W.take k) := by
    rw [Int.toNat_natCast, Int.toNat_natCast, Nat.sub_zero];simp [dJ, List.map_take]
   have hr2 := dB (W.drop k);have hr3 := dB (W.take k);rw [List.length_drop] at hr2;rw [List.length_take] at hr3;refine ⟨?_, trivial⟩;conv=>whnf
   rw [htk];refine ⟨⟨rfl, rfl, by simp only [List.length_append, List.length_cons, List.length_nil, hr3, Int.toNat_natCast]; omega⟩, by rw [kN, Int.toNat_natCast]; simp only [List.length_cons, List.length_nil, hr2]; omega, ?_⟩;conv=>whnf
   refine ⟨?_, trivial⟩;conv=>whnf
   have e1 : ((k : Nat) : Int).toNat - ((0 : Nat) : Int).toNat + 1 + (dJ (W.drop k)).length = (dJ (W.take k ++ (n, f) :: W.drop k)).length := by
    rw [hr2, dB, List.length_append, List.length_take, List.length_cons, List.length_drop, Int.toNat_natCast, Int.toNat_natCast]; omega
   have e2 : List.take (((k : Nat) : Int).toNat - ((0 : Nat) : Int).toNat + 1) (dJ (W.take k) ++ [flE (n, f)]) ++ dJ (W.drop k) = dJ (W.take k ++ (n, f) :: W.drop k) := by
    rw [List.take_of_length_le (by rw [List.length_append, hr3, List.length_singleton, Int.toNat_natCast, Int.toNat_natCast]; omega), mE, List.append_assoc];rfl
   show AV.agg [.slv 0 3 (W.length + 2) 0 (((k : Nat) : Int).toNat - ((0 : Nat) : Int).toNat + 1 + (dJ (W.drop k)).length), vi s.fail, vi s.fall, .val (.bool s.down)] = .agg [.slv 0 3 (W.length + 2) 0 (dJ (W.take (ke n W W.length) ++ (n, f) :: W.drop (ke n W W.length))).length, vi s.fail, vi s.fall, .val (.bool s.down)] ∧
    [aF.vec 140 3 (List.take (((k : Nat) : Int).toNat - ((0 : Nat) : Int).toNat + 1) (dJ (W.take k) ++ [flE (n, f)]) ++ dJ (W.drop k)) (W.length + 2)] = [aF.vec 140 3 (dJ (W.take (ke n W W.length) ++ (n, f) :: W.drop (ke n W W.length))) (W.length + 2)]
   rw [hkk, e1, e2];exact ⟨rfl, rfl⟩
 ·have g : k = 0 := by have := of_decide_eq_false g; omega
  have hkk : ke n W W.length = k := by rw [← hk, g]; rfl
  clear IH hk g;conv=>whnf
  refine ac (decide_eq_true (by omega)) ?_;conv=>whnf
  refine ac (decide_eq_true (Int.le_refl _)) ?_;conv=>whnf
  refine ⟨⟨rfl, rfl⟩, by rw [kN]; simp only [List.length_nil]; omega, ?_⟩;have hrest : [] ++ List.take (((W.length : Nat) : Int).toNat - ((k : Nat) : Int).toNat) (List.drop (0 + ((k : Nat) : Int).toNat) (dJ W)) = dJ (W.drop k) := by
   rw [List.nil_append, Nat.zero_add, Int.toNat_natCast, Int.toNat_natCast, List.take_of_length_le (by rw [List.length_drop, hsl]; exact Nat.le_refl _)];simp [dJ, List.map_drop]
  rw [hrest];conv=>whnf
  refine ⟨?_, trivial⟩;conv=>whnf
  refine ac (decide_eq_true (by omega)) ?_;conv=>whnf
  refine ⟨?_, trivial⟩;conv=>whnf
  refine ⟨⟨rfl, rfl, by rw [hsl, Int.toNat_natCast]; omega⟩, by rw [kN, Int.toNat_natCast]; simp only [List.length_cons, List.length_nil]; omega, ?_⟩;conv=>whnf
  have htk : List.take (((k : Nat) : Int).toNat - ((0 : Nat) : Int).toNat) (dJ W) = dJ (W.take k) := by
   rw [Int.toNat_natCast, Int.toNat_natCast, Nat.sub_zero];simp [dJ, List.map_take]
  have hr2 := dB (W.drop k);have hr3 := dB (W.take k);rw [List.length_drop] at hr2;rw [List.length_take] at hr3;refine ⟨?_, trivial⟩;conv=>whnf
  rw [htk];refine ⟨⟨rfl, rfl, by simp only [List.length_append, List.length_cons, List.length_nil, hr3, Int.toNat_natCast]; omega⟩, by rw [kN, Int.toNat_natCast]; simp only [List.length_cons, List.length_nil, hr2]; omega, ?_⟩;conv=>whnf
  refine ⟨?_, trivial⟩;conv=>whnf
  have e1 : ((k : Nat) : Int).toNat - ((0 : Nat) : Int).toNat + 1 + (dJ (W.drop k)).length = (dJ (W.take k ++ (n, f) :: W.drop k)).length := by
   rw [hr2, dB, List.length_append, List.length_take, List.length_cons, List.length_drop, Int.toNat_natCast, Int.toNat_natCast]; omega
  have e2 : List.take (((k : Nat) : Int).toNat - ((0 : Nat) : Int).toNat + 1) (dJ (W.take k) ++ [flE (n, f)]) ++ dJ (W.drop k) = dJ (W.take k ++ (n, f) :: W.drop k) := by
   rw [List.take_of_length_le (by rw [List.length_append, hr3, List.length_singleton, Int.toNat_natCast, Int.toNat_natCast]; omega), mE, List.append_assoc];rfl
  show AV.agg [.slv 0 3 (W.length + 2) 0 (((k : Nat) : Int).toNat - ((0 : Nat) : Int).toNat + 1 + (dJ (W.drop k)).length), vi s.fail, vi s.fall, .val (.bool s.down)] = .agg [.slv 0 3 (W.length + 2) 0 (dJ (W.take (ke n W W.length) ++ (n, f) :: W.drop (ke n W W.length))).length, vi s.fail, vi s.fall, .val (.bool s.down)] ∧
   [aF.vec 140 3 (List.take (((k : Nat) : Int).toNat - ((0 : Nat) : Int).toNat + 1) (dJ (W.take k) ++ [flE (n, f)]) ++ dJ (W.drop k)) (W.length + 2)] = [aF.vec 140 3 (dJ (W.take (ke n W W.length) ++ (n, f) :: W.drop (ke n W W.length))) (W.length + 2)]
  rw [hkk, e1, e2];exact ⟨rfl, rfl⟩
theorem tu {a : Int} (ha : okN a) (h : 0 ≤ a) : IntKind.i64.wrap (a - 1) = cnt a := by
 unfold okN at ha;rw [aK (by omega) (by omega)];unfold cnt;rw [if_neg (by omega)]
theorem tt {a : Int} (ha : okN a) (h : ¬ 0 ≤ a) : a = cnt a := by
 unfold okN at ha;unfold cnt;rw [if_pos (by omega)];omega
theorem nQ (s : FSt) (m : FM) (late : Bool) (h1 : okN s.fail) (h2 : okN s.fall) {R} (h : R (.tup [.agg (fsR (s.act late fun _ => m).1), vi (s.act late fun _ => m).2]) []) :
  ag Tryz.prog 140 [.agg (fsR s), .agg (fsR ⟨m, s.fail, s.fall, s.down⟩), .val (.bool late)] [] R := by
 refine ab (an := { SA with anyo := [5] }) tab_ok Tryz.func140 ?_;unfold FSt.act at h;obtain ⟨fs, fail, fall, down⟩ := s;have h1 : okN fail := h1;have h2 : okN fall := h2;by_cases hfall : fall = 0
 ·subst hfall;rw [if_pos rfl] at h;have h : R (.tup [.agg (fsR ⟨if late then m else fs, cnt fail, -1, true⟩), vi 7]) [] := h
  cases late with
  | true =>
   have h : R (.tup [.agg (fsR ⟨m, cnt fail, -1, true⟩), vi 7]) [] := h;conv=>whnf
   repeat' first | exact trivial | apply And.intro | ((fail_if_success (refine aI ?_ ?_)); (conv=>whnf))
   all_goals
    refine ae (fun q2 => ?_) (fun q2 => ?_)
    ·have q2 : 0 ≤ fail := of_decide_eq_true q2;rw [← tu h1 q2] at h;conv=>whnf
     exact h
    ·have q2 : ¬ 0 ≤ fail := of_decide_eq_false q2;rw [← tt h1 q2] at h;conv=>whnf
     exact h
  | false =>
   have h : R (.tup [.agg (fsR ⟨fs, cnt fail, -1, true⟩), vi 7]) [] := h;conv=>whnf
   repeat' first | exact trivial | apply And.intro | ((fail_if_success (refine aI ?_ ?_)); (conv=>whnf))
   all_goals
    refine ae (fun q2 => ?_) (fun q2 => ?_)
    ·have q2 : 0 ≤ fail := of_decide_eq_true q2;rw [← tu h1 q2] at h;conv=>whnf
     exact h
    ·have q2 : ¬ 0 ≤ fail := of_decide_eq_false q2;rw [← tt h1 q2] at h;conv=>whnf
     exact h
 ·rw [if_neg hfall] at h;have e8 : (fall == 0) = false := by simpa using hfall
  by_cases hfail : fail = 0
  ·subst hfail;rw [if_pos rfl] at h;have h : R (.tup [.agg (fsR ⟨fs, -1, cnt fall, down⟩), vi 8]) [] := h;conv=>whnf
   rw [e8];conv=>whnf
   repeat' first | exact trivial | apply And.intro | ((fail_if_success (refine aI ?_ ?_)); (conv=>whnf))
   all_goals
    refine ae (fun q1 => ?_) (fun q1 => ?_)
    ·have q1 : 0 ≤ fall := of_decide_eq_true q1;rw [← tu h2 q1] at h;conv=>whnf
     exact h
    ·have q1 : ¬ 0 ≤ fall := of_decide_eq_false q1;rw [← tt h2 q1] at h;conv=>whnf
     exact h
  ·rw [if_neg hfail] at h;have e9 : (fail == 0) = false := by simpa using hfail
   have h : R (.tup [.agg (fsR ⟨m, cnt fail, cnt fall, down⟩), vi 0]) [] := h;conv=>whnf
   rw [e8];conv=>whnf
   rw [e9];conv=>whnf
   repeat' first | exact trivial | apply And.intro | ((fail_if_success (refine aI ?_ ?_)); (conv=>whnf))
   all_goals
    refine ae (fun q1 => ?_) (fun q1 => ?_)
    ·have q1 : 0 ≤ fall := of_decide_eq_true q1;rw [← tu h2 q1] at h;conv=>whnf
     refine ae (fun q2 => ?_) (fun q2 => ?_)
     ·have q2 : 0 ≤ fail := of_decide_eq_true q2;rw [← tu h1 q2] at h;conv=>whnf
      exact h
     ·have q2 : ¬ 0 ≤ fail := of_decide_eq_false q2;rw [← tt h1 q2] at h;conv=>whnf
      exact h
    ·have q1 : ¬ 0 ≤ fall := of_decide_eq_false q1;rw [← tt h2 q1] at h;conv=>whnf
     refine ae (fun q2 => ?_) (fun q2 => ?_)
     ·have q2 : 0 ≤ fail := of_decide_eq_true q2;rw [← tu h1 q2] at h;conv=>whnf
      exact h
     ·have q2 : ¬ 0 ≤ fail := of_decide_eq_false q2;rw [← tt h1 q2] at h;conv=>whnf
      exact h
def vJ (n b : B) (m : FM) : FM := rpt m n ⟨(gF m n).b ++ b, (gF m n).safe⟩
def vH (n : B) (m : FM) : FM := rpt m n ⟨(gF m n).b, (gF m n).b.length⟩
def zW (a b : B) (m : FM) : FM := rpt (wF m a) b (gF m a)
def FSt.rappend (s : FSt) (n b : B) : FSt × Int := if s.down then (s, 7) else s.act true (vJ n b)
def FSt.rsync (s : FSt) (n : B) : FSt × Int := if s.may n ≠ 0 then (s, s.may n) else s.act false (vH n)
def FSt.rrename (s : FSt) (a b : B) : FSt × Int := if s.may a ≠ 0 then (s, s.may a) else s.act false (zW a b)
def FSt.rremove (s : FSt) (n : B) : FSt × Int := if s.may n ≠ 0 then (s, s.may n) else s.act false fun m => wF m n
theorem nl {s : FSt} {n : B} (h : s.down = true) : s.may n = 7 := by unfold FSt.may; rw [if_pos h]
theorem nk {s : FSt} {n : B} (h : s.down = false) (hn : n ∉ kys s.fs) : s.may n = 6 := by
 unfold FSt.may; rw [h, fQ.2 hn]; rfl
theorem v8 {s : FSt} {n : B} (h : s.down = false) (hn : n ∈ kys s.fs) : s.may n = 0 := by
 unfold FSt.may;obtain ⟨v, hv⟩ := wa hn;rw [h, hv]; rfl
structure ROk (s : FSt) : Prop where
 len : s.fs.length < 900000
 names : ∀ x ∈ kys s.fs, x.length < 1000000
 fail : okN s.fail
 fall : okN s.fall
theorem mN (s : FSt) (hs : ROk s) (n b : B) (hn : n.length < 1000000) (hb : (gF s.fs n).b.length + b.length < 1000000000) {R} (h : R (.tup [.agg (fsR (s.rappend n b).1), vi (s.rappend n b).2]) []) : ag Tryz.prog 143 [.agg (fsR s), vs n, vs b] [] R := by
 refine ab (an := Sy) tab_ok Tryz.func143 ?_;obtain ⟨h1, h2, h3, h4⟩ := hs;obtain ⟨m, fail, fall, down⟩ := s
 cases down with
 | true =>
  conv=>whnf
  exact h
 | false =>
  have h : R (.tup [.agg (fsR ((FSt.mk m fail fall false).act true fun _ => vJ n b m).1), vi ((FSt.mk m fail fall false).act true fun _ => vJ n b m).2]) [] := h;conv=>whnf
  refine fW ⟨m, fail, fall, false⟩ (by show m.length < _; have h1 : m.length < 900000 := h1; omega) n ?_;conv=>whnf
  have hb : (gF m n).b.length + b.length < 1000000000 := hb;refine ac (decide_eq_true (by rw [aG, aG]; show (gF m n).b.length + b.length ≤ _; omega)) ?_;rw [bj];conv=>whnf
  refine qC ⟨m, fail, fall, false⟩ (by show m.length < _; have h1 : m.length < 900000 := h1; omega) h2 n ⟨(gF m n).b ++ b, (gF m n).safe⟩ hn ?_;conv=>whnf
  refine nQ ⟨m, fail, fall, false⟩ (vJ n b m) true h3 h4 ?_;generalize (FSt.mk m fail fall false).act true (fun _ => vJ n b m) = se at h ⊢;obtain ⟨s2, e⟩ := se;conv=>whnf
  exact h
theorem oZ (s : FSt) (hs : ROk s) (n : B) (hn : n.length < 1000000) {R} (h : R (.tup [.agg (fsR (s.rsync n).1), vi (s.rsync n).2]) []) : ag Tryz.prog 110 [.agg (fsR s), vs n] [] R := by
 refine ab (an := SY) tab_ok Tryz.func110 ?_;obtain ⟨h1, h2, h3, h4⟩ := hs;obtain ⟨m, fail, fall, down⟩ := s;conv=>whnf
 refine fW ⟨m, fail, fall, down⟩ (by show m.length < _; have h1 : m.length < 900000 := h1; omega) n ?_
 cases down with
 | true =>
  unfold FSt.rsync at h;rw [if_pos (by rw [nl rfl]; decide), nl rfl] at h;conv=>whnf
  exact h
 | false =>
  by_cases hin : n ∈ kys m
  ·unfold FSt.rsync at h;rw [if_neg (by rw [v8 rfl hin]; decide)] at h;have h : R (.tup [.agg (fsR ((FSt.mk m fail fall false).act false fun _ => vH n m).1), vi ((FSt.mk m fail fall false).act false fun _ => vH n m).2]) [] := h;rw [show decide (n ∈ kys (FSt.mk m fail fall false).fs) = true from decide_eq_true hin];conv=>whnf
   rw [aG];refine qC ⟨m, fail, fall, false⟩ (by show m.length < _; have h1 : m.length < 900000 := h1; omega) h2 n ⟨(gF m n).b, (gF m n).b.length⟩ hn ?_;conv=>whnf
   refine nQ ⟨m, fail, fall, false⟩ (vH n m) false h3 h4 ?_;generalize (FSt.mk m fail fall false).act false (fun _ => vH n m) = se at h ⊢;obtain ⟨s2, e⟩ := se;conv=>whnf
   exact h
  ·unfold FSt.rsync at h;rw [if_pos (by rw [nk rfl hin]; decide), nk rfl hin] at h;rw [show decide (n ∈ kys (FSt.mk m fail fall false).fs) = false from decide_eq_false hin];conv=>whnf
   exact h
theorem qb (s : FSt) (hs : ROk s) (n b : B) (hn : n.length < 1000000) (hb : b.length < 1000000) {R} (h : R (.tup [.agg (fsR (s.rrename n b).1), vi (s.rrename n b).2]) []) : ag Tryz.prog 144 [.agg (fsR s), vs n, vs b] [] R := by
 refine ab (an := Sx) tab_ok Tryz.func144 ?_;obtain ⟨h1, h2, h3, h4⟩ := hs;obtain ⟨m, fail, fall, down⟩ := s;have h1 : m.length < 900000 := h1;have hwl : (wF m n).length < 1000000 := Nat.lt_of_le_of_lt (List.length_filter_le _ _) (by omega);have hwn : ∀ x ∈ kys (wF m n), x.length < 1000000 := fun x hx => by
  obtain ⟨p, hp, rfl⟩ := List.mem_map.1 hx;exact h2 p.1 (List.mem_map_of_mem (List.mem_filter.1 hp).1)
 conv=>whnf
 refine fW ⟨m, fail, fall, down⟩ (by show m.length < _; omega) n ?_
 cases down with
 | true =>
  unfold FSt.rrename at h;rw [if_pos (by rw [nl rfl]; decide), nl rfl] at h;conv=>whnf
  exact h
 | false =>
  by_cases hin : n ∈ kys m
  ·unfold FSt.rrename at h;rw [if_neg (by rw [v8 rfl hin]; decide)] at h;have h : R (.tup [.agg (fsR ((FSt.mk m fail fall false).act false fun _ => zW n b m).1), vi ((FSt.mk m fail fall false).act false fun _ => zW n b m).2]) [] := h;rw [show decide (n ∈ kys (FSt.mk m fail fall false).fs) = true from decide_eq_true hin];conv=>whnf
   refine oM ⟨m, fail, fall, false⟩ (by show m.length < _; omega) n ?_;conv=>whnf
   refine qC ⟨wF m n, fail, fall, false⟩ hwl hwn b (gF m n) hb ?_;conv=>whnf
   refine nQ ⟨m, fail, fall, false⟩ (zW n b m) false h3 h4 ?_;generalize (FSt.mk m fail fall false).act false (fun _ => zW n b m) = se at h ⊢;obtain ⟨s2, e⟩ := se;conv=>whnf
   exact h
  ·unfold FSt.rrename at h;rw [if_pos (by rw [nk rfl hin]; decide), nk rfl hin] at h;rw [show decide (n ∈ kys (FSt.mk m fail fall false).fs) = false from decide_eq_false hin];conv=>whnf
   exact h
theorem xx (s : FSt) (hs : ROk s) (n : B) {R} (h : R (.tup [.agg (fsR (s.rremove n).1), vi (s.rremove n).2]) []) : ag Tryz.prog 100 [.agg (fsR s), vs n] [] R := by
 refine ab (an := S8) tab_ok Tryz.func100 ?_;obtain ⟨h1, h2, h3, h4⟩ := hs;obtain ⟨m, fail, fall, down⟩ := s;have h1 : m.length < 900000 := h1;conv=>whnf
 refine fW ⟨m, fail, fall, down⟩ (by show m.length < _; omega) n ?_
 cases down with
 | true =>
  unfold FSt.rremove at h;rw [if_pos (by rw [nl rfl]; decide), nl rfl] at h;conv=>whnf
  exact h
 | false =>
  by_cases hin : n ∈ kys m
  ·unfold FSt.rremove at h;rw [if_neg (by rw [v8 rfl hin]; decide)] at h;have h : R (.tup [.agg (fsR ((FSt.mk m fail fall false).act false fun _ => wF m n).1), vi ((FSt.mk m fail fall false).act false fun _ => wF m n).2]) [] := h;rw [show decide (n ∈ kys (FSt.mk m fail fall false).fs) = true from decide_eq_true hin];conv=>whnf
   refine oM ⟨m, fail, fall, false⟩ (by show m.length < _; omega) n ?_;conv=>whnf
   refine nQ ⟨m, fail, fall, false⟩ (wF m n) false h3 h4 ?_;generalize (FSt.mk m fail fall false).act false (fun _ => wF m n) = se at h ⊢;obtain ⟨s2, e⟩ := se;conv=>whnf
   exact h
  ·unfold FSt.rremove at h;rw [if_pos (by rw [nk rfl hin]; decide), nk rfl hin] at h;rw [show decide (n ∈ kys (FSt.mk m fail fall false).fs) = false from decide_eq_false hin];conv=>whnf
   exact h
end Go.Abs
end
section
namespace Go.Abs
open Go Go.Proofs Dig
attribute [local irreducible] aH aE aO firstIdx
theorem nJ (n k : Nat) : ((n : Nat) : Int).tmod (k : Int) = ((n % k : Nat) : Int) := by
 rw [Int.tmod_eq_emod_of_nonneg (Int.natCast_nonneg _)];exact (Int.natCast_emod n k).symm
theorem u7 (n k : Nat) : ((n : Nat) : Int).tdiv (k : Int) = ((n / k : Nat) : Int) := by
 rw [Int.tdiv_eq_ediv_of_nonneg (Int.natCast_nonneg _)];exact (Int.natCast_ediv n k).symm
theorem iS {n : Nat} (h : n < 18446744073709551616) : IntKind.u64.wrap ((n : Nat) : Int) = (n : Int) := by
 show (n : Int) % 18446744073709551616 = _;omega
theorem Jf {n : Nat} (h : n < 4294967296) : IntKind.u32.wrap ((n : Nat) : Int) = (n : Int) := by
 show (n : Int) % 4294967296 = _;omega
theorem bi : ∀ (n : Nat), n < 18446744073709551616 → ∀ {R : AV → List aF → Prop}, R (vs (vrn n)) [] → ag Tryz.prog 232 [.val (.int .u64 (n : Int))] [] R := by
 intro n
 induction n using Nat.strongRecOn with
 | ind n ih =>
 intro hn R h;refine ab (an := RB) tab_ok Tryz.func232 ?_;conv=>whnf
 refine ae (fun g => ?_) (fun g => ?_)
 ·have g : n < 128 := by have := of_decide_eq_true g; omega
  rw [eu g] at h;conv=>whnf
  rw [kC, show n % 256 = n by omega];refine ⟨[(((UInt8.ofNat n).toNat : Nat) : Int)], rfl, ?_⟩;have e := fV [UInt8.ofNat n];rw [show strOfNums [(((UInt8.ofNat n).toNat : Nat) : Int)] = ofB [UInt8.ofNat n] from e];conv=>whnf
  exact h
 ·have g : ¬ n < 128 := by have := of_decide_eq_false g; omega
  rw [uK g] at h;have e1 : IntKind.u8.wrap (IntKind.u8.wrap ((n : Int).tmod 128) + 128) = (((UInt8.ofNat (n % 128 + 128)).toNat : Nat) : Int) := by
   rw [show (n : Int).tmod 128 = ((n % 128 : Nat) : Int) from nJ n 128, sQ (by omega)];show (((n % 128 : Nat) : Int) % 256 + 128) % 256 = _;omega
  have e2 : (n : Int).tdiv 128 = ((n / 128 : Nat) : Int) := u7 n 128;have hl := cv (n := n / 128) (by omega);conv=>whnf
  rw [e1];refine ⟨[(((UInt8.ofNat (n % 128 + 128)).toNat : Nat) : Int)], rfl, ?_⟩;have e := fV [UInt8.ofNat (n % 128 + 128)];rw [show strOfNums [(((UInt8.ofNat (n % 128 + 128)).toNat : Nat) : Int)] = ofB [UInt8.ofNat (n % 128 + 128)] from e];conv=>whnf
  rw [e2, iS (by omega)];refine ih (n / 128) (by omega) (by omega) ?_;conv=>whnf
  refine ac (decide_eq_true (by rw [aG, aG]; simp; omega)) ?_;rw [bj];conv=>whnf
  exact h
theorem p7 (s : B) (hs : s.length < 10000000) {R} (h : R (vs (ba s)) []) : ag Tryz.prog 234 [vs s] [] R := by
 refine ab (an := Rz) tab_ok Tryz.func234 ?_;have hv := cv (n := s.length) (by omega);unfold ba at h;conv=>whnf
 rw [aG, iS (by omega)];refine bi s.length (by omega) ?_;conv=>whnf
 refine ac (decide_eq_true (by rw [aG, aG]; omega)) ?_;rw [bj];conv=>whnf
 exact h
theorem jc (x : Crc.W) {R} (h : R (vs (w4 x.toNat)) []) : ag Tryz.prog 228 [wv x] [] R := by
 refine ab (an := RE) tab_ok Tryz.func228 ?_;have hx : x.toNat < 4294967296 := x.isLt;unfold wv;generalize x.toNat = n at h hx ⊢;conv=>whnf
 rw [show (n : Int).tmod 256 = ((n % 256 : Nat) : Int) from nJ n 256, show (n : Int).tdiv 256 = ((n / 256 : Nat) : Int) from u7 n 256, show (n : Int).tdiv 65536 = ((n / 65536 : Nat) : Int) from u7 n 65536, show (n : Int).tdiv 16777216 = ((n / 16777216 : Nat) : Int) from u7 n 16777216,
  Jf (n := n / 256) (by omega), Jf (n := n / 65536) (by omega), Jf (n := n / 16777216) (by omega), show ((n / 256 : Nat) : Int).tmod 256 = ((n / 256 % 256 : Nat) : Int) from nJ _ 256, show ((n / 65536 : Nat) : Int).tmod 256 = ((n / 65536 % 256 : Nat) : Int) from nJ _ 256]
 rw [kC (n := n % 256), kC (n := n / 256 % 256), kC (n := n / 65536 % 256), kC (n := n / 16777216), Nat.mod_mod, Nat.mod_mod, Nat.mod_mod];obtain ⟨ns, n1, n2⟩ := gV (w4 n);refine ⟨ns, n1, ?_⟩;rw [n2];conv=>whnf
 exact h
theorem p6 (p : B) (h1 : 1 ≤ p.length) (h2 : p.length ≤ 2048) {R} (h : R (.tup [vs (bq p), vi 0]) []) : ag Tryz.prog 186 [vs p] [] R := by
 refine ab (an := R4) tab_ok Tryz.func186 ?_;have hne : ofB p ≠ ofB [] := fun e => by have := b9 e; rw [this] at h1; simp at h1
 have hv := cv (n := p.length) (by omega);have hbl : (ba p).length ≤ 2058 := by unfold ba; rw [List.length_append]; omega
 unfold bq gL at h;conv=>whnf
 refine am (decide_eq_false hne) ?_;conv=>whnf
 refine am (decide_eq_false (by rw [aG]; omega)) ?_;conv=>whnf
 refine p7 p (by omega) ?_;generalize ba p = b at h hbl ⊢;conv=>whnf
 refine kZ b (by omega) ?_;conv=>whnf
 refine jc _ ?_;have hw := dI (Crc.sum b).toNat;conv=>whnf
 refine ac (decide_eq_true (by rw [aG, aG]; omega)) ?_;rw [bj];conv=>whnf
 exact h
theorem vz {v : Int} (h1 : 1 ≤ v) (h3 : v ≤ 3) {R} (h : R (.tup [vs (dL v), vi 0]) []) : ag Tryz.prog 184 [vi v] [] R := by
 refine ab (an := NE) tab_ok Tryz.func184 ?_;have e1 : IntKind.u8.wrap v = (((UInt8.ofNat v.toNat).toNat : Nat) : Int) := by
  rw [sQ (by omega)];show v % 256 = _;omega
 unfold dL gL at h;conv=>whnf
 refine am (decide_eq_false (by omega)) ?_;conv=>whnf
 refine am (decide_eq_false (by omega)) ?_;conv=>whnf
 rw [e1];refine ⟨[(((UInt8.ofNat v.toNat).toNat : Nat) : Int)], rfl, ?_⟩;have e := fV [UInt8.ofNat v.toNat];rw [show strOfNums [(((UInt8.ofNat v.toNat).toNat : Nat) : Int)] = ofB [UInt8.ofNat v.toNat] from e];conv=>whnf
 have e3 : (⟨#[84, 80, 72]⟩ : ByteArray) = ofB [84, 80, 72] := rfl;rw [e3, bj];obtain ⟨b, hb⟩ : ∃ b, b = iX v := ⟨_, rfl⟩;have hb2 : [84, 80, 72] ++ [UInt8.ofNat v.toNat] = b := hb.symm;have hl : b.length = 4 := by rw [hb]; rfl
 rw [← hb] at h;rw [hb2];clear hb hb2 e e1 e3;conv=>whnf
 refine kZ b (by omega) ?_;conv=>whnf
 refine jc _ ?_;have hw := dI (Crc.sum b).toNat;conv=>whnf
 refine ac (decide_eq_true (by rw [aG, aG]; omega)) ?_;rw [bj];conv=>whnf
 exact h
theorem qF {T : List B} {s : B} (h : s ∈ T) : gy T s = ((T.idxOf s : Nat) : Int) := by
 have h1 : T[T.idxOf s]? = some s := by rw [List.getElem?_eq_getElem (List.idxOf_lt_length_of_mem h), List.getElem_idxOf]
 have h2 : ∀ j, j < T.idxOf s → T[j]? ≠ some s := fun j hj e => by
  obtain ⟨hl, e⟩ := List.getElem?_eq_some_iff.1 e;have := List.not_of_lt_findIdx hj;simp [e] at this
 unfold gy;rw [lO h1 h2]
theorem mt (l : List B) (s : B) (hl : l.length < 1000000) {R} (h : R (.sl none 1 (bl (cQ l s))) []) : ag Tryz.prog 231 [.sl none 1 (bl l), vs s] [] R := by
 refine ab (an := NA) tab_ok Tryz.func231 ?_;have hsl := aD l;conv=>whnf
 refine fR l s hl rfl fun p hp => ?_;conv=>whnf
 refine ae (fun g => ?_) (fun g => ?_)
 ·have hm : s ∈ l := by
   have : 0 ≤ p := by simpa using g
   rw [hp] at this;exact Classical.byContradiction fun e => by have := cK.2 e; omega
  rw [dQ hm] at h;conv=>whnf
  exact h
 ·have hm : s ∉ l := by
   have : p < 0 := by simpa using g
   rw [hp] at this;exact cK.1 this
  rw [dz hm] at h;conv=>whnf
  refine ⟨rfl, (by rw [cm, hsl]; simp only [List.length_nil]; omega), ?_⟩;conv=>whnf
  refine ⟨by simp, (by rw [cm]; simp only [List.length_append, List.length_cons, List.length_nil, hsl]; omega), ?_⟩;conv=>whnf
  rw [show [] ++ bl l ++ [[AV.val (Value.string (ofB s))]] = bl (l ++ [s]) from by simp [bl, vs]];exact h
theorem u9 (l : List B) (hl : l.length < 1000000) {R} (h : R (.sl none 1 (bl (m6 l))) []) : ag Tryz.prog 258 [.sl none 1 (bl l)] [] R := by
 refine ab (an := Rl) tab_ok Tryz.func258 ?_;have hsl := aD l;conv=>whnf
 refine au.ind2 (fun (i : Nat) (t : List B) => [(3, .sl none 1 (bl t)), (4, vi i)]) (fun i t => []) (fun i _ => l.length - i) (fun i t => i ≤ l.length ∧ t.length ≤ i ∧ t = m6 (l.take i)) 0 [] rfl ⟨by omega, by simp, rfl⟩ ?_;rintro i t ⟨h0, h1, h2⟩ IH;conv=>whnf
 refine ae (fun hc => ?_) (fun hc => ?_)
 ·have hi := ap hsl hc
  (conv=>whnf); (repeat ((with_reducible refine ac ?_ ?_); exact decide_eq_true (by omega); (conv=>whnf)))
  refine idxNat (by simpa using hi) ?_;conv=>whnf
  refine mt t l[i] (by omega) ?_;have hn : cQ t l[i] = m6 (l.take (i + 1)) := by
   rw [h2, List.take_succ_eq_append_getElem hi];unfold m6;rw [List.foldl_append];rfl
  have IH := IH (i + 1) (cQ t l[i]) ⟨hi, by have := Bq t l[i]; omega, hn⟩ (by omega);conv=>whnf
  rw [al (by omega)];exact IH
 ·have hi := aw hsl hc;rw [List.take_of_length_le hi] at h2;subst h2;conv=>whnf
  exact h
theorem oY (r : Rc) (hd : r.deps.length < 50000) {R} (h : R (.sl none 1 (bl (bg r))) []) : ag Tryz.prog 230 [.agg r.enc] [] R := by
 refine ab (an := RC) tab_ok Tryz.func230 ?_;have hsl := bF r.deps;have hN : bg r = m6 (bK r) := rfl;conv=>whnf
 refine au.ind1 (fun (i : Nat) => [(3, .sl (some (ak 7)) 1 (bl (r.target :: (r.deps.take i).map (·.name)))), (4, vi i)]) (fun i => [(ak 7, .row 9 1 (i + 1))]) (fun i => r.deps.length - i) (fun i => i ≤ r.deps.length) 0 rfl (by omega) ?_;rintro i h0 IH;have hnl : (bl (r.target :: (r.deps.take i).map (·.name))).length = i + 1 := by rw [aD]; simp; omega
 conv=>whnf
 refine ae (fun hc => ?_) (fun hc => ?_)
 ·have hc := ap hsl hc;have IH := IH (i + 1) hc (by omega);have e1 : bl (r.target :: (r.deps.take i).map (·.name)) ++ [[vs r.deps[i].name]] = bl (r.target :: (r.deps.take (i + 1)).map (·.name)) := by rw [← tN r i hc, dA]; rfl
  rw [← e1] at IH
  (conv=>whnf); (repeat ((with_reducible refine ac ?_ ?_); exact decide_eq_true (by omega); (conv=>whnf)))
  refine idxNat (by simpa using hc) ?_;generalize r.deps[i] = d at IH e1 ⊢;conv=>whnf
  refine ⟨hnl.symm, by rw [hnl, cm]; simp; omega, ?_⟩;conv=>whnf
  rw [al (by omega), hnl];exact IH
 ·have hc := aw hsl hc;have e : i = r.deps.length := by omega
  subst e;rw [List.take_length] at hnl ⊢;have hdl : (r.deps.map (·.name)).length = r.deps.length := by simp
  conv=>whnf
  refine ae (fun g => ?_) (fun g => ?_)
  ·have g : r.tag ≠ [] := by
    have g : (!decide (ofB r.tag = ofB [])) = true := g;intro e;rw [e] at g;simp at g
   have hT : bK r = r.target :: (r.deps.map (·.name) ++ [r.tag]) := by simp [bK, g]
   have e1 : bl (r.target :: r.deps.map (·.name)) ++ [[vs r.tag]] = bl (bK r) := by
    rw [hT, ← List.cons_append, dA]; rfl
   have htl := qv r;conv=>whnf
   refine ⟨hnl.symm, by rw [hnl, cm]; simp; omega, ?_⟩;conv=>whnf
   refine (show ag Tryz.prog 258 [.sl none 1 (bl (r.target :: r.deps.map (·.name)) ++ [[vs r.tag]])] [] _ from ?_);rw [e1];refine u9 (bK r) (by omega) ?_;conv=>whnf
   exact h
  ·have g : r.tag = [] := by
    have g : (!decide (ofB r.tag = ofB [])) = false := g;have g : ofB r.tag = ofB [] := by simpa using g
    exact b9 g
   have hT : bK r = r.target :: r.deps.map (·.name) := by simp [bK, g]
   rw [← hT];have htl := qv r;conv=>whnf
   refine u9 (bK r) (by omega) ?_;conv=>whnf
   exact h
theorem fc {v : Int} (T : List B) (hT : T.length < 1000000) (s : B) (hs : v ≠ 1 → s ∈ T) (hl : s.length < 1000000) {R} (h : R (vs (da v T s)) []) : ag Tryz.prog 233 [vi v, .sl none 1 (bl T), vs s] [] R := by
 refine ab (an := RA) tab_ok Tryz.func233 ?_;unfold da at h;by_cases hv : v = 1
 ·subst hv;rw [if_pos rfl] at h;conv=>whnf
  refine p7 s (by omega) ?_;conv=>whnf
  exact h
 ·rw [if_neg hv] at h;have hi := List.idxOf_lt_length_of_mem (hs hv);conv=>whnf
  refine am (by simpa using hv) ?_;conv=>whnf
  refine fR T s hT rfl fun p hp => ?_;rw [qF (hs hv)] at hp;subst hp;conv=>whnf
  rw [iS (by omega)];refine bi _ (by omega) ?_;conv=>whnf
  exact h
theorem L3 (t : List B) (ht : t.length < 80000) (r : Rc) (hm : aR 1 r = true) {R} (h : R (.tup [.sl none 1 (bl (bw 1 t r)), .sl none 1 (bl (bz 1 t r)), vi 0]) []) : ag Tryz.prog 185 [vi 1, .sl none 1 (bl t), .agg r.enc] [] R := by
 refine ab (an := K4) tab_ok Tryz.func185 ?_;have hMr := aQ hm;have hsl := bF r.deps;have hdl := hMr.deps;have ht2 := hMr.t2;conv=>whnf
 refine la 1 r (by omega) fun p hp => ?_;rw [hm] at hp;subst hp;obtain ⟨T, hT⟩ : ∃ T, T = bz 1 t r := ⟨_, rfl⟩;have hTt : t = T := by rw [hT, nC]
 have hTl : T.length < 90000 := by rw [← hTt]; omega
 obtain ⟨o, ho⟩ : ∃ o : List B, o = fY 1 t r := ⟨_, rfl⟩;have ho0 : o = [] := by rw [ho]; rfl
 have hol0 : o.length ≤ 30 := by rw [ho0]; simp
 have hol : (bl o).length = o.length := aD o;subst ho0;clear hol0;have hol0 : ([] : List B).length ≤ 30 := by simp
 conv=>whnf
 rw [hTt];have hP : bl (bw 1 t r) = bl [] ++ [[vs (bS 1 T r)]] := by unfold bw; rw [← ho, dA, ← hT]; rfl
 have hTm : 1 ≠ (1 : Int) → ∀ x ∈ bK r, x ∈ T := fun hv x hx => by rw [hT]; exact co hv t r hx
 rw [← hT] at h;rcases hMr.kind with hk | hg
 ·conv=>whnf
  rw [show IntKind.u64.wrap r.kind = ((1 : Nat) : Int) from by rw [hk]; rfl];refine bi 1 (by decide) ?_;have hv0 : (vrn 1).length = 1 := mi (by decide);conv=>whnf
  refine fc T (by omega) r.target (fun hv => hTm hv _ (by simp [bK])) (by omega) ?_;have hv1 := f9 (v := 1) (t := T) hMr.t2 (by omega);conv=>whnf
  refine ac (decide_eq_true (by rw [aG, aG]; (try simp only [List.length_append]); omega)) ?_;rw [bj];conv=>whnf
  refine aI (by rw [hk]; rfl) ?_;conv=>whnf
  refine bi r.rule.toNat (by have := r.rule.isLt; omega) ?_;have hv2 := dp r.rule;conv=>whnf
  refine ac (decide_eq_true (by rw [aG, aG]; (try simp only [List.length_append]); omega)) ?_;rw [bj];conv=>whnf
  rw [pS hMr.deps];refine bi r.deps.length (by omega) ?_;have hv3 : (vrn r.deps.length).length ≤ 10 := cv (by omega);conv=>whnf
  refine ac (decide_eq_true (by rw [aG, aG]; (try simp only [List.length_append]); omega)) ?_;rw [bj];conv=>whnf
  obtain ⟨x0, hx0⟩ : ∃ x0, x0 = vrn 1 ++ da 1 T r.target ++ vrn r.rule.toNat ++ vrn r.deps.length := ⟨_, rfl⟩;have hx1 : x0 = dx 1 T r := by rw [hx0, dx, eu (by decide)]; simp
  rw [← hx0];clear hx0 hv0 hv1 hv2 hv3;have hfl := gC (v := 1) (t := T) hMr (by omega);refine au.ind2 (fun (i : Nat) (x : B) => [(12, vs x), (13, vi i)]) (fun i x => [(ak 16, .row 9 1 0)]) (fun i _ => r.deps.length - i) (fun i x => i ≤ r.deps.length ∧ x = dx 1 T r ++ bZ 1 T (r.deps.take i)) 0 x0 rfl ⟨by omega, by rw [hx1]; simp [bZ]⟩ ?_;rintro i x ⟨h0, hx⟩ IH;have hdt := gH (v := 1) (t := T) hMr (by omega) i;have hxl : x.length ≤ 1300 := by rw [hx, List.length_append]; omega
  conv=>whnf
  refine ae (fun hc => ?_) (fun hc => ?_)
  ·have hi := ap hsl hc
   (conv=>whnf); (repeat ((with_reducible refine ac ?_ ?_); exact decide_eq_true (by omega); (conv=>whnf)))
   refine idxNat (by simpa using hi) ?_;have hdm : r.deps[i] ∈ r.deps := List.getElem_mem hi;have hdn := hMr.names _ hdm;generalize hd : r.deps[i] = d at hdm hdn;have hd : r.deps[i] = d := hd;conv=>whnf
   refine fc T (by omega) d.name (fun hv => hTm hv _ (by unfold bK; exact List.mem_cons_of_mem _ (List.mem_append_left _ (List.mem_map_of_mem hdm)))) (by omega) ?_;have hv2 := f9 (v := 1) (t := T) (hMr.names d hdm).2 (by omega);conv=>whnf
   refine ac (decide_eq_true (by rw [aG, aG]; (try simp only [List.length_append]); omega)) ?_;rw [bj];conv=>whnf
   refine bi d.hash.toNat (by have := d.hash.isLt; omega) ?_;have hv3 := dp d.hash;conv=>whnf
   refine ac (decide_eq_true (by rw [aG, aG]; (try simp only [List.length_append]); omega)) ?_;rw [bj];conv=>whnf
   have IH := IH (i + 1) (x ++ da 1 T d.name ++ vrn d.hash.toNat) ⟨hi, by rw [fy hi, hx, hd]; simp [mg, List.append_assoc]⟩ (by omega);rw [al (by omega)];exact IH
  ·have hi := aw hsl hc;rw [List.take_of_length_le hi] at hx;clear IH;conv=>whnf
   refine bi r.out.toNat (by have := r.out.isLt; omega) ?_;have hv4 := dp r.out;conv=>whnf
   refine ac (decide_eq_true (by rw [aG, aG]; (try simp only [List.length_append]); omega)) ?_;rw [bj];conv=>whnf
   have hW : bS 1 T r = x ++ vrn r.out.toNat := by
    rw [fe hk, hx];simp [mf, List.append_assoc]
   refine ⟨rfl, by rw [cm]; simp only [List.length_cons, List.length_nil]; omega, ?_⟩;conv=>whnf
   rw [hP, hW] at h;exact h
 ·have hk := gB hg;conv=>whnf
  rw [show IntKind.u64.wrap r.kind = ((2 : Nat) : Int) from by rw [hk]; rfl];refine bi 2 (by decide) ?_;have hv0 : (vrn 2).length = 1 := mi (by decide);conv=>whnf
  refine fc T (by omega) r.target (fun hv => hTm hv _ (by simp [bK])) (by omega) ?_;have hv1 := f9 (v := 1) (t := T) hMr.t2 (by omega);conv=>whnf
  refine ac (decide_eq_true (by rw [aG, aG]; (try simp only [List.length_append]); omega)) ?_;rw [bj];conv=>whnf
  refine am (by rw [hk]; rfl) ?_;conv=>whnf
  have hW : bS 1 T r = vrn 2 ++ da 1 T r.target := by rw [gA hk, eu (by decide)]; rfl
  refine ⟨rfl, by rw [cm]; simp only [List.length_cons, List.length_nil]; omega, ?_⟩;conv=>whnf
  rw [hP, hW] at h;exact h
theorem L1 (t : List B) (ht : t.length < 80000) (r : Rc) (hm : aR 2 r = true) {R} (h : R (.tup [.sl none 1 (bl (bw 2 t r)), .sl none 1 (bl (bz 2 t r)), vi 0]) []) : ag Tryz.prog 185 [vi 2, .sl none 1 (bl t), .agg r.enc] [] R := by
 refine ab (an := K4) tab_ok Tryz.func185 ?_;have hMr := aQ hm;have hsl := bF r.deps;have hdl := hMr.deps;have ht2 := hMr.t2;conv=>whnf
 refine la 2 r (by omega) fun p hp => ?_;rw [hm] at hp;subst hp;conv=>whnf
 have hnl := aD (bg r);have hnr := dw r;refine oY r (by omega) ?_;conv=>whnf
 refine au.ind3 (fun (i : Nat) (T o : List B) => [(1, .sl none 1 (bl T)), (9, .sl (some (ak 16)) 1 (bl o)), (11, vi i)]) (fun i T o => [(ak 16, .row 9 1 o.length)]) (fun i _ _ => (bg r).length - i) (fun i T o => i ≤ (bg r).length ∧ T.length ≤ t.length + i ∧ o.length ≤ i ∧ ((bg r).drop i).foldl cQ T = bz 2 t r ∧ o ++ (cI T ((bg r).drop i)).map bu = fY 2 t r) 0 t [] rfl ⟨by omega, by omega, by simp, (fK (by decide) t r).symm, by simp [fY]⟩ ?_;rintro i T o ⟨h0, hTl, hol0, hT, ho⟩ IH;have hol : (bl o).length = o.length := aD o;have hTs := aD T;conv=>whnf
 refine ae (fun hc => ?_) (fun hc => ?_)
 ·have hi := ap hnl hc;rw [List.drop_eq_getElem_cons hi, List.foldl_cons] at hT;rw [List.drop_eq_getElem_cons hi, cI] at ho;have hnm : (bg r)[i].length ≤ 64 := (fM hMr _ (ia.1 (List.getElem_mem hi))).2
  (conv=>whnf); (repeat ((with_reducible refine ac ?_ ?_); exact decide_eq_true (by omega); (conv=>whnf)))
  refine idxNat (by simpa using hi) ?_;generalize hs : (bg r)[i] = s at hT ho hnm;conv=>whnf
  refine fR T s (by omega) rfl fun p hp => ?_;conv=>whnf
  refine ae (fun g => ?_) (fun g => ?_)
  ·have hns : s ∉ T := by
    have : p < 0 := of_decide_eq_true g;rw [hp] at this;exact cK.1 this
   rw [if_neg hns] at ho;rw [dz hns] at hT
   (conv=>whnf); (repeat ((with_reducible refine ac ?_ ?_); exact decide_eq_true (by omega); (conv=>whnf)))
   refine idxNat (by simpa using hi) ?_;rw [hs];conv=>whnf
   have e3 : (⟨#[0]⟩ : ByteArray) = ofB [0] := rfl;refine ac (decide_eq_true (by rw [aG]; show 1 + s.length ≤ _; omega)) ?_;rw [e3, bj];conv=>whnf
   refine ⟨hol.symm, by rw [hol, cm]; simp only [List.length_cons, List.length_nil]; omega, ?_⟩
   (conv=>whnf); (repeat ((with_reducible refine ac ?_ ?_); exact decide_eq_true (by omega); (conv=>whnf)))
   refine idxNat (by simpa using hi) ?_;rw [hs];conv=>whnf
   refine mt T s (by omega) ?_;rw [dz hns];have IH := IH (i + 1) (T ++ [s]) (o ++ [bu s]) ⟨hi, by simp; omega, by simp; omega, hT, by rw [← ho]; simp⟩ (by omega);rw [dA o, List.length_append] at IH;conv=>whnf
   rw [al (by omega), hol];exact IH
  ·have hns : s ∈ T := by
    have : ¬ p < 0 := of_decide_eq_false g;rw [hp] at this;exact Classical.byContradiction fun e => this (cK.2 e)
   rw [if_pos hns] at ho;rw [dQ hns] at hT;have IH := IH (i + 1) T o ⟨hi, by omega, by omega, hT, ho⟩ (by omega);conv=>whnf
   rw [al (by omega)];exact IH
 ·have hi := aw hnl hc;rw [List.drop_eq_nil_of_le hi, List.foldl_nil] at hT;rw [List.drop_eq_nil_of_le hi, show cI T [] = [] from rfl, List.map_nil, List.append_nil] at ho;have hTl : T.length < 90000 := by omega
  have hol0 : o.length ≤ 30 := by omega
  clear IH hTs;have hP : bl (bw 2 t r) = bl o ++ [[vs (bS 2 T r)]] := by unfold bw; rw [← ho, dA, ← hT]; rfl
  have hTm : 2 ≠ (1 : Int) → ∀ x ∈ bK r, x ∈ T := fun hv x hx => by rw [hT]; exact co hv t r hx
  rw [← hT] at h;rcases hMr.kind with hk | hg
  ·conv=>whnf
   rw [show IntKind.u64.wrap r.kind = ((1 : Nat) : Int) from by rw [hk]; rfl];refine bi 1 (by decide) ?_;have hv0 : (vrn 1).length = 1 := mi (by decide);conv=>whnf
   refine fc T (by omega) r.target (fun hv => hTm hv _ (by simp [bK])) (by omega) ?_;have hv1 := f9 (v := 2) (t := T) hMr.t2 (by omega);conv=>whnf
   refine ac (decide_eq_true (by rw [aG, aG]; (try simp only [List.length_append]); omega)) ?_;rw [bj];conv=>whnf
   refine aI (by rw [hk]; rfl) ?_;conv=>whnf
   refine bi r.rule.toNat (by have := r.rule.isLt; omega) ?_;have hv2 := dp r.rule;conv=>whnf
   refine ac (decide_eq_true (by rw [aG, aG]; (try simp only [List.length_append]); omega)) ?_;rw [bj];conv=>whnf
   rw [pS hMr.deps];refine bi r.deps.length (by omega) ?_;have hv3 : (vrn r.deps.length).length ≤ 10 := cv (by omega);conv=>whnf
   refine ac (decide_eq_true (by rw [aG, aG]; (try simp only [List.length_append]); omega)) ?_;rw [bj];conv=>whnf
   obtain ⟨x0, hx0⟩ : ∃ x0, x0 = vrn 1 ++ da 2 T r.target ++ vrn r.rule.toNat ++ vrn r.deps.length := ⟨_, rfl⟩;have hx1 : x0 = dx 2 T r := by rw [hx0, dx, eu (by decide)]; simp
   rw [← hx0];clear hx0 hv0 hv1 hv2 hv3;have hfl := gC (v := 2) (t := T) hMr (by omega);refine au.ind2 (fun (i : Nat) (x : B) => [(12, vs x), (13, vi i)]) (fun i x => [(ak 16, .row 9 1 o.length)]) (fun i _ => r.deps.length - i) (fun i x => i ≤ r.deps.length ∧ x = dx 2 T r ++ bZ 2 T (r.deps.take i)) 0 x0 rfl ⟨by omega, by rw [hx1]; simp [bZ]⟩ ?_;rintro i x ⟨h0, hx⟩ IH;have hdt := gH (v := 2) (t := T) hMr (by omega) i;have hxl : x.length ≤ 1300 := by rw [hx, List.length_append]; omega
   conv=>whnf
   refine ae (fun hc => ?_) (fun hc => ?_)
   ·have hi := ap hsl hc
    (conv=>whnf); (repeat ((with_reducible refine ac ?_ ?_); exact decide_eq_true (by omega); (conv=>whnf)))
    refine idxNat (by simpa using hi) ?_;have hdm : r.deps[i] ∈ r.deps := List.getElem_mem hi;have hdn := hMr.names _ hdm;generalize hd : r.deps[i] = d at hdm hdn;have hd : r.deps[i] = d := hd;conv=>whnf
    refine fc T (by omega) d.name (fun hv => hTm hv _ (by unfold bK; exact List.mem_cons_of_mem _ (List.mem_append_left _ (List.mem_map_of_mem hdm)))) (by omega) ?_;have hv2 := f9 (v := 2) (t := T) (hMr.names d hdm).2 (by omega);conv=>whnf
    refine ac (decide_eq_true (by rw [aG, aG]; (try simp only [List.length_append]); omega)) ?_;rw [bj];conv=>whnf
    refine bi d.hash.toNat (by have := d.hash.isLt; omega) ?_;have hv3 := dp d.hash;conv=>whnf
    refine ac (decide_eq_true (by rw [aG, aG]; (try simp only [List.length_append]); omega)) ?_;rw [bj];conv=>whnf
    have IH := IH (i + 1) (x ++ da 2 T d.name ++ vrn d.hash.toNat) ⟨hi, by rw [fy hi, hx, hd]; simp [mg, List.append_assoc]⟩ (by omega);rw [al (by omega)];exact IH
   ·have hi := aw hsl hc;rw [List.take_of_length_le hi] at hx;clear IH;conv=>whnf
    refine bi r.out.toNat (by have := r.out.isLt; omega) ?_;have hv4 := dp r.out;conv=>whnf
    refine ac (decide_eq_true (by rw [aG, aG]; (try simp only [List.length_append]); omega)) ?_;rw [bj];conv=>whnf
    refine bi r.wen.toNat (by have := r.wen.isLt; omega) ?_;have hv5 := dp r.wen;conv=>whnf
    refine ac (decide_eq_true (by rw [aG, aG]; (try simp only [List.length_append]); omega)) ?_;rw [bj];conv=>whnf
    have hW : bS 2 T r = x ++ vrn r.out.toNat ++ vrn r.wen.toNat := by
     rw [fe hk, hx];simp [mf, List.append_assoc]
    refine ⟨hol.symm, by rw [hol, cm]; simp only [List.length_cons, List.length_nil]; omega, ?_⟩;conv=>whnf
    rw [hP, hW] at h;exact h
  ·have hk := gB hg;conv=>whnf
   rw [show IntKind.u64.wrap r.kind = ((2 : Nat) : Int) from by rw [hk]; rfl];refine bi 2 (by decide) ?_;have hv0 : (vrn 2).length = 1 := mi (by decide);conv=>whnf
   refine fc T (by omega) r.target (fun hv => hTm hv _ (by simp [bK])) (by omega) ?_;have hv1 := f9 (v := 2) (t := T) hMr.t2 (by omega);conv=>whnf
   refine ac (decide_eq_true (by rw [aG, aG]; (try simp only [List.length_append]); omega)) ?_;rw [bj];conv=>whnf
   refine am (by rw [hk]; rfl) ?_;conv=>whnf
   have hW : bS 2 T r = vrn 2 ++ da 2 T r.target := by rw [gA hk, eu (by decide)]; rfl
   refine ⟨hol.symm, by rw [hol, cm]; simp only [List.length_cons, List.length_nil]; omega, ?_⟩;conv=>whnf
   rw [hP, hW] at h;exact h
theorem LZ (t : List B) (ht : t.length < 80000) (r : Rc) (hm : aR 3 r = true) {R} (h : R (.tup [.sl none 1 (bl (bw 3 t r)), .sl none 1 (bl (bz 3 t r)), vi 0]) []) : ag Tryz.prog 185 [vi 3, .sl none 1 (bl t), .agg r.enc] [] R := by
 refine ab (an := K4) tab_ok Tryz.func185 ?_;have hMr := aQ hm;have hsl := bF r.deps;have hdl := hMr.deps;have ht2 := hMr.t2;conv=>whnf
 refine la 3 r (by omega) fun p hp => ?_;rw [hm] at hp;subst hp;conv=>whnf
 have hnl := aD (bg r);have hnr := dw r;refine oY r (by omega) ?_;conv=>whnf
 refine au.ind3 (fun (i : Nat) (T o : List B) => [(1, .sl none 1 (bl T)), (9, .sl (some (ak 16)) 1 (bl o)), (11, vi i)]) (fun i T o => [(ak 16, .row 9 1 o.length)]) (fun i _ _ => (bg r).length - i) (fun i T o => i ≤ (bg r).length ∧ T.length ≤ t.length + i ∧ o.length ≤ i ∧ ((bg r).drop i).foldl cQ T = bz 3 t r ∧ o ++ (cI T ((bg r).drop i)).map bu = fY 3 t r) 0 t [] rfl ⟨by omega, by omega, by simp, (fK (by decide) t r).symm, by simp [fY]⟩ ?_;rintro i T o ⟨h0, hTl, hol0, hT, ho⟩ IH;have hol : (bl o).length = o.length := aD o;have hTs := aD T;conv=>whnf
 refine ae (fun hc => ?_) (fun hc => ?_)
 ·have hi := ap hnl hc;rw [List.drop_eq_getElem_cons hi, List.foldl_cons] at hT;rw [List.drop_eq_getElem_cons hi, cI] at ho;have hnm : (bg r)[i].length ≤ 64 := (fM hMr _ (ia.1 (List.getElem_mem hi))).2
  (conv=>whnf); (repeat ((with_reducible refine ac ?_ ?_); exact decide_eq_true (by omega); (conv=>whnf)))
  refine idxNat (by simpa using hi) ?_;generalize hs : (bg r)[i] = s at hT ho hnm;conv=>whnf
  refine fR T s (by omega) rfl fun p hp => ?_;conv=>whnf
  refine ae (fun g => ?_) (fun g => ?_)
  ·have hns : s ∉ T := by
    have : p < 0 := of_decide_eq_true g;rw [hp] at this;exact cK.1 this
   rw [if_neg hns] at ho;rw [dz hns] at hT
   (conv=>whnf); (repeat ((with_reducible refine ac ?_ ?_); exact decide_eq_true (by omega); (conv=>whnf)))
   refine idxNat (by simpa using hi) ?_;rw [hs];conv=>whnf
   have e3 : (⟨#[0]⟩ : ByteArray) = ofB [0] := rfl;refine ac (decide_eq_true (by rw [aG]; show 1 + s.length ≤ _; omega)) ?_;rw [e3, bj];conv=>whnf
   refine ⟨hol.symm, by rw [hol, cm]; simp only [List.length_cons, List.length_nil]; omega, ?_⟩
   (conv=>whnf); (repeat ((with_reducible refine ac ?_ ?_); exact decide_eq_true (by omega); (conv=>whnf)))
   refine idxNat (by simpa using hi) ?_;rw [hs];conv=>whnf
   refine mt T s (by omega) ?_;rw [dz hns];have IH := IH (i + 1) (T ++ [s]) (o ++ [bu s]) ⟨hi, by simp; omega, by simp; omega, hT, by rw [← ho]; simp⟩ (by omega);rw [dA o, List.length_append] at IH;conv=>whnf
   rw [al (by omega), hol];exact IH
  ·have hns : s ∈ T := by
    have : ¬ p < 0 := of_decide_eq_false g;rw [hp] at this;exact Classical.byContradiction fun e => this (cK.2 e)
   rw [if_pos hns] at ho;rw [dQ hns] at hT;have IH := IH (i + 1) T o ⟨hi, by omega, by omega, hT, ho⟩ (by omega);conv=>whnf
   rw [al (by omega)];exact IH
 ·have hi := aw hnl hc;rw [List.drop_eq_nil_of_le hi, List.foldl_nil] at hT;rw [List.drop_eq_nil_of_le hi, show cI T [] = [] from rfl, List.map_nil, List.append_nil] at ho;have hTl : T.length < 90000 := by omega
  have hol0 : o.length ≤ 30 := by omega
  clear IH hTs;have hP : bl (bw 3 t r) = bl o ++ [[vs (bS 3 T r)]] := by unfold bw; rw [← ho, dA, ← hT]; rfl
  have hTm : 3 ≠ (1 : Int) → ∀ x ∈ bK r, x ∈ T := fun hv x hx => by rw [hT]; exact co hv t r hx
  rw [← hT] at h;rcases hMr.kind with hk | hg
  ·conv=>whnf
   rw [show IntKind.u64.wrap r.kind = ((1 : Nat) : Int) from by rw [hk]; rfl];refine bi 1 (by decide) ?_;have hv0 : (vrn 1).length = 1 := mi (by decide);conv=>whnf
   refine fc T (by omega) r.target (fun hv => hTm hv _ (by simp [bK])) (by omega) ?_;have hv1 := f9 (v := 3) (t := T) hMr.t2 (by omega);conv=>whnf
   refine ac (decide_eq_true (by rw [aG, aG]; (try simp only [List.length_append]); omega)) ?_;rw [bj];conv=>whnf
   refine aI (by rw [hk]; rfl) ?_;conv=>whnf
   refine bi r.rule.toNat (by have := r.rule.isLt; omega) ?_;have hv2 := dp r.rule;conv=>whnf
   refine ac (decide_eq_true (by rw [aG, aG]; (try simp only [List.length_append]); omega)) ?_;rw [bj];conv=>whnf
   rw [pS hMr.deps];refine bi r.deps.length (by omega) ?_;have hv3 : (vrn r.deps.length).length ≤ 10 := cv (by omega);conv=>whnf
   refine ac (decide_eq_true (by rw [aG, aG]; (try simp only [List.length_append]); omega)) ?_;rw [bj];conv=>whnf
   obtain ⟨x0, hx0⟩ : ∃ x0, x0 = vrn 1 ++ da 3 T r.target ++ vrn r.rule.toNat ++ vrn r.deps.length := ⟨_, rfl⟩;have hx1 : x0 = dx 3 T r := by rw [hx0, dx, eu (by decide)]; simp
   rw [← hx0];clear hx0 hv0 hv1 hv2 hv3;have hfl := gC (v := 3) (t := T) hMr (by omega);refine au.ind2 (fun (i : Nat) (x : B) => [(12, vs x), (13, vi i)]) (fun i x => [(ak 16, .row 9 1 o.length)]) (fun i _ => r.deps.length - i) (fun i x => i ≤ r.deps.length ∧ x = dx 3 T r ++ bZ 3 T (r.deps.take i)) 0 x0 rfl ⟨by omega, by rw [hx1]; simp [bZ]⟩ ?_;rintro i x ⟨h0, hx⟩ IH;have hdt := gH (v := 3) (t := T) hMr (by omega) i;have hxl : x.length ≤ 1300 := by rw [hx, List.length_append]; omega
   conv=>whnf
   refine ae (fun hc => ?_) (fun hc => ?_)
   ·have hi := ap hsl hc
    (conv=>whnf); (repeat ((with_reducible refine ac ?_ ?_); exact decide_eq_true (by omega); (conv=>whnf)))
    refine idxNat (by simpa using hi) ?_;have hdm : r.deps[i] ∈ r.deps := List.getElem_mem hi;have hdn := hMr.names _ hdm;generalize hd : r.deps[i] = d at hdm hdn;have hd : r.deps[i] = d := hd;conv=>whnf
    have hdT : d.name ∈ T := hTm (by decide) _ (by unfold bK; exact List.mem_cons_of_mem _ (List.mem_append_left _ (List.mem_map_of_mem hdm)));have hix := List.idxOf_lt_length_of_mem hdT;refine fR T d.name (by omega) rfl fun p hp => ?_;rw [qF hdT] at hp;subst hp;have e2 : IntKind.u64.wrap (2 * IntKind.u64.wrap ((T.idxOf d.name : Nat) : Int)) = ((2 * T.idxOf d.name : Nat) : Int) := by
     rw [iS (by omega), show (2 : Int) * ((T.idxOf d.name : Nat) : Int) = ((2 * T.idxOf d.name : Nat) : Int) by omega, iS (by omega)]
    conv=>whnf
    rw [e2]
    cases ho2 : d.order with
    | true =>
     have e3 : IntKind.u64.wrap (((2 * T.idxOf d.name : Nat) : Int) + 1) = ((eY T d : Nat) : Int) := by
      rw [show ((2 * T.idxOf d.name : Nat) : Int) + 1 = ((2 * T.idxOf d.name + 1 : Nat) : Int) by omega, iS (by omega)];unfold eY;rw [ho2];rfl
     conv=>whnf
     rw [e3];refine bi (eY T d) (by unfold eY; split <;> omega) ?_;have hv2 : (vrn (eY T d)).length ≤ 10 := cv (by unfold eY; split <;> omega);conv=>whnf
     refine ac (decide_eq_true (by rw [aG, aG]; (try simp only [List.length_append]); omega)) ?_;rw [bj];conv=>whnf
     refine bi d.hash.toNat (by have := d.hash.isLt; omega) ?_;have hv3 := dp d.hash;conv=>whnf
     refine ac (decide_eq_true (by rw [aG, aG]; (try simp only [List.length_append]); omega)) ?_;rw [bj];conv=>whnf
     have IH := IH (i + 1) (x ++ vrn (eY T d) ++ vrn d.hash.toNat) ⟨hi, by rw [fy hi, hx, hd]; simp [mg, List.append_assoc]⟩ (by omega);rw [al (by omega)];exact IH
    | false =>
     have e3 : ((2 * T.idxOf d.name : Nat) : Int) = ((eY T d : Nat) : Int) := by
      unfold eY;rw [ho2];rfl
     rw [e3];conv=>whnf
     refine bi (eY T d) (by unfold eY; split <;> omega) ?_;have hv2 : (vrn (eY T d)).length ≤ 10 := cv (by unfold eY; split <;> omega);conv=>whnf
     refine ac (decide_eq_true (by rw [aG, aG]; (try simp only [List.length_append]); omega)) ?_;rw [bj];conv=>whnf
     refine bi d.hash.toNat (by have := d.hash.isLt; omega) ?_;have hv3 := dp d.hash;conv=>whnf
     refine ac (decide_eq_true (by rw [aG, aG]; (try simp only [List.length_append]); omega)) ?_;rw [bj];conv=>whnf
     have IH := IH (i + 1) (x ++ vrn (eY T d) ++ vrn d.hash.toNat) ⟨hi, by rw [fy hi, hx, hd]; simp [mg, List.append_assoc]⟩ (by omega);rw [al (by omega)];exact IH
   ·have hi := aw hsl hc;rw [List.take_of_length_le hi] at hx;clear IH;conv=>whnf
    refine bi r.out.toNat (by have := r.out.isLt; omega) ?_;have hv4 := dp r.out;conv=>whnf
    refine ac (decide_eq_true (by rw [aG, aG]; (try simp only [List.length_append]); omega)) ?_;rw [bj];conv=>whnf
    refine bi r.wen.toNat (by have := r.wen.isLt; omega) ?_;have hv5 := dp r.wen;conv=>whnf
    refine ac (decide_eq_true (by rw [aG, aG]; (try simp only [List.length_append]); omega)) ?_;rw [bj];conv=>whnf
    refine ae (fun g => ?_) (fun g => ?_)
    ·have g : r.tag = [] := b9 (of_decide_eq_true g);conv=>whnf
     refine bi 0 (by decide) ?_;have hv6 : (vrn 0).length = 1 := mi (by decide);conv=>whnf
     refine ac (decide_eq_true (by rw [aG, aG]; (try simp only [List.length_append]); omega)) ?_;rw [bj];conv=>whnf
     refine am (by rw [g]; rfl) ?_;conv=>whnf
     have hW : bS 3 T r = x ++ vrn r.out.toNat ++ vrn r.wen.toNat ++ vrn 0 := by
      rw [fe hk, hx];simp [mf, kY, g, List.append_assoc]
     refine ⟨hol.symm, by rw [hol, cm]; simp only [List.length_cons, List.length_nil]; omega, ?_⟩;conv=>whnf
     rw [hP, hW] at h;exact h
    ·have g : r.tag ≠ [] := fun e => by rw [e] at g; exact of_decide_eq_false g rfl
     have htT : r.tag ∈ T := hTm (by decide) _ (by simp [bK, g]);have hix := List.idxOf_lt_length_of_mem htT;conv=>whnf
     refine aI (by show (!decide (ofB r.tag = ofB [])) = true; rw [decide_eq_false (fun e => g (b9 e))]; rfl) ?_;conv=>whnf
     refine fR T r.tag (by omega) rfl fun p hp => ?_;rw [qF htT] at hp;subst hp;have e2 : IntKind.u64.wrap (IntKind.u64.wrap ((T.idxOf r.tag : Nat) : Int) + 1) = ((T.idxOf r.tag + 1 : Nat) : Int) := by
      rw [iS (by omega), show ((T.idxOf r.tag : Nat) : Int) + 1 = ((T.idxOf r.tag + 1 : Nat) : Int) by omega, iS (by omega)]
     conv=>whnf
     rw [e2];refine bi (T.idxOf r.tag + 1) (by omega) ?_;have hv6 := cv (n := T.idxOf r.tag + 1) (by omega);conv=>whnf
     refine ac (decide_eq_true (by rw [aG, aG]; (try simp only [List.length_append]); omega)) ?_;rw [bj];conv=>whnf
     have hW : bS 3 T r = x ++ vrn r.out.toNat ++ vrn r.wen.toNat ++ vrn (T.idxOf r.tag + 1) := by
      rw [fe hk, hx];simp [mf, kY, g, List.append_assoc]
     refine ⟨hol.symm, by rw [hol, cm]; simp only [List.length_cons, List.length_nil]; omega, ?_⟩;conv=>whnf
     rw [hP, hW] at h;exact h
  ·have hk := gB hg;conv=>whnf
   rw [show IntKind.u64.wrap r.kind = ((2 : Nat) : Int) from by rw [hk]; rfl];refine bi 2 (by decide) ?_;have hv0 : (vrn 2).length = 1 := mi (by decide);conv=>whnf
   refine fc T (by omega) r.target (fun hv => hTm hv _ (by simp [bK])) (by omega) ?_;have hv1 := f9 (v := 3) (t := T) hMr.t2 (by omega);conv=>whnf
   refine ac (decide_eq_true (by rw [aG, aG]; (try simp only [List.length_append]); omega)) ?_;rw [bj];conv=>whnf
   refine am (by rw [hk]; rfl) ?_;conv=>whnf
   have hW : bS 3 T r = vrn 2 ++ da 3 T r.target := by rw [gA hk, eu (by decide)]; rfl
   refine ⟨hol.symm, by rw [hol, cm]; simp only [List.length_cons, List.length_nil]; omega, ?_⟩;conv=>whnf
   rw [hP, hW] at h;exact h
theorem pM {v : Int} (hv : is3 v) (t : List B) (ht : t.length < 80000) (r : Rc) (hm : aR v r = true) {R} (h : R (.tup [.sl none 1 (bl (bw v t r)), .sl none 1 (bl (bz v t r)), vi 0]) []) : ag Tryz.prog 185 [vi v, .sl none 1 (bl t), .agg r.enc] [] R := by
 rcases hv with rfl | rfl | rfl
 ·exact L3 t ht r hm h
 ·exact L1 t ht r hm h
 ·exact LZ t ht r hm h
theorem uE {v : Int} {l : List Rc} {i : Nat} (hi : i < l.length) : aC v (l.take (i + 1)) = aC v (l.take i) ++ ay (bw v (tbP v l i) l[i]) := by
 rw [List.take_succ_eq_append_getElem hi, ir];rfl
theorem vA {v : Int} (hv : is3 v) (l : List Rc) (hl : l.length ≤ 300) (hm : ∀ r ∈ l, aR v r = true) {R} (h : R (.tup [vs (aC v l), .sl none 1 (c6 (cN v l)), vi 0]) []) : ag Tryz.prog 142 [vi v, .sl none 7 (bf l)] [] R := by
 refine ab (an := Sz) tab_ok Tryz.func142 ?_;have hsl := be l;have hmt : ∀ i, ∀ r ∈ l.take i, aR v r = true := fun i r hr => hm r (List.mem_of_mem_take hr);have hfl : ∀ i, (aC v (l.take i)).length < 1000000 := fun i => fg (hmt i) (by rw [List.length_take]; omega);conv=>whnf
 refine vz (by unfold is3 at hv; omega) (by unfold is3 at hv; omega) ?_;conv=>whnf
 refine au.ind3 (fun (i : Nat) (X : B) (E : List Nat) => [(7, vs X), (9, .sl (some (ak 23)) 1 (c6 E)), (10, .sl none 1 (bl (tbP v l i))), (11, vi i)]) (fun i X E => [(ak 23, .row 3 1 i)]) (fun i _ _ => l.length - i) (fun i X E => i ≤ l.length ∧ X = aC v (l.take i) ∧ E = cN v (l.take i)) 0 (dL v) [] rfl ⟨by omega, by simp [aC, aW, ay], rfl⟩ ?_;rintro i X E ⟨h0, hX, hE⟩ IH;have hEl : (c6 E).length = i := by rw [cb, hE, gD, List.length_take]; omega
 have hXl : X.length < 1000000 := by rw [hX]; exact hfl i
 conv=>whnf
 refine ae (fun hc => ?_) (fun hc => ?_)
 ·have hi := ap hsl hc;have hTl := rB (by omega) (hmt i);have hmi := hm _ (List.getElem_mem hi);have hXS := uE (v := v) hi;have hES : cN v (l.take (i + 1)) = cN v (l.take i) ++ [(aC v (l.take (i + 1))).length] := by
   rw [List.take_succ_eq_append_getElem hi, dy]
  have hTS : tbP v l (i + 1) = bz v (tbP v l i) l[i] := ib hi;have IH := IH (i + 1) _ _ ⟨hi, rfl, rfl⟩ (by omega);have hfl1 := hfl (i + 1);rw [hES, gR, hXS, ← hX, ← hE, hTS] at IH;rw [hXS, ← hX, List.length_append] at hfl1
  (conv=>whnf); (repeat ((with_reducible refine ac ?_ ?_); exact decide_eq_true (by omega); (conv=>whnf)))
  refine idxNat (by simpa using hi) ?_;generalize l[i] = r at IH hmi hfl1 ⊢;generalize tbP v l i = T at IH hTl hfl1 ⊢;have hpl := iD (t := T) (aQ hmi) (by omega);conv=>whnf
  refine pM hv T (by omega) r hmi ?_;have hpc := gc (v := v) (t := T) (aQ hmi).deps;generalize bw v T r = ps at IH hpl hfl1 hpc ⊢;have hpsl := aD ps;conv=>whnf
  refine au.ind2 (fun (k : Nat) (Y : B) => [(7, vs Y), (15, vi k)]) (fun k Y => [(ak 23, .row 3 1 i)]) (fun k _ => ps.length - k) (fun k Y => k ≤ ps.length ∧ Y = X ++ ay (ps.take k)) 0 X rfl ⟨by omega, by simp [ay]⟩ ?_;rintro k Y ⟨k0, hY⟩ IH2;have hpt := eW ps k;have hYl : Y.length < 1000000 := by rw [hY, List.length_append]; omega
  conv=>whnf
  refine ae (fun hk => ?_) (fun hk => ?_)
  ·have hk := ap hpsl hk;have hp := hpl _ (List.getElem_mem hk);have hYS : Y ++ bq ps[k] = X ++ ay (ps.take (k + 1)) := by
    rw [hY, List.take_succ_eq_append_getElem hk, dF, List.append_assoc]
   have IH2 := IH2 (k + 1) _ ⟨hk, hYS⟩ (by omega)
   (conv=>whnf); (repeat ((with_reducible refine ac ?_ ?_); exact decide_eq_true (by omega); (conv=>whnf)))
   refine idxNat (by simpa using hk) ?_;generalize ps[k] = p at hp IH2 ⊢;have hfp := lU hp.2;conv=>whnf
   refine p6 p hp.1 hp.2 ?_;conv=>whnf
   refine ac (decide_eq_true (by rw [aG, aG]; omega)) ?_;rw [bj];conv=>whnf
   rw [al (by omega)];exact IH2
  ·have hk := aw hpsl hk;rw [List.take_of_length_le hk] at hY;clear IH2;subst hY;conv=>whnf
   rw [aG];refine ⟨hEl.symm, by rw [hEl, aZ]; simp only [List.length_cons, List.length_nil]; omega, ?_⟩;conv=>whnf
   rw [al (by omega), hEl];exact IH
 ·have hi := aw hsl hc;rw [List.take_of_length_le hi] at hX hE;subst hX hE;conv=>whnf
  exact h
theorem Ga (m : FM) (n : B) (f : Fl) : (rpt m n f).length ≤ m.length + 1 := by
 have h := List.length_filter_le (fun p : B × Fl => decide (p.1 ≠ n)) m;have hc := ME n (wF m n) (wF m n).length;unfold rpt;simp only [List.length_append, List.length_take, List.length_cons, List.length_drop];unfold wF at hc ⊢;omega
theorem LU {m : FM} {n : B} {f : Fl} {p : B × Fl} (h : p ∈ rpt m n f) : p = (n, f) ∨ (p ∈ m ∧ p.1 ≠ n) := by
 have hw : ∀ q, q ∈ wF m n → q ∈ m ∧ q.1 ≠ n := fun q hq => by
  have := List.mem_filter.1 hq;exact ⟨this.1, by simpa using this.2⟩
 unfold rpt at h;rcases List.mem_append.1 h with h | h
 ·exact .inr (hw p (List.mem_of_mem_take h))
 ·rcases List.mem_cons.1 h with h | h
  ·exact .inl h
  ·exact .inr (hw p (List.mem_of_mem_drop h))
theorem ROk.act {s : FSt} (h : ROk s) (late : Bool) {g : FM → FM} (h1 : (g s.fs).length < 900000) (h2 : ∀ x ∈ kys (g s.fs), x.length < 1000000) : ROk (s.act late g).1 := by
 unfold FSt.act;split
 ·cases late
  ·exact ⟨h.len, h.names, jW h.fail, jW h.fall⟩
  ·exact ⟨h1, h2, jW h.fail, jW h.fall⟩
 ·split
  ·exact ⟨h.len, h.names, jW h.fail, jW h.fall⟩
  ·exact ⟨h1, h2, jW h.fail, jW h.fall⟩
theorem yq {m : FM} (h : ∀ x ∈ kys m, x.length < 1000000) {n : B} (hn : n.length < 1000000) (f : Fl) : ∀ x ∈ kys (rpt m n f), x.length < 1000000 := fun x hx => by
 obtain ⟨p, hp, rfl⟩ := List.mem_map.1 hx;rcases LU hp with e | ⟨e, _⟩
 ·rw [e]; exact hn
 ·exact h _ (List.mem_map_of_mem e)
theorem I9 {m : FM} (h : ∀ x ∈ kys m, x.length < 1000000) (n : B) : ∀ x ∈ kys (wF m n), x.length < 1000000 := fun x hx => by
 obtain ⟨p, hp, rfl⟩ := List.mem_map.1 hx;exact h p.1 (List.mem_map_of_mem (List.mem_filter.1 hp).1)
theorem ROk.append {s : FSt} (h : ROk s) (hl : s.fs.length < 800000) {n : B} (hn : n.length < 1000000) (b : B) : ROk (s.rappend n b).1 ∧ (s.rappend n b).1.fs.length ≤ s.fs.length + 1 := by
 have hr := Ga s.fs n ⟨(gF s.fs n).b ++ b, (gF s.fs n).safe⟩;unfold FSt.rappend;split
 ·exact ⟨h, by show s.fs.length ≤ _; omega⟩
 ·refine ⟨h.act true (by show (rpt _ _ _).length < _; omega) (yq h.names hn _), ?_⟩;unfold FSt.act;split
  ·exact hr
  ·split
   ·show s.fs.length ≤ _; omega
   ·exact hr
theorem ROk.sync {s : FSt} (h : ROk s) (hl : s.fs.length < 800000) {n : B} (hn : n.length < 1000000) : ROk (s.rsync n).1 := by
 have hr := Ga s.fs n ⟨(gF s.fs n).b, (gF s.fs n).b.length⟩;unfold FSt.rsync;split
 ·exact h
 ·exact h.act false (by show (rpt _ _ _).length < _; omega) (yq h.names hn _)
theorem ROk.remove {s : FSt} (h : ROk s) (n : B) : ROk (s.rremove n).1 ∧ (s.rremove n).1.fs.length ≤ s.fs.length := by
 have hw : (wF s.fs n).length ≤ s.fs.length := List.length_filter_le _ _;unfold FSt.rremove;split
 ·exact ⟨h, Nat.le_refl _⟩
 ·have := h.len;refine ⟨h.act false (by show (wF _ _).length < _; omega) (I9 h.names n), ?_⟩;unfold FSt.act;split
  ·exact Nat.le_refl _
  ·split
   ·exact Nat.le_refl _
   ·exact hw
def yn (s : FSt) (log new b : B) : FSt × Int :=
 if (s.rappend new b).2 ≠ 0 then s.rappend new b
 else if ((s.rappend new b).1.rsync new).2 ≠ 0 then (s.rappend new b).1.rsync new
 else ((s.rappend new b).1.rsync new).1.rrename new log
def qA (s : FSt) (log new b : B) : FSt × Int :=
 if new ∈ kys s.fs then (if (s.rremove new).2 ≠ 0 then s.rremove new else yn (s.rremove new).1 log new b) else yn s log new b
theorem Lx (m : FM) (n : B) : n ∉ kys (wF m n) := fun h => by
 obtain ⟨p, hp, e⟩ := List.mem_map.1 h;have := (List.mem_filter.1 hp).2;simp [e] at this
theorem zL {s : FSt} {n : B} (h : (s.rremove n).2 = 0) : gF (s.rremove n).1.fs n = flZ := by
 unfold FSt.rremove at h ⊢;split
 ·rename_i hm;rw [if_pos hm] at h;exact absurd h hm
 ·rename_i hm;rw [if_neg hm] at h;rcases fp s false (fun m => wF m n) with ⟨_, f⟩ | ⟨e, _⟩
  ·rw [f];unfold gF;rw [fQ.2 (Lx _ _)];rfl
  ·exact absurd h e
theorem zV (s : FSt) (hs : ROk s) (hsl : s.fs.length < 700000) (name aside : B) (hne : name ≠ aside) (hn : name.length < 1000000) (ha : aside.length < 1000000) (hba : (gF s.fs aside).b.length < 100000000) {v : Int} (hv : is3 v) (l : List Rc) (hl : l.length ≤ 300) (hm : ∀ r ∈ l, aR v r = true) {R}
  (h : R (.tup [.agg (fsR (qA s name aside (aC v l)).1), vi (qA s name aside (aC v l)).2]) []) : ag Tryz.prog 101 [.agg (fsR s), vs name, vs aside, vi v, .sl none 7 (bf l)] [] R := by
 refine ab (an := S7) tab_ok Tryz.func101 ?_;have hfl := fg hm hl;conv=>whnf
 refine vA hv l hl hm ?_;generalize aC v l = b at h hfl ⊢;conv=>whnf
 refine am (decide_eq_false (fun e => hne (b9 e))) ?_;conv=>whnf
 refine fW s (by omega) aside ?_;unfold qA at h;by_cases hin : aside ∈ kys s.fs
 ·rw [if_pos hin] at h;rw [decide_eq_true hin];conv=>whnf
  refine xx s hs aside ?_;have hs1 := (hs.remove aside).1;have hl1 := (hs.remove aside).2;have hg : (s.rremove aside).2 = 0 → (gF (s.rremove aside).1.fs aside).b.length < 100000000 := fun e => by rw [zL e]; show 0 < _; decide
  generalize s.rremove aside = se at h hs1 hl1 hg ⊢;obtain ⟨s1, e1⟩ := se;by_cases g1 : e1 = 0
  ·subst g1;rw [if_neg (by simp)] at h;have hba : (gF s1.fs aside).b.length < 100000000 := hg rfl;have hs1 : ROk s1 := hs1;have hl1 : s1.fs.length ≤ s.fs.length := hl1;have hsl1 : s1.fs.length < 750000 := by omega
   clear hg hl1;conv=>whnf
   refine mN s1 hs1 aside b ha (by omega) ?_;have hz1 := (hs1.append (by omega) ha b).1;have hzl1 := (hs1.append (by omega) ha b).2;unfold yn at h;generalize s1.rappend aside b = se at h hz1 hzl1 ⊢;obtain ⟨t1, e1⟩ := se;by_cases g1 : e1 = 0
   ·subst g1;rw [if_neg (by simp)] at h;conv=>whnf
    refine oZ t1 hz1 aside ha ?_;have hs2 := hz1.sync (by show t1.fs.length < _; have hzl1 : t1.fs.length ≤ s1.fs.length + 1 := hzl1; omega) ha;generalize t1.rsync aside = se at h hs2 ⊢;obtain ⟨t2, e2⟩ := se;by_cases g2 : e2 = 0
    ·subst g2;rw [if_neg (by simp)] at h;conv=>whnf
     refine qb t2 hs2 aside name ha hn ?_;generalize t2.rrename aside name = se at h ⊢;obtain ⟨t3, e3⟩ := se;conv=>whnf
     exact h
    ·rw [if_pos g2] at h;conv=>whnf
     refine am (by simpa using g2) ?_;conv=>whnf
     exact h
   ·rw [if_pos g1] at h;conv=>whnf
    refine am (by simpa using g1) ?_;conv=>whnf
    refine am (by simpa using g1) ?_;conv=>whnf
    exact h
  ·rw [if_pos g1] at h;conv=>whnf
   refine am (by simpa using g1) ?_;conv=>whnf
   refine am (by simpa using g1) ?_;conv=>whnf
   refine am (by simpa using g1) ?_;conv=>whnf
   exact h
 ·rw [if_neg hin] at h;rw [decide_eq_false hin];have hsl : s.fs.length < 750000 := by omega
  conv=>whnf
  refine mN s hs aside b ha (by omega) ?_;have hs1 := (hs.append (by omega) ha b).1;have hl1 := (hs.append (by omega) ha b).2;unfold yn at h;generalize s.rappend aside b = se at h hs1 hl1 ⊢;obtain ⟨t1, e1⟩ := se;by_cases g1 : e1 = 0
  ·subst g1;rw [if_neg (by simp)] at h;conv=>whnf
   refine oZ t1 hs1 aside ha ?_;have hs2 := hs1.sync (by show t1.fs.length < _; have hl1 : t1.fs.length ≤ s.fs.length + 1 := hl1; omega) ha;generalize t1.rsync aside = se at h hs2 ⊢;obtain ⟨t2, e2⟩ := se;by_cases g2 : e2 = 0
   ·subst g2;rw [if_neg (by simp)] at h;conv=>whnf
    refine qb t2 hs2 aside name ha hn ?_;generalize t2.rrename aside name = se at h ⊢;obtain ⟨t3, e3⟩ := se;conv=>whnf
    exact h
   ·rw [if_pos g2] at h;conv=>whnf
    refine am (by simpa using g2) ?_;conv=>whnf
    exact h
  ·rw [if_pos g1] at h;conv=>whnf
   refine am (by simpa using g1) ?_;conv=>whnf
   refine am (by simpa using g1) ?_;conv=>whnf
   exact h
theorem mr {v : Int} (hv : is3 v) (rest : B) (hl : rest.length < 10000000) {R} (h : R (.tup [vi v, vi 0]) []) : ag Tryz.prog 187 [vs (dL v ++ rest)] [] R := by
 refine ab (an := R3) tab_ok Tryz.func187 ?_;obtain ⟨b, hb⟩ : ∃ b, b = dL v ++ rest := ⟨_, rfl⟩;have hbl : b.length = 8 + rest.length := by rw [hb, List.length_append]; rfl
 have h3 : b.take 3 = [84, 80, 72] := by rw [hb]; rfl
 have h4 : b.take 4 = iX v := by rw [hb]; rfl
 have h8 : (b.drop 4).take 4 = w4 (Crc.sum (iX v)).toNat := by rw [hb]; rfl
 have hsz := aG b;rw [← hb];clear hb;conv=>whnf
 refine am (decide_eq_false (by omega)) ?_;conv=>whnf
 refine ac (decide_eq_true (by omega)) ?_;conv=>whnf
 have x3 : (ofB b).extract ((0 : Nat) : Int).toNat (Int.toNat 3) = ⟨#[84, 80, 72]⟩ := by
  rw [jv];show ofB ((b.take 3).drop 0) = _;rw [h3];rfl
 have x4 : (ofB b).extract ((0 : Nat) : Int).toNat (Int.toNat 4) = ofB (iX v) := by
  rw [jv];show ofB ((b.take 4).drop 0) = _;rw [h4];rfl
 have x8 : (ofB b).extract (Int.toNat 4) (Int.toNat 8) = ofB (w4 (Crc.sum (iX v)).toNat) := by
  rw [jv];show ofB ((b.take 8).drop 4) = _;rw [List.drop_take, h8]
 have xb : aE (ofB b) (Int.toNat 3) = v := by
  have h3l : 3 < b.length := by omega
  have e : b[3] = UInt8.ofNat v.toNat := by
   have := List.getElem_of_eq h4 (i := 3) (by rw [List.length_take]; omega);rw [List.getElem_take] at this;exact this
  show aE (ofB b) 3 = v;rw [jl b h3l, e, sQ (by unfold is3 at hv; omega)];unfold is3 at hv;omega
 refine am (by rw [x3]; simp) ?_;conv=>whnf
 refine ac (decide_eq_true (by omega)) ?_;conv=>whnf
 rw [x4];refine kZ (iX v) (by show 4 < _; decide) ?_;conv=>whnf
 refine jc _ ?_;conv=>whnf
 refine ac (decide_eq_true (by omega)) ?_;conv=>whnf
 rw [x8];refine am (by simp) ?_;conv=>whnf
 refine ac (decide_eq_true (by omega)) ?_;conv=>whnf
 rw [xb];refine am (decide_eq_false (by unfold is3 at hv; omega)) ?_;conv=>whnf
 refine ac (decide_eq_true (by omega)) ?_;conv=>whnf
 rw [xb];refine am (decide_eq_false (by unfold is3 at hv; omega)) ?_;conv=>whnf
 refine ac (decide_eq_true (by omega)) ?_;conv=>whnf
 rw [xb, aK (by unfold is3 at hv; omega) (by unfold is3 at hv; omega)];exact h
theorem ng (b : B) (hb : b.length < 100000000) {R} (h : R (.tup [vs [], vi 0, vi 6]) []) : ag Tryz.prog 235 [vs b, vi (b.length : Int)] [] R := by
 refine ab (an := Nz) tab_ok Tryz.func235 ?_;have hsz := aG b;conv=>whnf
 refine am (decide_eq_false (by omega)) ?_;conv=>whnf
 refine aI (by rw [hsz]; simp) ?_;conv=>whnf
 exact h
theorem xu (b : B) (hb : b.length < 100000000) {R} (h : R (.tup [.sl none 1 (bl []), .sl none 1 []]) []) : ag Tryz.prog 188 [vs b, vi (b.length : Int)] [] R := by
 refine ab (an := ND) tab_ok Tryz.func188 ?_;conv=>whnf
 refine au.step ?_;conv=>whnf
 refine ng b hb ?_;conv=>whnf
 exact h
theorem sX {v : Int} (hv : is3 v) {R} (h : R (.tup [.agg (Rc.enc ⟨0, [], 0, [], 0, 0, []⟩), vi 0, .sl none 1 [], vi 6]) []) : ag Tryz.prog 189 [vi v, .sl none 1 [], .sl none 1 [], vi 0] [] R := by
 refine ag.res ?_;refine ab (an := K3) tab_ok Tryz.func189 ?_;conv=>whnf
 refine am (decide_eq_false (by unfold is3 at hv; omega)) ?_;conv=>whnf
 refine am (decide_eq_false (by unfold is3 at hv; omega)) ?_;conv=>whnf
 refine au.step ?_;conv=>whnf
 exact cf (gg (leL.cons (iL (Gx 0 [] 0 0 0 [])) (leL.refl _))) rfl h
theorem lL {v : Int} (hv : is3 v) {R} (h : R (.tup [.agg (ct v []), vi 0]) []) : ag Tryz.prog 145 [vs (aC v [])] [] R := by
 refine ag.res ?_;refine ab (an := NI) tab_ok Tryz.func145 ?_;have hf : aC v [] = dL v ++ [] := by simp [aC, aW, ay]
 have hl : (dL v ++ []).length = 8 := by rw [List.append_nil]; rfl
 rw [hf];obtain ⟨b, hb⟩ : ∃ b, b = dL v ++ [] := ⟨_, rfl⟩;have hver := fun R hR => mr hv [] (by simp) (R := R) hR;rw [← hb] at hl hver ⊢;have hrun := fun R hR => xu b (by omega) (R := R) hR;rw [hl] at hrun;conv=>whnf
 refine hver _ ?_;conv=>whnf
 refine hrun _ ?_;conv=>whnf
 refine au.step ?_;conv=>whnf
 refine sX hv ?_;conv=>whnf
 refine cf (gg (leL.cons (iL (leL.cons (.refl _) (leL.cons (cy 7) (leL.cons (cy 1) (leL.refl _))))) (leL.refl _))) rfl ?_;have hA : ct v [] = [vi v, .sl none 7 [], .sl none 1 [], vi 8] := by
  unfold ct;rw [hf, ← hb, hl];rfl
 rw [hA] at h;exact h
theorem BV (s : FSt) (hl : s.fs.length < 900000) (name : B) {v : Int} (l : List Rc) (hin : name ∈ kys s.fs) (hb : (gF s.fs name).b = aC v l) (hget : ∀ {R : AV → List aF → Prop}, R (.tup [.agg (ct v l), vi 0]) [] → ag Tryz.prog 145 [vs (aC v l)] [] R) {R}
  (h : R (.tup [.agg (fsR s), .agg (ct v l), vi 0]) []) : ag Tryz.prog 102 [.agg (fsR s), vs name] [] R := by
 refine ab (an := { S6 with cst := [2] }) tab_ok Tryz.func102 ?_;conv=>whnf
 refine fW s (by omega) name ?_;rw [decide_eq_true hin];unfold flE;rw [hb];conv=>whnf
 refine hget ?_;conv=>whnf
 refine am (decide_eq_false (by rw [aG]; omega)) ?_;conv=>whnf
 exact h
def zFl : List AV := [vi 0, nlA, nlA, vi 0]
theorem vu (s : FSt) (hs : ROk s) (name : B) (hn : name.length < 1000000) (hg : (gF s.fs name).b.length < 900000000) {v : Int} (hv : is3 v) (l : List Rc) (hl : l.length ≤ 300) (hm : ∀ r ∈ l, aR v r = true) (r : Rc) (hr : aR v r = true) {R}
  (h1 : (s.rappend name (cd v l r)).2 ≠ 0 → R (.tup [.agg (fsR (s.rappend name (cd v l r)).1), .agg zFl, vi (s.rappend name (cd v l r)).2]) [])
  (h2 : (s.rappend name (cd v l r)).2 = 0 → R (.tup [.agg (fsR (s.rappend name (cd v l r)).1), .agg (ct v (l ++ [r])), vi 0]) []) :
  ag Tryz.prog 147 [.agg (fsR s), vs name, .agg (ct v l), .agg r.enc] [] R := by
 refine ag.res ?_;refine ab (an := { Sw with anyo := [25, 26] }) tab_ok Tryz.func147 ?_;have hsl := be l;have hM : ∀ x ∈ l, kW v x := fun x hx => aQ (hm x hx);have hfl := fg hm hl;have hel := gD v l;have hil := cb (cN v l);have hfs : aC v (l ++ [r]) = aC v l ++ cd v l r := ir v l r;conv=>whnf
 refine am (decide_eq_false (by unfold is3 at hv; omega)) ?_;conv=>whnf
 refine am (decide_eq_false (by unfold is3 at hv; omega)) ?_;conv=>whnf
 refine au.ind1 (fun (i : Nat) => [(11, .sl none 1 (bl (tbP v l i))), (13, vi i)]) (fun i => [(ak 4, .cells 53 (fsR s)), (ak 6, .cells 56 (ct v l)), (ak 8, .cells 53 [.val (.slice none 0 0), vi 0, vi 0, .val (.bool false)]), (ak 9, .cells 56 zFl)]) (fun i => l.length - i) (fun i => i ≤ l.length) 0 rfl (by omega) ?_;rintro i h0 IH;have hmt : ∀ r ∈ l.take i, aR v r = true := fun r hr => hm r (List.mem_of_mem_take hr);have hTl := rB (by omega) hmt;conv=>whnf
 refine ae (fun hc => ?_) (fun hc => ?_)
 ·have hi := ap hsl hc;have hTS : tbP v l (i + 1) = bz v (tbP v l i) l[i] := ib hi;have hmi := hm _ (List.getElem_mem hi);have IH := IH (i + 1) hi (by omega);rw [hTS] at IH
  (conv=>whnf); (repeat ((with_reducible refine ac ?_ ?_); exact decide_eq_true (by omega); (conv=>whnf)))
  refine idxNat (by simpa using hi) ?_;conv=>whnf
  refine pM hv (tbP v l i) (by omega) l[i] hmi ?_;conv=>whnf
  rw [al (by omega)];exact IH
 ·have hi := aw hsl hc;have hT : tbP v l i = lI v [] l := by unfold tbP; rw [List.take_of_length_le hi]
  rw [hT] at hTl ⊢;clear IH;obtain ⟨T, hTT⟩ : ∃ T, T = lI v [] l := ⟨_, rfl⟩;have hmo : cd v l r = ay (bw v T r) := by rw [hTT]; rfl
  rw [← hTT] at hTl ⊢;rw [hmo] at h1 h2 hfs;have hpl := iD (t := T) (aQ hr) (by omega);have hpf := dK (t := T) (aQ hr) (by omega);have hpc := gc (v := v) (t := T) (aQ hr).deps;conv=>whnf
  refine pM hv T (by omega) r hr ?_;generalize bw v T r = ps at h1 h2 hfs hpl hpf hpc ⊢;have hpsl := aD ps;conv=>whnf
  refine au.ind2 (fun (k : Nat) (Y : B) => [(16, vs Y), (17, vi k)]) (fun k Y => [(ak 4, .cells 53 (fsR s)), (ak 6, .cells 56 (ct v l)), (ak 8, .cells 53 [.val (.slice none 0 0), vi 0, vi 0, .val (.bool false)]), (ak 9, .cells 56 zFl)]) (fun k _ => ps.length - k) (fun k Y => k ≤ ps.length ∧ Y = ay (ps.take k)) 0 [] rfl ⟨by omega, rfl⟩ ?_;rintro k Y ⟨k0, hY⟩ IH2;have hpt := eW ps k;have hYl : Y.length ≤ 3000 := by rw [hY]; omega
  conv=>whnf
  refine ae (fun hk => ?_) (fun hk => ?_)
  ·have hk := ap hpsl hk;have hp := hpl _ (List.getElem_mem hk);have hYS : Y ++ bq ps[k] = ay (ps.take (k + 1)) := by
    rw [hY, List.take_succ_eq_append_getElem hk, dF]
   have IH2 := IH2 (k + 1) _ ⟨hk, hYS⟩ (by omega)
   (conv=>whnf); (repeat ((with_reducible refine ac ?_ ?_); exact decide_eq_true (by omega); (conv=>whnf)))
   refine idxNat (by simpa using hk) ?_;generalize ps[k] = p at hp IH2 ⊢;have hfp := lU hp.2;conv=>whnf
   refine p6 p hp.1 hp.2 ?_;conv=>whnf
   refine ac (decide_eq_true (by rw [aG, aG]; omega)) ?_;rw [bj];conv=>whnf
   rw [al (by omega)];exact IH2
  ·have hk := aw hpsl hk;rw [List.take_of_length_le hk] at hY;rw [← hY] at h1 h2 hfs;clear IH2 hpt hpl hpf hpc hY hpsl hk k0;conv=>whnf
   refine mN s hs name Y hn (by omega) ?_;generalize s.rappend name Y = se at h1 h2 ⊢;obtain ⟨s2, e⟩ := se;conv=>whnf
   refine ae (fun g => ?_) (fun g => ?_)
   ·have h1 := h1 (by simpa using g);conv=>whnf
    exact bB h1
   have h2 := h2 (by simpa using g);have e0 : e = 0 := by simpa using g
   subst e0;conv=>whnf
   have hend : IntKind.i64.wrap (((aC v l).length : Int) + ((ofB Y).size : Int)) = ((aC v (l ++ [r])).length : Int) := by
    rw [aG, hfs, List.length_append, aK (by omega) (by omega)];omega
   rw [hend];refine ⟨rfl, by rw [hsl, bH]; simp only [List.length_nil]; omega, ?_⟩;conv=>whnf
   refine ⟨by simp, by rw [bH]; simp only [List.length_cons, List.length_nil, List.nil_append, hsl]; omega, ?_⟩;conv=>whnf
   have er : ct v (l ++ [r]) = [vi v, .sl none 7 (([] ++ bf l) ++ [r.enc]), .sl none 1 (([] ++ c6 (cN v l)) ++ [[vi ((aC v (l ++ [r])).length : Int)]]), vi ((aC v (l ++ [r])).length : Int)] := by
    unfold ct;rw [ju, dy, gR];rfl
   rw [er] at h2
   repeat' first
    | (with_reducible exact trivial)
    | ((with_reducible (refine (show _ = _ ∧ _ ≤ _ ∧ _ from ?_))); (refine ⟨by first | (with_reducible rfl) | (simp only [List.nil_append, List.length_nil, Nat.zero_add]), by first | (rw [hil, hel, aZ]; simp only [List.length_nil]; omega) | (rw [aZ]; simp only [List.length_cons, List.length_nil, List.nil_append, hil, hel]; omega), ?_⟩))
    | (with_reducible apply And.intro)
    | ((fail_if_success (with_reducible (refine (show ∃ _, _ from ?_)))); (conv=>whnf))
   all_goals exact bB h2
def stR (ov : Bool) (v : Int) (l : List Rc) (s : FSt) : List AV := [.sl none 3 (dJ s.fs), vi s.fail, vi s.fall, .val (.bool s.down), vi v, .sl none 7 (bf l), .sl none 1 (c6 (cN v l)), vi (((aC v l).length : Nat) : Int), .val (.bool ov)]
def jF (v : Int) (s : FSt) (l : List Rc) (r : Rc) : FSt × Int := s.rappend aS (cd v l r)
theorem BL {v : Int} (hv : is3 v) (s : FSt) (hs : ROk s) (hg : (gF s.fs aS).b.length < 900000000) (l : List Rc) (hl : l.length ≤ 300) (hm : ∀ r ∈ l, aR v r = true) (r : Rc) (hr : aR v r = true) (o : Bool) {R}
  (h1 : (jF v s l r).2 ≠ 0 → R (.tup [.agg (stR ((jF v s l r).2 == 7) v l (jF v s l r).1), vi (jF v s l r).2]) [])
  (h2 : (jF v s l r).2 = 0 → R (.tup [.agg (stR false v (l ++ [r]) (jF v s l r).1), vi 0]) []) :
  ag Tryz.prog 104 [.agg (stR o v l s), .agg r.enc] [] R := by
 refine ab (an := S4) tab_ok Tryz.func104 ?_;unfold jF at h1 h2;conv=>whnf
 refine vu s hs aS (by decide) hg hv l hl hm r hr (fun he => ?_) (fun he => ?_)
 ·have h1 := h1 he;clear h2;generalize s.rappend aS (cd v l r) = se at h1 he ⊢;obtain ⟨s2, e⟩ := se;have he : e ≠ 0 := he;conv=>whnf
  refine am (by simpa using he) ?_;conv=>whnf
  exact h1
 ·have h2 := h2 he;clear h1;generalize s.rappend aS (cd v l r) = se at h2 he ⊢;obtain ⟨s2, e⟩ := se;conv=>whnf
  exact h2
theorem js {v : Int} (hv : is3 v) (s : FSt) (hs : ROk s) (hg : (gF s.fs aS).b.length < 900000000) (l : List Rc) (hl : l.length ≤ 300) (hm : ∀ r ∈ l, aR v r = true) (r : Rc) (hd : r.deps.length < 100000) {R}
  (h0 : ¬ (r.kind = 1 ∧ aR v r = true) → R (.tup [.agg (stR false v l s), vi 1]) [])
  (h1 : r.kind = 1 → aR v r = true → (jF v s l r).2 ≠ 0 → R (.tup [.agg (stR ((jF v s l r).2 == 7) v l (jF v s l r).1), vi (jF v s l r).2]) [])
  (h2 : r.kind = 1 → aR v r = true → (jF v s l r).2 = 0 → R (.tup [.agg (stR false v (l ++ [r]) (jF v s l r).1), vi 0]) []) :
  ag Tryz.prog 57 [.agg (stR false v l s), .agg r.enc] [] R := by
 refine ab (an := UO) tab_ok Tryz.func57 ?_;conv=>whnf
 refine ae (fun g => ?_) (fun g => ?_)
 ·have h0 := h0 (fun hx => by simp [hx.1] at g);conv=>whnf
  exact h0
 have g : r.kind = 1 := by simpa using g
 conv=>whnf
 refine la v r hd fun p hp => ?_
 cases p with
 | false =>
  have h0 := h0 (fun hx => by rw [hx.2] at hp; cases hp);conv=>whnf
  exact h0
 | true =>
  have hr : aR v r = true := hp.symm;have h1 := h1 g hr;have h2 := h2 g hr;conv=>whnf
  refine BL hv s hs hg l hl hm r hr false (fun he => ?_) (fun he => ?_)
  ·have h1 := h1 he;generalize jF v s l r = se at h1 he ⊢;obtain ⟨s2, e⟩ := se;conv=>whnf
   exact h1
  ·have h2 := h2 he;generalize jF v s l r = se at h2 he ⊢;obtain ⟨s2, e⟩ := se;conv=>whnf
   exact h2
def fsK (b : B) (k : Nat) : FSt := ⟨[(aS, ⟨b, k⟩)], -1, -1, false⟩
theorem Mm : ROk fs0 := ⟨by simp [fs0], by simp [fs0, kys], (by decide : -1 ≤ (-1 : Int) ∧ (-1 : Int) < 9223372036854775808), (by decide : -1 ≤ (-1 : Int) ∧ (-1 : Int) < 9223372036854775808)⟩
theorem Ml (b : B) (k : Nat) : ROk (fsK b k) := ⟨by simp [fsK], by simp [fsK, kys, aS], (by decide : -1 ≤ (-1 : Int) ∧ (-1 : Int) < 9223372036854775808), (by decide : -1 ≤ (-1 : Int) ∧ (-1 : Int) < 9223372036854775808)⟩
theorem Ed (F : B) : qA fs0 aS cB F = (fsK F F.length, 0) := by
 have hne : cB ≠ aS := by decide
 have h1 : fs0.rappend cB F = (⟨[(cB, ⟨F, 0⟩)], -1, -1, false⟩, 0) := rfl;have h2 : (FSt.mk [(cB, ⟨F, 0⟩)] (-1) (-1) false).rsync cB = (⟨[(cB, ⟨F, F.length⟩)], -1, -1, false⟩, 0) := by
  simp [FSt.rsync, FSt.may, FSt.act, lk, vH, rpt, wF, ke, gF, cnt]
 have h3 : (FSt.mk [(cB, ⟨F, F.length⟩)] (-1) (-1) false).rrename cB aS = (⟨[(aS, ⟨F, F.length⟩)], -1, -1, false⟩, 0) := by
  simp [FSt.rrename, FSt.may, FSt.act, lk, zW, rpt, wF, ke, gF, cnt]
 unfold qA yn;rw [if_neg (by simp [fs0, kys]), h1];simp only [h2, h3, ne_eq, not_true_eq_false, if_false];rfl
theorem Ct (F b : B) (k : Nat) : (fsK F k).rappend aS b = (fsK (F ++ b) k, 0) := by
 simp [FSt.rappend, FSt.act, fsK, vJ, rpt, wF, ke, gF, lk, cnt]
theorem wq (F b : B) (k : Nat) : (fsK F k).append aS b = (fsK (F ++ b) k, 0) := by
 simp [FSt.append, FSt.act, fsK, ec, pt, gF, lk, cnt]
theorem vq {v : Int} (hv : is3 v) {R} (h : R (.tup [.agg (stR false v [] (fsK (aC v []) (aC v []).length)), vi 0]) []) : ag Tryz.prog 55 [.agg (fsR fs0), vi v] [] R := by
 refine ab (an := UQ) tab_ok Tryz.func55 ?_;have hst := Ed (aC v []);conv=>whnf
 refine am (decide_eq_false (by unfold is3 at hv; omega)) ?_;conv=>whnf
 refine am (decide_eq_false (by unfold is3 at hv; omega)) ?_;conv=>whnf
 refine fW fs0 (by simp [fs0]) cB ?_;rw [show decide (cB ∈ kys fs0.fs) = false from by simp [fs0, kys]];conv=>whnf
 refine fW fs0 (by simp [fs0]) aS ?_;rw [show decide (aS ∈ kys fs0.fs) = false from by simp [fs0, kys]];conv=>whnf
 refine zV fs0 Mm (by simp [fs0]) aS cB mw (by decide) (by decide) (by simp [fs0, gF, lk, flZ]) hv [] (by simp) (by simp) ?_;rw [hst];have hin : aS ∈ kys (fsK (aC v []) (aC v []).length).fs := by simp [fsK, kys]
 have hgb : (gF (fsK (aC v []) (aC v []).length).fs aS).b = aC v [] := by simp [fsK, gF, lk]
 have hlen : (fsK (aC v []) (aC v []).length).fs.length < 900000 := by simp [fsK]
 generalize fsK (aC v []) (aC v []).length = s at h hin hgb hlen ⊢;conv=>whnf
 refine BV s hlen aS [] hin hgb (fun hR => lL hv hR) ?_;conv=>whnf
 exact h
theorem Kb {b : B} {k : Nat} (h : k ≤ b.length) : FOk (fsK b k) 1 b.length := ⟨⟨by simp [fsK, kys], by simpa [fsK] using h, by simp [fsK], by simp [fsK], by simp [fsK, kys, aS]⟩, (by decide : -1 ≤ (-1 : Int) ∧ (-1 : Int) < 9223372036854775808), (by decide : -1 ≤ (-1 : Int) ∧ (-1 : Int) < 9223372036854775808)⟩
def fsV (v : Int) (L : List Rc) : FSt := fsK (aC v L) 8
theorem wo (v : Int) {L : List Rc} (hm : ∀ r ∈ L, aR v r = true) (hl : L.length ≤ 300) : FOk (fsV v L) 1 1000000 := (Kb (by rw [cr]; omega)).mono (Nat.le_refl _) (by have := fg hm hl; omega)
theorem GB (v : Int) (L : List Rc) : ROk (fsV v L) := Ml _ _
theorem Ni (v : Int) {L : List Rc} (hm : ∀ r ∈ L, aR v r = true) (hl : L.length ≤ 300) : (gF (fsV v L).fs aS).b.length < 900000000 := by
 have := fg hm hl;have e : (gF (fsV v L).fs aS).b = aC v L := by simp [fsV, fsK, gF, lk]
 rw [e]; omega
theorem GC (v : Int) (L : List Rc) (r : Rc) : bT v (fsV v L) L r = (fsV v (L ++ [r]), 0) := by
 unfold bT fsV;rw [wq, ir]
theorem Cq (v : Int) (L : List Rc) (r : Rc) : jF v (fsV v L) L r = (fsV v (L ++ [r]), 0) := by
 unfold jF fsV;rw [Ct, ir]
theorem r9 (v : Int) : fsL (aC v []) = fsV v [] := by
 have e : (aC v []).length = 8 := by rw [cr]; simp [aW, ay]
 show FSt.mk [(aS, ⟨aC v [], (aC v []).length⟩)] (-1) (-1) false = FSt.mk [(aS, ⟨aC v [], 8⟩)] (-1) (-1) false;rw [e]
theorem Cr (v : Int) : fsK (aC v []) (aC v []).length = fsV v [] := r9 v
def puM (v : Int) (L : List Rc) (r : Rc) : List Rc := if r.kind = 1 ∧ aR v r = true then L ++ [r] else L
theorem JJ {v : Int} {L : List Rc} (hm : ∀ r ∈ L, aR v r = true) (r : Rc) : (∀ q ∈ puM v L r, aR v q = true) ∧ (puM v L r).length ≤ L.length + 1 := by
 unfold puM;split
 ·rename_i h;refine ⟨fun q hq => ?_, by simp⟩;rcases List.mem_append.1 hq with hq | hq
  ·exact hm q hq
  ·rw [List.mem_singleton.1 hq]; exact h.2
 ·exact ⟨hm, by omega⟩
theorem Dz {v : Int} (hv : is3 v) (L : List Rc) (hl : L.length ≤ 300) (hm : ∀ r ∈ L, aR v r = true) (r : Rc) (hd : r.deps.length < 100000) {R} (h : ∀ e, R (vi e) [stO false 1 v (puM v L r), fsC (fsV v (puM v L r)) 2, fsM (fsV v (puM v L r))]) :
  ag Tryz.prog 46 [.ptr 0 0, .agg r.enc] [stO false 1 v L, fsC (fsV v L) 2, fsM (fsV v L)] R := by
 unfold puM at h;by_cases hy : r.kind = 1 ∧ aR v r = true
 ·rw [if_pos hy] at h;refine BG hv (fsV v L) (wo v hm hl) (by omega) L (by omega) hm r hy.1 hy.2 (fun he => ?_) (fun _ => ?_)
  ·rw [GC] at he; exact absurd rfl he
  ·rw [GC]; exact h 0
 ·rw [if_neg hy] at h;refine LN false (fsV v L) v L r hd (fun _ => ?_) (fun e => by cases e) (fun _ => h 1);by_cases hkd : r.kind = 1
  ·exact .inr (by cases hmm : aR v r with | false => rfl | true => exact absurd ⟨hkd, hmm⟩ hy)
  ·exact .inl hkd
theorem Bj {v : Int} (hv : is3 v) (L : List Rc) (hl : L.length ≤ 300) (hm : ∀ r ∈ L, aR v r = true) (r : Rc) (hd : r.deps.length < 100000) {R} (h : ∀ e, R (.tup [.agg (stR false v (puM v L r) (fsV v (puM v L r))), vi e]) []) :
  ag Tryz.prog 57 [.agg (stR false v L (fsV v L)), .agg r.enc] [] R := by
 unfold puM at h;by_cases hy : r.kind = 1 ∧ aR v r = true
 ·rw [if_pos hy] at h;refine js hv (fsV v L) (GB v L) (Ni v hm hl) L hl hm r hd (fun hno => absurd hy hno) (fun _ _ he => ?_) (fun _ _ _ => ?_)
  ·rw [Cq] at he; exact absurd rfl he
  ·rw [Cq]; exact h 0
 ·rw [if_neg hy] at h;exact js hv (fsV v L) (GB v L) (Ni v hm hl) L hl hm r hd (fun _ => h 1) (fun hk hr _ => absurd ⟨hk, hr⟩ hy) (fun hk hr _ => absurd ⟨hk, hr⟩ hy)
def lS (v : Int) (l : List Rc) : List Rc := l.foldl (puM v) []
end Go.Abs
end
