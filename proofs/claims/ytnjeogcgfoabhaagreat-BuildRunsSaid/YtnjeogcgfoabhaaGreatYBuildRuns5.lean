/- Several texts of this claim, one behind the other: UC, UE, UI, UJ, UK, UL, UM, ZG, F6, F8, ZH, ZI, VA, VB, VC, VD, VE, VF, TD, TE, TF, H6, UN, VG, VH, VI, ZK, VJ, ZL. -/
import Derived.Test.YtnjeogcgfoabhaaGreatYBuildRuns4
set_option maxRecDepth 100000
set_option maxHeartbeats 4000000
set_option linter.unusedVariables false
set_option linter.unusedSimpArgs false
section
namespace Go.Abs
open Go Go.Proofs Dig
attribute [local irreducible] aH aD aO firstIdx
theorem L3 (t : List B) (ht : t.length < 80000) (r : Rc) (hm : aR 1 r = true) {R} (h : R (.tup [.sl none 1 (bj (bu 1 t r)), .sl none 1 (bj (bw 1 t r)), vi 0]) []) : ag Tryz.prog 185 [vi 1, .sl none 1 (bj t), .agg r.enc] [] R := by
 refine aa (an := K4) tab_ok Tryz.func185 ?_;have hMr := aT hm;have hsl := bD r.deps;have hdl := hMr.deps;have ht2 := hMr.t2;conv=>whnf
 refine kJ 1 r (by omega) fun p hp => ?_;rw [hm] at hp;subst hp;obtain ⟨T, hT⟩ : ∃ T, T = bw 1 t r := ⟨_, rfl⟩;have hTt : t = T := by rw [hT, nt]
 have hTl : T.length < 90000 := by rw [← hTt]; omega
 obtain ⟨o, ho⟩ : ∃ o : List B, o = fU 1 t r := ⟨_, rfl⟩;have ho0 : o = [] := by rw [ho]; rfl
 have hol0 : o.length ≤ 30 := by rw [ho0]; simp
 have hol : (bj o).length = o.length := aF o;subst ho0;clear hol0;have hol0 : ([] : List B).length ≤ 30 := by simp
 conv=>whnf
 rw [hTt];have hP : bj (bu 1 t r) = bj [] ++ [[vs (bO 1 T r)]] := by unfold bu; rw [← ho, dv, ← hT]; rfl
 have hTm : 1 ≠ (1 : Int) → ∀ x ∈ bI r, x ∈ T := fun hv x hx => by rw [hT]; exact cm hv t r hx
 rw [← hT] at h;rcases hMr.kind with hk | hg
 ·conv=>whnf
  rw [show IntKind.u64.wrap r.kind = ((1 : Nat) : Int) from by rw [hk]; rfl];refine bg 1 (by decide) ?_;have hv0 : (vrn 1).length = 1 := lV (by decide);conv=>whnf
  refine eU T (by omega) r.target (fun hv => hTm hv _ (by simp [bI])) (by omega) ?_;have hv1 := fY (v := 1) (t := T) hMr.t2 (by omega);conv=>whnf
  refine ac (aaa (by rw [aG, aG]; (try simp only [aac]); omega)) ?_;rw [bi];conv=>whnf
  refine aK (by rw [hk]; rfl) ?_;conv=>whnf
  refine bg r.rule.toNat (by have := r.rule.isLt; omega) ?_;have hv2 := df r.rule;conv=>whnf
  refine ac (aaa (by rw [aG, aG]; (try simp only [aac]); omega)) ?_;rw [bi];conv=>whnf
  rw [pP hMr.deps];refine bg r.deps.length (by omega) ?_;have hv3 : (vrn r.deps.length).length ≤ 10 := ct (by omega);conv=>whnf
  refine ac (aaa (by rw [aG, aG]; (try simp only [aac]); omega)) ?_;rw [bi];conv=>whnf
  obtain ⟨x0, hx0⟩ : ∃ x0, x0 = vrn 1 ++ cX 1 T r.target ++ vrn r.rule.toNat ++ vrn r.deps.length := ⟨_, rfl⟩;have hx1 : x0 = dp 1 T r := by rw [hx0, dp, d9 (by decide)]; simp
  rw [← hx0];clear hx0 hv0 hv1 hv2 hv3;have hfl := gx (v := 1) (t := T) hMr (by omega);refine aq.ind2 (fun (i : Nat) (x : B) => [(12, vs x), (13, vi i)]) (fun i x => [(al 16, .row 9 1 0)]) (fun i _ => r.deps.length - i) (fun i x => i ≤ r.deps.length ∧ x = dp 1 T r ++ bX 1 T (r.deps.take i)) 0 x0 rfl ⟨by omega, by rw [hx1]; simp [bX]⟩ ?_;rintro i x ⟨h0, hx⟩ IH;have hdt := gB (v := 1) (t := T) hMr (by omega) i;have hxl : x.length ≤ 1300 := by rw [hx, aac]; omega
  conv=>whnf
  refine ae (fun hc => ?_) (fun hc => ?_)
  ·have hi := ap hsl hc
   (conv=>whnf); (repeat ((with_reducible refine ac ?_ ?_); exact aaa (by omega); (conv=>whnf)))
   refine idxNat (by simpa using hi) ?_;have hdm : r.deps[i] ∈ r.deps := aaf hi;have hdn := hMr.names _ hdm;generalize hd : r.deps[i] = d at hdm hdn;have hd : r.deps[i] = d := hd;conv=>whnf
   refine eU T (by omega) d.name (fun hv => hTm hv _ (by unfold bI; exact aaw _ (aa3 _ (aaD hdm)))) (by omega) ?_;have hv2 := fY (v := 1) (t := T) (hMr.names d hdm).2 (by omega);conv=>whnf
   refine ac (aaa (by rw [aG, aG]; (try simp only [aac]); omega)) ?_;rw [bi];conv=>whnf
   refine bg d.hash.toNat (by have := d.hash.isLt; omega) ?_;have hv3 := df d.hash;conv=>whnf
   refine ac (aaa (by rw [aG, aG]; (try simp only [aac]); omega)) ?_;rw [bi];conv=>whnf
   have IH := IH (i + 1) (x ++ cX 1 T d.name ++ vrn d.hash.toNat) ⟨hi, by rw [fm hi, hx, hd]; simp [lT, aak]⟩ (by omega);rw [am (by omega)];exact IH
  ·have hi := au hsl hc;rw [aae hi] at hx;clear IH;conv=>whnf
   refine bg r.out.toNat (by have := r.out.isLt; omega) ?_;have hv4 := df r.out;conv=>whnf
   refine ac (aaa (by rw [aG, aG]; (try simp only [aac]); omega)) ?_;rw [bi];conv=>whnf
   have hW : bO 1 T r = x ++ vrn r.out.toNat := by
    rw [eW hk, hx];simp [lS, aak]
   refine ⟨rfl, by rw [cg]; simp only [aag, aaj]; omega, ?_⟩;conv=>whnf
   rw [hP, hW] at h;exact h
 ·have hk := gw hg;conv=>whnf
  rw [show IntKind.u64.wrap r.kind = ((2 : Nat) : Int) from by rw [hk]; rfl];refine bg 2 (by decide) ?_;have hv0 : (vrn 2).length = 1 := lV (by decide);conv=>whnf
  refine eU T (by omega) r.target (fun hv => hTm hv _ (by simp [bI])) (by omega) ?_;have hv1 := fY (v := 1) (t := T) hMr.t2 (by omega);conv=>whnf
  refine ac (aaa (by rw [aG, aG]; (try simp only [aac]); omega)) ?_;rw [bi];conv=>whnf
  refine ak (by rw [hk]; rfl) ?_;conv=>whnf
  have hW : bO 1 T r = vrn 2 ++ cX 1 T r.target := by rw [gu hk, d9 (by decide)]; rfl
  refine ⟨rfl, by rw [cg]; simp only [aag, aaj]; omega, ?_⟩;conv=>whnf
  rw [hP, hW] at h;exact h
theorem L1 (t : List B) (ht : t.length < 80000) (r : Rc) (hm : aR 2 r = true) {R} (h : R (.tup [.sl none 1 (bj (bu 2 t r)), .sl none 1 (bj (bw 2 t r)), vi 0]) []) : ag Tryz.prog 185 [vi 2, .sl none 1 (bj t), .agg r.enc] [] R := by
 refine aa (an := K4) tab_ok Tryz.func185 ?_;have hMr := aT hm;have hsl := bD r.deps;have hdl := hMr.deps;have ht2 := hMr.t2;conv=>whnf
 refine kJ 2 r (by omega) fun p hp => ?_;rw [hm] at hp;subst hp;conv=>whnf
 have hnl := aF (bf r);have hnr := dm r;refine oU r (by omega) ?_;conv=>whnf
 refine aq.ind3 (fun (i : Nat) (T o : List B) => [(1, .sl none 1 (bj T)), (9, .sl (some (al 16)) 1 (bj o)), (11, vi i)]) (fun i T o => [(al 16, .row 9 1 o.length)]) (fun i _ _ => (bf r).length - i) (fun i T o => i ≤ (bf r).length ∧ T.length ≤ t.length + i ∧ o.length ≤ i ∧ ((bf r).drop i).foldl cL T = bw 2 t r ∧ o ++ (cF T ((bf r).drop i)).map bq = fU 2 t r) 0 t [] rfl ⟨by omega, by omega, by simp, (fF (by decide) t r).symm, by simp [fU]⟩ ?_;rintro i T o ⟨h0, hTl, hol0, hT, ho⟩ IH;have hol : (bj o).length = o.length := aF o;have hTs := aF T;conv=>whnf
 refine ae (fun hc => ?_) (fun hc => ?_)
 ·have hi := ap hnl hc;rw [aao hi, aaQ] at hT;rw [aao hi, cF] at ho;have hnm : (bf r)[i].length ≤ 64 := (fH hMr _ (gZ.1 (aaf hi))).2
  (conv=>whnf); (repeat ((with_reducible refine ac ?_ ?_); exact aaa (by omega); (conv=>whnf)))
  refine idxNat (by simpa using hi) ?_;generalize hs : (bf r)[i] = s at hT ho hnm;conv=>whnf
  refine fM T s (by omega) rfl fun p hp => ?_;conv=>whnf
  refine ae (fun g => ?_) (fun g => ?_)
  ·have hns : s ∉ T := by
    have : p < 0 := aal g;rw [hp] at this;exact cG.1 this
   rw [aap hns] at ho;rw [du hns] at hT
   (conv=>whnf); (repeat ((with_reducible refine ac ?_ ?_); exact aaa (by omega); (conv=>whnf)))
   refine idxNat (by simpa using hi) ?_;rw [hs];conv=>whnf
   have e3 : (⟨#[0]⟩ : ByteArray) = ofB [0] := rfl;refine ac (aaa (by rw [aG]; show 1 + s.length ≤ _; omega)) ?_;rw [e3, bi];conv=>whnf
   refine ⟨hol.symm, by rw [hol, cg]; simp only [aag, aaj]; omega, ?_⟩
   (conv=>whnf); (repeat ((with_reducible refine ac ?_ ?_); exact aaa (by omega); (conv=>whnf)))
   refine idxNat (by simpa using hi) ?_;rw [hs];conv=>whnf
   refine ma T s (by omega) ?_;rw [du hns];have IH := IH (i + 1) (T ++ [s]) (o ++ [bq s]) ⟨hi, by simp; omega, by simp; omega, hT, by rw [← ho]; simp⟩ (by omega);rw [dv o, aac] at IH;conv=>whnf
   rw [am (by omega), hol];exact IH
  ·have hns : s ∈ T := by
    have : ¬ p < 0 := aat g;rw [hp] at this;exact Classical.byContradiction fun e => this (cG.2 e)
   rw [aaz hns] at ho;rw [dJ hns] at hT;have IH := IH (i + 1) T o ⟨hi, by omega, by omega, hT, ho⟩ (by omega);conv=>whnf
   rw [am (by omega)];exact IH
 ·have hi := au hnl hc;rw [aay hi, abH] at hT;rw [aay hi, show cF T [] = [] from rfl, abi, aaR] at ho;have hTl : T.length < 90000 := by omega
  have hol0 : o.length ≤ 30 := by omega
  clear IH hTs;have hP : bj (bu 2 t r) = bj o ++ [[vs (bO 2 T r)]] := by unfold bu; rw [← ho, dv, ← hT]; rfl
  have hTm : 2 ≠ (1 : Int) → ∀ x ∈ bI r, x ∈ T := fun hv x hx => by rw [hT]; exact cm hv t r hx
  rw [← hT] at h;rcases hMr.kind with hk | hg
  ·conv=>whnf
   rw [show IntKind.u64.wrap r.kind = ((1 : Nat) : Int) from by rw [hk]; rfl];refine bg 1 (by decide) ?_;have hv0 : (vrn 1).length = 1 := lV (by decide);conv=>whnf
   refine eU T (by omega) r.target (fun hv => hTm hv _ (by simp [bI])) (by omega) ?_;have hv1 := fY (v := 2) (t := T) hMr.t2 (by omega);conv=>whnf
   refine ac (aaa (by rw [aG, aG]; (try simp only [aac]); omega)) ?_;rw [bi];conv=>whnf
   refine aK (by rw [hk]; rfl) ?_;conv=>whnf
   refine bg r.rule.toNat (by have := r.rule.isLt; omega) ?_;have hv2 := df r.rule;conv=>whnf
   refine ac (aaa (by rw [aG, aG]; (try simp only [aac]); omega)) ?_;rw [bi];conv=>whnf
   rw [pP hMr.deps];refine bg r.deps.length (by omega) ?_;have hv3 : (vrn r.deps.length).length ≤ 10 := ct (by omega);conv=>whnf
   refine ac (aaa (by rw [aG, aG]; (try simp only [aac]); omega)) ?_;rw [bi];conv=>whnf
   obtain ⟨x0, hx0⟩ : ∃ x0, x0 = vrn 1 ++ cX 2 T r.target ++ vrn r.rule.toNat ++ vrn r.deps.length := ⟨_, rfl⟩;have hx1 : x0 = dp 2 T r := by rw [hx0, dp, d9 (by decide)]; simp
   rw [← hx0];clear hx0 hv0 hv1 hv2 hv3;have hfl := gx (v := 2) (t := T) hMr (by omega);refine aq.ind2 (fun (i : Nat) (x : B) => [(12, vs x), (13, vi i)]) (fun i x => [(al 16, .row 9 1 o.length)]) (fun i _ => r.deps.length - i) (fun i x => i ≤ r.deps.length ∧ x = dp 2 T r ++ bX 2 T (r.deps.take i)) 0 x0 rfl ⟨by omega, by rw [hx1]; simp [bX]⟩ ?_;rintro i x ⟨h0, hx⟩ IH;have hdt := gB (v := 2) (t := T) hMr (by omega) i;have hxl : x.length ≤ 1300 := by rw [hx, aac]; omega
   conv=>whnf
   refine ae (fun hc => ?_) (fun hc => ?_)
   ·have hi := ap hsl hc
    (conv=>whnf); (repeat ((with_reducible refine ac ?_ ?_); exact aaa (by omega); (conv=>whnf)))
    refine idxNat (by simpa using hi) ?_;have hdm : r.deps[i] ∈ r.deps := aaf hi;have hdn := hMr.names _ hdm;generalize hd : r.deps[i] = d at hdm hdn;have hd : r.deps[i] = d := hd;conv=>whnf
    refine eU T (by omega) d.name (fun hv => hTm hv _ (by unfold bI; exact aaw _ (aa3 _ (aaD hdm)))) (by omega) ?_;have hv2 := fY (v := 2) (t := T) (hMr.names d hdm).2 (by omega);conv=>whnf
    refine ac (aaa (by rw [aG, aG]; (try simp only [aac]); omega)) ?_;rw [bi];conv=>whnf
    refine bg d.hash.toNat (by have := d.hash.isLt; omega) ?_;have hv3 := df d.hash;conv=>whnf
    refine ac (aaa (by rw [aG, aG]; (try simp only [aac]); omega)) ?_;rw [bi];conv=>whnf
    have IH := IH (i + 1) (x ++ cX 2 T d.name ++ vrn d.hash.toNat) ⟨hi, by rw [fm hi, hx, hd]; simp [lT, aak]⟩ (by omega);rw [am (by omega)];exact IH
   ·have hi := au hsl hc;rw [aae hi] at hx;clear IH;conv=>whnf
    refine bg r.out.toNat (by have := r.out.isLt; omega) ?_;have hv4 := df r.out;conv=>whnf
    refine ac (aaa (by rw [aG, aG]; (try simp only [aac]); omega)) ?_;rw [bi];conv=>whnf
    refine bg r.wen.toNat (by have := r.wen.isLt; omega) ?_;have hv5 := df r.wen;conv=>whnf
    refine ac (aaa (by rw [aG, aG]; (try simp only [aac]); omega)) ?_;rw [bi];conv=>whnf
    have hW : bO 2 T r = x ++ vrn r.out.toNat ++ vrn r.wen.toNat := by
     rw [eW hk, hx];simp [lS, aak]
    refine ⟨hol.symm, by rw [hol, cg]; simp only [aag, aaj]; omega, ?_⟩;conv=>whnf
    rw [hP, hW] at h;exact h
  ·have hk := gw hg;conv=>whnf
   rw [show IntKind.u64.wrap r.kind = ((2 : Nat) : Int) from by rw [hk]; rfl];refine bg 2 (by decide) ?_;have hv0 : (vrn 2).length = 1 := lV (by decide);conv=>whnf
   refine eU T (by omega) r.target (fun hv => hTm hv _ (by simp [bI])) (by omega) ?_;have hv1 := fY (v := 2) (t := T) hMr.t2 (by omega);conv=>whnf
   refine ac (aaa (by rw [aG, aG]; (try simp only [aac]); omega)) ?_;rw [bi];conv=>whnf
   refine ak (by rw [hk]; rfl) ?_;conv=>whnf
   have hW : bO 2 T r = vrn 2 ++ cX 2 T r.target := by rw [gu hk, d9 (by decide)]; rfl
   refine ⟨hol.symm, by rw [hol, cg]; simp only [aag, aaj]; omega, ?_⟩;conv=>whnf
   rw [hP, hW] at h;exact h
theorem LZ (t : List B) (ht : t.length < 80000) (r : Rc) (hm : aR 3 r = true) {R} (h : R (.tup [.sl none 1 (bj (bu 3 t r)), .sl none 1 (bj (bw 3 t r)), vi 0]) []) : ag Tryz.prog 185 [vi 3, .sl none 1 (bj t), .agg r.enc] [] R := by
 refine aa (an := K4) tab_ok Tryz.func185 ?_;have hMr := aT hm;have hsl := bD r.deps;have hdl := hMr.deps;have ht2 := hMr.t2;conv=>whnf
 refine kJ 3 r (by omega) fun p hp => ?_;rw [hm] at hp;subst hp;conv=>whnf
 have hnl := aF (bf r);have hnr := dm r;refine oU r (by omega) ?_;conv=>whnf
 refine aq.ind3 (fun (i : Nat) (T o : List B) => [(1, .sl none 1 (bj T)), (9, .sl (some (al 16)) 1 (bj o)), (11, vi i)]) (fun i T o => [(al 16, .row 9 1 o.length)]) (fun i _ _ => (bf r).length - i) (fun i T o => i ≤ (bf r).length ∧ T.length ≤ t.length + i ∧ o.length ≤ i ∧ ((bf r).drop i).foldl cL T = bw 3 t r ∧ o ++ (cF T ((bf r).drop i)).map bq = fU 3 t r) 0 t [] rfl ⟨by omega, by omega, by simp, (fF (by decide) t r).symm, by simp [fU]⟩ ?_;rintro i T o ⟨h0, hTl, hol0, hT, ho⟩ IH;have hol : (bj o).length = o.length := aF o;have hTs := aF T;conv=>whnf
 refine ae (fun hc => ?_) (fun hc => ?_)
 ·have hi := ap hnl hc;rw [aao hi, aaQ] at hT;rw [aao hi, cF] at ho;have hnm : (bf r)[i].length ≤ 64 := (fH hMr _ (gZ.1 (aaf hi))).2
  (conv=>whnf); (repeat ((with_reducible refine ac ?_ ?_); exact aaa (by omega); (conv=>whnf)))
  refine idxNat (by simpa using hi) ?_;generalize hs : (bf r)[i] = s at hT ho hnm;conv=>whnf
  refine fM T s (by omega) rfl fun p hp => ?_;conv=>whnf
  refine ae (fun g => ?_) (fun g => ?_)
  ·have hns : s ∉ T := by
    have : p < 0 := aal g;rw [hp] at this;exact cG.1 this
   rw [aap hns] at ho;rw [du hns] at hT
   (conv=>whnf); (repeat ((with_reducible refine ac ?_ ?_); exact aaa (by omega); (conv=>whnf)))
   refine idxNat (by simpa using hi) ?_;rw [hs];conv=>whnf
   have e3 : (⟨#[0]⟩ : ByteArray) = ofB [0] := rfl;refine ac (aaa (by rw [aG]; show 1 + s.length ≤ _; omega)) ?_;rw [e3, bi];conv=>whnf
   refine ⟨hol.symm, by rw [hol, cg]; simp only [aag, aaj]; omega, ?_⟩
   (conv=>whnf); (repeat ((with_reducible refine ac ?_ ?_); exact aaa (by omega); (conv=>whnf)))
   refine idxNat (by simpa using hi) ?_;rw [hs];conv=>whnf
   refine ma T s (by omega) ?_;rw [du hns];have IH := IH (i + 1) (T ++ [s]) (o ++ [bq s]) ⟨hi, by simp; omega, by simp; omega, hT, by rw [← ho]; simp⟩ (by omega);rw [dv o, aac] at IH;conv=>whnf
   rw [am (by omega), hol];exact IH
  ·have hns : s ∈ T := by
    have : ¬ p < 0 := aat g;rw [hp] at this;exact Classical.byContradiction fun e => this (cG.2 e)
   rw [aaz hns] at ho;rw [dJ hns] at hT;have IH := IH (i + 1) T o ⟨hi, by omega, by omega, hT, ho⟩ (by omega);conv=>whnf
   rw [am (by omega)];exact IH
 ·have hi := au hnl hc;rw [aay hi, abH] at hT;rw [aay hi, show cF T [] = [] from rfl, abi, aaR] at ho;have hTl : T.length < 90000 := by omega
  have hol0 : o.length ≤ 30 := by omega
  clear IH hTs;have hP : bj (bu 3 t r) = bj o ++ [[vs (bO 3 T r)]] := by unfold bu; rw [← ho, dv, ← hT]; rfl
  have hTm : 3 ≠ (1 : Int) → ∀ x ∈ bI r, x ∈ T := fun hv x hx => by rw [hT]; exact cm hv t r hx
  rw [← hT] at h;rcases hMr.kind with hk | hg
  ·conv=>whnf
   rw [show IntKind.u64.wrap r.kind = ((1 : Nat) : Int) from by rw [hk]; rfl];refine bg 1 (by decide) ?_;have hv0 : (vrn 1).length = 1 := lV (by decide);conv=>whnf
   refine eU T (by omega) r.target (fun hv => hTm hv _ (by simp [bI])) (by omega) ?_;have hv1 := fY (v := 3) (t := T) hMr.t2 (by omega);conv=>whnf
   refine ac (aaa (by rw [aG, aG]; (try simp only [aac]); omega)) ?_;rw [bi];conv=>whnf
   refine aK (by rw [hk]; rfl) ?_;conv=>whnf
   refine bg r.rule.toNat (by have := r.rule.isLt; omega) ?_;have hv2 := df r.rule;conv=>whnf
   refine ac (aaa (by rw [aG, aG]; (try simp only [aac]); omega)) ?_;rw [bi];conv=>whnf
   rw [pP hMr.deps];refine bg r.deps.length (by omega) ?_;have hv3 : (vrn r.deps.length).length ≤ 10 := ct (by omega);conv=>whnf
   refine ac (aaa (by rw [aG, aG]; (try simp only [aac]); omega)) ?_;rw [bi];conv=>whnf
   obtain ⟨x0, hx0⟩ : ∃ x0, x0 = vrn 1 ++ cX 3 T r.target ++ vrn r.rule.toNat ++ vrn r.deps.length := ⟨_, rfl⟩;have hx1 : x0 = dp 3 T r := by rw [hx0, dp, d9 (by decide)]; simp
   rw [← hx0];clear hx0 hv0 hv1 hv2 hv3;have hfl := gx (v := 3) (t := T) hMr (by omega);refine aq.ind2 (fun (i : Nat) (x : B) => [(12, vs x), (13, vi i)]) (fun i x => [(al 16, .row 9 1 o.length)]) (fun i _ => r.deps.length - i) (fun i x => i ≤ r.deps.length ∧ x = dp 3 T r ++ bX 3 T (r.deps.take i)) 0 x0 rfl ⟨by omega, by rw [hx1]; simp [bX]⟩ ?_;rintro i x ⟨h0, hx⟩ IH;have hdt := gB (v := 3) (t := T) hMr (by omega) i;have hxl : x.length ≤ 1300 := by rw [hx, aac]; omega
   conv=>whnf
   refine ae (fun hc => ?_) (fun hc => ?_)
   ·have hi := ap hsl hc
    (conv=>whnf); (repeat ((with_reducible refine ac ?_ ?_); exact aaa (by omega); (conv=>whnf)))
    refine idxNat (by simpa using hi) ?_;have hdm : r.deps[i] ∈ r.deps := aaf hi;have hdn := hMr.names _ hdm;generalize hd : r.deps[i] = d at hdm hdn;have hd : r.deps[i] = d := hd;conv=>whnf
    have hdT : d.name ∈ T := hTm (by decide) _ (by unfold bI; exact aaw _ (aa3 _ (aaD hdm)));have hix := abB hdT;refine fM T d.name (by omega) rfl fun p hp => ?_;rw [qC hdT] at hp;subst hp;have e2 : IntKind.u64.wrap (2 * IntKind.u64.wrap ((T.idxOf d.name : Nat) : Int)) = ((2 * T.idxOf d.name : Nat) : Int) := by
     rw [iQ (by omega), show (2 : Int) * ((T.idxOf d.name : Nat) : Int) = ((2 * T.idxOf d.name : Nat) : Int) by omega, iQ (by omega)]
    conv=>whnf
    rw [e2]
    cases ho2 : d.order with
    | true =>
     have e3 : IntKind.u64.wrap (((2 * T.idxOf d.name : Nat) : Int) + 1) = ((eQ T d : Nat) : Int) := by
      rw [show ((2 * T.idxOf d.name : Nat) : Int) + 1 = ((2 * T.idxOf d.name + 1 : Nat) : Int) by omega, iQ (by omega)];unfold eQ;rw [ho2];rfl
     conv=>whnf
     rw [e3];refine bg (eQ T d) (by unfold eQ; split <;> omega) ?_;have hv2 : (vrn (eQ T d)).length ≤ 10 := ct (by unfold eQ; split <;> omega);conv=>whnf
     refine ac (aaa (by rw [aG, aG]; (try simp only [aac]); omega)) ?_;rw [bi];conv=>whnf
     refine bg d.hash.toNat (by have := d.hash.isLt; omega) ?_;have hv3 := df d.hash;conv=>whnf
     refine ac (aaa (by rw [aG, aG]; (try simp only [aac]); omega)) ?_;rw [bi];conv=>whnf
     have IH := IH (i + 1) (x ++ vrn (eQ T d) ++ vrn d.hash.toNat) ⟨hi, by rw [fm hi, hx, hd]; simp [lT, aak]⟩ (by omega);rw [am (by omega)];exact IH
    | false =>
     have e3 : ((2 * T.idxOf d.name : Nat) : Int) = ((eQ T d : Nat) : Int) := by
      unfold eQ;rw [ho2];rfl
     rw [e3];conv=>whnf
     refine bg (eQ T d) (by unfold eQ; split <;> omega) ?_;have hv2 : (vrn (eQ T d)).length ≤ 10 := ct (by unfold eQ; split <;> omega);conv=>whnf
     refine ac (aaa (by rw [aG, aG]; (try simp only [aac]); omega)) ?_;rw [bi];conv=>whnf
     refine bg d.hash.toNat (by have := d.hash.isLt; omega) ?_;have hv3 := df d.hash;conv=>whnf
     refine ac (aaa (by rw [aG, aG]; (try simp only [aac]); omega)) ?_;rw [bi];conv=>whnf
     have IH := IH (i + 1) (x ++ vrn (eQ T d) ++ vrn d.hash.toNat) ⟨hi, by rw [fm hi, hx, hd]; simp [lT, aak]⟩ (by omega);rw [am (by omega)];exact IH
   ·have hi := au hsl hc;rw [aae hi] at hx;clear IH;conv=>whnf
    refine bg r.out.toNat (by have := r.out.isLt; omega) ?_;have hv4 := df r.out;conv=>whnf
    refine ac (aaa (by rw [aG, aG]; (try simp only [aac]); omega)) ?_;rw [bi];conv=>whnf
    refine bg r.wen.toNat (by have := r.wen.isLt; omega) ?_;have hv5 := df r.wen;conv=>whnf
    refine ac (aaa (by rw [aG, aG]; (try simp only [aac]); omega)) ?_;rw [bi];conv=>whnf
    refine ae (fun g => ?_) (fun g => ?_)
    ·have g : r.tag = [] := bZ (aal g);conv=>whnf
     refine bg 0 (by decide) ?_;have hv6 : (vrn 0).length = 1 := lV (by decide);conv=>whnf
     refine ac (aaa (by rw [aG, aG]; (try simp only [aac]); omega)) ?_;rw [bi];conv=>whnf
     refine ak (by rw [g]; rfl) ?_;conv=>whnf
     have hW : bO 3 T r = x ++ vrn r.out.toNat ++ vrn r.wen.toNat ++ vrn 0 := by
      rw [eW hk, hx];simp [lS, kH, g, aak]
     refine ⟨hol.symm, by rw [hol, cg]; simp only [aag, aaj]; omega, ?_⟩;conv=>whnf
     rw [hP, hW] at h;exact h
    ·have g : r.tag ≠ [] := fun e => by rw [e] at g; exact aat g rfl
     have htT : r.tag ∈ T := hTm (by decide) _ (by simp [bI, g]);have hix := abB htT;conv=>whnf
     refine aK (by show (!decide (ofB r.tag = ofB [])) = true; rw [aai (fun e => g (bZ e))]; rfl) ?_;conv=>whnf
     refine fM T r.tag (by omega) rfl fun p hp => ?_;rw [qC htT] at hp;subst hp;have e2 : IntKind.u64.wrap (IntKind.u64.wrap ((T.idxOf r.tag : Nat) : Int) + 1) = ((T.idxOf r.tag + 1 : Nat) : Int) := by
      rw [iQ (by omega), show ((T.idxOf r.tag : Nat) : Int) + 1 = ((T.idxOf r.tag + 1 : Nat) : Int) by omega, iQ (by omega)]
     conv=>whnf
     rw [e2];refine bg (T.idxOf r.tag + 1) (by omega) ?_;have hv6 := ct (n := T.idxOf r.tag + 1) (by omega);conv=>whnf
     refine ac (aaa (by rw [aG, aG]; (try simp only [aac]); omega)) ?_;rw [bi];conv=>whnf
     have hW : bO 3 T r = x ++ vrn r.out.toNat ++ vrn r.wen.toNat ++ vrn (T.idxOf r.tag + 1) := by
      rw [eW hk, hx];simp [lS, kH, g, aak]
     refine ⟨hol.symm, by rw [hol, cg]; simp only [aag, aaj]; omega, ?_⟩;conv=>whnf
     rw [hP, hW] at h;exact h
  ·have hk := gw hg;conv=>whnf
   rw [show IntKind.u64.wrap r.kind = ((2 : Nat) : Int) from by rw [hk]; rfl];refine bg 2 (by decide) ?_;have hv0 : (vrn 2).length = 1 := lV (by decide);conv=>whnf
   refine eU T (by omega) r.target (fun hv => hTm hv _ (by simp [bI])) (by omega) ?_;have hv1 := fY (v := 3) (t := T) hMr.t2 (by omega);conv=>whnf
   refine ac (aaa (by rw [aG, aG]; (try simp only [aac]); omega)) ?_;rw [bi];conv=>whnf
   refine ak (by rw [hk]; rfl) ?_;conv=>whnf
   have hW : bO 3 T r = vrn 2 ++ cX 3 T r.target := by rw [gu hk, d9 (by decide)]; rfl
   refine ⟨hol.symm, by rw [hol, cg]; simp only [aag, aaj]; omega, ?_⟩;conv=>whnf
   rw [hP, hW] at h;exact h
theorem pK {v : Int} (hv : is3 v) (t : List B) (ht : t.length < 80000) (r : Rc) (hm : aR v r = true) {R} (h : R (.tup [.sl none 1 (bj (bu v t r)), .sl none 1 (bj (bw v t r)), vi 0]) []) : ag Tryz.prog 185 [vi v, .sl none 1 (bj t), .agg r.enc] [] R := by
 rcases hv with rfl | rfl | rfl
 ·exact L3 t ht r hm h
 ·exact L1 t ht r hm h
 ·exact LZ t ht r hm h
theorem uz {v : Int} {l : List Rc} {i : Nat} (hi : i < l.length) : aC v (l.take (i + 1)) = aC v (l.take i) ++ aw (bu v (tbP v l i) l[i]) := by
 rw [aab hi, il];rfl
theorem vu {v : Int} (hv : is3 v) (l : List Rc) (hl : l.length ≤ 300) (hm : ∀ r ∈ l, aR v r = true) {R} (h : R (.tup [vs (aC v l), .sl none 1 (dh (c6 v l)), vi 0]) []) : ag Tryz.prog 142 [vi v, .sl none 7 (be l)] [] R := by
 refine aa (an := Sy) tab_ok Tryz.func142 ?_;have hsl := bd l;have hmt : ∀ i, ∀ r ∈ l.take i, aR v r = true := fun i r hr => hm r (aaU hr);have hfl : ∀ i, (aC v (l.take i)).length < 1000000 := fun i => eX (hmt i) (by rw [aan]; omega);conv=>whnf
 refine vt (by unfold is3 at hv; omega) (by unfold is3 at hv; omega) ?_;conv=>whnf
 refine aq.ind3 (fun (i : Nat) (X : B) (E : List Nat) => [(7, vs X), (9, .sl (some (al 23)) 1 (dh E)), (10, .sl none 1 (bj (tbP v l i))), (11, vi i)]) (fun i X E => [(al 23, .row 3 1 i)]) (fun i _ _ => l.length - i) (fun i X E => i ≤ l.length ∧ X = aC v (l.take i) ∧ E = c6 v (l.take i)) 0 (dG v) [] rfl ⟨by omega, by simp [aC, aW, aw], rfl⟩ ?_;rintro i X E ⟨h0, hX, hE⟩ IH;have hEl : (dh E).length = i := by rw [b8, hE, gy, aan]; omega
 have hXl : X.length < 1000000 := by rw [hX]; exact hfl i
 conv=>whnf
 refine ae (fun hc => ?_) (fun hc => ?_)
 ·have hi := ap hsl hc;have hTl := rv (by omega) (hmt i);have hmi := hm _ (aaf hi);have hXS := uz (v := v) hi;have hES : c6 v (l.take (i + 1)) = c6 v (l.take i) ++ [(aC v (l.take (i + 1))).length] := by
   rw [aab hi, dq]
  have hTS : tbP v l (i + 1) = bw v (tbP v l i) l[i] := g9 hi;have IH := IH (i + 1) _ _ ⟨hi, rfl, rfl⟩ (by omega);have hfl1 := hfl (i + 1);rw [hES, gN, hXS, ← hX, ← hE, hTS] at IH;rw [hXS, ← hX, aac] at hfl1
  (conv=>whnf); (repeat ((with_reducible refine ac ?_ ?_); exact aaa (by omega); (conv=>whnf)))
  refine idxNat (by simpa using hi) ?_;generalize l[i] = r at IH hmi hfl1 ⊢;generalize tbP v l i = T at IH hTl hfl1 ⊢;have hpl := iA (t := T) (aT hmi) (by omega);conv=>whnf
  refine pK hv T (by omega) r hmi ?_;have hpc := f7 (v := v) (t := T) (aT hmi).deps;generalize bu v T r = ps at IH hpl hfl1 hpc ⊢;have hpsl := aF ps;conv=>whnf
  refine aq.ind2 (fun (k : Nat) (Y : B) => [(7, vs Y), (15, vi k)]) (fun k Y => [(al 23, .row 3 1 i)]) (fun k _ => ps.length - k) (fun k Y => k ≤ ps.length ∧ Y = X ++ aw (ps.take k)) 0 X rfl ⟨by omega, by simp [aw]⟩ ?_;rintro k Y ⟨k0, hY⟩ IH2;have hpt := eM ps k;have hYl : Y.length < 1000000 := by rw [hY, aac]; omega
  conv=>whnf
  refine ae (fun hk => ?_) (fun hk => ?_)
  ·have hk := ap hpsl hk;have hp := hpl _ (aaf hk);have hYS : Y ++ bl ps[k] = X ++ aw (ps.take (k + 1)) := by
    rw [hY, aab hk, dB, aak]
   have IH2 := IH2 (k + 1) _ ⟨hk, hYS⟩ (by omega)
   (conv=>whnf); (repeat ((with_reducible refine ac ?_ ?_); exact aaa (by omega); (conv=>whnf)))
   refine idxNat (by simpa using hk) ?_;generalize ps[k] = p at hp IH2 ⊢;have hfp := lE hp.2;conv=>whnf
   refine pZ p hp.1 hp.2 ?_;conv=>whnf
   refine ac (aaa (by rw [aG, aG]; omega)) ?_;rw [bi];conv=>whnf
   rw [am (by omega)];exact IH2
  ·have hk := au hpsl hk;rw [aae hk] at hY;clear IH2;subst hY;conv=>whnf
   rw [aG];refine ⟨hEl.symm, by rw [hEl, aY]; simp only [aag, aaj]; omega, ?_⟩;conv=>whnf
   rw [am (by omega), hEl];exact IH
 ·have hi := au hsl hc;rw [aae hi] at hX hE;subst hX hE;conv=>whnf
  exact h
theorem F9 (m : FM) (n : B) (f : Fl) : (rpt m n f).length ≤ m.length + 1 := by
 have h := abF (fun p : B × Fl => decide (p.1 ≠ n)) m;have hc := ME n (wF m n) (wF m n).length;unfold rpt;simp only [aac, aan, aag, abk];unfold wF at hc ⊢;omega
theorem LU {m : FM} {n : B} {f : Fl} {p : B × Fl} (h : p ∈ rpt m n f) : p = (n, f) ∨ (p ∈ m ∧ p.1 ≠ n) := by
 have hw : ∀ q, q ∈ wF m n → q ∈ m ∧ q.1 ≠ n := fun q hq => by
  have := List.mem_filter.1 hq;exact ⟨this.1, by simpa using this.2⟩
 unfold rpt at h;rcases List.mem_append.1 h with h | h
 ·exact .inr (hw p (aaU h))
 ·rcases List.mem_cons.1 h with h | h
  ·exact .inl h
  ·exact .inr (hw p (abT h))
theorem ROk.act {s : FSt} (h : ROk s) (late : Bool) {g : FM → FM} (h1 : (g s.fs).length < 900000) (h2 : ∀ x ∈ kys (g s.fs), x.length < 1000000) : ROk (s.act late g).1 := by
 unfold FSt.act;split
 ·cases late
  ·exact ⟨h.len, h.names, jH h.fail, jH h.fall⟩
  ·exact ⟨h1, h2, jH h.fail, jH h.fall⟩
 ·split
  ·exact ⟨h.len, h.names, jH h.fail, jH h.fall⟩
  ·exact ⟨h1, h2, jH h.fail, jH h.fall⟩
theorem yj {m : FM} (h : ∀ x ∈ kys m, x.length < 1000000) {n : B} (hn : n.length < 1000000) (f : Fl) : ∀ x ∈ kys (rpt m n f), x.length < 1000000 := fun x hx => by
 obtain ⟨p, hp, rfl⟩ := List.mem_map.1 hx;rcases LU hp with e | ⟨e, _⟩
 ·rw [e]; exact hn
 ·exact h _ (aaD e)
theorem I8 {m : FM} (h : ∀ x ∈ kys m, x.length < 1000000) (n : B) : ∀ x ∈ kys (wF m n), x.length < 1000000 := fun x hx => by
 obtain ⟨p, hp, rfl⟩ := List.mem_map.1 hx;exact h p.1 (aaD (List.mem_filter.1 hp).1)
theorem ROk.append {s : FSt} (h : ROk s) (hl : s.fs.length < 800000) {n : B} (hn : n.length < 1000000) (b : B) : ROk (s.rappend n b).1 ∧ (s.rappend n b).1.fs.length ≤ s.fs.length + 1 := by
 have hr := F9 s.fs n ⟨(gF s.fs n).b ++ b, (gF s.fs n).safe⟩;unfold FSt.rappend;split
 ·exact ⟨h, by show s.fs.length ≤ _; omega⟩
 ·refine ⟨h.act true (by show (rpt _ _ _).length < _; omega) (yj h.names hn _), ?_⟩;unfold FSt.act;split
  ·exact hr
  ·split
   ·show s.fs.length ≤ _; omega
   ·exact hr
theorem ROk.sync {s : FSt} (h : ROk s) (hl : s.fs.length < 800000) {n : B} (hn : n.length < 1000000) : ROk (s.rsync n).1 := by
 have hr := F9 s.fs n ⟨(gF s.fs n).b, (gF s.fs n).b.length⟩;unfold FSt.rsync;split
 ·exact h
 ·exact h.act false (by show (rpt _ _ _).length < _; omega) (yj h.names hn _)
theorem ROk.remove {s : FSt} (h : ROk s) (n : B) : ROk (s.rremove n).1 ∧ (s.rremove n).1.fs.length ≤ s.fs.length := by
 have hw : (wF s.fs n).length ≤ s.fs.length := abF _ _;unfold FSt.rremove;split
 ·exact ⟨h, aar _⟩
 ·have := h.len;refine ⟨h.act false (by show (wF _ _).length < _; omega) (I8 h.names n), ?_⟩;unfold FSt.act;split
  ·exact aar _
  ·split
   ·exact aar _
   ·exact hw
def yi (s : FSt) (log new b : B) : FSt × Int :=
 if (s.rappend new b).2 ≠ 0 then s.rappend new b
 else if ((s.rappend new b).1.rsync new).2 ≠ 0 then (s.rappend new b).1.rsync new
 else ((s.rappend new b).1.rsync new).1.rrename new log
def qx (s : FSt) (log new b : B) : FSt × Int :=
 if new ∈ kys s.fs then (if (s.rremove new).2 ≠ 0 then s.rremove new else yi (s.rremove new).1 log new b) else yi s log new b
theorem Lx (m : FM) (n : B) : n ∉ kys (wF m n) := fun h => by
 obtain ⟨p, hp, e⟩ := List.mem_map.1 h;have := (List.mem_filter.1 hp).2;simp [e] at this
theorem zG {s : FSt} {n : B} (h : (s.rremove n).2 = 0) : gF (s.rremove n).1.fs n = flZ := by
 unfold FSt.rremove at h ⊢;split
 ·rename_i hm;rw [aaz hm] at h;exact absurd h hm
 ·rename_i hm;rw [aap hm] at h;rcases fd s false (fun m => wF m n) with ⟨_, f⟩ | ⟨e, _⟩
  ·rw [f];unfold gF;rw [fL.2 (Lx _ _)];rfl
  ·exact absurd h e
theorem zR (s : FSt) (hs : ROk s) (hsl : s.fs.length < 700000) (name aside : B) (hne : name ≠ aside) (hn : name.length < 1000000) (ha : aside.length < 1000000) (hba : (gF s.fs aside).b.length < 100000000) {v : Int} (hv : is3 v) (l : List Rc) (hl : l.length ≤ 300) (hm : ∀ r ∈ l, aR v r = true) {R}
  (h : R (.tup [.agg (fsR (qx s name aside (aC v l)).1), vi (qx s name aside (aC v l)).2]) []) : ag Tryz.prog 101 [.agg (fsR s), vs name, vs aside, vi v, .sl none 7 (be l)] [] R := by
 refine aa (an := S6) tab_ok Tryz.func101 ?_;have hfl := eX hm hl;conv=>whnf
 refine vu hv l hl hm ?_;generalize aC v l = b at h hfl ⊢;conv=>whnf
 refine ak (aai (fun e => hne (bZ e))) ?_;conv=>whnf
 refine fR s (by omega) aside ?_;unfold qx at h;by_cases hin : aside ∈ kys s.fs
 ·rw [aaz hin] at h;rw [aaa hin];conv=>whnf
  refine xq s hs aside ?_;have hs1 := (hs.remove aside).1;have hl1 := (hs.remove aside).2;have hg : (s.rremove aside).2 = 0 → (gF (s.rremove aside).1.fs aside).b.length < 100000000 := fun e => by rw [zG e]; show 0 < _; decide
  generalize s.rremove aside = se at h hs1 hl1 hg ⊢;obtain ⟨s1, e1⟩ := se;by_cases g1 : e1 = 0
  ·subst g1;rw [aap (by simp)] at h;have hba : (gF s1.fs aside).b.length < 100000000 := hg rfl;have hs1 : ROk s1 := hs1;have hl1 : s1.fs.length ≤ s.fs.length := hl1;have hsl1 : s1.fs.length < 750000 := by omega
   clear hg hl1;conv=>whnf
   refine mC s1 hs1 aside b ha (by omega) ?_;have hz1 := (hs1.append (by omega) ha b).1;have hzl1 := (hs1.append (by omega) ha b).2;unfold yi at h;generalize s1.rappend aside b = se at h hz1 hzl1 ⊢;obtain ⟨t1, e1⟩ := se;by_cases g1 : e1 = 0
   ·subst g1;rw [aap (by simp)] at h;conv=>whnf
    refine oV t1 hz1 aside ha ?_;have hs2 := hz1.sync (by show t1.fs.length < _; have hzl1 : t1.fs.length ≤ s1.fs.length + 1 := hzl1; omega) ha;generalize t1.rsync aside = se at h hs2 ⊢;obtain ⟨t2, e2⟩ := se;by_cases g2 : e2 = 0
    ·subst g2;rw [aap (by simp)] at h;conv=>whnf
     refine p8 t2 hs2 aside name ha hn ?_;generalize t2.rrename aside name = se at h ⊢;obtain ⟨t3, e3⟩ := se;conv=>whnf
     exact h
    ·rw [aaz g2] at h;conv=>whnf
     refine ak (by simpa using g2) ?_;conv=>whnf
     exact h
   ·rw [aaz g1] at h;conv=>whnf
    refine ak (by simpa using g1) ?_;conv=>whnf
    refine ak (by simpa using g1) ?_;conv=>whnf
    exact h
  ·rw [aaz g1] at h;conv=>whnf
   refine ak (by simpa using g1) ?_;conv=>whnf
   refine ak (by simpa using g1) ?_;conv=>whnf
   refine ak (by simpa using g1) ?_;conv=>whnf
   exact h
 ·rw [aap hin] at h;rw [aai hin];have hsl : s.fs.length < 750000 := by omega
  conv=>whnf
  refine mC s hs aside b ha (by omega) ?_;have hs1 := (hs.append (by omega) ha b).1;have hl1 := (hs.append (by omega) ha b).2;unfold yi at h;generalize s.rappend aside b = se at h hs1 hl1 ⊢;obtain ⟨t1, e1⟩ := se;by_cases g1 : e1 = 0
  ·subst g1;rw [aap (by simp)] at h;conv=>whnf
   refine oV t1 hs1 aside ha ?_;have hs2 := hs1.sync (by show t1.fs.length < _; have hl1 : t1.fs.length ≤ s.fs.length + 1 := hl1; omega) ha;generalize t1.rsync aside = se at h hs2 ⊢;obtain ⟨t2, e2⟩ := se;by_cases g2 : e2 = 0
   ·subst g2;rw [aap (by simp)] at h;conv=>whnf
    refine p8 t2 hs2 aside name ha hn ?_;generalize t2.rrename aside name = se at h ⊢;obtain ⟨t3, e3⟩ := se;conv=>whnf
    exact h
   ·rw [aaz g2] at h;conv=>whnf
    refine ak (by simpa using g2) ?_;conv=>whnf
    exact h
  ·rw [aaz g1] at h;conv=>whnf
   refine ak (by simpa using g1) ?_;conv=>whnf
   refine ak (by simpa using g1) ?_;conv=>whnf
   exact h
theorem l9 {v : Int} (hv : is3 v) (rest : B) (hl : rest.length < 10000000) {R} (h : R (.tup [vi v, vi 0]) []) : ag Tryz.prog 187 [vs (dG v ++ rest)] [] R := by
 refine aa (an := R2) tab_ok Tryz.func187 ?_;obtain ⟨b, hb⟩ : ∃ b, b = dG v ++ rest := ⟨_, rfl⟩;have hbl : b.length = 8 + rest.length := by rw [hb, aac]; rfl
 have h3 : b.take 3 = [84, 80, 72] := by rw [hb]; rfl
 have h4 : b.take 4 = iU v := by rw [hb]; rfl
 have h8 : (b.drop 4).take 4 = w4 (Crc.sum (iU v)).toNat := by rw [hb]; rfl
 have hsz := aG b;rw [← hb];clear hb;conv=>whnf
 refine ak (aai (by omega)) ?_;conv=>whnf
 refine ac (aaa (by omega)) ?_;conv=>whnf
 have x3 : (ofB b).extract ((0 : Nat) : Int).toNat (Int.toNat 3) = ⟨#[84, 80, 72]⟩ := by
  rw [jl];show ofB ((b.take 3).drop 0) = _;rw [h3];rfl
 have x4 : (ofB b).extract ((0 : Nat) : Int).toNat (Int.toNat 4) = ofB (iU v) := by
  rw [jl];show ofB ((b.take 4).drop 0) = _;rw [h4];rfl
 have x8 : (ofB b).extract (Int.toNat 4) (Int.toNat 8) = ofB (w4 (Crc.sum (iU v)).toNat) := by
  rw [jl];show ofB ((b.take 8).drop 4) = _;rw [List.drop_take, h8]
 have xb : aD (ofB b) (Int.toNat 3) = v := by
  have h3l : 3 < b.length := by omega
  have e : b[3] = UInt8.ofNat v.toNat := by
   have := aa9 h4 (i := 3) (by rw [aan]; omega);rw [List.getElem_take] at this;exact this
  show aD (ofB b) 3 = v;rw [je b h3l, e, sL (by unfold is3 at hv; omega)];unfold is3 at hv;omega
 refine ak (by rw [x3]; simp) ?_;conv=>whnf
 refine ac (aaa (by omega)) ?_;conv=>whnf
 rw [x4];refine kI (iU v) (by show 4 < _; decide) ?_;conv=>whnf
 refine i5 _ ?_;conv=>whnf
 refine ac (aaa (by omega)) ?_;conv=>whnf
 rw [x8];refine ak (by simp) ?_;conv=>whnf
 refine ac (aaa (by omega)) ?_;conv=>whnf
 rw [xb];refine ak (aai (by unfold is3 at hv; omega)) ?_;conv=>whnf
 refine ac (aaa (by omega)) ?_;conv=>whnf
 rw [xb];refine ak (aai (by unfold is3 at hv; omega)) ?_;conv=>whnf
 refine ac (aaa (by omega)) ?_;conv=>whnf
 rw [xb, aI (by unfold is3 at hv; omega) (by unfold is3 at hv; omega)];exact h
theorem mY (b : B) (hb : b.length < 100000000) {R} (h : R (.tup [vs [], vi 0, vi 6]) []) : ag Tryz.prog 235 [vs b, vi (b.length : Int)] [] R := by
 refine aa (an := Nz) tab_ok Tryz.func235 ?_;have hsz := aG b;conv=>whnf
 refine ak (aai (by omega)) ?_;conv=>whnf
 refine aK (by rw [hsz]; simp) ?_;conv=>whnf
 exact h
theorem xn (b : B) (hb : b.length < 100000000) {R} (h : R (.tup [.sl none 1 (bj []), .sl none 1 []]) []) : ag Tryz.prog 188 [vs b, vi (b.length : Int)] [] R := by
 refine aa (an := ND) tab_ok Tryz.func188 ?_;conv=>whnf
 refine aq.step ?_;conv=>whnf
 refine mY b hb ?_;conv=>whnf
 exact h
theorem sS {v : Int} (hv : is3 v) {R} (h : R (.tup [.agg (Rc.enc ⟨0, [], 0, [], 0, 0, []⟩), vi 0, .sl none 1 [], vi 6]) []) : ag Tryz.prog 189 [vi v, .sl none 1 [], .sl none 1 [], vi 0] [] R := by
 refine ag.res ?_;refine aa (an := K3) tab_ok Tryz.func189 ?_;conv=>whnf
 refine ak (aai (by unfold is3 at hv; omega)) ?_;conv=>whnf
 refine ak (aai (by unfold is3 at hv; omega)) ?_;conv=>whnf
 refine aq.step ?_;conv=>whnf
 exact cw (f9 (leL.cons (iJ (Gw 0 [] 0 0 0 [])) (leL.refl _))) rfl h
theorem lu {v : Int} (hv : is3 v) {R} (h : R (.tup [.agg (cq v []), vi 0]) []) : ag Tryz.prog 145 [vs (aC v [])] [] R := by
 refine ag.res ?_;refine aa (an := NI) tab_ok Tryz.func145 ?_;have hf : aC v [] = dG v ++ [] := by simp [aC, aW, aw]
 have hl : (dG v ++ []).length = 8 := by rw [aaR]; rfl
 rw [hf];obtain ⟨b, hb⟩ : ∃ b, b = dG v ++ [] := ⟨_, rfl⟩;have hver := fun R hR => l9 hv [] (by simp) (R := R) hR;rw [← hb] at hl hver ⊢;have hrun := fun R hR => xn b (by omega) (R := R) hR;rw [hl] at hrun;conv=>whnf
 refine hver _ ?_;conv=>whnf
 refine hrun _ ?_;conv=>whnf
 refine aq.step ?_;conv=>whnf
 refine sS hv ?_;conv=>whnf
 refine cw (f9 (leL.cons (iJ (leL.cons (.refl _) (leL.cons (cy 7) (leL.cons (cy 1) (leL.refl _))))) (leL.refl _))) rfl ?_;have hA : cq v [] = [vi v, .sl none 7 [], .sl none 1 [], vi 8] := by
  unfold cq;rw [hf, ← hb, hl];rfl
 rw [hA] at h;exact h
theorem BR (s : FSt) (hl : s.fs.length < 900000) (name : B) {v : Int} (l : List Rc) (hin : name ∈ kys s.fs) (hb : (gF s.fs name).b = aC v l) (hget : ∀ {R : AV → List aE → Prop}, R (.tup [.agg (cq v l), vi 0]) [] → ag Tryz.prog 145 [vs (aC v l)] [] R) {R}
  (h : R (.tup [.agg (fsR s), .agg (cq v l), vi 0]) []) : ag Tryz.prog 102 [.agg (fsR s), vs name] [] R := by
 refine aa (an := { S5 with cst := [2] }) tab_ok Tryz.func102 ?_;conv=>whnf
 refine fR s (by omega) name ?_;rw [aaa hin];unfold flE;rw [hb];conv=>whnf
 refine hget ?_;conv=>whnf
 refine ak (aai (by rw [aG]; omega)) ?_;conv=>whnf
 exact h
def zFl : List AV := [vi 0, nlA, nlA, vi 0]
theorem vn (s : FSt) (hs : ROk s) (name : B) (hn : name.length < 1000000) (hg : (gF s.fs name).b.length < 900000000) {v : Int} (hv : is3 v) (l : List Rc) (hl : l.length ≤ 300) (hm : ∀ r ∈ l, aR v r = true) (r : Rc) (hr : aR v r = true) {R}
  (h1 : (s.rappend name (cb v l r)).2 ≠ 0 → R (.tup [.agg (fsR (s.rappend name (cb v l r)).1), .agg zFl, vi (s.rappend name (cb v l r)).2]) [])
  (h2 : (s.rappend name (cb v l r)).2 = 0 → R (.tup [.agg (fsR (s.rappend name (cb v l r)).1), .agg (cq v (l ++ [r])), vi 0]) []) : ag Tryz.prog 147 [.agg (fsR s), vs name, .agg (cq v l), .agg r.enc] [] R := by
 refine ag.res ?_;refine aa (an := { Sv with anyo := [25, 26] }) tab_ok Tryz.func147 ?_;have hsl := bd l;have hM : ∀ x ∈ l, kF v x := fun x hx => aT (hm x hx);have hfl := eX hm hl;have hel := gy v l;have hil := b8 (c6 v l);have hfs : aC v (l ++ [r]) = aC v l ++ cb v l r := il v l r;conv=>whnf
 refine ak (aai (by unfold is3 at hv; omega)) ?_;conv=>whnf
 refine ak (aai (by unfold is3 at hv; omega)) ?_;conv=>whnf
 refine aq.ind1 (fun (i : Nat) => [(11, .sl none 1 (bj (tbP v l i))), (13, vi i)]) (fun i => [(al 4, .cells 53 (fsR s)), (al 6, .cells 56 (cq v l)), (al 8, .cells 53 [.val (.slice none 0 0), vi 0, vi 0, .val (.bool false)]), (al 9, .cells 56 zFl)]) (fun i => l.length - i) (fun i => i ≤ l.length) 0 rfl (by omega) ?_;rintro i h0 IH;have hmt : ∀ r ∈ l.take i, aR v r = true := fun r hr => hm r (aaU hr);have hTl := rv (by omega) hmt;conv=>whnf
 refine ae (fun hc => ?_) (fun hc => ?_)
 ·have hi := ap hsl hc;have hTS : tbP v l (i + 1) = bw v (tbP v l i) l[i] := g9 hi;have hmi := hm _ (aaf hi);have IH := IH (i + 1) hi (by omega);rw [hTS] at IH
  (conv=>whnf); (repeat ((with_reducible refine ac ?_ ?_); exact aaa (by omega); (conv=>whnf)))
  refine idxNat (by simpa using hi) ?_;conv=>whnf
  refine pK hv (tbP v l i) (by omega) l[i] hmi ?_;conv=>whnf
  rw [am (by omega)];exact IH
 ·have hi := au hsl hc;have hT : tbP v l i = ln v [] l := by unfold tbP; rw [aae hi]
  rw [hT] at hTl ⊢;clear IH;obtain ⟨T, hTT⟩ : ∃ T, T = ln v [] l := ⟨_, rfl⟩;have hmo : cb v l r = aw (bu v T r) := by rw [hTT]; rfl
  rw [← hTT] at hTl ⊢;rw [hmo] at h1 h2 hfs;have hpl := iA (t := T) (aT hr) (by omega);have hpf := dF (t := T) (aT hr) (by omega);have hpc := f7 (v := v) (t := T) (aT hr).deps;conv=>whnf
  refine pK hv T (by omega) r hr ?_;generalize bu v T r = ps at h1 h2 hfs hpl hpf hpc ⊢;have hpsl := aF ps;conv=>whnf
  refine aq.ind2 (fun (k : Nat) (Y : B) => [(16, vs Y), (17, vi k)]) (fun k Y => [(al 4, .cells 53 (fsR s)), (al 6, .cells 56 (cq v l)), (al 8, .cells 53 [.val (.slice none 0 0), vi 0, vi 0, .val (.bool false)]), (al 9, .cells 56 zFl)]) (fun k _ => ps.length - k) (fun k Y => k ≤ ps.length ∧ Y = aw (ps.take k)) 0 [] rfl ⟨by omega, rfl⟩ ?_;rintro k Y ⟨k0, hY⟩ IH2;have hpt := eM ps k;have hYl : Y.length ≤ 3000 := by rw [hY]; omega
  conv=>whnf
  refine ae (fun hk => ?_) (fun hk => ?_)
  ·have hk := ap hpsl hk;have hp := hpl _ (aaf hk);have hYS : Y ++ bl ps[k] = aw (ps.take (k + 1)) := by
    rw [hY, aab hk, dB]
   have IH2 := IH2 (k + 1) _ ⟨hk, hYS⟩ (by omega)
   (conv=>whnf); (repeat ((with_reducible refine ac ?_ ?_); exact aaa (by omega); (conv=>whnf)))
   refine idxNat (by simpa using hk) ?_;generalize ps[k] = p at hp IH2 ⊢;have hfp := lE hp.2;conv=>whnf
   refine pZ p hp.1 hp.2 ?_;conv=>whnf
   refine ac (aaa (by rw [aG, aG]; omega)) ?_;rw [bi];conv=>whnf
   rw [am (by omega)];exact IH2
  ·have hk := au hpsl hk;rw [aae hk] at hY;rw [← hY] at h1 h2 hfs;clear IH2 hpt hpl hpf hpc hY hpsl hk k0;conv=>whnf
   refine mC s hs name Y hn (by omega) ?_;generalize s.rappend name Y = se at h1 h2 ⊢;obtain ⟨s2, e⟩ := se;conv=>whnf
   refine ae (fun g => ?_) (fun g => ?_)
   ·have h1 := h1 (by simpa using g);conv=>whnf
    exact bB h1
   have h2 := h2 (by simpa using g);have e0 : e = 0 := by simpa using g
   subst e0;conv=>whnf
   have hend : IntKind.i64.wrap (((aC v l).length : Int) + ((ofB Y).size : Int)) = ((aC v (l ++ [r])).length : Int) := by
    rw [aG, hfs, aac, aI (by omega) (by omega)];omega
   rw [hend];refine ⟨rfl, by rw [hsl, bF]; simp only [aaj]; omega, ?_⟩;conv=>whnf
   refine ⟨by simp, by rw [bF]; simp only [aag, aaj, aam, hsl]; omega, ?_⟩;conv=>whnf
   have er : cq v (l ++ [r]) = [vi v, .sl none 7 (([] ++ be l) ++ [r.enc]), .sl none 1 (([] ++ dh (c6 v l)) ++ [[vi ((aC v (l ++ [r])).length : Int)]]), vi ((aC v (l ++ [r])).length : Int)] := by
    unfold cq;rw [jk, dq, gN];rfl
   rw [er] at h2
   repeat' first
    | (with_reducible exact trivial)
    | ((with_reducible (refine (show _ = _ ∧ _ ≤ _ ∧ _ from ?_))); (refine ⟨by first | (with_reducible rfl) | (simp only [aam, aaj, aaS]), by first | (rw [hil, hel, aY]; simp only [aaj]; omega) | (rw [aY]; simp only [aag, aaj, aam, hil, hel]; omega), ?_⟩))
    | (with_reducible apply And.intro)
    | ((fail_if_success (with_reducible (refine (show ∃ _, _ from ?_)))); (conv=>whnf))
   all_goals exact bB h2
def stR (ov : Bool) (v : Int) (l : List Rc) (s : FSt) : List AV := [.sl none 3 (dS s.fs), vi s.fail, vi s.fall, .val (.bool s.down), vi v, .sl none 7 (be l), .sl none 1 (dh (c6 v l)), vi (((aC v l).length : Nat) : Int), .val (.bool ov)]
def ju (v : Int) (s : FSt) (l : List Rc) (r : Rc) : FSt × Int := s.rappend aS (cb v l r)
theorem BH {v : Int} (hv : is3 v) (s : FSt) (hs : ROk s) (hg : (gF s.fs aS).b.length < 900000000) (l : List Rc) (hl : l.length ≤ 300) (hm : ∀ r ∈ l, aR v r = true) (r : Rc) (hr : aR v r = true) (o : Bool) {R}
  (h1 : (ju v s l r).2 ≠ 0 → R (.tup [.agg (stR ((ju v s l r).2 == 7) v l (ju v s l r).1), vi (ju v s l r).2]) [])
  (h2 : (ju v s l r).2 = 0 → R (.tup [.agg (stR false v (l ++ [r]) (ju v s l r).1), vi 0]) []) : ag Tryz.prog 104 [.agg (stR o v l s), .agg r.enc] [] R := by
 refine aa (an := S3) tab_ok Tryz.func104 ?_;unfold ju at h1 h2;conv=>whnf
 refine vn s hs aS (by decide) hg hv l hl hm r hr (fun he => ?_) (fun he => ?_)
 ·have h1 := h1 he;clear h2;generalize s.rappend aS (cb v l r) = se at h1 he ⊢;obtain ⟨s2, e⟩ := se;have he : e ≠ 0 := he;conv=>whnf
  refine ak (by simpa using he) ?_;conv=>whnf
  exact h1
 ·have h2 := h2 he;clear h1;generalize s.rappend aS (cb v l r) = se at h2 he ⊢;obtain ⟨s2, e⟩ := se;conv=>whnf
  exact h2
theorem l7 {v : Int} (hv : is3 v) (s : FSt) (hs : ROk s) (hg : (gF s.fs aS).b.length < 900000000) (l : List Rc) (hl : l.length ≤ 300) (hm : ∀ r ∈ l, aR v r = true) (r : Rc) (hd : r.deps.length < 100000) {R}
  (h0 : ¬ (r.kind = 1 ∧ aR v r = true) → R (.tup [.agg (stR false v l s), vi 1]) [])
  (h1 : r.kind = 1 → aR v r = true → (ju v s l r).2 ≠ 0 → R (.tup [.agg (stR ((ju v s l r).2 == 7) v l (ju v s l r).1), vi (ju v s l r).2]) [])
  (h2 : r.kind = 1 → aR v r = true → (ju v s l r).2 = 0 → R (.tup [.agg (stR false v (l ++ [r]) (ju v s l r).1), vi 0]) []) : ag Tryz.prog 57 [.agg (stR false v l s), .agg r.enc] [] R := by
 refine aa (an := UO) tab_ok Tryz.func57 ?_;conv=>whnf
 refine ae (fun g => ?_) (fun g => ?_)
 ·have h0 := h0 (fun hx => by simp [hx.1] at g);conv=>whnf
  exact h0
 have g : r.kind = 1 := by simpa using g
 conv=>whnf
 refine kJ v r hd fun p hp => ?_
 cases p with
 | false =>
  have h0 := h0 (fun hx => by rw [hx.2] at hp; cases hp);conv=>whnf
  exact h0
 | true =>
  have hr : aR v r = true := hp.symm;have h1 := h1 g hr;have h2 := h2 g hr;conv=>whnf
  refine BH hv s hs hg l hl hm r hr false (fun he => ?_) (fun he => ?_)
  ·have h1 := h1 he;generalize ju v s l r = se at h1 he ⊢;obtain ⟨s2, e⟩ := se;conv=>whnf
   exact h1
  ·have h2 := h2 he;generalize ju v s l r = se at h2 he ⊢;obtain ⟨s2, e⟩ := se;conv=>whnf
   exact h2
theorem l8 (o : Bool) (v : Int) (l : List Rc) (s : FSt) (hl : l.length ≤ 300) (hT : ∀ r ∈ l, r.target.length < 1000000) {R} (h : R (.sl none 7 (be (ay l))) []) : ag Tryz.prog 67 [.agg (stR o v l s)] [] R := by
 refine aa (an := UF) tab_ok Tryz.func67 ?_;conv=>whnf
 refine CI l (by omega) hT ?_;conv=>whnf
 exact h
def fsK (b : B) (k : Nat) : FSt := ⟨[(aS, ⟨b, k⟩)], -1, -1, false⟩
theorem Mm : ROk fs0 := ⟨by simp [fs0], by simp [fs0, kys], (by decide : -1 ≤ (-1 : Int) ∧ (-1 : Int) < 9223372036854775808), (by decide : -1 ≤ (-1 : Int) ∧ (-1 : Int) < 9223372036854775808)⟩
theorem Ml (b : B) (k : Nat) : ROk (fsK b k) := ⟨by simp [fsK], by simp [fsK, kys, aS], (by decide : -1 ≤ (-1 : Int) ∧ (-1 : Int) < 9223372036854775808), (by decide : -1 ≤ (-1 : Int) ∧ (-1 : Int) < 9223372036854775808)⟩
theorem Eb (F : B) : qx fs0 aS cz F = (fsK F F.length, 0) := by
 have hne : cz ≠ aS := by decide
 have h1 : fs0.rappend cz F = (⟨[(cz, ⟨F, 0⟩)], -1, -1, false⟩, 0) := rfl;have h2 : (FSt.mk [(cz, ⟨F, 0⟩)] (-1) (-1) false).rsync cz = (⟨[(cz, ⟨F, F.length⟩)], -1, -1, false⟩, 0) := by
  simp [FSt.rsync, FSt.may, FSt.act, lk, vC, rpt, wF, jQ, gF, cnt]
 have h3 : (FSt.mk [(cz, ⟨F, F.length⟩)] (-1) (-1) false).rrename cz aS = (⟨[(aS, ⟨F, F.length⟩)], -1, -1, false⟩, 0) := by
  simp [FSt.rrename, FSt.may, FSt.act, lk, zS, rpt, wF, jQ, gF, cnt]
 unfold qx yi;rw [aap (by simp [fs0, kys]), h1];simp only [h2, h3, ne_eq, not_true_eq_false, aaW];rfl
theorem Cp (F b : B) (k : Nat) : (fsK F k).rappend aS b = (fsK (F ++ b) k, 0) := by
 simp [FSt.rappend, FSt.act, fsK, vE, rpt, wF, jQ, gF, lk, cnt]
theorem wk (F b : B) (k : Nat) : (fsK F k).append aS b = (fsK (F ++ b) k, 0) := by
 simp [FSt.append, FSt.act, fsK, dZ, pt, gF, lk, cnt]
theorem vk {v : Int} (hv : is3 v) {R} (h : R (.tup [.agg (stR false v [] (fsK (aC v []) (aC v []).length)), vi 0]) []) : ag Tryz.prog 55 [.agg (fsR fs0), vi v] [] R := by
 refine aa (an := UQ) tab_ok Tryz.func55 ?_;have hst := Eb (aC v []);conv=>whnf
 refine ak (aai (by unfold is3 at hv; omega)) ?_;conv=>whnf
 refine ak (aai (by unfold is3 at hv; omega)) ?_;conv=>whnf
 refine fR fs0 (by simp [fs0]) cz ?_;rw [show decide (cz ∈ kys fs0.fs) = false from by simp [fs0, kys]];conv=>whnf
 refine fR fs0 (by simp [fs0]) aS ?_;rw [show decide (aS ∈ kys fs0.fs) = false from by simp [fs0, kys]];conv=>whnf
 refine zR fs0 Mm (by simp [fs0]) aS cz mf (by decide) (by decide) (by simp [fs0, gF, lk, flZ]) hv [] (by simp) (by simp) ?_;rw [hst];have hin : aS ∈ kys (fsK (aC v []) (aC v []).length).fs := by simp [fsK, kys]
 have hgb : (gF (fsK (aC v []) (aC v []).length).fs aS).b = aC v [] := by simp [fsK, gF, lk]
 have hlen : (fsK (aC v []) (aC v []).length).fs.length < 900000 := by simp [fsK]
 generalize fsK (aC v []) (aC v []).length = s at h hin hgb hlen ⊢;conv=>whnf
 refine BR s hlen aS [] hin hgb (fun hR => lu hv hR) ?_;conv=>whnf
 exact h
theorem Kb {b : B} {k : Nat} (h : k ≤ b.length) : FOk (fsK b k) 1 b.length := ⟨⟨by simp [fsK, kys], by simpa [fsK] using h, by simp [fsK], by simp [fsK], by simp [fsK, kys, aS]⟩, (by decide : -1 ≤ (-1 : Int) ∧ (-1 : Int) < 9223372036854775808), (by decide : -1 ≤ (-1 : Int) ∧ (-1 : Int) < 9223372036854775808)⟩
def fsV (v : Int) (L : List Rc) : FSt := fsK (aC v L) 8
theorem wj (v : Int) {L : List Rc} (hm : ∀ r ∈ L, aR v r = true) (hl : L.length ≤ 300) : FOk (fsV v L) 1 1000000 := (Kb (by rw [cp]; omega)).mono (aar _) (by have := eX hm hl; omega)
theorem GA (v : Int) (L : List Rc) : ROk (fsV v L) := Ml _ _
theorem Ni (v : Int) {L : List Rc} (hm : ∀ r ∈ L, aR v r = true) (hl : L.length ≤ 300) : (gF (fsV v L).fs aS).b.length < 900000000 := by
 have := eX hm hl;have e : (gF (fsV v L).fs aS).b = aC v L := by simp [fsV, fsK, gF, lk]
 rw [e]; omega
theorem GB (v : Int) (L : List Rc) (r : Rc) : bT v (fsV v L) L r = (fsV v (L ++ [r]), 0) := by
 unfold bT fsV;rw [wk, il]
theorem Cn (v : Int) (L : List Rc) (r : Rc) : ju v (fsV v L) L r = (fsV v (L ++ [r]), 0) := by
 unfold ju fsV;rw [Cp, il]
theorem rX (v : Int) : fsL (aC v []) = fsV v [] := by
 have e : (aC v []).length = 8 := by rw [cp]; simp [aW, aw]
 show FSt.mk [(aS, ⟨aC v [], (aC v []).length⟩)] (-1) (-1) false = FSt.mk [(aS, ⟨aC v [], 8⟩)] (-1) (-1) false;rw [e]
theorem Co (v : Int) : fsK (aC v []) (aC v []).length = fsV v [] := rX v
def puM (v : Int) (L : List Rc) (r : Rc) : List Rc := if r.kind = 1 ∧ aR v r = true then L ++ [r] else L
theorem JJ {v : Int} {L : List Rc} (hm : ∀ r ∈ L, aR v r = true) (r : Rc) : (∀ q ∈ puM v L r, aR v q = true) ∧ (puM v L r).length ≤ L.length + 1 := by
 unfold puM;split
 ·rename_i h;refine ⟨fun q hq => ?_, by simp⟩;rcases List.mem_append.1 hq with hq | hq
  ·exact hm q hq
  ·rw [List.mem_singleton.1 hq]; exact h.2
 ·exact ⟨hm, by omega⟩
theorem Dx {v : Int} (hv : is3 v) (L : List Rc) (hl : L.length ≤ 300) (hm : ∀ r ∈ L, aR v r = true) (r : Rc) (hd : r.deps.length < 100000) {R} (h : ∀ e, R (vi e) [stO false 1 v (puM v L r), fsC (fsV v (puM v L r)) 2, fsM (fsV v (puM v L r))]) : ag Tryz.prog 46 [.ptr 0 0, .agg r.enc] [stO false 1 v L, fsC (fsV v L) 2, fsM (fsV v L)] R := by
 unfold puM at h;by_cases hy : r.kind = 1 ∧ aR v r = true
 ·rw [aaz hy] at h;refine BD hv (fsV v L) (wj v hm hl) (by omega) L (by omega) hm r hy.1 hy.2 (fun he => ?_) (fun _ => ?_)
  ·rw [GB] at he; exact absurd rfl he
  ·rw [GB]; exact h 0
 ·rw [aap hy] at h;refine LN false (fsV v L) v L r hd (fun _ => ?_) (fun e => by cases e) (fun _ => h 1);by_cases hkd : r.kind = 1
  ·exact .inr (by cases hmm : aR v r with | false => rfl | true => exact absurd ⟨hkd, hmm⟩ hy)
  ·exact .inl hkd
theorem Bg {v : Int} (hv : is3 v) (L : List Rc) (hl : L.length ≤ 300) (hm : ∀ r ∈ L, aR v r = true) (r : Rc) (hd : r.deps.length < 100000) {R} (h : ∀ e, R (.tup [.agg (stR false v (puM v L r) (fsV v (puM v L r))), vi e]) []) : ag Tryz.prog 57 [.agg (stR false v L (fsV v L)), .agg r.enc] [] R := by
 unfold puM at h;by_cases hy : r.kind = 1 ∧ aR v r = true
 ·rw [aaz hy] at h;refine l7 hv (fsV v L) (GA v L) (Ni v hm hl) L hl hm r hd (fun hno => absurd hy hno) (fun _ _ he => ?_) (fun _ _ _ => ?_)
  ·rw [Cn] at he; exact absurd rfl he
  ·rw [Cn]; exact h 0
 ·rw [aap hy] at h;exact l7 hv (fsV v L) (GA v L) (Ni v hm hl) L hl hm r hd (fun _ => h 1) (fun hk hr _ => absurd ⟨hk, hr⟩ hy) (fun hk hr _ => absurd ⟨hk, hr⟩ hy)
def lC (v : Int) (l : List Rc) : List Rc := l.foldl (puM v) []
theorem Ka (F : B) (k : Nat) : (fsK F k).sync aS = (fsK F F.length, 0) := by
 simp [FSt.sync, FSt.may, FSt.act, fsK, lk, cM, pt, gF, cnt, kys]
theorem Jy (v : Int) (k : Nat) : ∀ (ds : List Dn) (L : List Rc), dy v ds (fsK (aC v L) k) L = (fsK (aC v (L ++ aJ ds)) k, L ++ aJ ds, 0) := by
 intro ds
 induction ds with
 | nil => intro L; simp [dy, aJ]
 | cons d ds ih =>
  intro L;have hp : bT v (fsK (aC v L) k) L d.trace = (fsK (aC v (L ++ [d.trace])) k, 0) := by unfold bT; rw [wk, il]
  unfold dy;by_cases g : d.step.ran = true
  ·rw [aaz g, hp, aaz rfl, ih];simp [aJ, g]
  ·rw [aap g, ih];simp [aJ, g]
theorem pl (v : Int) (k : Nat) (ds : List Dn) (L : List Rc) : ∃ k', (k = k' ∨ k' = (aC v (L ++ aJ ds)).length) ∧ gS v ds (fsK (aC v L) k) L = (fsK (aC v (L ++ aJ ds)) k', L ++ aJ ds, 0) := by
 unfold gS;rw [Jy];split
 ·exact ⟨_, .inr rfl, by simp only [Ka]⟩
 ·exact ⟨k, .inl rfl, rfl⟩
theorem GC {v : Int} {L : List Rc} (hm : ∀ r ∈ L, aR v r = true) (hl : L.length ≤ 1100) {k : Nat} (hk : k ≤ (aC v L).length) : FOk (fsK (aC v L) k) 1 4000000 :=
 (Kb hk).mono (aar _) (by have := ni hm hl; omega)
theorem nP {v : Int} (hv : is3 v) (l : List Rc) (hl : l.length ≤ 100) (hd : ∀ r ∈ l, r.deps.length ≤ 60) {R}
  (h : (∀ r ∈ lC v l, aR v r = true) → (lC v l).length ≤ l.length → R (.tup [.ptr 0 0, .ptr 2 0, .agg (stR false v (lC v l) (fsV v (lC v l)))]) [fsC (fsV v (lC v l)) 1, fsM (fsV v (lC v l)), stO false 0 v (lC v l)]) : ag Tryz.prog 18 [vi v, .sl none 7 (be l)] [] R := by
 refine aa (an := R5) tab_ok Tryz.func18 ?_;have hsl := bd l;conv=>whnf
 refine ml ?_;conv=>whnf
 refine nD v hv ?_;rw [rX];conv=>whnf
 refine vD ?_;conv=>whnf
 refine vk hv ?_;rw [Co];conv=>whnf
 refine aq.ind2 (fun (i : Nat) (L : List Rc) => [(37, vi i)]) (fun i L => [(al 6, .cells 58 [.val (.slice none 0 0), vi 0, vi 0, .val (.bool false), vi 0, .val (.slice none 0 0), .val (.slice none 0 0), vi 0, .val (.bool false)]), (al 10, .cells 58 (stR false v L (fsV v L))), (ar 14 0, fsC (fsV v L) (ar 14 1)), (ar 18 0, stO false (ar 14 0) v L), (ar 14 1, fsM (fsV v L))]) (fun i _ => l.length - i) (fun i L => (i ≤ l.length ∧ L.length ≤ i) ∧ (∀ r ∈ L, aR v r = true) ∧ L = (l.take i).foldl (puM v) []) 0 [] rfl ⟨⟨by omega, by simp⟩, by simp, rfl⟩ ?_;rintro i L hI IH;have hm := hI.2.1;have hLi := hI.1.2;conv=>whnf
 refine ae (fun hc => ?_) (fun hc => ?_)
 ·have hi := ap hsl hc;obtain ⟨o1, o2⟩ := JJ hI.2.1 l[i];have IH := IH (i + 1) (puM v L l[i]) ⟨⟨hi, by omega⟩, o1, by rw [aab hi, abn, ← hI.2.2]; rfl⟩ (by omega);have hdi := hd _ (aaf hi)
  (conv=>whnf); (repeat ((with_reducible refine ac ?_ ?_); exact aaa (by omega); (conv=>whnf)))
  refine idxNat (by simpa using hi) ?_;generalize l[i] = r at IH hdi o1 o2 ⊢;conv=>whnf
  refine Dx hv L (by omega) hm r (by omega) fun e => ?_;conv=>whnf
  refine Bg hv L (by omega) hm r (by omega) fun e2 => ?_;conv=>whnf
  rw [am (by omega)];exact IH
 ·have hi := au hsl hc;have hL : L = lC v l := by rw [hI.2.2, aae hi]; rfl
  rw [← hL] at h;have h := h hm (by have := hI.1.1; omega);conv=>whnf
  exact h
theorem mK (n : U) {R} (h : ∀ d, d = gV n → R (uv d) []) : ag Tryz.prog 32 [uv n] [] R := by
 refine aa (an := U7) tab_ok Tryz.func32 ?_;conv=>whnf
 rw [show (11400714819323198485 : Int) = (Hv.toNat : Int) from rfl, show (3573116690164977347 : Int) = ((back other).toNat : Int) from by decide +kernel, show (10871156337175269513 : Int) = ((back first).toNat : Int) from by decide +kernel];have e31 := fun x => rq x 31 (by omega) (c := 2147483648) rfl;have e62 := fun x => rq x 62 (by omega) (c := 4611686018427387904) rfl;have e27 := fun x => rq x 27 (by omega) (c := 134217728) rfl;have e54 := fun x => rq x 54 (by omega) (c := 18014398509481984) rfl;have e30 := fun x => rq x 30 (by omega) (c := 1073741824) rfl;have e60 := fun x => rq x 60 (by omega) (c := 1152921504606846976) rfl;have hup : ∀ k (x : U), (x ^^^ (x >>> k)) ^^^ (x >>> (k + k)) = up k x := fun k x => by
  unfold up;rw [BitVec.ushiftRight_xor_distrib, ← BitVec.shiftRight_add, BitVec.xor_assoc]
 rw [e31, lW, e62, lW, hup 31, uW, e27, lW, e54, lW, hup 27, uW, e30, lW, e60, lW, hup 30, Jc];exact h _ rfl
def jS : List Nd := [⟨[97], true, 0, []⟩, ⟨[98], false, 1, [[97]]⟩]
theorem ue : cn jS = [0, 1] := by decide +kernel
theorem kq : aV jS = 0 := by decide +kernel
theorem ud : fI jS := by
 refine ⟨by decide, ?_⟩;simp [jS]
theorem uc (w : U) : aA (bE jS (ay []) [] w) = [⟨[97], false, 0⟩, ⟨[98], true, iM 1 [0]⟩] := by
 rw [bE, ue];rfl
theorem Kg {a : List Sp} {c : U} (h : a.map nc = [([97], 0), ([98], c)]) (hr : ∀ s ∈ a, s.ran = false) : a = [⟨[97], false, 0⟩, ⟨[98], false, c⟩] := by
 have hl := congrArg List.length h;simp only [abg, aag, aaj] at hl;obtain ⟨s, t, rfl⟩ : ∃ s t, a = [s, t] := by
  cases a with
  | nil => simp at hl
  | cons s a => cases a with
   | nil => simp at hl
   | cons t a => cases a with
    | nil => exact ⟨s, t, rfl⟩
    | cons u a => simp at hl
 simp only [aaF, abi, nc, List.cons.injEq, Prod.mk.injEq, and_true] at h;have h1 := hr s (by simp);have h2 := hr t (by simp);obtain ⟨n1, r1, c1⟩ := s;obtain ⟨n2, r2, c2⟩ := t;simp only at h h1 h2;obtain ⟨⟨rfl, rfl⟩, rfl, rfl⟩ := h;subst h1 h2;rfl
theorem Cu (w u : U) : aA (bE jS (ay ([] ++ aJ (bE jS (ay []) [] w))) [] u) = [⟨[97], false, 0⟩, ⟨[98], false, iM 1 [0]⟩] := by
 obtain ⟨h1, h2, _⟩ := kc (given := []) (w := w) (o0 kq) [] u;refine Kg ?_ fun s hs => ?_
 ·rw [bE, bE, h1];have := uc w;rw [bE] at this;rw [this];rfl
 ·obtain ⟨d, hd, rfl⟩ := List.mem_map.1 hs;exact h2 d hd
theorem wo (s : AV) (w : AV) {own o1 o2 : Option Nm} : leL [s, .sl own 4 [[vs [97], .val (.bool true), .val (.int .u64 0), .val (.slice none 0 0)], [vs [98], .val (.bool false), .val (.int .u64 1), .sl none 1 [[vs [97]]]]], .val (.slice none 0 0), w] [s, .sl none 4 (nds jS), .sl none 3 (sps []), w] := by
 refine leL.cons (.refl _) (leL.cons (Na _ _ (leE.cons ?_ rfl (leE.cons (leL.refl _) rfl leE.nil))) (leL.cons (cy 3) (leL.refl _)));exact leL.cons (.refl _) (leL.cons (.refl _) (leL.cons (.refl _) (leL.cons (cy 1) leL.nil)))
theorem b9 {R} (h : R (.val (.bool true)) []) : ag Tryz.prog 7 [] [] R := by
 refine aa (an := an7) tab_ok Tryz.func7 ?_;have hv : is3 3 := .inr (.inr rfl);conv=>whnf
 refine ml ?_;conv=>whnf
 refine nD 3 hv ?_;rw [rX];conv=>whnf
 refine ag.args (wo _ _ (o1 := none) (o2 := none)) (jf hv jS ud (by decide) [] (by simp) 5 (fsV 3 []) (wj 3 (by simp) (by simp)) (by omega) [] (by simp) (by simp) (fun hc => absurd kq hc) (fun _ f hf he => ?_) (fun _ f hf _ => ?_))
 ·obtain ⟨k, _, hk⟩ := pl 3 8 (bE jS (ay []) [] (wen 3 5)) [];rw [hf, fsV, hk] at he;exact absurd rfl he
 obtain ⟨k, hk0, hk⟩ := pl 3 8 (bE jS (ay []) [] (wen 3 5)) [];rw [fsV, hk] at hf;rw [uc];have hmT : ∀ r ∈ [] ++ aJ (bE jS (ay []) [] (wen 3 5)), aR 3 r = true := fun r hr => by
  rw [aam] at hr;obtain ⟨d, hd, rfl⟩ := List.mem_map.1 hr;rw [List.mem_filter] at hd;exact nB (.inr (.inr rfl)) kq (fun e => by cases e) d hd.1 hd.2
 have hlT : ([] ++ aJ (bE jS (ay []) [] (wen 3 5))).length ≤ 10 := by
  have h1 := fG (bE jS (ay []) [] (wen 3 5));have h2 : (bE jS (ay []) [] (wen 3 5)).length = 2 := by rw [bE, fS _ _ _ (o0 kq).hb, ue]; rfl
  rw [aam]; omega
 have hag := Cu (wen 3 5) (wen 3 6);generalize hL : [] ++ aJ (bE jS (ay []) [] (wen 3 5)) = L at hf hmT hlT hag hk0;subst hf;have hkl : k ≤ (aC 3 L).length := by
  rcases hk0 with rfl | rfl
  ·rw [cp]; omega
  ·exact aar _
 have hfok := GC hmT (by omega) hkl;generalize hc : iM 1 [0] = c at hag ⊢;obtain ⟨s1, hs1⟩ : ∃ s1, s1 = fsK (aC 3 L) k := ⟨_, rfl⟩;rw [← hs1] at hfok ⊢;conv=>whnf
 refine ag.args (wo _ _ (o1 := none) (o2 := none)) (jf hv jS ud (by decide) [] (by simp) 6 s1 hfok (by omega) L (by omega) hmT (fun hc => absurd kq hc) (fun _ f hf he => ?_) (fun _ f hf _ => ?_))
 ·obtain ⟨k2, _, hk2⟩ := pl 3 k (bE jS (ay L) [] (wen 3 6)) L;rw [hf, hs1, hk2] at he;exact absurd rfl he
 rw [hag];conv=>whnf
 refine aK (by simp [Sp.v]) ?_;conv=>whnf
 refine jj 7 fun d hd => ?_;conv=>whnf
 refine mK d fun e he => ?_;rw [hd, lf] at he;subst he;conv=>whnf
 exact h
theorem Qk (a b : Sp) (h : (!(true && decide (ofB a.name = ofB b.name) && (a.ran == b.ran) && ((a.con.toNat : Int) == (b.con.toNat : Int)))) = true) : a ≠ b := by
 rintro rfl;simp at h
theorem Ql (a b : Sp) (h : (!(true && decide (ofB a.name = ofB b.name) && (a.ran == b.ran) && ((a.con.toNat : Int) == (b.con.toNat : Int)))) = false) : a = b := by
 simp [bG] at h;obtain ⟨⟨h1, h2⟩, h3⟩ := h;have h3 : a.con = b.con := aaZ (by omega)
 cases a; cases b
 simp_all
theorem pD (a b : List Sp) (ha : a.length < 1000000) {R} (h : ∀ p : Bool, (p = true ↔ a = b) → R (.val (.bool p)) []) : ag Tryz.prog 21 [.sl none 3 (sps a), .sl none 3 (sps b)] [] R := by
 refine aa (an := Vg) tab_ok Tryz.func21 ?_;have hsa := bA a;have hsb := bA b;conv=>whnf
 rw [hsa, hsb];refine ae (fun hc => ?_) (fun hc => ?_)
 ·conv=>whnf
  refine h false ⟨fun e => (by cases e), ?_⟩;rintro rfl;simp at hc
 have hlen : a.length = b.length := by simp at hc; omega
 conv=>whnf
 refine aq.ind1 (fun (i : Nat) => [(5, vi i)]) (fun _ => []) (fun i => a.length - i) (fun i => i ≤ a.length ∧ a.take i = b.take i) 0 rfl ⟨by omega, by simp⟩ ?_;rintro i ⟨h0, h1⟩ IH;conv=>whnf
 refine ae (fun hc => ?_) (fun hc => ?_)
 ·have hc := ap hsa hc;have hcb : i < b.length := by omega
  (conv=>whnf); (repeat ((with_reducible refine ac ?_ ?_); exact aaa (by omega); (conv=>whnf)))
  refine ab (show (i : Int).toNat < (a.map Sp.v).length by simpa using hc) ?_;rw [show (a.map Sp.v)[(i : Int).toNat]'(by simpa using hc) = a[i].v from by simp]
  (conv=>whnf); (repeat ((with_reducible refine ac ?_ ?_); exact aaa (by omega); (conv=>whnf)))
  refine ab (show (i : Int).toNat < (b.map Sp.v).length by simpa using hcb) ?_;rw [show (b.map Sp.v)[(i : Int).toNat]'(by simpa using hcb) = b[i].v from by simp];conv=>whnf
  refine ae (fun he => ?_) (fun he => ?_)
  ·conv=>whnf
   refine h false ⟨fun e => (by cases e), ?_⟩;rintro rfl;exact absurd rfl (Qk _ _ he)
  ·conv=>whnf
   rw [am (by omega)];refine IH (i + 1) ⟨by omega, ?_⟩ (by omega);rw [aab hc, aab hcb, h1, Ql _ _ he]
 ·have hc := au hsa hc;rw [aae hc, aae (by omega)] at h1;conv=>whnf
  exact h true ⟨fun _ => h1, fun _ => rfl⟩
theorem uX {n : Nat} {x : List AV} (h : cv tab (n + 3) 45 x) : ∃ s : Sp, x = iR s.v := by
 obtain ⟨a1, r1, rfl, ⟨s, rfl, hs⟩, a2, r2, rfl, ⟨b, rfl⟩, a3, r3, rfl, ⟨u, rfl, hu⟩, rfl⟩ : ∃ a r, x = a ++ r ∧ (∃ s : ByteArray, a = [.val (.string s)] ∧ s.size ≤ maxLen) ∧
   ∃ a r', r = a ++ r' ∧ (∃ b, a = [.val (.bool b)]) ∧ ∃ a r'', r' = a ++ r'' ∧ (∃ y, a = [.val (.int .u64 y)] ∧ (Lit.int .u64 y).wf = true) ∧ r'' = [] := h
 refine ⟨⟨bs s, b, BitVec.ofInt 64 u⟩, ?_⟩;simp only [iR, Sp.v, kE, aav, aam];rw [← oJ hu]
theorem tH {n : Nat} {l : List (List AV)} (h : ∀ x ∈ l, cv tab (n + 3) 45 x) : ∃ m : List Sp, l = sps m := by
 induction l with
 | nil => exact ⟨[], rfl⟩
 | cons x l ih =>
  obtain ⟨m, rfl⟩ := ih fun y hy => h y (by simp [hy]);obtain ⟨s, rfl⟩ := uX (h x (by simp));exact ⟨s :: m, rfl⟩
theorem FO (l : List Sp) (hl : l.length ≤ maxLen) {R} (h : ∀ b : Bool, (b = true → l.length ≤ 100 ∧ ∀ s ∈ l, s.name.length ≤ 100) → R (.val (.bool b)) []) : ag Tryz.prog 40 [.sl none 3 (sps l)] [] R := by
 refine aa (an := Pg) tab_ok Tryz.func40 ?_;have hsl := bA l;have hmx : maxLen ≤ 9223372036854775807 := by decide
 conv=>whnf
 refine aq.ind1 (fun (i : Nat) => [(7, vi i)]) (fun _ => []) (fun i => l.length - i) (fun i => i ≤ l.length ∧ ∀ s ∈ l.take i, s.name.length ≤ 100) 0 rfl ⟨aby _, by simp⟩ ?_;rintro i ⟨hi, hn⟩ IH;conv=>whnf
 refine ae (fun hc => ?_) (fun hc => ?_)
 ·have hc := ap hsl hc;have hsn : l[i].v.name.size = l[i].name.length := aG _
  (conv=>whnf); (repeat ((with_reducible refine ac ?_ ?_); exact aaa (by omega); (conv=>whnf)))
  refine ab (show (i : Int).toNat < (l.map Sp.v).length by simpa using hc) ?_;rw [show (l.map Sp.v)[(i : Int).toNat]'(by simpa using hc) = l[i].v from by simp];conv=>whnf
  rw [hsn];refine ae (fun hb => ?_) (fun hb => ?_)
  ·conv=>whnf
   exact h false (by simp)
  ·conv=>whnf
   rw [aI (by omega) (by omega), show ((i : Int) + 1) = ((i + 1 : Nat) : Int) by omega];refine IH (i + 1) ⟨by omega, fun s hs => ?_⟩ (by omega);rw [aab hc, aaJ, aaA] at hs;rcases hs with hs | rfl
   ·exact hn s hs
   ·simp at hb;omega
 ·have hc := au hsl hc;rw [aae hc] at hn;conv=>whnf
  rw [hsl];refine h _ fun hb => ⟨?_, hn⟩;simp at hb;omega
theorem FT {name : B} : ∀ (ds : List Dn) (a : Int × Int), (∀ d ∈ ds, d.step.name ≠ name) → ds.foldl (qp name) a = a := by
 intro ds
 induction ds with
 | nil => intro a _; rfl
 | cons d ds ih =>
  intro a h;rw [aaQ, qp, aap (h d (by simp))];exact ih a fun x hx => h x (by simp [hx])
theorem Ba {name : B} : ∀ (ds : List Dn) (a : Int × Int), (ds.map (·.step.name)).Nodup → ∀ d ∈ ds, d.step.name = name → ds.foldl (qp name) a = (d.why, 0) := by
 intro ds
 induction ds with
 | nil => intro a _ d hd; cases hd
 | cons x ds ih =>
  intro a hn d hd he;have hn := List.nodup_cons.1 hn;rw [aaQ];rcases List.mem_cons.1 hd with rfl | hd
  ·rw [qp, aaz he];exact FT ds _ fun y hy e => hn.1 (by show d.step.name ∈ _; rw [he, ← e]; exact aaD hy)
  ·exact ih _ hn.2 d hd he
theorem yU {l : List Nd} (h : aV l = 0) (state : List Rc) (given : List Sp) (w : U) : ((bE l state given w).map (·.step.name)) = (cn l).map (nm l) := by
 have := CQ state given w (o0 h).hb;rw [aA, abK] at this;exact this
structure Pu (l : List Nd) (given : List Sp) : Prop where
 fI : fI l
 len : l.length ≤ 80
 given : given.length ≤ 100
theorem iV (l : List Nd) (g : List Sp) (hl : l.length ≤ maxLen) (hn : ∀ n ∈ l, n.deps.length ≤ maxLen) (hg : g.length ≤ maxLen) {R} (h : ∀ b : Bool, (b = false → Pu l g) → R (.val (.bool b)) []) : ag Tryz.prog 10 [.sl none 4 (nds l), .sl none 3 (sps g)] [] R := by
 refine aa (an := S8) tab_ok Tryz.func10 ?_;conv=>whnf
 refine uk l hl hn fun b hb => ?_
 cases b with
 | true =>
  conv=>whnf
  exact h _ (fun e => by cases e)
 | false =>
  obtain ⟨h1, h2⟩ := hb rfl;conv=>whnf
  refine FO g hg fun b hb => ?_;conv=>whnf
  refine h _ fun e => ?_;have hb := hb (by simpa using e);exact ⟨⟨by omega, fun n hn => by have := h2 n hn; exact ⟨by omega, by omega, fun d hd => by have := this.2.2 d hd; omega⟩⟩, h1, hb.1⟩
theorem lX {n : Nat} {x : List AV} (h : cv tab (n + 6) 35 x) : ∃ (l : List Nd) (g : List Sp) (w : U), x = [.sl none 4 (nds l), .sl none 3 (sps g), uv w] ∧ l.length ≤ maxLen ∧ (∀ n ∈ l, n.deps.length ≤ maxLen) ∧ g.length ≤ maxLen := by
 have h : mM (cv tab (n + 5)) [31, 32, 33] x := h;obtain ⟨p, q, rfl, h1, r, s, rfl, h2, t, u, rfl, h3, rfl⟩ := h;obtain ⟨y, rfl, e1, e2⟩ : ∃ y : List (List AV), p = [.sl none 4 y] ∧ y.length ≤ maxLen ∧ ∀ z ∈ y, cv tab (n + 4) 73 z := h1;obtain ⟨l, rfl, hl⟩ := oK (n := n + 1) e2;obtain ⟨y, rfl, f1, f2⟩ : ∃ y : List (List AV), r = [.sl none 3 y] ∧ y.length ≤ maxLen ∧ ∀ z ∈ y, cv tab (n + 4) 45 z := h2;obtain ⟨g, rfl⟩ := tH (n := n + 1) f2;obtain ⟨w, rfl, hw⟩ : ∃ w, t = [.val (.int .u64 w)] ∧ (Lit.int .u64 w).wf = true := h3;refine ⟨l, g, BitVec.ofInt 64 w, ?_, by simpa [nds] using e1, hl, by simpa [sps] using f1⟩;rw [uv, ← oJ hw];rfl
theorem gU {l : List Nd} (h : aV l ≠ 0) (state : List Rc) (given : List Sp) (w : U) : bE l state given w = [] := by
 rw [bE, cn, aap h]; rfl
theorem zc {v : Int} (l : List Nd) (hl : fI l) (hl2 : l.length ≤ 100) (given : List Sp) (hg : given.length < 1000000) (L : List Rc) (hL : L.length ≤ 1100) (hm : ∀ r ∈ L, aR v r = true) (s : FSt) {R}
  (h : R (.tup [.sl none 3 (sps (aA (bE l (ay L) given 0))), vi (aV l)]) [stO false 1 v L, fsC s 2, fsM s]) : ag Tryz.prog 19 [.ptr 0 0, .sl none 4 (nds l), .sl none 3 (sps given)] [stO false 1 v L, fsC s 2, fsM s] R := by
 refine ag.res (C9 l hl hl2 given hg L hL hm s (fun hc => ?_) (fun hc => ?_))
 ·rw [gU hc] at h;exact cw (f9 (leL.cons (cy 3) (leL.refl _))) rfl h
 ·rw [hc] at h;exact bB h
theorem uM {v : Int} (hv : is3 v) (l : List Nd) (state : List Rc) (given : List Sp) {w : U} (hw : v = 1 → w = 0) : ∀ r ∈ aJ (bE l state given w), aR v r = true := by
 intro r hr;obtain ⟨d, hd, rfl⟩ := List.mem_map.1 hr;rw [List.mem_filter] at hd;by_cases hc : aV l = 0
 ·exact nB hv hc hw d hd.1 hd.2
 ·rw [gU hc] at hd
  cases hd.1
theorem gc (l : List Nd) (state : List Rc) (given : List Sp) (w : U) : (bE l state given w).length ≤ 64 := by
 by_cases hc : aV l = 0
 ·rw [bE, fS _ _ _ (o0 hc).hb, jw hc]; exact (fp hc).2.2.2
 ·rw [gU hc]; simp
theorem z8 {v : Int} {L M : List Rc} (h1 : ∀ r ∈ L, aR v r = true) (h2 : ∀ r ∈ M, aR v r = true) : ∀ r ∈ L ++ M, aR v r = true := fun r hr => by
 rcases List.mem_append.1 hr with hr | hr
 ·exact h1 r hr
 ·exact h2 r hr
theorem GI {l : List Nd} (S : List Rc) (g : List Sp) (w u : U) (hc : aV l = 0) (D : List Dn) (hD : bE l S g w = D) (i : Nat) (hi : i < D.length) : (bE l S g u).foldl (qp D[i].step.name) (0, 6) = (D[i].why, 0) := by
 have hst : aA (bE l S g u) = aA D := by rw [← hD, bE, bE]; exact tf _ _ _ _ _
 have hwy : (bE l S g u).map (·.why) = D.map (·.why) := by rw [← hD, bE, bE]; exact Kq _ _ _ _ _
 have hnd : ((bE l S g u).map (·.step.name)).Nodup := by rw [yU hc]; exact oY hc
 generalize bE l S g u = E at hst hwy hnd ⊢;have hil : i < E.length := by have := congrArg List.length hwy; simp at this; omega
 have e1 : E[i].why = D[i].why := by
  have := congrArg (fun x => x[i]?) hwy;simp only [aaE, aad hil, aad hi, abJ, Option.some.injEq] at this;exact this
 have e2 : E[i].step = D[i].step := by
  have := congrArg (fun x => x[i]?) hst;simp only [aA, aaE, aad hil, aad hi, abJ, Option.some.injEq] at this;exact this
 rw [Ba _ _ hnd _ (aaf hil) (by rw [e2]), e1]
theorem zg (s : FSt) (late : Bool) (g : FM → FM) : ((s.act late g).2 = 0 ∧ (s.act late g).1.fs = g s.fs) ∨ ((s.act late g).2 = 8 ∧ (s.act late g).1.fs = s.fs) ∨ ((s.act late g).2 = 7 ∧ ((s.act late g).1.fs = s.fs ∨ (late = true ∧ (s.act late g).1.fs = g s.fs))) := by
 unfold FSt.act;split
 ·refine .inr (.inr ⟨rfl, ?_⟩)
  cases late
  ·exact .inl rfl
  ·exact .inr ⟨rfl, rfl⟩
 ·split
  ·exact .inr (.inl ⟨rfl, rfl⟩)
  ·exact .inl ⟨rfl, rfl⟩
theorem AU {s : FSt} {log F b : B} {k : Nat} (h : lk s.fs log = some ⟨F, k⟩) : ((s.append log b).2 = 0 ∧ lk (s.append log b).1.fs log = some ⟨F ++ b, k⟩) ∨ ((s.append log b).2 = 8 ∧ lk (s.append log b).1.fs log = some ⟨F, k⟩) ∨ ((s.append log b).2 = 7 ∧ (lk (s.append log b).1.fs log = some ⟨F, k⟩ ∨ lk (s.append log b).1.fs log = some ⟨F ++ b, k⟩)) := by
 have hg : lk (dZ log b s.fs) log = some ⟨F ++ b, k⟩ := by
  unfold dZ;rw [jC, aaz rfl];simp [gF, h]
 unfold FSt.append;split
 ·exact .inr (.inr ⟨rfl, .inl h⟩)
 ·rcases zg s true (dZ log b) with ⟨e, f⟩ | ⟨e, f⟩ | ⟨e, f | ⟨_, f⟩⟩
  ·exact .inl ⟨e, by rw [f]; exact hg⟩
  ·exact .inr (.inl ⟨e, by rw [f]; exact h⟩)
  ·exact .inr (.inr ⟨e, .inl (by rw [f]; exact h)⟩)
  ·exact .inr (.inr ⟨e, .inr (by rw [f]; exact hg)⟩)
structure KI (v : Int) (l : List Rc) (n : Nat) (s : FSt) (nb fb : Nat) : Prop where
 hv : is3 v
 hm : ∀ r ∈ l, aR v r = true
 hn : n ≤ l.length
 hok : FOk s nb fb
 hlog : ∃ k, lk s.fs aS = some ⟨aC v l, k⟩ ∧ (aC v (l.take n)).length ≤ k
theorem KI.put3 {v : Int} {l : List Rc} {n : Nat} {s s2 : FSt} {nb fb : Nat} (h : KI v l n s nb fb) (hl : l.length ≤ 1100) {r : Rc} (hr : aR v r = true) {e : Int} (he : bT v s l r = (s2, e)) : (e = 0 ∧ KI v (l ++ [r]) n s2 (nb + 1) (fb + 3000)) ∨ (e = 8 ∧ KI v l n s2 (nb + 1) (fb + 3000)) ∨ (e = 7 ∧ (KI v l n s2 (nb + 1) (fb + 3000) ∨ KI v (l ++ [r]) n s2 (nb + 1) (fb + 3000))) := by
 obtain ⟨k, hk, hsy⟩ := h.hlog;have htl := lm (v := v) (l := l) (t := []) (fun y hy => aT (h.hm y hy));simp at htl;have hml : (cb v l r).length ≤ 3000 := dF (aT hr) (by omega);have hok := (iF h.hok (name := aS) (b := cb v l r) (by decide)).mono (nb' := nb + 1) (fb' := fb + 3000) (by omega) (by omega);have h3 := AU (b := cb v l r) hk;rw [← il] at h3;unfold bT at he;rw [he] at h3 hok;have A : lk s2.fs aS = some ⟨aC v l, k⟩ → KI v l n s2 (nb + 1) (fb + 3000) := fun hh => ⟨h.hv, h.hm, h.hn, hok, k, hh, hsy⟩;have C : lk s2.fs aS = some ⟨aC v (l ++ [r]), k⟩ → KI v (l ++ [r]) n s2 (nb + 1) (fb + 3000) := fun hh => by
  refine ⟨h.hv, fun y hy => ?_, by have := h.hn; simp; omega, hok, k, hh, ?_⟩
  ·rcases List.mem_append.1 hy with hy | hy
   ·exact h.hm y hy
   ·rw [List.mem_singleton.1 hy]; exact hr
  ·rw [aaB h.hn]; exact hsy
 rcases h3 with ⟨e1, h1⟩ | ⟨e1, h1⟩ | ⟨e1, h1 | h1⟩
 ·exact .inl ⟨e1, C h1⟩
 ·exact .inr (.inl ⟨e1, A h1⟩)
 ·exact .inr (.inr ⟨e1, .inl (A h1)⟩)
 ·exact .inr (.inr ⟨e1, .inr (C h1)⟩)
theorem KI.mono {v : Int} {l : List Rc} {n : Nat} {s : FSt} {nb fb nb' fb' : Nat} (h : KI v l n s nb fb) (h1 : nb ≤ nb') (h2 : fb ≤ fb') : KI v l n s nb' fb' := ⟨h.hv, h.hm, h.hn, h.hok.mono h1 h2, h.hlog⟩
theorem KI.put {v : Int} {l : List Rc} {n : Nat} {s s2 : FSt} {nb fb : Nat} (h : KI v l n s nb fb) (hl : l.length ≤ 1100) {r : Rc} (hr : aR v r = true) {e : Int} (he : bT v s l r = (s2, e)) : (e = 0 ∧ KI v (l ++ [r]) n s2 (nb + 2) (fb + 1000000)) ∨ (e = 8 ∧ KI v l n s2 (nb + 2) (fb + 1000000)) ∨ (e = 7 ∧ (KI v l n s2 (nb + 2) (fb + 1000000) ∨ KI v (l ++ [r]) n s2 (nb + 2) (fb + 1000000))) := by
 rcases h.put3 hl hr he with ⟨e1, h1⟩ | ⟨e1, h1⟩ | ⟨e1, h1 | h1⟩
 ·exact .inl ⟨e1, h1.mono (by omega) (by omega)⟩
 ·exact .inr (.inl ⟨e1, h1.mono (by omega) (by omega)⟩)
 ·exact .inr (.inr ⟨e1, .inl (h1.mono (by omega) (by omega))⟩)
 ·exact .inr (.inr ⟨e1, .inr (h1.mono (by omega) (by omega))⟩)
theorem KI.crash {v : Int} {l : List Rc} {n : Nat} {s : FSt} {nb fb : Nat} (h : KI v l n s nb fb) (hl : l.length ≤ 1100) (keep : List Int) : ∃ (m : Nat) (b : B), n ≤ m ∧ m ≤ l.length ∧ I1 v (l.take m) b ∧ cr (s.crash keep) aS b ∧ FOk (s.crash keep) nb fb := by
 obtain ⟨k, hk, hsy⟩ := h.hlog;obtain ⟨c1, c2, c3⟩ := n6 h.hok keep;obtain ⟨m, m1, m2, m3⟩ := c3 aS (lD hk);have hg : gF s.fs aS = ⟨aC v l, k⟩ := by unfold gF; rw [hk]; rfl
 rw [hg] at m1 m2 m3;have m1 : k ≤ m := m1;have m2 : m ≤ (aC v l).length := m2;have h8 : 8 ≤ m := by
  have := cp v (l.take n);omega
 obtain ⟨m', ms, t, e1, e2, e0, e3, e4, e5, e6, e7⟩ := MD h.hm hl h8 m2;refine ⟨m', (aC v l).take m, e7 n h.hn (by omega), e1, ⟨fun r hr => h.hm r (aaU hr), by rw [aan]; omega, ms, t, e2, e0, e3, e4, e5, e6⟩, ?_, c1⟩;have hin : aS ∈ kys (s.crash keep).fs := by rw [c2]; exact lD hk
 unfold cr
 cases e : lk (s.crash keep).fs aS with
 | none => exact absurd hin (fL.1 e)
 | some f =>
  have : gF (s.crash keep).fs aS = f := by unfold gF; rw [e]; rfl
  rw [this] at m3;rw [m3];simp only [aan, Option.some.injEq, Fl.mk.injEq, true_and];omega
theorem KI.fall {v : Int} {l : List Rc} {n : Nat} {s : FSt} {nb fb : Nat} (h : KI v l n s nb fb) {c : Int} (hc : -9223372036854775808 ≤ c ∧ c < 9223372036854775808) : KI v l n ⟨s.fs, s.fail, kr c, s.down⟩ nb fb := ⟨h.hv, h.hm, h.hn, GG h.hok hc, h.hlog⟩
theorem KI.fail {v : Int} {l : List Rc} {n : Nat} {s : FSt} {nb fb : Nat} (h : KI v l n s nb fb) {c : Int} (hc : -9223372036854775808 ≤ c ∧ c < 9223372036854775808) : KI v l n ⟨s.fs, kr c, s.fall, s.down⟩ nb fb := ⟨h.hv, h.hm, h.hn, GH h.hok hc, h.hlog⟩
theorem xO (b : B) (hb : b.length < 100000000) (hne : b ≠ []) {R} (h : R (.slv 0 1 1 0 b.length) [.vec 5 1 (ai b) 1]) : ag Tryz.prog 62 [.sl none 1 (ai b)] [] R := by
 refine aa (an := { Pc with keepRes := true, frv := [(7, 5)] }) tab_ok Tryz.func62 ?_;have hsl := aL b;conv=>whnf
 intro p hp;refine ae (fun g => ?_) (fun g => ?_)
 ·exact absurd (AQ (hp g)) hne
 ·conv=>whnf
  refine ⟨⟨rfl, rfl, by simp⟩, (by rw [hsl, c9]; omega), ?_⟩;conv=>whnf
  have e : 0 + (ai b).length = b.length := by omega
  rw [e];exact h
theorem xz (s : FSt) (name : B) (hb : (gF s.fs name).b.length < 100000000) (hne : (gF s.fs name).b ≠ []) (hin : name ∈ kys s.fs) {R} (h : R (.tup [.slv 2 1 1 0 (gF s.fs name).b.length, vi 0]) [fsC s 1, fsM s, .vec 5 1 (ai (gF s.fs name).b) 1]) : ag Tryz.prog 26 [.ptr 0 0, vs name] [fsC s 1, fsM s] R := by
 refine aa (an := { Ri with keepRes := true }) tab_ok Tryz.func26 ?_;conv=>whnf
 rw [iG];unfold gF at h hb hne
 cases e : lk s.fs name with
 | none => exact absurd hin (fL.1 e)
 | some v =>
  rw [e] at h hb hne;conv=>whnf
  refine xO v.b hb hne ?_;conv=>whnf
  exact h
def u8s (N : List Int) : List (List AV) := N.map fun n => [.val (.int .u8 n)]
theorem MI (b : B) : ai b = u8s (b.map fun c => (c.toNat : Int)) := by simp [ai, u8s]
theorem rA (s : FSt) (hl : s.fs.length < 900000) (hn : ∀ n ∈ kys s.fs, n.length < 1000000) (hnd : (kys s.fs).Nodup) (hso : s.names = kys s.fs) (hb : ∀ n ∈ kys s.fs, (gF s.fs n).b.length < 100000000 ∧ (gF s.fs n).b ≠ []) (hno : [110, 111, 119, 104, 101, 114, 101, 44, 32, 116, 104, 97, 116, 32, 105, 115] ∉ kys s.fs) {R} (h : R (.val (.bool true)) [fsC s 1, fsM s]) : ag Tryz.prog 30 [.ptr 0 0, .agg (fsR s)] [fsC s 1, fsM s] R := by
 refine aa (an := U9) tab_ok Tryz.func30 ?_;obtain ⟨ks, hks⟩ : ∃ ks, ks = kys s.fs := ⟨_, rfl⟩;have hsl := aF ks;have hkl : ks.length = s.fs.length := by rw [hks]; simp [kys]
 conv=>whnf
 refine ot s ?_;conv=>whnf
 refine ak (by simp) ?_;conv=>whnf
 refine iX s (by omega) hn hnd ?_;conv=>whnf
 refine oW s (by omega) ?_;rw [hso];conv=>whnf
 refine BC (kys s.fs) (kys s.fs) (by rw [← hks]; omega) fun p hp => ?_;rw [aaa rfl] at hp;subst hp;conv=>whnf
 refine oW s (by omega) ?_;rw [← hks];conv=>whnf
 refine aq.ind1 (fun (i : Nat) => [(32, vi i)]) (fun i => [(0, fsC s 1), (1, fsM s)]) (fun i => ks.length - i) (fun i => i ≤ ks.length) 0 rfl (by omega) ?_;rintro i h0 IH;conv=>whnf
 refine ae (fun hc => ?_) (fun hc => ?_)
 ·have hi := ap hsl hc;have hin : ks[i] ∈ kys s.fs := by rw [← hks]; exact aaf hi
  obtain ⟨hb1, hb2⟩ := hb _ hin;have IH := IH (i + 1) hi (by omega)
  (conv=>whnf); (repeat ((with_reducible refine ac ?_ ?_); exact aaa (by omega); (conv=>whnf)))
  refine idxNat (by simpa using hi) ?_;generalize ks[i] = k at IH hin hb1 hb2 ⊢;conv=>whnf
  refine xz s k hb1 hb2 hin ?_;conv=>whnf
  refine fR s (by omega) k ?_;rw [aaa hin];unfold flE;generalize hf : gF s.fs k = f at hb1 hb2 ⊢;have hbl := aL f.b;conv=>whnf
  refine ⟨⟨rfl, hbl.symm, List.length_pos_iff.2 hb2⟩, f.b.map fun c => (c.toNat : Int), by simp [ai], ?_⟩;rw [fQ];conv=>whnf
  refine ak (by simp) ?_;conv=>whnf
  refine FH s k ?_;conv=>whnf
  refine ak (by rw [hf]; simp) ?_;conv=>whnf
  refine aq.ind2 (fun (j : Nat) (N : List Int) => [(67, vi j)]) (fun j N => [(0, fsC s 1), (1, fsM s), (ar 39 0, .vec 5 1 (u8s N) 1)]) (fun j _ => f.b.length - j) (fun j N => j ≤ f.b.length ∧ N.length = f.b.length) 0 (f.b.map fun c => (c.toNat : Int)) (by rw [← MI]; rfl) ⟨by omega, by simp⟩ ?_;rintro j N ⟨j0, hN⟩ IH2;conv=>whnf
  refine ae (fun hc => ?_) (fun hc => ?_)
  ·have hj : j < f.b.length := by have := aal hc; omega
   (conv=>whnf); (repeat ((with_reducible refine ac ?_ ?_); exact aaa (by omega); (conv=>whnf)))
   have hjN : 0 + (j : Int).toNat < N.length := by rw [aaC]; omega
   refine ⟨rfl, ab hjN ?_⟩;generalize N[0 + (j : Int).toNat] = x
   (conv=>whnf); (repeat ((with_reducible refine ac ?_ ?_); exact aaa (by omega); (conv=>whnf)))
   refine ⟨rfl, ab hjN ?_⟩;conv=>whnf
   have e : (u8s N).set (0 + (j : Int).toNat) [.val (.int .u8 (IntKind.u8.wrap (x + 1)))] = u8s (N.set j (IntKind.u8.wrap (x + 1))) := by
    rw [aaC, aaS];exact (List.map_set ..).symm
   have IH2 := IH2 (j + 1) (N.set j (IntKind.u8.wrap (x + 1))) ⟨hj, by rw [List.length_set]; exact hN⟩ (by omega);rw [← e] at IH2;rw [am (by omega)];exact IH2
  ·clear IH2;conv=>whnf
   rw [am (by omega)];exact IH
 ·have hi := au hsl hc;clear IH;conv=>whnf
  refine jD s _ (by unfold gF; rw [fL.2 hno]; show 0 < _; decide) (fun hin => absurd hin hno) (fun _ => ?_);conv=>whnf
  refine fR s (by omega) _ ?_;rw [aai hno];conv=>whnf
  exact h
def m1 (f : Fl) : FM := [(aS, f)]
def m2 (f h : Fl) : FM := [(aS, f), (cz, h)]
theorem Pk (f : Fl) (b : B) : vE aS b (m1 f) = dZ aS b (m1 f) ∧ ∃ g, dZ aS b (m1 f) = m1 g := by
 constructor
 ·simp [vE, dZ, m1, rpt, wF, jQ, gF, lk, pt]
 ·exact ⟨⟨f.b ++ b, f.safe⟩, by simp [dZ, m1, gF, lk, pt]⟩
theorem N3 (f : Fl) : vC aS (m1 f) = cM aS (m1 f) ∧ ∃ g, cM aS (m1 f) = m1 g := by
 constructor
 ·simp [vC, cM, m1, rpt, wF, jQ, gF, lk, pt]
 ·exact ⟨⟨f.b, f.b.length⟩, by simp [cM, m1, gF, lk, pt]⟩
theorem Le {s : FSt} {f : Fl} (h : s.fs = m1 f) (late : Bool) {g r : FM → FM} (hg : r (m1 f) = g (m1 f) ∧ ∃ y, g (m1 f) = m1 y) : s.act late r = s.act late g ∧ ∃ y, (s.act late g).1.fs = m1 y := by
 obtain ⟨h1, y, h2⟩ := hg;unfold FSt.act;rw [h, h1, h2];refine ⟨rfl, ?_⟩;split
 ·cases late
  ·exact ⟨f, rfl⟩
  ·exact ⟨y, rfl⟩
 ·split
  ·exact ⟨f, rfl⟩
  ·exact ⟨y, rfl⟩
theorem JI {v : Int} {s : FSt} {L : List Rc} {r : Rc} (h : ∃ f, s.fs = m1 f) : ju v s L r = bT v s L r ∧ ∃ f, (bT v s L r).1.fs = m1 f := by
 obtain ⟨f, h⟩ := h;unfold ju bT FSt.rappend FSt.append;split
 ·exact ⟨rfl, f, h⟩
 ·exact Le h true (Pk f _)
theorem FY {s : FSt} (h : ∃ f, s.fs = m1 f) : s.rsync aS = s.sync aS ∧ ∃ f, (s.sync aS).1.fs = m1 f := by
 obtain ⟨f, h⟩ := h;unfold FSt.rsync FSt.sync;split
 ·exact ⟨rfl, f, h⟩
 ·exact Le h false (N3 f)
theorem zJ {s : FSt} {nb fb : Nat} (h : ∃ f, s.fs = m1 f) (hk : FOk s nb fb) (hfb : fb ≤ 80000000) : ROk s ∧ (gF s.fs aS).b.length < 900000000 := by
 obtain ⟨f, h⟩ := h;refine ⟨⟨by rw [h]; show 1 < _; decide, hk.m.names, hk.fail, hk.fall⟩, ?_⟩;have := hk.m.bytes (aS, f) (by rw [h]; simp [m1]);rw [h];show f.b.length < _;have : f.b.length ≤ fb := this;omega
theorem oS (v : Int) (L : List Rc) (s : FSt) (hs : ROk s) {R} (h : R (.tup [.agg (stR ((s.rsync aS).2 == 7) v L (s.rsync aS).1), vi (s.rsync aS).2]) []) : ag Tryz.prog 70 [.agg (stR false v L s)] [] R := by
 refine aa (an := UC) tab_ok Tryz.func70 ?_;conv=>whnf
 refine oV s hs aS (by decide) ?_;generalize s.rsync aS = se at h ⊢;obtain ⟨s2, e⟩ := se;conv=>whnf
 exact h
theorem EX {l : List Nd} {state : List Rc} {given : List Sp} {w : U} {o : List Nat} (ho : oC l o) {i : Nat} (hi : i < o.length) (hl : o[i] < l.length) : ∀ r ∈ aJ (aM l state given w (o.take i)), r.target ≠ l[o[i]].name := by
 intro r hr e;obtain ⟨d, hd, rfl⟩ := List.mem_map.1 hr;rw [List.mem_filter] at hd;have ho2 : oC l (o.take i) := ⟨fun b hb => ho.hb b (aaU hb), (by rw [abR]; exact ho.nd.sublist (List.take_sublist _ _))⟩;have ht := (gj ho2 hd.1 hd.2).2;obtain ⟨j, hj, rfl⟩ := n0 ho2 hd.1;have hj2 : j < i := by rw [aan] at hj; omega
 have hjo : j < o.length := by omega
 rw [ht, jZ] at e;refine List.pairwise_iff_getElem.1 ho.nd j i (by simpa using hjo) (by simpa using hi) hj2 ?_;simp only [abD];rw [eV (ho.hb _ (aaf _)), eV hl, ← e];congr 2;simp
theorem Cv {l : List Nd} {L0 : List Rc} {given : List Sp} {w : U} {o : List Nat} (ho : oC l o) {i : Nat} (hi : i < o.length) (hl : o[i] < l.length) : cZ (ay (L0 ++ aJ (aM l (ay L0) given w (o.take i)))) l[o[i]].name = cZ (ay L0) l[o[i]].name := by
 have ho2 : oC l (o.take i) := ⟨fun b hb => ho.hb b (aaU hb), (by rw [abR]; exact ho.nd.sublist (List.take_sublist _ _))⟩;obtain ⟨t1, t2⟩ := nA (state := ay L0) (given := given) (w := w) ho2;exact (wq L0 _ t2 t1 _).2 (EX ho hi hl)
theorem A9 {n : Nd} {S S' : List Rc} (hs : List U) (h : cZ S n.name = cZ S' n.name) : kG n S hs = kG n S' hs := by
 rw [kG, kG, cT, cT, h]
def cJ (a : List Dn) : List Int := a.map (·.why)
theorem ny (a : List Dn) (d : Dn) : fh (cJ a) ++ [[vi d.why]] = fh (cJ (a ++ [d])) := by simp [cJ, fh]
theorem Ki {v : Int} {ds : List Dn} {s : FSt} {L : List Rc} (h : (dy v ds s L).2.2 ≠ 0) : gS v ds s L = dy v ds s L := by
 unfold gS;rw [aap fun e => h e.1]
structure BS where
 i : Nat
 z : Bool
 rn : Bool
 dn : List Dn
 s : FSt
 L : List Rc
structure Tg (v : Int) (l : List Nd) (L0 : List Rc) (s0 : FSt) (given : List Sp) (w : U) (o : List Nat) (dry : Bool) (nb fb : Nat) (res : FSt × List Rc × Int) (k : BS) : Prop where
 le : k.i ≤ o.length
 dn : k.dn = aM l (ay L0) given w (o.take k.i)
 z0 : k.z = false → k.dn = []
 rn : k.rn = (aA k.dn).any (·.ran)
 dr : dry = true → k.s = s0 ∧ k.L = L0
 ru : dry = false → dy v ((aM l (ay L0) given w o).drop k.i) k.s k.L = res ∧ k.L = L0 ++ aJ k.dn
 fok : FOk k.s (nb + k.i) (fb + 3000 * k.i)
 one : ∃ f, k.s.fs = m1 f
 len : k.L.length ≤ L0.length + k.i
 may : ∀ r ∈ k.L, aR v r = true
def bR (o : Bool) (v : Int) (L : List Rc) (s : FSt) (st : List Sp) (wy : List Int) (e : Int) : AV := .agg [.sl none 3 (dS s.fs), vi s.fail, vi s.fall, .val (.bool s.down), vi v, .sl none 7 (be L), .sl none 1 (dh (c6 v L)), vi (((aC v L).length : Nat) : Int), .val (.bool o), .sl none 3 (sps st), .sl none 1 (fh wy), vi e]
theorem pA (o : Bool) (v : Int) (L : List Rc) (s : FSt) (e : Int) : AV.le (.agg [.sl none 3 (dS s.fs), vi s.fail, vi s.fall, .val (.bool s.down), vi v, .sl none 7 (be L), .sl none 1 (dh (c6 v L)), vi (((aC v L).length : Nat) : Int), .val (.bool o), .val (.slice none 0 0), .val (.slice none 0 0), vi e]) (bR o v L s [] [] e) :=
 iJ (.cons (.refl _) (.cons (.refl _) (.cons (.refl _) (.cons (.refl _) (.cons (.refl _) (.cons (.refl _) (.cons (.refl _) (.cons (.refl _) (.cons (.refl _) (.cons (cy 3) (.cons (cy 1) (leL.refl _))))))))))))
theorem pq {v : Int} (hv : is3 v) (l : List Nd) (hl : fI l) (hl2 : l.length ≤ 100) (given : List Sp) (hg : given.length < 1000000) (w : U) (s0 : FSt) {nb fb : Nat} (hk0 : FOk s0 nb fb) (hfb : fb ≤ 70000000) (hone0 : ∃ f, s0.fs = m1 f) (L0 : List Rc) (hL0 : L0.length ≤ 150) (hm0 : ∀ r ∈ L0, aR v r = true) (dry : Bool) {R}
  (h1 : aV l ≠ 0 → R (bR false v L0 s0 [] [] (aV l)) [])
  (h2 : aV l = 0 → dry = true → R (bR false v L0 s0 (aA (bE l (ay L0) given (wen v w))) (cJ (bE l (ay L0) given (wen v w))) 0) [])
  (h3 : aV l = 0 → dry = false → ∀ f, f = gS v (bE l (ay L0) given (wen v w)) s0 L0 → f.2.2 ≠ 0 → R (bR (f.2.2 == 7) v f.2.1 f.1 [] [] f.2.2) [])
  (h4 : aV l = 0 → dry = false → ∀ f, f = gS v (bE l (ay L0) given (wen v w)) s0 L0 → f.2.2 = 0 → R (bR false v f.2.1 f.1 (aA (bE l (ay L0) given (wen v w))) (cJ (bE l (ay L0) given (wen v w))) 0) []) : ag Tryz.prog 28 [.agg (stR false v L0 s0), .sl none 4 (nds l), .sl none 3 (sps given), uv w, .val (.bool dry)] [] R := by
 refine ag.res ?_;refine aa (an := Vb) tab_ok Tryz.func28 ?_;conv=>whnf
 refine ls l hl fun e he => ?_;conv=>whnf
 refine ae (fun g => ?_) (fun g => ?_)
 ·have g : e ≠ 0 := by simpa using g
  have h1 := h1 (by rw [← he]; exact g);rw [← he] at h1;conv=>whnf
  exact cw (pA false v L0 s0 e) rfl h1
 have g : e = 0 := by simpa using g
 have hck : aV l = 0 := by rw [← he]; exact g
 specialize h2 hck
 specialize h3 hck
 specialize h4 hck
 clear h1 he g;have hv3 : v = 1 ∨ v = 2 ∨ v = 3 := hv;have hwen : v = 1 → wen v w = 0 := fun e => by rw [wen, aaz e]
 have hmay : ∀ d ∈ bE l (ay L0) given (wen v w), d.step.ran = true → d.trace.kind = 1 ∧ aR v d.trace = true := fun d hd hr => ⟨(gj (o0 hck) hd hr).1, nB hv3 hck hwen d hd hr⟩;have hoo := o0 hck;obtain ⟨o, ho0⟩ : ∃ o, o = cn l := ⟨_, rfl⟩;rw [← ho0] at hoo;have hb := hoo.hb;have hrow : c8 l = o := by rw [ho0, cn, aaz hck]
 have hol64 : o.length ≤ 64 := by rw [ho0, jw hck]; exact (fp hck).2.2.2
 have hsm := hl.2;have hol := b8 o;rw [bE, ← ho0] at h2 h3 h4 hmay;obtain ⟨w2, hw2⟩ : ∃ w2, w2 = wen v w := ⟨_, rfl⟩;rw [← hw2] at h2 h3 h4 hmay;obtain ⟨res, hres⟩ : ∃ res, dy v (aM l (ay L0) given w2 o) s0 L0 = res := ⟨_, rfl⟩;have hfb2 : res.2.2 ≠ 0 → gS v (aM l (ay L0) given w2 o) s0 L0 = res := fun hx => by rw [Ki (by rw [hres]; exact hx), hres]
 have hB0 : Tg v l L0 s0 given w2 o dry nb fb res ⟨0, false, false, [], s0, L0⟩ := ⟨aby _, rfl, fun _ => rfl, rfl, fun _ => ⟨rfl, rfl⟩, fun _ => ⟨hres, by simp [aJ]⟩, hk0, hone0, aar _, hm0⟩;clear hk0 hone0 hm0;conv=>whnf
 refine ae (fun q => ?_) (fun q => ?_)
 all_goals (conv=>whnf)
 all_goals refine nH l hl (fp hck).1 fun o2 ho2 => ?_
 all_goals
  rw [hrow] at ho2;rw [ho2];clear ho2;conv=>whnf
 all_goals first | rw [show AV.val (Value.int IntKind.u64 0) = uv w2 from by rw [hw2, hwen (by simpa using q)]; rfl] | rw [show w = w2 from by rw [hw2, wen, aap (by simpa using q)]]
 all_goals clear hw2 hwen q
 all_goals
  refine aq.ind1 (α := BS) (fun | ⟨i, _, rn, _, _, _⟩ => [(13, .val (.bool rn)), (15, vi i)]) (fun | ⟨_, false, _, _, s, L⟩ => [(al 10, .cells 85 [.val (.slice none 0 0), vi 0, vi 0, .val (.bool false), vi 0, .val (.slice none 0 0), .val (.slice none 0 0), vi 0, .val (.bool false), .val (.slice none 0 0), .val (.slice none 0 0), vi 0]), (al 12, .cells 85 [.sl none 3 (dS s.fs), vi s.fail, vi s.fall, .val (.bool s.down), vi v, .sl none 7 (be L), .sl none 1 (dh (c6 v L)), vi (((aC v L).length : Nat) : Int), .val (.bool false), .val (.slice none 0 0), .val (.slice none 0 0), vi 0])] | ⟨_, true, _, dn, s, L⟩ => [(al 10, .cells 85 [.val (.slice none 0 0), vi 0, vi 0, .val (.bool false), vi 0, .val (.slice none 0 0), .val (.slice none 0 0), vi 0, .val (.bool false), .val (.slice none 0 0), .val (.slice none 0 0), vi 0]), (al 12, .cells 85 [.sl none 3 (dS s.fs), vi s.fail, vi s.fall, .val (.bool s.down), vi v, .sl none 7 (be L), .sl none 1 (dh (c6 v L)), vi (((aC v L).length : Nat) : Int), .val (.bool false), .sl (some (al 145)) 3 (sps (aA dn)), .sl (some (al 151)) 1 (fh (cJ dn)), vi 0]), (al 145, .row 45 3 (aA dn).length), (al 151, .row 3 1 (cJ dn).length)]) (fun k => o.length - k.i) (Tg v l L0 s0 given w2 o dry nb fb res) ⟨0, false, false, [], s0, L0⟩ rfl hB0 ?_;clear hB0;rintro ⟨i, z, rn, dn, s, L⟩ hB IH
  cases z with
  | false =>
   have hdl : dn.length = i := by
    have e := hB.dn;simp only at e;rw [e];exact kQ _ _ _ hb i hB.le
   obtain ⟨h0, ho, hz0, hrn, hdry, hrun, hk, hone, hL, hm⟩ := hB;simp only at h0 ho hrn hdry hrun hk hone hL hm;have hdn0 : dn = [] := hz0 rfl;subst hdn0;have hLd : ∀ r ∈ L, r.target.length < 1000000 := fun r hr => by have := (aT (hm r hr)).t2; omega
   have hstl : (aA []).length = i := by simpa [aA] using hdl
   have hspl := bA (aA []);have hwl : (fh (cJ [])).length = (cJ []).length := nS _;have hwl2 : (cJ []).length = i := by simpa [cJ] using hdl
   conv=>whnf
   refine ae (fun hc => ?_) (fun hc => ?_)
   ·have hc : i < o.length := ap hol hc;have hbi := hb _ (aaf hc);have hsn := im (l := l) (ay L0) given w2 hc hbi;rw [← ho] at hsn;have hdi := mr (l := l) (ay L0) given w2 hb hc;rw [kP (ay L0) given w2 hb (abw hc), ← ho] at hdi;have hdr : (aM l (ay L0) given w2 o).drop i = cf l[o[i]] (ay L0) (aA []) given w2 :: (aM l (ay L0) given w2 o).drop (i + 1) := by
     obtain ⟨q1, q2⟩ := List.getElem?_eq_some_iff.1 hdi;rw [aao q1, q2]
    have hmem := aaO hdi;have hfn : cZ (ay L) l[o[i]].name = cZ (ay L0) l[o[i]].name := by
     cases hdd : dry with
     | true => rw [(hdry hdd).2]
     | false => rw [(hrun hdd).2, ho]; exact Cv hoo hc hbi
    (conv=>whnf); (repeat ((with_reducible refine ac ?_ ?_); exact aaa (by omega); (conv=>whnf)))
    refine idxNat (by simpa using hc) ?_
    (conv=>whnf); (repeat ((with_reducible refine ac ?_ ?_); exact aaa (by omega); (conv=>whnf)))
    refine ab (show ((o[i] : Nat) : Int).toNat < l.length by simpa using hbi) ?_;rw [show l[((o[i] : Nat) : Int).toNat]'(by simpa using hbi) = l[o[i]] from by congr 1];have hnd : l[o[i]].deps.length < 10000 := (hsm _ (aaf hbi)).1;generalize l[o[i]] = n at hsn hdi hdr hmem hnd hfn ⊢;have hdsl := aF n.deps;conv=>whnf
    refine nk given hg n.name fun gv hgv => ?_;conv=>whnf
    refine ae (fun gs => ?_) (fun gs => ?_)
    ·have gs : n.source = false := by simpa using gs
     conv=>whnf
     refine aq.ind2 (fun (q : Nat) (out : List U) => [(19, .sl (some (al 68)) 1 (dR out)), (20, vi q)]) (fun q out => [(al 10, .cells 85 [.val (.slice none 0 0), vi 0, vi 0, .val (.bool false), vi 0, .val (.slice none 0 0), .val (.slice none 0 0), vi 0, .val (.bool false), .val (.slice none 0 0), .val (.slice none 0 0), vi 0]), (al 12, .cells 85 [.sl none 3 (dS s.fs), vi s.fail, vi s.fall, .val (.bool s.down), vi v, .sl none 7 (be L), .sl none 1 (dh (c6 v L)), vi (((aC v L).length : Nat) : Int), .val (.bool false), .val (.slice none 0 0), .val (.slice none 0 0), vi 0]), (al 17, .cells 45 [vs n.name, .val (.bool false), uv gv]), (al 68, .row 33 1 out.length)]) (fun q _ => n.deps.length - q) (fun q out => q ≤ n.deps.length ∧ out = (n.deps.take q).map (dV (aA []))) 0 [] rfl ⟨by omega, by simp⟩ ?_;rintro q out ⟨hq, hout⟩ IH2;have hnl := md out;have hoq : out.length = q := by rw [hout]; simp; omega
     conv=>whnf
     refine ae (fun hx => ?_) (fun hx => ?_)
     ·have hx := ap hdsl hx
      (conv=>whnf); (repeat ((with_reducible refine ac ?_ ?_); exact aaa (by omega); (conv=>whnf)))
      refine idxNat (by simpa using hx) ?_;conv=>whnf
      refine ag.args (leL.cons (cy 3) (leL.refl _)) (nk (aA []) (by omega) n.deps[q] fun u hu => ?_);conv=>whnf
      refine ⟨hnl.symm, (by rw [hnl]; show (out.length + 1) * (8 + 1) ≤ _; omega), ?_⟩;conv=>whnf
      rw [show dR out ++ [[AV.val (Value.int IntKind.u64 (u.toNat : Int))]] = dR (out ++ [u]) from by simp [dR, uv], show (dR out).length + [[AV.val (Value.int IntKind.u64 (u.toNat : Int))]].length = (out ++ [u]).length from by simp [hnl], am (by omega)];exact IH2 (q + 1) (out ++ [u]) ⟨by omega, by rw [hout, hu, aab hx, aaG]; rfl⟩ (by omega)
     have hx := au hdsl hx;have hout : out = kR (aA []) n := by rw [hout, aae hx]; rfl
     clear hx IH2;conv=>whnf
     refine oA out (by omega) fun hs hhs => ?_;conv=>whnf
     refine l8 false v L s (by omega) hLd ?_;conv=>whnf
     refine sh n (by omega) (ay L) (by have := iC L; omega) hs fun y hy => ?_;rw [A9 _ hfn, hhs, hout] at hy;conv=>whnf
     refine ae (fun g2 => ?_) (fun g2 => ?_)
     ·have g2 : y = 0 := by simpa using g2
      subst g2;conv=>whnf
      refine l8 false v L s (by omega) hLd ?_;conv=>whnf
      refine mJ (ay L) (by have := iC L; omega) n.name ?_;have hfr : cT (ay L) n.name = cT (ay L0) n.name := by rw [cT, cT, hfn]
      rw [hfr];generalize hr : cT (ay L0) n.name = r;generalize (cZ (ay L) n.name).isSome = f;conv=>whnf
      refine mK r.out fun c hcc => ?_;have hnb : cf n (ay L0) (aA []) given w2 = ⟨⟨n.name, false, c⟩, 0, eG⟩ := by rw [cf, aap (by simp [gs]), aaz hy.symm, hr, hcc]
      conv=>whnf
      rw [hnb] at hsn hdr hmem;refine ⟨(by show 1 * (32 + 1) ≤ 140737488355328; decide), ?_⟩;conv=>whnf
      refine ⟨(by show 1 * (8 + 1) ≤ 140737488355328; decide), ?_⟩;conv=>whnf
      rw [am (by omega)];exact IH ⟨i + 1, true, rn, [] ++ [(⟨⟨n.name, false, c⟩, 0, eG⟩ : Dn)], s, L⟩ ⟨by show i + 1 ≤ _; omega, hsn.symm, fun e => (by cases e), (by rw [bW]; simp [hrn]), hdry, fun e => ⟨by have := (hrun e).1; rw [hdr, dy, aap (by simp)] at this; exact this, by show L = _; rw [gi, aap (by simp)]; exact (hrun e).2⟩, hk.mono (by show _ ≤ nb + (i + 1); omega) (by show _ ≤ fb + 3000 * (i + 1); omega), hone, by show L.length ≤ L0.length + (i + 1); omega, hm⟩ (by show o.length - (i + 1) < o.length - i; omega)
     ·have g2 : y ≠ 0 := by simpa using g2
      conv=>whnf
      refine mA n.rule out (by omega) rfl fun c hcc => ?_;have hnb : cf n (ay L0) (aA []) given w2 = ⟨⟨n.name, true, c⟩, y, gk n hs c w2⟩ := by rw [cf, aap (by simp [gs]), aap (by rw [← hy]; exact g2), ← hy, hcc, hhs, hout]
      conv=>whnf
      refine ae (fun gd => ?_) (fun gd => ?_)
      ·have gd : dry = false := by simpa using gd
       have hme := hmay _ hmem (by rw [hnb]);rw [hnb] at hme;obtain ⟨hr0, hr2⟩ := hrun gd;rw [hdr, hnb, dy, aaz rfl] at hr0;conv=>whnf
       refine pp n (by omega) hs c w2 fun r e hr _ => ?_;rw [← hr] at hme hr0 hnb;have hme : r.kind = 1 ∧ aR v r = true := hme;obtain ⟨rk, rg⟩ := zJ hone hk (by omega);obtain ⟨pe, po⟩ := JI (v := v) (L := L) (r := r) hone;have hk2 := uK hk (show L.length ≤ 1100 by omega) hm hme.2;conv=>whnf
       refine l7 hv s rk rg L (by omega) hm r (by have := (aT hme.2).deps; omega) (fun hno => absurd hme hno) (fun _ _ he => ?_) (fun _ _ he => ?_)
       ·rw [pe] at he ⊢;rw [aap he] at hr0;have h3 := h3 gd;rw [hfb2 (by rw [← hr0]; exact he), ← hr0] at h3;have h3 := h3 _ rfl he;generalize bT v s L r = se at h3 he ⊢;obtain ⟨s2, e2⟩ := se;have he : e2 ≠ 0 := he;conv=>whnf
        refine aK (by simpa using he) ?_;conv=>whnf
        exact cw (pA (e2 == 7) v L s2 e2) rfl h3
       ·rw [pe] at he ⊢;rw [aaz he] at hr0;generalize bT v s L r = se at he hr0 po hk2 ⊢;obtain ⟨s2, e2⟩ := se;have he : e2 = 0 := he;subst he;conv=>whnf
        rw [hnb] at hsn hdr hmem;refine ⟨(by show 1 * (32 + 1) ≤ 140737488355328; decide), ?_⟩;conv=>whnf
        refine ⟨(by show 1 * (8 + 1) ≤ 140737488355328; decide), ?_⟩;conv=>whnf
        rw [am (by omega)];exact IH ⟨i + 1, true, true, [] ++ [(⟨⟨n.name, true, c⟩, y, r⟩ : Dn)], s2, L ++ [r]⟩ ⟨by show i + 1 ≤ _; omega, hsn.symm, fun e => (by cases e), (by rw [bW]; simp), fun e => (by rw [gd] at e; cases e), fun _ => ⟨hr0, by show L ++ [r] = _; rw [gi, aaz rfl, hr2]; simp⟩, hk2.mono (by show _ ≤ nb + (i + 1); omega) (by show _ ≤ fb + 3000 * (i + 1); omega), po, by show (L ++ [r]).length ≤ L0.length + (i + 1); simp; omega, z8 hm (fun x hx => by rw [List.mem_singleton.1 hx]; exact hme.2)⟩ (by show o.length - (i + 1) < o.length - i; omega)
      ·have gd : dry = true := by simpa using gd
       conv=>whnf
       rw [hnb] at hsn hdr hmem;refine ⟨(by show 1 * (32 + 1) ≤ 140737488355328; decide), ?_⟩;conv=>whnf
       refine ⟨(by show 1 * (8 + 1) ≤ 140737488355328; decide), ?_⟩;conv=>whnf
       rw [am (by omega)];exact IH ⟨i + 1, true, true, [] ++ [(⟨⟨n.name, true, c⟩, y, gk n hs c w2⟩ : Dn)], s, L⟩ ⟨by show i + 1 ≤ _; omega, hsn.symm, fun e => (by cases e), (by rw [bW]; simp), hdry, fun e => (by rw [gd] at e; cases e), hk.mono (by show _ ≤ nb + (i + 1); omega) (by show _ ≤ fb + 3000 * (i + 1); omega), hone, by show L.length ≤ L0.length + (i + 1); omega, hm⟩ (by show o.length - (i + 1) < o.length - i; omega)
    ·have gs : n.source = true := by simpa using gs
     have hnb : cf n (ay L0) (aA []) given w2 = ⟨⟨n.name, false, gv⟩, 0, eG⟩ := by rw [cf, aaz gs, hgv]
     conv=>whnf
     rw [hnb] at hsn hdr hmem;refine ⟨(by show 1 * (32 + 1) ≤ 140737488355328; decide), ?_⟩;conv=>whnf
     refine ⟨(by show 1 * (8 + 1) ≤ 140737488355328; decide), ?_⟩;conv=>whnf
     rw [am (by omega)];exact IH ⟨i + 1, true, rn, [] ++ [(⟨⟨n.name, false, gv⟩, 0, eG⟩ : Dn)], s, L⟩ ⟨by show i + 1 ≤ _; omega, hsn.symm, fun e => (by cases e), (by rw [bW]; simp [hrn]), hdry, fun e => ⟨by have := (hrun e).1; rw [hdr, dy, aap (by simp)] at this; exact this, by show L = _; rw [gi, aap (by simp)]; exact (hrun e).2⟩, hk.mono (by show _ ≤ nb + (i + 1); omega) (by show _ ≤ fb + 3000 * (i + 1); omega), hone, by show L.length ≤ L0.length + (i + 1); omega, hm⟩ (by show o.length - (i + 1) < o.length - i; omega)
   ·have hc : o.length ≤ i := au hol hc;have hie : i = o.length := by omega
    subst hie;rw [aax] at ho;rw [← ho] at h2 h3 h4 hfb2;rw [aay (by rw [fS _ _ _ hb]; exact aar _)] at hrun;have hfin : dry = false → gS v ([] : List Dn) s0 L0 = if rn = true then ((s.sync aS).1, L, (s.sync aS).2) else (s, L, 0) := fun hd => by
     have hr := (hrun hd).1;rw [ho];rw [ho] at hrn;unfold gS;rw [hrn, hres, ← hr, dy];simp
    clear hfb2;conv=>whnf
    refine ae (fun gr => ?_) (fun gr => ?_)
    ·rw [aaz gr] at hfin;conv=>whnf
     refine ae (fun gd => ?_) (fun gd => ?_)
     ·have gd : dry = false := by simpa using gd
      have h3 := h3 gd _ rfl;have h4 := h4 gd _ rfl;rw [hfin gd] at h3 h4;obtain ⟨rk, _⟩ := zJ hone hk (by omega);obtain ⟨pe, po⟩ := FY hone;conv=>whnf
      refine oS v L s rk ?_;rw [pe];generalize s.sync aS = se at h3 h4 ⊢;obtain ⟨s2, e2⟩ := se;by_cases he : e2 = 0
      ·subst he;have h4 := h4 rfl;conv=>whnf
       exact cw (pA false v L s2 0) rfl h4
      ·have h3 := h3 he;conv=>whnf
       refine aK (by simpa using he) ?_;conv=>whnf
       exact cw (pA (e2 == 7) v L s2 e2) rfl h3
     ·have gd : dry = true := by simpa using gd
      obtain ⟨hs1, hs2⟩ := hdry gd;have h4 := h2 gd;rw [← hs1, ← hs2] at h4;conv=>whnf
      exact cw (pA false v L s 0) rfl h4
    ·have gr : rn = false := by simpa using gr
     have h4 : R (bR false v L s (aA ([] : List Dn)) (cJ ([] : List Dn)) 0) [] := by
      cases hd : dry with
      | true =>
       obtain ⟨hs1, hs2⟩ := hdry hd;have h4 := h2 hd;rwa [← hs1, ← hs2] at h4
      | false =>
       rw [aap (by rw [gr]; simp)] at hfin;have h4 := h4 hd _ rfl;rw [hfin hd] at h4;exact h4 rfl
     conv=>whnf
     exact cw (pA false v L s 0) rfl h4
  | true =>
   have hdl : dn.length = i := by
    have e := hB.dn;simp only at e;rw [e];exact kQ _ _ _ hb i hB.le
   obtain ⟨h0, ho, hz0, hrn, hdry, hrun, hk, hone, hL, hm⟩ := hB;simp only at h0 ho hrn hdry hrun hk hone hL hm;have hLd : ∀ r ∈ L, r.target.length < 1000000 := fun r hr => by have := (aT (hm r hr)).t2; omega
   have hstl : (aA dn).length = i := by simpa [aA] using hdl
   have hspl := bA (aA dn);have hwl : (fh (cJ dn)).length = (cJ dn).length := nS _;have hwl2 : (cJ dn).length = i := by simpa [cJ] using hdl
   conv=>whnf
   refine ae (fun hc => ?_) (fun hc => ?_)
   ·have hc : i < o.length := ap hol hc;have hbi := hb _ (aaf hc);have hsn := im (l := l) (ay L0) given w2 hc hbi;rw [← ho] at hsn;have hdi := mr (l := l) (ay L0) given w2 hb hc;rw [kP (ay L0) given w2 hb (abw hc), ← ho] at hdi;have hdr : (aM l (ay L0) given w2 o).drop i = cf l[o[i]] (ay L0) (aA dn) given w2 :: (aM l (ay L0) given w2 o).drop (i + 1) := by
     obtain ⟨q1, q2⟩ := List.getElem?_eq_some_iff.1 hdi;rw [aao q1, q2]
    have hmem := aaO hdi;have hfn : cZ (ay L) l[o[i]].name = cZ (ay L0) l[o[i]].name := by
     cases hdd : dry with
     | true => rw [(hdry hdd).2]
     | false => rw [(hrun hdd).2, ho]; exact Cv hoo hc hbi
    (conv=>whnf); (repeat ((with_reducible refine ac ?_ ?_); exact aaa (by omega); (conv=>whnf)))
    refine idxNat (by simpa using hc) ?_
    (conv=>whnf); (repeat ((with_reducible refine ac ?_ ?_); exact aaa (by omega); (conv=>whnf)))
    refine ab (show ((o[i] : Nat) : Int).toNat < l.length by simpa using hbi) ?_;rw [show l[((o[i] : Nat) : Int).toNat]'(by simpa using hbi) = l[o[i]] from by congr 1];have hnd : l[o[i]].deps.length < 10000 := (hsm _ (aaf hbi)).1;generalize l[o[i]] = n at hsn hdi hdr hmem hnd hfn ⊢;have hdsl := aF n.deps;conv=>whnf
    refine nk given hg n.name fun gv hgv => ?_;conv=>whnf
    refine ae (fun gs => ?_) (fun gs => ?_)
    ·have gs : n.source = false := by simpa using gs
     conv=>whnf
     refine aq.ind2 (fun (q : Nat) (out : List U) => [(19, .sl (some (al 68)) 1 (dR out)), (20, vi q)]) (fun q out => [(al 10, .cells 85 [.val (.slice none 0 0), vi 0, vi 0, .val (.bool false), vi 0, .val (.slice none 0 0), .val (.slice none 0 0), vi 0, .val (.bool false), .val (.slice none 0 0), .val (.slice none 0 0), vi 0]), (al 12, .cells 85 [.sl none 3 (dS s.fs), vi s.fail, vi s.fall, .val (.bool s.down), vi v, .sl none 7 (be L), .sl none 1 (dh (c6 v L)), vi (((aC v L).length : Nat) : Int), .val (.bool false), .sl (some (al 145)) 3 (sps (aA dn)), .sl (some (al 151)) 1 (fh (cJ dn)), vi 0]), (al 17, .cells 45 [vs n.name, .val (.bool false), uv gv]), (al 68, .row 33 1 out.length), (al 145, .row 45 3 (aA dn).length), (al 151, .row 3 1 (cJ dn).length)]) (fun q _ => n.deps.length - q) (fun q out => q ≤ n.deps.length ∧ out = (n.deps.take q).map (dV (aA dn))) 0 [] rfl ⟨by omega, by simp⟩ ?_;rintro q out ⟨hq, hout⟩ IH2;have hnl := md out;have hoq : out.length = q := by rw [hout]; simp; omega
     conv=>whnf
     refine ae (fun hx => ?_) (fun hx => ?_)
     ·have hx := ap hdsl hx
      (conv=>whnf); (repeat ((with_reducible refine ac ?_ ?_); exact aaa (by omega); (conv=>whnf)))
      refine idxNat (by simpa using hx) ?_;conv=>whnf
      refine nk (aA dn) (by omega) n.deps[q] fun u hu => ?_;conv=>whnf
      refine ⟨hnl.symm, (by rw [hnl]; show (out.length + 1) * (8 + 1) ≤ _; omega), ?_⟩;conv=>whnf
      rw [show dR out ++ [[AV.val (Value.int IntKind.u64 (u.toNat : Int))]] = dR (out ++ [u]) from by simp [dR, uv], show (dR out).length + [[AV.val (Value.int IntKind.u64 (u.toNat : Int))]].length = (out ++ [u]).length from by simp [hnl], am (by omega)];exact IH2 (q + 1) (out ++ [u]) ⟨by omega, by rw [hout, hu, aab hx, aaG]; rfl⟩ (by omega)
     have hx := au hdsl hx;have hout : out = kR (aA dn) n := by rw [hout, aae hx]; rfl
     clear hx IH2;conv=>whnf
     refine oA out (by omega) fun hs hhs => ?_;conv=>whnf
     refine l8 false v L s (by omega) hLd ?_;conv=>whnf
     refine sh n (by omega) (ay L) (by have := iC L; omega) hs fun y hy => ?_;rw [A9 _ hfn, hhs, hout] at hy;conv=>whnf
     refine ae (fun g2 => ?_) (fun g2 => ?_)
     ·have g2 : y = 0 := by simpa using g2
      subst g2;conv=>whnf
      refine l8 false v L s (by omega) hLd ?_;conv=>whnf
      refine mJ (ay L) (by have := iC L; omega) n.name ?_;have hfr : cT (ay L) n.name = cT (ay L0) n.name := by rw [cT, cT, hfn]
      rw [hfr];generalize hr : cT (ay L0) n.name = r;generalize (cZ (ay L) n.name).isSome = f;conv=>whnf
      refine mK r.out fun c hcc => ?_;have hnb : cf n (ay L0) (aA dn) given w2 = ⟨⟨n.name, false, c⟩, 0, eG⟩ := by rw [cf, aap (by simp [gs]), aaz hy.symm, hr, hcc]
      conv=>whnf
      rw [hnb] at hsn hdr hmem;refine ⟨hspl.symm, (by rw [hspl]; show ((aA dn).length + 1) * (32 + 1) ≤ _; omega), ?_⟩;conv=>whnf
      refine ⟨hwl.symm, (by rw [hwl]; show ((cJ dn).length + 1) * (8 + 1) ≤ _; omega), ?_⟩;conv=>whnf
      rw [show sps (aA dn) ++ [[AV.val (.string (ofB n.name)), .val (.bool false), .val (.int .u64 (c.toNat : Int))]] = sps (aA (dn ++ [(⟨⟨n.name, false, c⟩, 0, eG⟩ : Dn)])) from by rw [bW, gK]; rfl, show (sps (aA dn)).length + [[AV.val (.string (ofB n.name)), .val (.bool false), .val (.int .u64 (c.toNat : Int))]].length = (aA (dn ++ [(⟨⟨n.name, false, c⟩, 0, eG⟩ : Dn)])).length from by rw [bW]; simp [hspl], show fh (cJ dn) ++ [[AV.val (Value.int IntKind.i64 0)]] = fh (cJ (dn ++ [(⟨⟨n.name, false, c⟩, 0, eG⟩ : Dn)])) from ny dn (⟨⟨n.name, false, c⟩, 0, eG⟩ : Dn), show (fh (cJ dn)).length + [[AV.val (Value.int IntKind.i64 0)]].length = (cJ (dn ++ [(⟨⟨n.name, false, c⟩, 0, eG⟩ : Dn)])).length from by rw [hwl]; simp [cJ]];rw [am (by omega)];exact IH ⟨i + 1, true, rn, dn ++ [(⟨⟨n.name, false, c⟩, 0, eG⟩ : Dn)], s, L⟩ ⟨by show i + 1 ≤ _; omega, hsn.symm, fun e => (by cases e), (by rw [bW]; simp [hrn]), hdry, fun e => ⟨by have := (hrun e).1; rw [hdr, dy, aap (by simp)] at this; exact this, by show L = _; rw [gi, aap (by simp)]; exact (hrun e).2⟩, hk.mono (by show _ ≤ nb + (i + 1); omega) (by show _ ≤ fb + 3000 * (i + 1); omega), hone, by show L.length ≤ L0.length + (i + 1); omega, hm⟩ (by show o.length - (i + 1) < o.length - i; omega)
     ·have g2 : y ≠ 0 := by simpa using g2
      conv=>whnf
      refine mA n.rule out (by omega) rfl fun c hcc => ?_;have hnb : cf n (ay L0) (aA dn) given w2 = ⟨⟨n.name, true, c⟩, y, gk n hs c w2⟩ := by rw [cf, aap (by simp [gs]), aap (by rw [← hy]; exact g2), ← hy, hcc, hhs, hout]
      conv=>whnf
      refine ae (fun gd => ?_) (fun gd => ?_)
      ·have gd : dry = false := by simpa using gd
       have hme := hmay _ hmem (by rw [hnb]);rw [hnb] at hme;obtain ⟨hr0, hr2⟩ := hrun gd;rw [hdr, hnb, dy, aaz rfl] at hr0;conv=>whnf
       refine pp n (by omega) hs c w2 fun r e hr _ => ?_;rw [← hr] at hme hr0 hnb;have hme : r.kind = 1 ∧ aR v r = true := hme;obtain ⟨rk, rg⟩ := zJ hone hk (by omega);obtain ⟨pe, po⟩ := JI (v := v) (L := L) (r := r) hone;have hk2 := uK hk (show L.length ≤ 1100 by omega) hm hme.2;conv=>whnf
       refine l7 hv s rk rg L (by omega) hm r (by have := (aT hme.2).deps; omega) (fun hno => absurd hme hno) (fun _ _ he => ?_) (fun _ _ he => ?_)
       ·rw [pe] at he ⊢;rw [aap he] at hr0;have h3 := h3 gd;rw [hfb2 (by rw [← hr0]; exact he), ← hr0] at h3;have h3 := h3 _ rfl he;generalize bT v s L r = se at h3 he ⊢;obtain ⟨s2, e2⟩ := se;have he : e2 ≠ 0 := he;conv=>whnf
        refine aK (by simpa using he) ?_;conv=>whnf
        exact cw (pA (e2 == 7) v L s2 e2) rfl h3
       ·rw [pe] at he ⊢;rw [aaz he] at hr0;generalize bT v s L r = se at he hr0 po hk2 ⊢;obtain ⟨s2, e2⟩ := se;have he : e2 = 0 := he;subst he;conv=>whnf
        rw [hnb] at hsn hdr hmem;refine ⟨hspl.symm, (by rw [hspl]; show ((aA dn).length + 1) * (32 + 1) ≤ _; omega), ?_⟩;conv=>whnf
        refine ⟨hwl.symm, (by rw [hwl]; show ((cJ dn).length + 1) * (8 + 1) ≤ _; omega), ?_⟩;conv=>whnf
        rw [show sps (aA dn) ++ [[AV.val (.string (ofB n.name)), .val (.bool true), .val (.int .u64 (c.toNat : Int))]] = sps (aA (dn ++ [(⟨⟨n.name, true, c⟩, y, r⟩ : Dn)])) from by rw [bW, gK]; rfl, show (sps (aA dn)).length + [[AV.val (.string (ofB n.name)), .val (.bool true), .val (.int .u64 (c.toNat : Int))]].length = (aA (dn ++ [(⟨⟨n.name, true, c⟩, y, r⟩ : Dn)])).length from by rw [bW]; simp [hspl], show fh (cJ dn) ++ [[AV.val (Value.int IntKind.i64 y)]] = fh (cJ (dn ++ [(⟨⟨n.name, true, c⟩, y, r⟩ : Dn)])) from ny dn (⟨⟨n.name, true, c⟩, y, r⟩ : Dn), show (fh (cJ dn)).length + [[AV.val (Value.int IntKind.i64 y)]].length = (cJ (dn ++ [(⟨⟨n.name, true, c⟩, y, r⟩ : Dn)])).length from by rw [hwl]; simp [cJ]];rw [am (by omega)];exact IH ⟨i + 1, true, true, dn ++ [(⟨⟨n.name, true, c⟩, y, r⟩ : Dn)], s2, L ++ [r]⟩ ⟨by show i + 1 ≤ _; omega, hsn.symm, fun e => (by cases e), (by rw [bW]; simp), fun e => (by rw [gd] at e; cases e), fun _ => ⟨hr0, by show L ++ [r] = _; rw [gi, aaz rfl, hr2]; simp⟩, hk2.mono (by show _ ≤ nb + (i + 1); omega) (by show _ ≤ fb + 3000 * (i + 1); omega), po, by show (L ++ [r]).length ≤ L0.length + (i + 1); simp; omega, z8 hm (fun x hx => by rw [List.mem_singleton.1 hx]; exact hme.2)⟩ (by show o.length - (i + 1) < o.length - i; omega)
      ·have gd : dry = true := by simpa using gd
       conv=>whnf
       rw [hnb] at hsn hdr hmem;refine ⟨hspl.symm, (by rw [hspl]; show ((aA dn).length + 1) * (32 + 1) ≤ _; omega), ?_⟩;conv=>whnf
       refine ⟨hwl.symm, (by rw [hwl]; show ((cJ dn).length + 1) * (8 + 1) ≤ _; omega), ?_⟩;conv=>whnf
       rw [show sps (aA dn) ++ [[AV.val (.string (ofB n.name)), .val (.bool true), .val (.int .u64 (c.toNat : Int))]] = sps (aA (dn ++ [(⟨⟨n.name, true, c⟩, y, gk n hs c w2⟩ : Dn)])) from by rw [bW, gK]; rfl, show (sps (aA dn)).length + [[AV.val (.string (ofB n.name)), .val (.bool true), .val (.int .u64 (c.toNat : Int))]].length = (aA (dn ++ [(⟨⟨n.name, true, c⟩, y, gk n hs c w2⟩ : Dn)])).length from by rw [bW]; simp [hspl], show fh (cJ dn) ++ [[AV.val (Value.int IntKind.i64 y)]] = fh (cJ (dn ++ [(⟨⟨n.name, true, c⟩, y, gk n hs c w2⟩ : Dn)])) from ny dn (⟨⟨n.name, true, c⟩, y, gk n hs c w2⟩ : Dn), show (fh (cJ dn)).length + [[AV.val (Value.int IntKind.i64 y)]].length = (cJ (dn ++ [(⟨⟨n.name, true, c⟩, y, gk n hs c w2⟩ : Dn)])).length from by rw [hwl]; simp [cJ]];rw [am (by omega)];exact IH ⟨i + 1, true, true, dn ++ [(⟨⟨n.name, true, c⟩, y, gk n hs c w2⟩ : Dn)], s, L⟩ ⟨by show i + 1 ≤ _; omega, hsn.symm, fun e => (by cases e), (by rw [bW]; simp), hdry, fun e => (by rw [gd] at e; cases e), hk.mono (by show _ ≤ nb + (i + 1); omega) (by show _ ≤ fb + 3000 * (i + 1); omega), hone, by show L.length ≤ L0.length + (i + 1); omega, hm⟩ (by show o.length - (i + 1) < o.length - i; omega)
    ·have gs : n.source = true := by simpa using gs
     have hnb : cf n (ay L0) (aA dn) given w2 = ⟨⟨n.name, false, gv⟩, 0, eG⟩ := by rw [cf, aaz gs, hgv]
     conv=>whnf
     rw [hnb] at hsn hdr hmem;refine ⟨hspl.symm, (by rw [hspl]; show ((aA dn).length + 1) * (32 + 1) ≤ _; omega), ?_⟩;conv=>whnf
     refine ⟨hwl.symm, (by rw [hwl]; show ((cJ dn).length + 1) * (8 + 1) ≤ _; omega), ?_⟩;conv=>whnf
     rw [show sps (aA dn) ++ [[AV.val (.string (ofB n.name)), .val (.bool false), .val (.int .u64 (gv.toNat : Int))]] = sps (aA (dn ++ [(⟨⟨n.name, false, gv⟩, 0, eG⟩ : Dn)])) from by rw [bW, gK]; rfl, show (sps (aA dn)).length + [[AV.val (.string (ofB n.name)), .val (.bool false), .val (.int .u64 (gv.toNat : Int))]].length = (aA (dn ++ [(⟨⟨n.name, false, gv⟩, 0, eG⟩ : Dn)])).length from by rw [bW]; simp [hspl], show fh (cJ dn) ++ [[AV.val (Value.int IntKind.i64 0)]] = fh (cJ (dn ++ [(⟨⟨n.name, false, gv⟩, 0, eG⟩ : Dn)])) from ny dn (⟨⟨n.name, false, gv⟩, 0, eG⟩ : Dn), show (fh (cJ dn)).length + [[AV.val (Value.int IntKind.i64 0)]].length = (cJ (dn ++ [(⟨⟨n.name, false, gv⟩, 0, eG⟩ : Dn)])).length from by rw [hwl]; simp [cJ]];rw [am (by omega)];exact IH ⟨i + 1, true, rn, dn ++ [(⟨⟨n.name, false, gv⟩, 0, eG⟩ : Dn)], s, L⟩ ⟨by show i + 1 ≤ _; omega, hsn.symm, fun e => (by cases e), (by rw [bW]; simp [hrn]), hdry, fun e => ⟨by have := (hrun e).1; rw [hdr, dy, aap (by simp)] at this; exact this, by show L = _; rw [gi, aap (by simp)]; exact (hrun e).2⟩, hk.mono (by show _ ≤ nb + (i + 1); omega) (by show _ ≤ fb + 3000 * (i + 1); omega), hone, by show L.length ≤ L0.length + (i + 1); omega, hm⟩ (by show o.length - (i + 1) < o.length - i; omega)
   ·have hc : o.length ≤ i := au hol hc;have hie : i = o.length := by omega
    subst hie;rw [aax] at ho;rw [← ho] at h2 h3 h4 hfb2;rw [aay (by rw [fS _ _ _ hb]; exact aar _)] at hrun;have hfin : dry = false → gS v dn s0 L0 = if rn = true then ((s.sync aS).1, L, (s.sync aS).2) else (s, L, 0) := fun hd => by
     have hr := (hrun hd).1;rw [ho];rw [ho] at hrn;unfold gS;rw [hrn, hres, ← hr, dy];simp
    clear hfb2;conv=>whnf
    refine ae (fun gr => ?_) (fun gr => ?_)
    ·rw [aaz gr] at hfin;conv=>whnf
     refine ae (fun gd => ?_) (fun gd => ?_)
     ·have gd : dry = false := by simpa using gd
      have h3 := h3 gd _ rfl;have h4 := h4 gd _ rfl;rw [hfin gd] at h3 h4;obtain ⟨rk, _⟩ := zJ hone hk (by omega);obtain ⟨pe, po⟩ := FY hone;conv=>whnf
      refine oS v L s rk ?_;rw [pe];generalize s.sync aS = se at h3 h4 ⊢;obtain ⟨s2, e2⟩ := se;by_cases he : e2 = 0
      ·subst he;have h4 := h4 rfl;conv=>whnf
       exact bB h4
      ·have h3 := h3 he;conv=>whnf
       refine aK (by simpa using he) ?_;conv=>whnf
       exact cw (pA (e2 == 7) v L s2 e2) rfl h3
     ·have gd : dry = true := by simpa using gd
      obtain ⟨hs1, hs2⟩ := hdry gd;have h4 := h2 gd;rw [← hs1, ← hs2] at h4;conv=>whnf
      exact bB h4
    ·have gr : rn = false := by simpa using gr
     have h4 : R (bR false v L s (aA dn) (cJ dn) 0) [] := by
      cases hd : dry with
      | true =>
       obtain ⟨hs1, hs2⟩ := hdry hd;have h4 := h2 hd;rwa [← hs1, ← hs2] at h4
      | false =>
       rw [aap (by rw [gr]; simp)] at hfin;have h4 := h4 hd _ rfl;rw [hfin hd] at h4;exact h4 rfl
     conv=>whnf
     exact bB h4
theorem uH (s : FSt) {f : Fl} (h : s.fs = m1 f) (hb : f.b.length < 100000000 ∧ f.b ≠ []) {R} (hR : R (.val (.bool true)) [fsC s 1, fsM s]) : ag Tryz.prog 30 [.ptr 0 0, .agg (fsR s)] [fsC s 1, fsM s] R := by
 have hk : kys s.fs = [aS] := by rw [h]; rfl
 refine rA s (by rw [h]; show 1 < _; decide) (fun n hn => ?_) (by rw [hk]; simp) (by unfold FSt.names; rw [hk]; simp [fe]) (fun n hn => ?_) (by rw [hk]; decide) hR
 ·rw [hk, aaA] at hn;rw [hn];decide
 ·rw [hk, aaA] at hn;rw [hn, h];exact hb
def rc (s : FSt) : Prop := ∃ f, s.fs = m1 f ∧ f.b ≠ []
theorem GN {s : FSt} {f : Fl} (h : s.fs = m1 f) (hf : f.b ≠ []) (late : Bool) {g : FM → FM} {y : Fl} (hg : g (m1 f) = m1 y) (hy : y.b ≠ []) : rc (s.act late g).1 := by
 unfold FSt.act;rw [h, hg];split
 ·cases late
  ·exact ⟨f, rfl, hf⟩
  ·exact ⟨y, rfl, hy⟩
 ·split
  ·exact ⟨f, rfl, hf⟩
  ·exact ⟨y, rfl, hy⟩
theorem Gk {v : Int} {s : FSt} {L : List Rc} {r : Rc} (h : rc s) : rc (bT v s L r).1 := by
 obtain ⟨f, h, hf⟩ := h;unfold bT FSt.append;split
 ·exact ⟨f, h, hf⟩
 ·exact GN h hf true (y := ⟨f.b ++ cb v L r, f.safe⟩) (by simp [dZ, m1, gF, lk, pt]) (by simp [hf])
theorem Jk {s : FSt} (h : rc s) : rc (s.sync aS).1 := by
 obtain ⟨f, h, hf⟩ := h;unfold FSt.sync;split
 ·exact ⟨f, h, hf⟩
 ·exact GN h hf false (y := ⟨f.b, f.b.length⟩) (by simp [cM, m1, gF, lk, pt]) hf
theorem BF {v : Int} : ∀ (ds : List Dn) (s : FSt) (L : List Rc), rc s → rc (dy v ds s L).1 := by
 intro ds
 induction ds with
 | nil => intro s L h; exact h
 | cons d ds ih =>
  intro s L h;unfold dy;split
  ·split
   ·exact ih _ _ (Gk h)
   ·exact Gk h
  ·exact ih _ _ h
theorem Kh {v : Int} (ds : List Dn) (s : FSt) (L : List Rc) (h : rc s) : rc (gS v ds s L).1 := by
 unfold gS;split
 ·exact Jk (BF ds s L h)
 ·exact BF ds s L h
structure Out where
 s : FSt
 L : List Rc
 e : Int
 ov : Bool
 St : List Sp
 Wy : List Int
def HA (v : Int) (l : List Nd) (L : List Rc) (g : List Sp) (w : U) (s : FSt) : Out :=
 if aV l ≠ 0 then ⟨s, L, aV l, false, [], []⟩
 else if (gS v (bE l (ay L) g (wen v w)) s L).2.2 ≠ 0 then ⟨(gS v (bE l (ay L) g (wen v w)) s L).1, (gS v (bE l (ay L) g (wen v w)) s L).2.1, (gS v (bE l (ay L) g (wen v w)) s L).2.2, (gS v (bE l (ay L) g (wen v w)) s L).2.2 == 7, [], []⟩
 else ⟨(gS v (bE l (ay L) g (wen v w)) s L).1, (gS v (bE l (ay L) g (wen v w)) s L).2.1, 0, false, aA (bE l (ay L) g (wen v w)), cJ (bE l (ay L) g (wen v w))⟩
structure Tb (v : Int) (u : Out) : Prop where
 one : ∃ f, u.s.fs = m1 f ∧ f.b.length < 100000000 ∧ f.b ≠ []
 may : ∀ r ∈ u.L, aR v r = true
 len : u.L.length ≤ 300
 no : u.e ≠ 0 → u.St = []
 st : u.St.length ≤ 64
theorem L6 {v : Int} (hv : is3 v) (l : List Nd) (L : List Rc) (g : List Sp) (w : U) {s : FSt} {nb fb : Nat} (hk : FOk s nb fb) (hfb : fb ≤ 70000000) (h1 : rc s) (hL : L.length ≤ 150) (hm : ∀ r ∈ L, aR v r = true) : Tb v (HA v l L g w s) := by
 have hmay := uM hv l (ay L) g (w := wen v w) (fun e => by rw [wen, aaz e]);have h64 := gc l (ay L) g (wen v w);have hon : ∀ {t : FSt} {a b : Nat}, rc t → FOk t a b → b ≤ 80000000 → ∃ f, t.fs = m1 f ∧ f.b.length < 100000000 ∧ f.b ≠ [] := fun ho hk hb => by
  obtain ⟨f, h1, h2⟩ := ho;have := hk.m.bytes (aS, f) (by rw [h1]; simp [m1]);have this : f.b.length ≤ _ := this;exact ⟨f, h1, by omega, h2⟩
 obtain ⟨r1, r2, r3⟩ := F7 (bE l (ay L) g (wen v w)) s L hk (by omega) hm (fun d hd hr => hmay _ (List.mem_map.2 ⟨d, List.mem_filter.2 ⟨hd, hr⟩, rfl⟩));have f1 : FOk (gS v (bE l (ay L) g (wen v w)) s L).1 (nb + (bE l (ay L) g (wen v w)).length) (fb + 3000 * (bE l (ay L) g (wen v w)).length) ∧ (gS v (bE l (ay L) g (wen v w)) s L).2.1 = (dy v (bE l (ay L) g (wen v w)) s L).2.1 := by
  unfold gS;split
  ·exact ⟨lY r1, rfl⟩
  ·exact ⟨r1, rfl⟩
 have f2 := Kh (v := v) (bE l (ay L) g (wen v w)) s L h1;unfold HA;split
 ·exact ⟨hon h1 hk (by omega), hm, by show L.length ≤ 300; omega, fun _ => rfl, by simp⟩
 ·split
  ·exact ⟨hon f2 f1.1 (by omega), by show ∀ r ∈ (gS _ _ _ _).2.1, _; rw [f1.2]; exact r3, by show (gS _ _ _ _).2.1.length ≤ _; rw [f1.2]; omega, fun _ => rfl, by simp⟩
  ·exact ⟨hon f2 f1.1 (by omega), by show ∀ r ∈ (gS _ _ _ _).2.1, _; rw [f1.2]; exact r3, by show (gS _ _ _ _).2.1.length ≤ _; rw [f1.2]; omega, fun h => absurd rfl h, by show (aA _).length ≤ _; simpa [aA] using h64⟩
theorem KP {v : Int} (hv : is3 v) (l : List Nd) (hl : fI l) (hl2 : l.length ≤ 100) (given : List Sp) (hg : given.length < 1000000) (w : U) (s : FSt) {nb fb : Nat} (hk : FOk s nb fb) (hfb : fb ≤ 70000000) (L : List Rc) (hL : L.length ≤ 150) (hm : ∀ r ∈ L, aR v r = true) {R}
  (h : ∀ u, u = HA v l L given w s → R (.tup [.sl none 3 (sps u.St), vi u.e]) [stO u.ov 1 v u.L, fsC u.s 2, fsM u.s]) : ag Tryz.prog 12 [.ptr 0 0, .sl none 4 (nds l), .sl none 3 (sps given), uv w] [stO false 1 v L, fsC s 2, fsM s] R := by
 have h := h _ rfl;unfold HA at h;refine ag.res (jf hv l hl hl2 given hg w s hk hfb L (by omega) hm (fun hc => ?_) (fun hc f hf he => ?_) (fun hc f hf he => ?_))
 ·rw [aaz hc] at h;exact cw (f9 (leL.cons (cy 3) (leL.refl _))) rfl h
 ·rw [aap (by simpa using hc), ← hf, aaz he] at h;exact cw (f9 (leL.cons (cy 3) (leL.refl _))) rfl h
 ·rw [aap (by simpa using hc), ← hf, aap (by simpa using he)] at h;exact bB h
theorem E0 {v : Int} (hv : is3 v) (l : List Nd) (hl : fI l) (hl2 : l.length ≤ 100) (given : List Sp) (hg : given.length < 1000000) (w : U) (s : FSt) {nb fb : Nat} (hk : FOk s nb fb) (hfb : fb ≤ 70000000) (hone : rc s) (L : List Rc) (hL : L.length ≤ 150) (hm : ∀ r ∈ L, aR v r = true) {R}
  (h : ∀ u, u = HA v l L given w s → R (bR u.ov v u.L u.s u.St u.Wy u.e) []) : ag Tryz.prog 28 [.agg (stR false v L s), .sl none 4 (nds l), .sl none 3 (sps given), uv w, .val (.bool false)] [] R := by
 have h := h _ rfl;unfold HA at h;obtain ⟨f0, hf0, _⟩ := hone;refine pq hv l hl hl2 given hg w s hk hfb ⟨f0, hf0⟩ L hL hm false (fun hc => ?_) (fun _ hd => by cases hd) (fun hc _ f hf he => ?_) (fun hc _ f hf he => ?_)
 ·rwa [aaz hc] at h
 ·rwa [aap (by simpa using hc), ← hf, aaz he] at h
 ·rwa [aap (by simpa using hc), ← hf, aap (by simpa using he)] at h
theorem AA {v : Int} (hv : is3 v) (l : List Nd) (hl : fI l) (hl2 : l.length ≤ 100) (given : List Sp) (hg : given.length < 1000000) (w : U) (s : FSt) {nb fb : Nat} (hk : FOk s nb fb) (hfb : fb ≤ 70000000) (hone : rc s) (L : List Rc) (hL : L.length ≤ 150) (hm : ∀ r ∈ L, aR v r = true) {R}
  (h : R (bR false v L s (aA (bE l (ay L) given (wen v w))) (cJ (bE l (ay L) given (wen v w))) (aV l)) []) : ag Tryz.prog 28 [.agg (stR false v L s), .sl none 4 (nds l), .sl none 3 (sps given), uv w, .val (.bool true)] [] R := by
 obtain ⟨f0, hf0, _⟩ := hone;refine pq hv l hl hl2 given hg w s hk hfb ⟨f0, hf0⟩ L hL hm true (fun hc => ?_) (fun hc _ => ?_) (fun _ hd => by cases hd) (fun _ hd => by cases hd)
 ·rwa [gU hc] at h
 ·rwa [hc] at h
theorem TP (x : Int) : is3 (IntKind.i64.wrap (1 + IntKind.i64.wrap ((IntKind.u64.wrap x).tmod 3))) := by
 rw [gX];obtain ⟨n, hn⟩ := Int.eq_ofNat_of_zero_le (show 0 ≤ x % 18446744073709551616 by omega);rw [hn, show (n : Int).tmod 3 = ((n % 3 : Nat) : Int) from nC n 3, aI (x := ((n % 3 : Nat) : Int)) (by omega) (by omega), aI (by omega) (by omega)];unfold is3;omega
theorem uD (l0 : List Rc) (h0 : l0.length ≤ maxLen) (h0d : ∀ r ∈ l0, r.deps.length ≤ maxLen) (l : List Nd) (g : List Sp) (w : U) (hl : l.length ≤ maxLen) (hn : ∀ n ∈ l, n.deps.length ≤ maxLen) (hg : g.length ≤ maxLen) (a b c : Int) (hb : -9223372036854775808 ≤ b ∧ b < 9223372036854775808) (hc : -9223372036854775808 ≤ c ∧ c < 9223372036854775808) {R} (h : R (.val (.bool true)) []) : ag Tryz.prog 6 [.sl none 7 (be l0), .agg [.sl none 4 (nds l), .sl none 3 (sps g), uv w], .agg [vi a, vi b, vi c]] [] R := by
 refine aa (an := { an6 with anyo := [20], gq := true }) tab_ok Tryz.func6 ?_;conv=>whnf
 refine qn l0 h0 h0d fun q hq0 => ?_
 cases q with
 | true =>
  conv=>whnf
  refine b9 ?_;conv=>whnf
  exact h
 | false =>
 obtain ⟨h30, h60⟩ := hq0 rfl;clear hq0;conv=>whnf
 refine iV l g hl hn hg fun q hq => ?_
 cases q with
 | true =>
  conv=>whnf
  refine b9 ?_;conv=>whnf
  exact h
 | false =>
 obtain ⟨hsm, hl80, hg100⟩ := hq rfl;clear hq;have hv := TP a;conv=>whnf
 generalize IntKind.i64.wrap (1 + IntKind.i64.wrap ((IntKind.u64.wrap a).tmod 3)) = v at hv ⊢;refine nP hv l0 (by omega) (fun r hr => (h60 r hr).1) fun hm hml => ?_;generalize lC v l0 = L at hm hml ⊢;have hk := wj v hm (by omega);have h1 : rc (fsV v L) := ⟨⟨aC v L, 8⟩, rfl, fun e => by
  have e2 := cp v L;rw [show aC v L = [] from e, aaj] at e2;omega⟩
 have hk2 : FOk ⟨(fsV v L).fs, kr b, kr c, false⟩ 1 1000000 := GG (GH hk hb) hc;have h2 : rc ⟨(fsV v L).fs, kr b, kr c, false⟩ := h1;obtain ⟨s, hs⟩ : ∃ s, s = fsV v L := ⟨_, rfl⟩;obtain ⟨s1, hs1⟩ : ∃ s1 : FSt, s1 = ⟨(fsV v L).fs, kr b, kr c, false⟩ := ⟨_, rfl⟩;rw [← hs1] at hk2 h2;rw [← hs] at hk h1 ⊢;conv=>whnf
 refine zc l hsm (by omega) g (by omega) L (by omega) hm s ?_;have hst0 : aA (bE l (ay L) g 0) = aA (bE l (ay L) g (wen v w)) := by rw [bE, bE]; exact tf _ _ _ _ _
 rw [hst0];conv=>whnf
 refine AA hv l hsm (by omega) g (by omega) w s hk (by omega) h1 L (by omega) hm ?_;generalize hD : bE l (ay L) g (wen v w) = D;have hD64 : D.length ≤ 64 := by rw [← hD]; exact gc _ _ _ _
 have hck : ∀ i, i < D.length → aV l = 0 := fun i hi => Classical.byContradiction fun hc => by rw [← hD, gU hc] at hi; cases hi
 obtain ⟨P, hP⟩ : ∃ P, P = aA D := ⟨_, rfl⟩;obtain ⟨Y, hY⟩ : ∃ Y, Y = cJ D := ⟨_, rfl⟩;have hPl : P.length = D.length := by rw [hP]; simp [aA]
 have hYl : Y.length = D.length := by rw [hY]; simp [cJ]
 have hget : ∀ (i : Nat) (hi : i < D.length), P[i]'(by omega) = D[i].step := fun i hi => by subst hP; simp [aA]
 have hgetY : ∀ (i : Nat) (hi : i < D.length), Y[i]'(by omega) = D[i].why := fun i hi => by subst hY; simp [cJ]
 have hmet : ∀ (i : Nat) (hi : i < D.length) (a : Int × Int), a = (bE l (ay L) g 0).foldl (qp D[i].step.name) (0, 6) → a = (D[i].why, 0) := fun i hi a ha => by
  have := GI (ay L) g (wen v w) 0 (hck i hi) D hD i hi;rw [ha, this]
 rw [← hP, ← hY];have hsl : (sps P).length = P.length := bA P;conv=>whnf
 refine ak (by simp) ?_;conv=>whnf
 refine pD P P (by omega) fun p hp => ?_;have hp : p = true := hp.2 rfl;subst hp;rw [eH P] at hsl ⊢;conv=>whnf
 refine aq.ind1 (fun (i : Nat) => [(81, vi i)]) (fun _ => [(al 10, .cells 58 (stR false v L s)), (ar 40 0, fsC s (ar 40 1)), (ar 40 1, fsM s), (ar 40 2, stO false (ar 40 0) v L)]) (fun i => P.length - i) (fun i => i ≤ P.length) 0 rfl (aby _) ?_;rintro i hi IH;conv=>whnf
 refine ae (fun hc => ?_) (fun hc => ?_)
 ·have hc := ap hsl hc;have hgi := hget i (by omega);have hyi := hgetY i (by omega);have hmi := hmet i (by omega)
  (conv=>whnf); (repeat ((with_reducible refine ac ?_ ?_); exact aaa (by omega); (conv=>whnf)))
  refine idxNat (by simpa using hc) ?_;rw [hgi];generalize hd : D[i]'(by omega) = d at hmi hyi ⊢;conv=>whnf
  refine qY l hsm (by omega) g (by omega) L (by omega) hm s d.step.name (fun hcn => absurd (hck i (by omega)) hcn) (fun _ a ha => ?_);rw [hmi a ha]
  (conv=>whnf); (repeat ((with_reducible refine ac ?_ ?_); exact aaa (by omega); (conv=>whnf)))
  refine ab (show (i : Int).toNat < Y.length by simpa using (show i < Y.length by omega)) ?_;rw [show Y[(i : Int).toNat]'(by simpa using (show i < Y.length by omega)) = Y[i]'(by omega) from by congr 1, hyi];conv=>whnf
  refine ak (by simp) ?_;conv=>whnf
  rw [am (by omega)];exact IH (i + 1) (by omega) (by omega)
 ·clear IH hi hc;subst hs hs1;conv=>whnf
  refine FP _ b ?_;conv=>whnf
  refine lP _ c ?_;conv=>whnf
  repeat' first | exact trivial | apply And.intro | ((fail_if_success (with_reducible refine (show ag _ _ _ _ _ from ?_))); (conv=>whnf))
  all_goals
   refine KP hv l hsm (by omega) g (by omega) w ⟨(fsV v L).fs, kr b, kr c, false⟩ hk2 (by omega) L (by omega) hm fun u hu => ?_;have hok := L6 hv l L g w hk2 (by omega) h2 (by omega) hm;rw [← hu] at hok;obtain ⟨s2, L2, e, ov, St, Wy⟩ := u;obtain ⟨⟨f, o1, o2, o3⟩, o4, o5, o6, o7⟩ := hok;simp only at o1 o4 o5 o6 o7;conv=>whnf
   refine E0 hv l hsm (by omega) g (by omega) w ⟨(fsV v L).fs, kr b, kr c, false⟩ hk2 (by omega) h2 L (by omega) hm fun u hu2 => ?_;rw [← hu] at hu2;subst hu2;clear hu;have hL2d : ∀ r ∈ L2, r.deps.length < 1000000 := fun r hr => by have := (aT (o4 r hr)).deps; omega
   conv=>whnf
   refine ak (by simp) ?_;conv=>whnf
   by_cases he : e = 0
   ·subst he;conv=>whnf
    refine pD St St (by omega) fun p hp => ?_;have hp : p = true := hp.2 rfl;subst hp;conv=>whnf
    refine b9 ?_;conv=>whnf
    refine uH s2 o1 ⟨o2, o3⟩ ?_;conv=>whnf
    refine bV ov v L2 (by omega) hL2d s2 ?_;conv=>whnf
    refine iH L2 L2 (by omega) hL2d fun p hp => ?_;have hp : p = true := by rw [hp]; exact aaa rfl
    subst hp;conv=>whnf
    refine oh ov v L2 s2 ?_;conv=>whnf
    rw [show (ov == ov) = true from by simp];exact h
   ·have hst := o6 he;subst hst;conv=>whnf
    refine ak (by simpa using he) ?_;conv=>whnf
    refine aK (by simpa using he) ?_;conv=>whnf
    refine b9 ?_;conv=>whnf
    refine uH s2 o1 ⟨o2, o3⟩ ?_;conv=>whnf
    refine bV ov v L2 (by omega) hL2d s2 ?_;conv=>whnf
    refine iH L2 L2 (by omega) hL2d fun p hp => ?_;have hp : p = true := by rw [hp]; exact aaa rfl
    subst hp;conv=>whnf
    refine oh ov v L2 s2 ?_;conv=>whnf
    rw [show (ov == ov) = true from by simp];exact h
theorem Bj {x : List AV} (h : cv tab 12 82 x) : ∃ a b c : Int, x = [vi a, vi b, vi c] ∧ (-9223372036854775808 ≤ b ∧ b < 9223372036854775808) ∧ (-9223372036854775808 ≤ c ∧ c < 9223372036854775808) := by
 have h : mM (cv tab 11) [3, 3, 3] x := h;have k : ∀ z : List AV, cv tab 11 3 z → ∃ a : Int, z = [vi a] ∧ (-9223372036854775808 ≤ a ∧ a < 9223372036854775808) := fun z hz => by
  obtain ⟨x, e, hx⟩ : ∃ x, z = [.val (.int .i64 x)] ∧ (Lit.int .i64 x).wf = true := hz;simp only [Lit.wf, aaq, aa0] at hx;have e1 : IntKind.i64.min = -9223372036854775808 := rfl;have e2 : IntKind.i64.max = 9223372036854775807 := rfl;rw [e1, e2] at hx;exact ⟨x, e, hx.1, by omega⟩
 obtain ⟨p, q, rfl, h1, r, s, rfl, h2, t, u, rfl, h3, rfl⟩ := h;obtain ⟨a, rfl, ha⟩ := k p h1;obtain ⟨b, rfl, hb⟩ := k r h2;obtain ⟨c, rfl, hc⟩ := k t h3;exact ⟨a, b, c, rfl, hb, hc⟩
theorem BuildRuns_row (l : List AV) (h : fO tab 12 [46, 35, 82] l) : ag Tryz.prog 6 l [] fun r _ => r = .val (.bool true) := by
 obtain ⟨r0, l3, rfl, hr, hrd, h1⟩ := zd h;obtain ⟨v, l4, rfl, ⟨x, rfl, hx⟩, h2⟩ := h1;obtain ⟨m, g, w, rfl, hl, hn, hg⟩ := lX (n := 6) hx;obtain ⟨v, l5, rfl, ⟨y, rfl, hy⟩, h3⟩ := h2;obtain ⟨a, b, c, rfl, hb, hc⟩ := Bj hy;obtain rfl := sx h3;exact uD r0 hr hrd m g w hl hn hg a b c hb hc rfl
end Go.Abs
end
