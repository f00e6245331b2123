/- Several texts of this claim, one behind the other: N9, P2, P3, P4, P5, P6, P7, P8, NC, NA, P9, PA, PB, PD, PC. -/
import Derived.Test.YtnjeogcgfoabhaaGreatYBuildRuns2
import Derived.Test.YtnjeogcgfoabhaaGreatE0BA
set_option maxRecDepth 100000
set_option maxHeartbeats 4000000
set_option linter.unusedVariables false
set_option linter.unusedSimpArgs false
section
namespace Go.Abs
open Go Go.Proofs Dig
attribute [local irreducible] aH aD aO firstIdx
theorem Ca {s : B} : ∀ {l : List B} (i : Nat), s ∈ l → cD (gl l i) (ofB s) = some (vi ((i + l.idxOf s : Nat) : Int)) := by
 intro l
 induction l with
 | nil => intro i h; cases h
 | cons a l ih =>
  intro i h;simp only [gl, cD];by_cases e : a = s
  ·subst e; rw [aaz rfl, List.idxOf_cons_self]; rfl
  ·have hx : (a :: l).idxOf s = l.idxOf s + 1 := by
    rw [List.idxOf_cons, show (a == s) = false from beq_eq_false_iff_ne.2 e];rfl
   rw [aap (fun e' => e (bZ e')), ih (i + 1) ((List.mem_cons.1 h).elim (fun x => absurd x.symm e) id), hx];congr 3;omega
theorem oO (l : List B) (s : B) (hs : s ∈ l) (hl : l.length < 1000000) {R} (h : R (.tup [.val (.int .u64 ((l.idxOf s : Nat) : Int)), .val (.bool true)]) [bL 1 2 l, bK l, bJ l]) : ag Tryz.prog 244 [.ptr 0 0, vs s] [bL 1 2 l, bK l, bJ l] R := by
 refine aa (an := Rv) tab_ok Tryz.func244 ?_;have hj := Ca 0 hs;rw [aaS] at hj;have hi := aa6 (a := s) (l := l);have ew : IntKind.u64.wrap ((l.idxOf s : Nat) : Int) = ((l.idxOf s : Nat) : Int) := by
  show ((l.idxOf s : Nat) : Int) % 18446744073709551616 = _;omega
 conv=>whnf
 rw [hj];conv=>whnf
 rw [ew];exact h
theorem oN (l : List B) (i : Nat) (hi : i < l.length) (hl : l.length < 1000000) {R} (h : R (.tup [vs l[i], .val (.bool true)]) [bL 1 2 l, bK l, bJ l]) : ag Tryz.prog 204 [.ptr 0 0, .val (.int .u64 (i : Int))] [bL 1 2 l, bK l, bJ l] R := by
 refine aa (an := RU) tab_ok Tryz.func204 ?_;have hsl := aF l;have ew : IntKind.u64.wrap (((bj l).length : Nat) : Int) = ((l.length : Nat) : Int) := by
  rw [hsl];show ((l.length : Nat) : Int) % 18446744073709551616 = _;omega
 conv=>whnf
 refine ak (by rw [ew]; exact aai (by omega)) ?_
 (conv=>whnf); (repeat ((with_reducible refine ac ?_ ?_); exact aaa (by omega); (conv=>whnf)))
 refine idxNat (by simpa using hi) ?_;conv=>whnf
 exact h
theorem iv {R} (h : R (.ptr 1 0) [dg, dg]) : ag Tryz.prog 214 [.ptr 0 0] [dg] R := by
 refine aa (an := NB) tab_ok Tryz.func214 ?_;conv=>whnf
 refine ol ?_;conv=>whnf
 exact h
theorem jg (l : List B) (h0 : l ≠ []) (hn : l.Nodup) (hl : l.length < 100000) {R} (h : R (.ptr 3 0) [bL 1 2 l, bK l, bJ l, bL 4 5 l, bK l, bJ l]) : ag Tryz.prog 214 [.ptr 0 0] [bL 1 2 l, bK l, bJ l] R := by
 refine aa (an := NB) tab_ok Tryz.func214 ?_;have hs := G9 hn;obtain ⟨a, m, rfl⟩ := abr h0;conv=>whnf
 refine li a m (by simp at hl; omega) fun q hq => ?_;rw [hs] at hq;subst hq;conv=>whnf
 exact h
theorem tI (r : Rc) (i : Nat) (hi : i < r.deps.length) : (r.target :: (r.deps.take i).map (·.name)) ++ [r.deps[i].name] = r.target :: (r.deps.take (i + 1)).map (·.name) := by
 rw [aab hi, aaG];rfl
theorem xX {l : List B} {i : Nat} (hi : i < l.length) : bj (l.take i) ++ [[vs l[i]]] = bj (l.take (i + 1)) := by
 rw [aab hi, dv];rfl
theorem kK (r : Rc) (hd : r.deps.length < 50000) {R} (h : R (.sl none 1 (bj (bf r))) []) : ag Tryz.prog 158 [.agg r.enc] [] R := by
 refine aa (an := Sm) tab_ok Tryz.func158 ?_;have hsl := bD r.deps;have hml := dm r;have hN : bf r = mS (bI r) := rfl;generalize bf r = m at h hml hN;conv=>whnf
 refine aq.ind1 (fun (i : Nat) => [(3, .sl (some (al 13)) 1 (bj (r.target :: (r.deps.take i).map (·.name)))), (17, vi i)]) (fun i => [(al 13, .row 9 1 (i + 1))]) (fun i => r.deps.length - i) (fun i => i ≤ r.deps.length) 0 rfl (by omega) ?_;rintro i h0 IH;have hnl : (bj (r.target :: (r.deps.take i).map (·.name))).length = i + 1 := by rw [aF]; simp; omega
 conv=>whnf
 refine ae (fun hc => ?_) (fun hc => ?_)
 ·have hc := ap hsl hc;have IH := IH (i + 1) hc (by omega);have e1 : bj (r.target :: (r.deps.take i).map (·.name)) ++ [[vs r.deps[i].name]] = bj (r.target :: (r.deps.take (i + 1)).map (·.name)) := by rw [← tI r i hc, dv]; rfl
  rw [← e1] at IH
  (conv=>whnf); (repeat ((with_reducible refine ac ?_ ?_); exact aaa (by omega); (conv=>whnf)))
  refine idxNat (by simpa using hc) ?_;generalize r.deps[i] = d at IH e1 ⊢;conv=>whnf
  refine ⟨hnl.symm, by rw [hnl, cg]; simp; omega, ?_⟩;conv=>whnf
  rw [am (by omega), hnl];exact IH
 ·have hc := au hsl hc;have e : i = r.deps.length := by omega
  subst e;rw [aax] at hnl ⊢;have hdl : (r.deps.map (·.name)).length = r.deps.length := by simp
  conv=>whnf
  refine ae (fun g => ?_) (fun g => ?_)
  ·have g : r.tag ≠ [] := by
    have g : (!decide (ofB r.tag = ofB [])) = true := g;intro e;rw [e] at g;simp at g
   have hT : bI r = r.target :: (r.deps.map (·.name) ++ [r.tag]) := by simp [bI, g]
   have e1 : bj (r.target :: r.deps.map (·.name)) ++ [[vs r.tag]] = bj (r.target :: (r.deps.map (·.name) ++ [r.tag])) := by
    rw [← aav, dv]; rfl
   conv=>whnf
   refine ⟨hnl.symm, by rw [hnl, cg]; simp; omega, ?_⟩;conv=>whnf
   refine (show ag Tryz.prog 116 [.sl none 1 (bj (r.target :: r.deps.map (·.name)) ++ [[vs r.tag]])] [] _ from ?_);rw [e1];refine li r.target _ (by simp; omega) fun q hq => ?_;rw [← hT, ← hN] at hq;rw [hq];clear hq;conv=>whnf
   refine uS m ?_;conv=>whnf
   have hml2 := aF m;refine aq.ind1 (fun (i : Nat) => [(7, .sl (some (al 7)) 1 (bj (m.take i))), (39, vi i)]) (fun i => [(al 7, .row 9 1 i), (ar 36 0, bL (ar 36 1) (ar 36 2) m), (ar 36 1, bK m), (ar 36 2, bJ m)]) (fun i => m.length - i) (fun i => i ≤ m.length) 0 rfl (by omega) ?_;rintro i h0 IH;have htl : (bj (m.take i)).length = i := by rw [aF, aan]; omega
   conv=>whnf
   refine ae (fun hc => ?_) (fun hc => ?_)
   ·have hc := gL hc;have ew : IntKind.u64.wrap (i : Int) = (i : Int) := by
     show (i : Int) % 18446744073709551616 = _;omega
    have IH := IH (i + 1) hc (by omega);rw [← xX hc] at IH;conv=>whnf
    rw [ew];refine oN m i hc (by omega) ?_;conv=>whnf
    refine ⟨htl.symm, by rw [htl, cg]; simp; omega, ?_⟩;conv=>whnf
    rw [am (by omega), htl];exact IH
   ·have hc := gP hc;have e : i = m.length := by omega
    subst e;rw [aax];conv=>whnf
    exact h
  ·have g : r.tag = [] := by
    have g : (!decide (ofB r.tag = ofB [])) = false := g;have g : ofB r.tag = ofB [] := by simpa using g
    exact bZ g
   have hT : bI r = r.target :: r.deps.map (·.name) := by simp [bI, g]
   conv=>whnf
   refine li r.target _ (by omega) fun q hq => ?_;rw [← hT, ← hN] at hq;rw [hq];clear hq;conv=>whnf
   refine uS m ?_;conv=>whnf
   have hml2 := aF m;refine aq.ind1 (fun (i : Nat) => [(7, .sl (some (al 7)) 1 (bj (m.take i))), (39, vi i)]) (fun i => [(al 7, .row 9 1 i), (ar 36 0, bL (ar 36 1) (ar 36 2) m), (ar 36 1, bK m), (ar 36 2, bJ m)]) (fun i => m.length - i) (fun i => i ≤ m.length) 0 rfl (by omega) ?_;rintro i h0 IH;have htl : (bj (m.take i)).length = i := by rw [aF, aan]; omega
   conv=>whnf
   refine ae (fun hc => ?_) (fun hc => ?_)
   ·have hc := gL hc;have ew : IntKind.u64.wrap (i : Int) = (i : Int) := by
     show (i : Int) % 18446744073709551616 = _;omega
    have IH := IH (i + 1) hc (by omega);rw [← xX hc] at IH;conv=>whnf
    rw [ew];refine oN m i hc (by omega) ?_;conv=>whnf
    refine ⟨htl.symm, by rw [htl, cg]; simp; omega, ?_⟩;conv=>whnf
    rw [am (by omega), htl];exact IH
   ·have hc := gP hc;have e : i = m.length := by omega
    subst e;rw [aax];conv=>whnf
    exact h
def wO (b : B) (t : AV) : aE := .cells 228 [.sl none 1 (ai b), t]
abbrev un (n : Nat) : AV := .val (.int .u64 (n : Int))
theorem rM (b : B) (n : Nat) (hn : n < 18446744073709551616) (hb : b.length < 10000000) {R} (h : R (.tup []) [wO (b ++ vrn n) (.ptr 1 0), dg]) : ag Tryz.prog 207 [.ptr 0 0, un n] [wO b (.ptr 1 0), dg] R := by
 refine aa (an := NC) tab_ok Tryz.func207 ?_;conv=>whnf
 refine tF b n hn hb ?_;conv=>whnf
 exact h
theorem fg (b : B) (l : List B) (n : Nat) (hn : n < 18446744073709551616) (hb : b.length < 10000000) {R} (h : R (.tup []) [wO (b ++ vrn n) (.ptr 1 0), bL 2 3 l, bK l, bJ l]) : ag Tryz.prog 207 [.ptr 0 0, un n] [wO b (.ptr 1 0), bL 2 3 l, bK l, bJ l] R := by
 refine aa (an := NC) tab_ok Tryz.func207 ?_;conv=>whnf
 refine tF b n hn hb ?_;conv=>whnf
 exact h
theorem Fi (b s : B) (hb : b.length < 1000000) (hs : s.length < 10000000) {R} (h : R (.tup []) [wO (b ++ a8 s) (.ptr 1 0), dg]) : ag Tryz.prog 206 [.ptr 0 0, vs s] [wO b (.ptr 1 0), dg] R := by
 refine aa (an := RS) tab_ok Tryz.func206 ?_;conv=>whnf
 refine wT b s hb hs ?_;conv=>whnf
 exact h
theorem rT (b : B) (l : List B) (s : B) (hs : s ∈ l) (hl : l.length < 1000000) (hb : b.length < 10000000) {R} (h : R (.tup []) [wO (b ++ vrn (l.idxOf s)) (.ptr 1 0), bL 2 3 l, bK l, bJ l]) : ag Tryz.prog 205 [.ptr 0 0, vs s] [wO b (.ptr 1 0), bL 2 3 l, bK l, bJ l] R := by
 refine aa (an := RT) tab_ok Tryz.func205 ?_;have hi := aa6 (a := s) (l := l);conv=>whnf
 refine oO l s hs hl ?_;conv=>whnf
 refine fg b l (l.idxOf s) (by omega) hb ?_;conv=>whnf
 exact h
theorem Qg (b : B) (l : List B) (s : B) (hs : s ≠ [] → s ∈ l) (hl : l.length < 1000000) (hb : b.length < 10000000) {R} (h : R (.tup []) [wO (b ++ kH l s) (.ptr 1 0), bL 2 3 l, bK l, bJ l]) : ag Tryz.prog 209 [.ptr 0 0, vs s] [wO b (.ptr 1 0), bL 2 3 l, bK l, bJ l] R := by
 refine aa (an := RR) tab_ok Tryz.func209 ?_;have hi := aa6 (a := s) (l := l);conv=>whnf
 refine ae (fun g => ?_) (fun g => ?_)
 ·have g : s = [] := by
   have g : ofB s = ofB [] := aal g;exact bZ g
  rw [show kH l s = vrn 0 by simp [kH, g]] at h;conv=>whnf
  refine fg b l 0 (by omega) hb ?_;conv=>whnf
  exact h
 ·have g : s ≠ [] := by
   have g : ¬ ofB s = ofB [] := aat g;exact fun e => g (by rw [e])
  rw [show kH l s = vrn (l.idxOf s + 1) by simp [kH, g]] at h;have ew : IntKind.u64.wrap (((l.idxOf s : Nat) : Int) + 1) = ((l.idxOf s + 1 : Nat) : Int) := by
   show (((l.idxOf s : Nat) : Int) + 1) % 18446744073709551616 = _;omega
  conv=>whnf
  refine oO l s (hs g) hl ?_;conv=>whnf
  rw [ew];refine fg b l (l.idxOf s + 1) (by omega) hb ?_;conv=>whnf
  exact h
theorem QM (b : B) (d : Dp) (hb : b.length < 1000000) (hs : d.name.length < 10000000) {R} (h : R (.tup []) [wO (b ++ a8 d.name) (.ptr 1 0), dg]) : ag Tryz.prog 208 [.ptr 0 0, vi 1, .agg d.enc, .fn (.func 206) [.ptr 0 0] []] [wO b (.ptr 1 0), dg] R := by
 refine aa (an := K2) tab_ok Tryz.func208 ?_;conv=>whnf
 refine Fi b d.name hb hs ?_;conv=>whnf
 exact h
theorem QL (b : B) (l : List B) (d : Dp) (hs : d.name ∈ l) (hl : l.length < 1000000) (hb : b.length < 1000000) {R} (h : R (.tup []) [wO (b ++ vrn (l.idxOf d.name)) (.ptr 1 0), bL 2 3 l, bK l, bJ l]) : ag Tryz.prog 208 [.ptr 0 0, vi 2, .agg d.enc, .fn (.func 205) [.ptr 0 0] []] [wO b (.ptr 1 0), bL 2 3 l, bK l, bJ l] R := by
 refine aa (an := K2) tab_ok Tryz.func208 ?_;conv=>whnf
 refine rT b l d.name hs hl (by omega) ?_;conv=>whnf
 exact h
theorem QK (b : B) (l : List B) (d : Dp) (hs : d.name ∈ l) (hl : l.length < 1000000) (hb : b.length < 1000000) {R} (h : R (.tup []) [wO (b ++ vrn (eQ l d)) (.ptr 1 0), bL 2 3 l, bK l, bJ l]) : ag Tryz.prog 208 [.ptr 0 0, vi 3, .agg d.enc, .fn (.func 205) [.ptr 0 0] []] [wO b (.ptr 1 0), bL 2 3 l, bK l, bJ l] R := by
 refine aa (an := K2) tab_ok Tryz.func208 ?_;have hi := aa6 (a := d.name) (l := l);have ew : IntKind.u64.wrap (((l.idxOf d.name : Nat) : Int) * 2) = ((2 * l.idxOf d.name : Nat) : Int) := by
  show (((l.idxOf d.name : Nat) : Int) * 2) % 18446744073709551616 = _;omega
 have ew2 : IntKind.u64.wrap (((2 * l.idxOf d.name : Nat) : Int) + 1) = ((2 * l.idxOf d.name + 1 : Nat) : Int) := by
  show (((2 * l.idxOf d.name : Nat) : Int) + 1) % 18446744073709551616 = _;omega
 conv=>whnf
 refine oO l d.name hs hl ?_;conv=>whnf
 rw [ew];refine ae (fun g => ?_) (fun g => ?_)
 ·rw [show eQ l d = 2 * l.idxOf d.name + 1 by simp [eQ, g]] at h;conv=>whnf
  rw [ew2];refine fg b l (2 * l.idxOf d.name + 1) (by omega) (by omega) ?_;conv=>whnf
  exact h
 ·rw [show eQ l d = 2 * l.idxOf d.name by simp [eQ, g]] at h;conv=>whnf
  refine fg b l (2 * l.idxOf d.name) (by omega) (by omega) ?_;conv=>whnf
  exact h
def wN (t : AV) : aE := .cells 228 [.val (.slice none 0 0), t]
theorem fm {v : Int} {t : List B} {l : List Dp} {i : Nat} (hi : i < l.length) : bX v t (l.take (i + 1)) = bX v t (l.take i) ++ lT v t l[i] := by
 unfold bX;rw [aab hi, aaG, abL];simp
theorem gB {v : Int} {t : List B} {r : Rc} (hm : kF v r) (ht : t.length < 1000000) (i : Nat) : (bX v t (r.deps.take i)).length ≤ 1200 := by
 have h1 := yW (v := v) (t := t) (l := r.deps.take i) ht fun d hd => (hm.names d (aaU hd)).2;have h2 := hm.deps;rw [aan] at h1;omega
def dp (v : Int) (t : List B) (r : Rc) : B := 1 :: (cX v t r.target ++ vrn r.rule.toNat ++ vrn r.deps.length)
theorem gx {v : Int} {t : List B} {r : Rc} (hm : kF v r) (ht : t.length < 1000000) : (dp v t r).length ≤ 90 := by
 unfold dp;have h1 := fY (v := v) (t := t) hm.t2 ht;have h2 := df r.rule;have h3 : (vrn r.deps.length).length ≤ 10 := ct (by have := hm.deps; omega);simp only [aag, aac];omega
theorem eW {v : Int} {t : List B} {r : Rc} (hk : r.kind = 1) : bO v t r = dp v t r ++ bX v t r.deps ++ lS v t r := by
 unfold bO dp;rw [aap (by rw [hk]; decide)];simp
theorem gu {v : Int} {t : List B} {r : Rc} (hk : r.kind = 2) : bO v t r = 2 :: cX v t r.target := by
 unfold bO;rw [aaz hk]
theorem pP {r : Rc} (h : r.deps.length ≤ 16) : IntKind.u64.wrap (((dO r.deps).length : Nat) : Int) = ((r.deps.length : Nat) : Int) := by
 rw [bD];show ((r.deps.length : Nat) : Int) % 18446744073709551616 = _;omega
theorem gw {r : Rc} (h : r = qc r) : r.kind = 2 := by rw [h]; rfl
theorem Oy (r : Rc) (hm : kF 1 r) {R} (h : R (.sl none 1 (ai (bO 1 [] r))) [wO (bO 1 [] r) (.ptr 1 0), dg]) : ag Tryz.prog 160 [.ptr 0 0, vi 1, .agg r.enc] [wN (.ptr 1 0), dg] R := by
 have hk := hm.kind.imp id gw;have ht : ([] : List B).length < 1000000 := by simp
 have hF := gx (v := 1) (t := []) hm ht;have hD := gB (v := 1) (t := []) hm ht;have hsl := bD r.deps;have hlu := pP hm.deps;have hd16 := hm.deps;have hbl := tr hm.t2;have h2 := df r.rule;have ho := df r.out;have htx : cX 1 [] r.target = a8 r.target := by simp [cX]
 have hnm := hm.names;have ht2 := hm.t2;refine aa (an := K5) tab_ok Tryz.func160 ?_;rcases hk with hk | hk
 ·have e1 := eW (v := 1) (t := []) hk;have eF : dp 1 [] r = [1] ++ a8 r.target ++ vrn r.rule.toNat ++ vrn r.deps.length := by unfold dp; rw [htx]; simp
  have eE : lS 1 [] r = vrn r.out.toNat := by simp [lS]
  rw [e1, eE] at h;obtain ⟨k, tg, ru, ds, ou, we, ta⟩ := r;dsimp only at hk hF hD hsl hlu hd16 hbl h2 ho hnm ht2 h htx eF;subst hk;conv=>whnf
  refine Fi [1] tg (by simp) (by omega) ?_;conv=>whnf
  refine rM ([1] ++ a8 tg) ru.toNat ru.isLt (by simp; omega) ?_;conv=>whnf
  rw [hlu];refine rM ([1] ++ a8 tg ++ vrn ru.toNat) ds.length (by omega) (by simp at h2 ⊢; omega) ?_;rw [← eF];generalize dp 1 [] (Rc.mk 1 tg ru ds ou we ta) = F at h hF eF ⊢;conv=>whnf
  refine aq.ind2 (fun (i : Nat) (b : B) => [(47, vi i)]) (fun i b => [(0, wO b (.ptr 1 0)), (1, dg)]) (fun i _ => ds.length - i) (fun i b => i ≤ ds.length ∧ b = F ++ bX 1 [] (ds.take i)) 0 F rfl ⟨by omega, by simp [bX]⟩ ?_;rintro i X ⟨h0, hX⟩ IH;have hDi : X.length ≤ 1300 := by have := hD i; rw [hX, aac]; omega
  conv=>whnf
  refine ae (fun hc => ?_) (fun hc => ?_)
  ·have hc := ap hsl hc;have hn := hnm ds[i] (aaf hc);have eS : X ++ a8 ds[i].name ++ vrn ds[i].hash.toNat = F ++ bX 1 [] (ds.take (i + 1)) := by
    rw [fm hc, hX];simp [lT, cX]
   have IH := IH (i + 1) _ ⟨hc, eS⟩ (by omega);have hbl2 := tr hn.2
   (conv=>whnf); (repeat ((with_reducible refine ac ?_ ?_); exact aaa (by omega); (conv=>whnf)))
   refine idxNat (by simpa using hc) ?_;generalize ds[i] = d at IH hn hbl2 eS ⊢;clear hX eS;conv=>whnf
   refine QM X d (by omega) (by omega) ?_;conv=>whnf
   refine rM (X ++ a8 d.name) d.hash.toNat d.hash.isLt (by rw [aac]; omega) ?_;conv=>whnf
   rw [am (by omega)];exact IH
  ·have hc := au hsl hc;have e : i = ds.length := by omega
   subst e;rw [aax] at hX;rw [← hX] at h;clear hX;conv=>whnf
   refine rM X ou.toNat ou.isLt (by omega) ?_;conv=>whnf
   exact h
 ·have e1 := gu (v := 1) (t := []) hk;rw [e1, htx] at h;obtain ⟨k, tg, ru, ds, ou, we, ta⟩ := r;dsimp only at hk hbl ht2 h;subst hk;conv=>whnf
  refine Fi [2] tg (by simp) (by omega) ?_;conv=>whnf
  exact h
theorem JW (r : Rc) (l : List B) (hm : kF 2 r) (hl : l.length < 100000) (ht : r.target ∈ l) (hds : ∀ d ∈ r.deps, d.name ∈ l) (htg : r.tag ≠ [] → r.tag ∈ l) {R} (h : R (.sl none 1 (ai (bO 2 l r))) [wO (bO 2 l r) (.ptr 1 0), bL 2 3 l, bK l, bJ l]) : ag Tryz.prog 160 [.ptr 0 0, vi 2, .agg r.enc] [wN (.ptr 1 0), bL 2 3 l, bK l, bJ l] R := by
 have hk := hm.kind.imp id gw;have hF := gx (v := 2) (t := l) hm (by omega);have hD := gB (v := 2) (t := l) hm (by omega);have hsl := bD r.deps;have hlu := pP hm.deps;have hd16 := hm.deps;have hbl : (vrn (l.idxOf r.target)).length ≤ 10 := ct (by have := aa6 (a := r.target) (l := l); omega);have h2 := df r.rule;have ho := df r.out;have hw := df r.wen;have htx : cX 2 l r.target = vrn (l.idxOf r.target) := by simp [cX]
 have hnm := hm.names;have ht2 := hm.t2;refine aa (an := K5) tab_ok Tryz.func160 ?_;rcases hk with hk | hk
 ·have e1 := eW (v := 2) (t := l) hk;have eF : dp 2 l r = [1] ++ vrn (l.idxOf r.target) ++ vrn r.rule.toNat ++ vrn r.deps.length := by unfold dp; rw [htx]; simp
  have eE : lS 2 l r = vrn r.out.toNat ++ vrn r.wen.toNat := by simp [lS]
  rw [e1, eE] at h;obtain ⟨k, tg, ru, ds, ou, we, ta⟩ := r;dsimp only at hk hF hD hsl hlu hd16 hbl h2 ho hw hnm ht2 h htx eF ht hds htg;subst hk;conv=>whnf
  refine rT [1] l tg ht (by omega) (by simp) ?_;conv=>whnf
  refine fg ([1] ++ vrn (l.idxOf tg)) l ru.toNat ru.isLt (by simp; omega) ?_;conv=>whnf
  rw [hlu];refine fg ([1] ++ vrn (l.idxOf tg) ++ vrn ru.toNat) l ds.length (by omega) (by simp at h2 ⊢; omega) ?_;rw [← eF];generalize dp 2 l (Rc.mk 1 tg ru ds ou we ta) = F at h hF eF ⊢;conv=>whnf
  refine aq.ind2 (fun (i : Nat) (b : B) => [(47, vi i)]) (fun i b => [(0, wO b (.ptr 1 0)), (1, bL 2 3 l), (2, bK l), (3, bJ l)]) (fun i _ => ds.length - i) (fun i b => i ≤ ds.length ∧ b = F ++ bX 2 l (ds.take i)) 0 F rfl ⟨by omega, by simp [bX]⟩ ?_;rintro i X ⟨h0, hX⟩ IH;have hDi : X.length ≤ 1300 := by have := hD i; rw [hX, aac]; omega
  conv=>whnf
  refine ae (fun hc => ?_) (fun hc => ?_)
  ·have hc := ap hsl hc;have hn := hnm ds[i] (aaf hc);have hin := hds ds[i] (aaf hc);have hdl : (vrn (l.idxOf ds[i].name)).length ≤ 10 := ct (by have := aa6 (a := ds[i].name) (l := l); omega);have eS : X ++ vrn (l.idxOf ds[i].name) ++ vrn ds[i].hash.toNat = F ++ bX 2 l (ds.take (i + 1)) := by
    rw [fm hc, hX];simp [lT, cX]
   have IH := IH (i + 1) _ ⟨hc, eS⟩ (by omega)
   (conv=>whnf); (repeat ((with_reducible refine ac ?_ ?_); exact aaa (by omega); (conv=>whnf)))
   refine idxNat (by simpa using hc) ?_;generalize ds[i] = d at IH hn hin hdl eS ⊢;clear hX eS;conv=>whnf
   refine QL X l d hin (by omega) (by omega) ?_;conv=>whnf
   refine fg (X ++ vrn (l.idxOf d.name)) l d.hash.toNat d.hash.isLt (by rw [aac]; omega) ?_;conv=>whnf
   rw [am (by omega)];exact IH
  ·have hc := au hsl hc;have e : i = ds.length := by omega
   subst e;rw [aax] at hX;rw [← hX] at h;clear hX;simp only [← aak] at h;conv=>whnf
   refine fg X l ou.toNat ou.isLt (by omega) ?_;conv=>whnf
   refine fg (X ++ vrn ou.toNat) l we.toNat we.isLt (by rw [aac]; omega) ?_;conv=>whnf
   exact h
 ·have e1 := gu (v := 2) (t := l) hk;rw [e1, htx] at h;obtain ⟨k, tg, ru, ds, ou, we, ta⟩ := r;dsimp only at hk hbl ht2 h ht;subst hk;conv=>whnf
  refine rT [2] l tg ht (by omega) (by simp) ?_;conv=>whnf
  exact h
theorem JV (r : Rc) (l : List B) (hm : kF 3 r) (hl : l.length < 100000) (ht : r.target ∈ l) (hds : ∀ d ∈ r.deps, d.name ∈ l) (htg : r.tag ≠ [] → r.tag ∈ l) {R} (h : R (.sl none 1 (ai (bO 3 l r))) [wO (bO 3 l r) (.ptr 1 0), bL 2 3 l, bK l, bJ l]) : ag Tryz.prog 160 [.ptr 0 0, vi 3, .agg r.enc] [wN (.ptr 1 0), bL 2 3 l, bK l, bJ l] R := by
 have hk := hm.kind.imp id gw;have hF := gx (v := 3) (t := l) hm (by omega);have hD := gB (v := 3) (t := l) hm (by omega);have hsl := bD r.deps;have hlu := pP hm.deps;have hd16 := hm.deps;have hbl : (vrn (l.idxOf r.target)).length ≤ 10 := ct (by have := aa6 (a := r.target) (l := l); omega);have h2 := df r.rule;have ho := df r.out;have hw := df r.wen;have htx : cX 3 l r.target = vrn (l.idxOf r.target) := by simp [cX]
 have hnm := hm.names;have ht2 := hm.t2;refine aa (an := K5) tab_ok Tryz.func160 ?_;rcases hk with hk | hk
 ·have e1 := eW (v := 3) (t := l) hk;have eF : dp 3 l r = [1] ++ vrn (l.idxOf r.target) ++ vrn r.rule.toNat ++ vrn r.deps.length := by unfold dp; rw [htx]; simp
  have eE : lS 3 l r = vrn r.out.toNat ++ vrn r.wen.toNat ++ kH l r.tag := by simp [lS]
  rw [e1, eE] at h;obtain ⟨k, tg, ru, ds, ou, we, ta⟩ := r;dsimp only at hk hF hD hsl hlu hd16 hbl h2 ho hw hnm ht2 h htx eF ht hds htg;subst hk;conv=>whnf
  refine rT [1] l tg ht (by omega) (by simp) ?_;conv=>whnf
  refine fg ([1] ++ vrn (l.idxOf tg)) l ru.toNat ru.isLt (by simp; omega) ?_;conv=>whnf
  rw [hlu];refine fg ([1] ++ vrn (l.idxOf tg) ++ vrn ru.toNat) l ds.length (by omega) (by simp at h2 ⊢; omega) ?_;rw [← eF];generalize dp 3 l (Rc.mk 1 tg ru ds ou we ta) = F at h hF eF ⊢;conv=>whnf
  refine aq.ind2 (fun (i : Nat) (b : B) => [(47, vi i)]) (fun i b => [(0, wO b (.ptr 1 0)), (1, bL 2 3 l), (2, bK l), (3, bJ l)]) (fun i _ => ds.length - i) (fun i b => i ≤ ds.length ∧ b = F ++ bX 3 l (ds.take i)) 0 F rfl ⟨by omega, by simp [bX]⟩ ?_;rintro i X ⟨h0, hX⟩ IH;have hDi : X.length ≤ 1300 := by have := hD i; rw [hX, aac]; omega
  conv=>whnf
  refine ae (fun hc => ?_) (fun hc => ?_)
  ·have hc := ap hsl hc;have hn := hnm ds[i] (aaf hc);have hin := hds ds[i] (aaf hc);have hdl : (vrn (eQ l ds[i])).length ≤ 10 := ct (by have := aa6 (a := ds[i].name) (l := l); unfold eQ; split <;> omega);have eS : X ++ vrn (eQ l ds[i]) ++ vrn ds[i].hash.toNat = F ++ bX 3 l (ds.take (i + 1)) := by
    rw [fm hc, hX];simp [lT, cX]
   have IH := IH (i + 1) _ ⟨hc, eS⟩ (by omega)
   (conv=>whnf); (repeat ((with_reducible refine ac ?_ ?_); exact aaa (by omega); (conv=>whnf)))
   refine idxNat (by simpa using hc) ?_;generalize ds[i] = d at IH hn hin hdl eS ⊢;clear hX eS;conv=>whnf
   refine QK X l d hin (by omega) (by omega) ?_;conv=>whnf
   refine fg (X ++ vrn (eQ l d)) l d.hash.toNat d.hash.isLt (by rw [aac]; omega) ?_;conv=>whnf
   rw [am (by omega)];exact IH
  ·have hc := au hsl hc;have e : i = ds.length := by omega
   subst e;rw [aax] at hX;rw [← hX] at h;clear hX;simp only [← aak] at h;conv=>whnf
   refine fg X l ou.toNat ou.isLt (by omega) ?_;conv=>whnf
   refine fg (X ++ vrn ou.toNat) l we.toNat we.isLt (by rw [aac]; omega) ?_;conv=>whnf
   refine Qg (X ++ vrn ou.toNat ++ vrn we.toNat) l ta htg (by omega) (by rw [aac, aac]; omega) ?_;conv=>whnf
   exact h
 ·have e1 := gu (v := 3) (t := l) hk;rw [e1, htx] at h;obtain ⟨k, tg, ru, ds, ou, we, ta⟩ := r;dsimp only at hk hbl ht2 h ht;subst hk;conv=>whnf
  refine rT [2] l tg ht (by omega) (by simp) ?_;conv=>whnf
  exact h
def cc (l : List B) : List (List AV) := l.map fun p => [.sl none 1 (ai p)]
theorem aP (l : List B) : (cc l).length = l.length := by simp [cc]
theorem bY (l m : List B) : cc (l ++ m) = cc l ++ cc m := by simp [cc]
theorem cA : (tab.ti 77).bytes = 24 := rfl
theorem pT (s : B) : [[AV.val (.int .u8 0)]] ++ ai s = ai (bq s) := rfl
theorem j9 (s : B) : qg (ofB s) = ai s := by
 unfold qg ai;rw [show (ofB s).data.toList = s from jK s]
theorem F1 {R} (h : R (.val (.bool true)) []) : ag Tryz.prog 157 [vi 1] [] R := by
 refine aa (an := K7) tab_ok Tryz.func157 ?_;conv=>whnf
 exact h
theorem tM {R} (h : R (.val (.bool true)) []) : ag Tryz.prog 157 [vi 2] [] R := by
 refine aa (an := K7) tab_ok Tryz.func157 ?_;conv=>whnf
 exact h
theorem tL {R} (h : R (.val (.bool true)) []) : ag Tryz.prog 157 [vi 3] [] R := by
 refine aa (an := K7) tab_ok Tryz.func157 ?_;conv=>whnf
 exact h
theorem zC (r : Rc) (hm : aR 1 r = true) {R} (h : R (.tup [.sl none 1 (cc (bu 1 [] r)), vi 0]) [dg]) : ag Tryz.prog 117 [vi 1, .ptr 0 0, .agg r.enc] [dg] R := by
 have hM := aT hm;have e : bu 1 [] r = [bO 1 [] r] := by simp [bu, fU, bw]
 rw [e] at h;have hd := hM.deps;refine aa (an := ql) tab_ok Tryz.func117 ?_;conv=>whnf
 refine F1 ?_;conv=>whnf
 refine eu 1 r (by omega) fun p hp => ?_;rw [hm] at hp;subst hp;conv=>whnf
 refine Oy r hM ?_;conv=>whnf
 refine ⟨(by rw [cA]; decide : 1 * ((tab.ti 77).bytes + 1) ≤ 140737488355328), ?_⟩;conv=>whnf
 exact h
theorem Og (r : Rc) (hd : r.deps.length < 100000) (hm : aR 1 r = false) {R} (h : R (.tup [.val (.slice none 0 0), vi 1]) [dg]) : ag Tryz.prog 117 [vi 1, .ptr 0 0, .agg r.enc] [dg] R := by
 refine aa (an := ql) tab_ok Tryz.func117 ?_;conv=>whnf
 refine F1 ?_;conv=>whnf
 refine eu 1 r hd fun p hp => ?_;rw [hm] at hp;subst hp;conv=>whnf
 exact h
theorem Of (r : Rc) (hd : r.deps.length < 100000) (hm : aR 2 r = false) {R} (h : R (.tup [.val (.slice none 0 0), vi 1]) [dg]) : ag Tryz.prog 117 [vi 2, .ptr 0 0, .agg r.enc] [dg] R := by
 refine aa (an := ql) tab_ok Tryz.func117 ?_;conv=>whnf
 refine tM ?_;conv=>whnf
 refine eu 2 r hd fun p hp => ?_;rw [hm] at hp;subst hp;conv=>whnf
 exact h
theorem Od (r : Rc) (hd : r.deps.length < 100000) (hm : aR 3 r = false) {R} (h : R (.tup [.val (.slice none 0 0), vi 1]) [dg]) : ag Tryz.prog 117 [vi 3, .ptr 0 0, .agg r.enc] [dg] R := by
 refine aa (an := ql) tab_ok Tryz.func117 ?_;conv=>whnf
 refine tL ?_;conv=>whnf
 refine eu 3 r hd fun p hp => ?_;rw [hm] at hp;subst hp;conv=>whnf
 exact h
theorem Oe (r : Rc) (l : List B) (hd : r.deps.length < 100000) (hm : aR 2 r = false) {R} (h : R (.tup [.val (.slice none 0 0), vi 1]) [bL 1 2 l, bK l, bJ l]) : ag Tryz.prog 117 [vi 2, .ptr 0 0, .agg r.enc] [bL 1 2 l, bK l, bJ l] R := by
 refine aa (an := ql) tab_ok Tryz.func117 ?_;conv=>whnf
 refine tM ?_;conv=>whnf
 refine eu 2 r hd fun p hp => ?_;rw [hm] at hp;subst hp;conv=>whnf
 exact h
theorem Oc (r : Rc) (l : List B) (hd : r.deps.length < 100000) (hm : aR 3 r = false) {R} (h : R (.tup [.val (.slice none 0 0), vi 1]) [bL 1 2 l, bK l, bJ l]) : ag Tryz.prog 117 [vi 3, .ptr 0 0, .agg r.enc] [bL 1 2 l, bK l, bJ l] R := by
 refine aa (an := ql) tab_ok Tryz.func117 ?_;conv=>whnf
 refine tL ?_;conv=>whnf
 refine eu 3 r hd fun p hp => ?_;rw [hm] at hp;subst hp;conv=>whnf
 exact h
theorem F5 (r : Rc) (l : List B) (hl : l.length < 90000) (hm : aR 2 r = true) {R} (h : R (.tup [.sl none 1 (cc (bu 2 l r)), vi 0]) [bL 1 2 (bw 2 l r), bK (bw 2 l r), bJ (bw 2 l r)]) : ag Tryz.prog 117 [vi 2, .ptr 0 0, .agg r.enc] [bL 1 2 l, bK l, bJ l] R := by
 have hM := aT hm;have hd := hM.deps;have hml := dm r;have hT1 := cm (v := 2) (by decide) l r (x := r.target) (by simp [bI]);have hT2 : ∀ d ∈ r.deps, d.name ∈ bw 2 l r := fun d hd => cm (by decide) l r (aaw _ (aa3 _ (aaD hd)));have hT3 : r.tag ≠ [] → r.tag ∈ bw 2 l r := fun e => cm (by decide) l r (by simp [bI, e]);have hTl := fu 2 l r;have eA : bw 2 l r = (bf r).foldl cL l := fF (by decide) l r;have eP : bu 2 l r = (cF l (bf r)).map bq ++ [bO 2 (bw 2 l r) r] := by simp [bu, fU]
 rw [eP] at h;have hne := pN r;have h64 : ∀ s ∈ bf r, s.length ≤ 64 := fun s hs => (fH hM s (gZ.1 hs)).2;generalize hmr : bf r = m at h hml eA eP hne h64;generalize bw 2 l r = T at h hT1 hT2 hT3 hTl eA eP;refine aa (an := ql) tab_ok Tryz.func117 ?_;have hsl := aF m;conv=>whnf
 refine tM ?_;conv=>whnf
 refine eu 2 r (by omega) fun p hp => ?_;rw [hm] at hp;subst hp;conv=>whnf
 refine kK r (by omega) ?_;rw [hmr];conv=>whnf
 refine aq.ind3 (fun (i : Nat) (t o : List B) => [(8, .sl (some (al 8)) 1 (cc o)), (30, vi i)]) (fun i t o => [(0, bL 1 2 t), (1, bK t), (2, bJ t), (al 8, .row 77 1 o.length)]) (fun i _ _ => m.length - i) (fun i t o => i ≤ m.length ∧ 0 ≤ i ∧ o ++ (cF t (m.drop i)).map bq = (cF l m).map bq ∧ (m.drop i).foldl cL t = m.foldl cL l ∧ o.length ≤ i ∧ t.length ≤ l.length + i) 0 l [] rfl ⟨by omega, by omega, by simp, by simp, by simp, by omega⟩ ?_;rintro i t o ⟨h0, hi1, ho1, ho2, hl1, hl2⟩ IH;have hol : o.length ≤ 60 := by omega
 have hrl := aP o;conv=>whnf
 refine ae (fun hc => ?_) (fun hc => ?_)
 ·have hc := ap hsl hc;have IH0 := IH (i + 1);clear IH;rw [aao hc] at ho1 ho2;rw [cF] at ho1;rw [aaQ] at ho2
  (conv=>whnf); (repeat ((with_reducible refine ac ?_ ?_); exact aaa (by omega); (conv=>whnf)))
  refine idxNat (by simpa using hc) ?_;have h64s := h64 m[i] (aaf hc);generalize m[i] = s at ho1 ho2 h64s ⊢;have eB := j9 s;have hsl2 := aL s;by_cases hs : s ∈ t
  ·have IH := IH0 t o ⟨by omega, by omega, by rw [aaz hs] at ho1; exact ho1, by rw [dJ hs] at ho2; exact ho2, by omega, by omega⟩ (by omega);conv=>whnf
   refine jN t s hs fun j => ?_;conv=>whnf
   rw [am (by omega)];exact IH
  ·have IH := IH0 (t ++ [s]) (o ++ [bq s]) ⟨by omega, by omega, by rw [aap hs] at ho1; rw [← ho1]; simp, by rw [du hs] at ho2; exact ho2, by simp; omega, by simp; omega⟩ (by omega);rw [bY] at IH;conv=>whnf
   refine gW t s (by omega) hs fun j => ?_;conv=>whnf
   refine ⟨rfl, by rw [c9]; rw [eB]; simp only [aac, hsl2, aag, aaj]; omega, ?_⟩;rw [eB, pT];conv=>whnf
   refine ⟨hrl.symm, by rw [hrl, cA]; simp; omega, ?_⟩;conv=>whnf
   rw [am (by omega), hrl];rw [show (o ++ [bq s]).length = o.length + 1 by simp] at IH;exact IH
 ·have hc := au hsl hc;have e : i = m.length := by omega
  subst e;rw [List.drop_length] at ho1 ho2;rw [show cF t [] = [] from rfl, abi, aaR] at ho1;rw [abH] at ho2;rw [← eA] at ho2;subst ho2;rw [← ho1, bY] at h;conv=>whnf
  refine JW r t hM (by omega) hT1 hT2 hT3 ?_;conv=>whnf
  refine ⟨hrl.symm, by rw [hrl, cA]; simp; omega, ?_⟩;conv=>whnf
  exact h
theorem F6 (r : Rc) (hm : aR 2 r = true) {R} (h : R (.tup [.sl none 1 (cc (bu 2 [] r)), vi 0]) [bL 1 2 (bw 2 [] r), bK (bw 2 [] r), bJ (bw 2 [] r)]) : ag Tryz.prog 117 [vi 2, .ptr 0 0, .agg r.enc] [dg] R := by
 have hM := aT hm;have hd := hM.deps;have hml := dm r;have hT1 := cm (v := 2) (by decide) [] r (x := r.target) (by simp [bI]);have hT2 : ∀ d ∈ r.deps, d.name ∈ bw 2 [] r := fun d hd => cm (by decide) [] r (aaw _ (aa3 _ (aaD hd)));have hT3 : r.tag ≠ [] → r.tag ∈ bw 2 [] r := fun e => cm (by decide) [] r (by simp [bI, e]);have hTl := fu 2 [] r;have eA : bw 2 [] r = (bf r).foldl cL [] := fF (by decide) [] r;have eP : bu 2 [] r = (cF [] (bf r)).map bq ++ [bO 2 (bw 2 [] r) r] := by simp [bu, fU]
 rw [eP] at h;have hne := pN r;have h64 : ∀ s ∈ bf r, s.length ≤ 64 := fun s hs => (fH hM s (gZ.1 hs)).2;generalize hmr : bf r = m at h hml eA eP hne h64;generalize bw 2 [] r = T at h hT1 hT2 hT3 hTl eA eP;refine aa (an := ql) tab_ok Tryz.func117 ?_;have hsl := aF m;conv=>whnf
 refine tM ?_;conv=>whnf
 refine eu 2 r (by omega) fun p hp => ?_;rw [hm] at hp;subst hp;conv=>whnf
 refine kK r (by omega) ?_;rw [hmr];conv=>whnf
 obtain ⟨a, n, rfl⟩ := abr hne;refine aq.step ?_;conv=>whnf
 refine aK (by rw [hsl]; simp <;> omega) ?_;conv=>whnf
 refine re a ?_;have eB := j9 a;have hsl2 := aL a;have ha64 := h64 a aa1;conv=>whnf
 refine ⟨rfl, by rw [c9]; rw [eB]; simp only [aac, hsl2, aag, aaj]; omega, ?_⟩;rw [eB, pT];conv=>whnf
 refine ⟨rfl, by rw [cA]; simp, ?_⟩;conv=>whnf
 refine aq.ind3 (fun (i : Nat) (t o : List B) => [(8, .sl (some (al 8)) 1 (cc o)), (30, vi i)]) (fun i t o => [(0, bL (ar 37 0) (ar 37 1) t), (al 8, .row 77 1 o.length), (ar 37 0, bK t), (ar 37 1, bJ t)]) (fun i _ _ => (a :: n).length - i) (fun i t o => i ≤ (a :: n).length ∧ 1 ≤ i ∧ o ++ (cF t ((a :: n).drop i)).map bq = (cF [] (a :: n)).map bq ∧ ((a :: n).drop i).foldl cL t = (a :: n).foldl cL [] ∧ o.length ≤ i ∧ t.length ≤ i) 1 [a] [bq a] rfl ⟨by simp, by omega, by simp [cF], by simp [cL], by simp, by simp⟩ ?_;rintro i t o ⟨h0, hi1, ho1, ho2, hl1, hl2⟩ IH;have hol : o.length ≤ 60 := by omega
 have hrl := aP o;conv=>whnf
 refine ae (fun hc => ?_) (fun hc => ?_)
 ·have hc := ap hsl hc;have IH0 := IH (i + 1);clear IH;rw [aao hc] at ho1 ho2;rw [cF] at ho1;rw [aaQ] at ho2
  (conv=>whnf); (repeat ((with_reducible refine ac ?_ ?_); exact aaa (by omega); (conv=>whnf)))
  refine idxNat (by simpa using hc) ?_;have h64s := h64 (a :: n)[i] (aaf hc);generalize (a :: n)[i] = s at ho1 ho2 h64s ⊢;have eB := j9 s;have hsl2 := aL s;by_cases hs : s ∈ t
  ·have IH := IH0 t o ⟨by omega, by omega, by rw [aaz hs] at ho1; exact ho1, by rw [dJ hs] at ho2; exact ho2, by omega, by omega⟩ (by omega);conv=>whnf
   refine jN t s hs fun j => ?_;conv=>whnf
   rw [am (by omega)];exact IH
  ·have IH := IH0 (t ++ [s]) (o ++ [bq s]) ⟨by omega, by omega, by rw [aap hs] at ho1; rw [← ho1]; simp, by rw [du hs] at ho2; exact ho2, by simp; omega, by simp; omega⟩ (by omega);rw [bY] at IH;conv=>whnf
   refine gW t s (by omega) hs fun j => ?_;conv=>whnf
   refine ⟨rfl, by rw [c9]; rw [eB]; simp only [aac, hsl2, aag, aaj]; omega, ?_⟩;rw [eB, pT];conv=>whnf
   refine ⟨hrl.symm, by rw [hrl, cA]; simp; omega, ?_⟩;conv=>whnf
   rw [am (by omega), hrl];rw [show (o ++ [bq s]).length = o.length + 1 by simp] at IH;exact IH
 ·have hc := au hsl hc;have e : i = (a :: n).length := by omega
  subst e;rw [List.drop_length] at ho1 ho2;rw [show cF t [] = [] from rfl, abi, aaR] at ho1;rw [abH] at ho2;rw [← eA] at ho2;subst ho2;rw [← ho1, bY] at h;conv=>whnf
  refine JW r t hM (by omega) hT1 hT2 hT3 ?_;conv=>whnf
  refine ⟨hrl.symm, by rw [hrl, cA]; simp; omega, ?_⟩;conv=>whnf
  exact h
theorem F3 (r : Rc) (l : List B) (hl : l.length < 90000) (hm : aR 3 r = true) {R} (h : R (.tup [.sl none 1 (cc (bu 3 l r)), vi 0]) [bL 1 2 (bw 3 l r), bK (bw 3 l r), bJ (bw 3 l r)]) : ag Tryz.prog 117 [vi 3, .ptr 0 0, .agg r.enc] [bL 1 2 l, bK l, bJ l] R := by
 have hM := aT hm;have hd := hM.deps;have hml := dm r;have hT1 := cm (v := 3) (by decide) l r (x := r.target) (by simp [bI]);have hT2 : ∀ d ∈ r.deps, d.name ∈ bw 3 l r := fun d hd => cm (by decide) l r (aaw _ (aa3 _ (aaD hd)));have hT3 : r.tag ≠ [] → r.tag ∈ bw 3 l r := fun e => cm (by decide) l r (by simp [bI, e]);have hTl := fu 3 l r;have eA : bw 3 l r = (bf r).foldl cL l := fF (by decide) l r;have eP : bu 3 l r = (cF l (bf r)).map bq ++ [bO 3 (bw 3 l r) r] := by simp [bu, fU]
 rw [eP] at h;have hne := pN r;have h64 : ∀ s ∈ bf r, s.length ≤ 64 := fun s hs => (fH hM s (gZ.1 hs)).2;generalize hmr : bf r = m at h hml eA eP hne h64;generalize bw 3 l r = T at h hT1 hT2 hT3 hTl eA eP;refine aa (an := ql) tab_ok Tryz.func117 ?_;have hsl := aF m;conv=>whnf
 refine tL ?_;conv=>whnf
 refine eu 3 r (by omega) fun p hp => ?_;rw [hm] at hp;subst hp;conv=>whnf
 refine kK r (by omega) ?_;rw [hmr];conv=>whnf
 refine aq.ind3 (fun (i : Nat) (t o : List B) => [(8, .sl (some (al 8)) 1 (cc o)), (30, vi i)]) (fun i t o => [(0, bL 1 2 t), (1, bK t), (2, bJ t), (al 8, .row 77 1 o.length)]) (fun i _ _ => m.length - i) (fun i t o => i ≤ m.length ∧ 0 ≤ i ∧ o ++ (cF t (m.drop i)).map bq = (cF l m).map bq ∧ (m.drop i).foldl cL t = m.foldl cL l ∧ o.length ≤ i ∧ t.length ≤ l.length + i) 0 l [] rfl ⟨by omega, by omega, by simp, by simp, by simp, by omega⟩ ?_;rintro i t o ⟨h0, hi1, ho1, ho2, hl1, hl2⟩ IH;have hol : o.length ≤ 60 := by omega
 have hrl := aP o;conv=>whnf
 refine ae (fun hc => ?_) (fun hc => ?_)
 ·have hc := ap hsl hc;have IH0 := IH (i + 1);clear IH;rw [aao hc] at ho1 ho2;rw [cF] at ho1;rw [aaQ] at ho2
  (conv=>whnf); (repeat ((with_reducible refine ac ?_ ?_); exact aaa (by omega); (conv=>whnf)))
  refine idxNat (by simpa using hc) ?_;have h64s := h64 m[i] (aaf hc);generalize m[i] = s at ho1 ho2 h64s ⊢;have eB := j9 s;have hsl2 := aL s;by_cases hs : s ∈ t
  ·have IH := IH0 t o ⟨by omega, by omega, by rw [aaz hs] at ho1; exact ho1, by rw [dJ hs] at ho2; exact ho2, by omega, by omega⟩ (by omega);conv=>whnf
   refine jN t s hs fun j => ?_;conv=>whnf
   rw [am (by omega)];exact IH
  ·have IH := IH0 (t ++ [s]) (o ++ [bq s]) ⟨by omega, by omega, by rw [aap hs] at ho1; rw [← ho1]; simp, by rw [du hs] at ho2; exact ho2, by simp; omega, by simp; omega⟩ (by omega);rw [bY] at IH;conv=>whnf
   refine gW t s (by omega) hs fun j => ?_;conv=>whnf
   refine ⟨rfl, by rw [c9]; rw [eB]; simp only [aac, hsl2, aag, aaj]; omega, ?_⟩;rw [eB, pT];conv=>whnf
   refine ⟨hrl.symm, by rw [hrl, cA]; simp; omega, ?_⟩;conv=>whnf
   rw [am (by omega), hrl];rw [show (o ++ [bq s]).length = o.length + 1 by simp] at IH;exact IH
 ·have hc := au hsl hc;have e : i = m.length := by omega
  subst e;rw [List.drop_length] at ho1 ho2;rw [show cF t [] = [] from rfl, abi, aaR] at ho1;rw [abH] at ho2;rw [← eA] at ho2;subst ho2;rw [← ho1, bY] at h;conv=>whnf
  refine JV r t hM (by omega) hT1 hT2 hT3 ?_;conv=>whnf
  refine ⟨hrl.symm, by rw [hrl, cA]; simp; omega, ?_⟩;conv=>whnf
  exact h
theorem F4 (r : Rc) (hm : aR 3 r = true) {R} (h : R (.tup [.sl none 1 (cc (bu 3 [] r)), vi 0]) [bL 1 2 (bw 3 [] r), bK (bw 3 [] r), bJ (bw 3 [] r)]) : ag Tryz.prog 117 [vi 3, .ptr 0 0, .agg r.enc] [dg] R := by
 have hM := aT hm;have hd := hM.deps;have hml := dm r;have hT1 := cm (v := 3) (by decide) [] r (x := r.target) (by simp [bI]);have hT2 : ∀ d ∈ r.deps, d.name ∈ bw 3 [] r := fun d hd => cm (by decide) [] r (aaw _ (aa3 _ (aaD hd)));have hT3 : r.tag ≠ [] → r.tag ∈ bw 3 [] r := fun e => cm (by decide) [] r (by simp [bI, e]);have hTl := fu 3 [] r;have eA : bw 3 [] r = (bf r).foldl cL [] := fF (by decide) [] r;have eP : bu 3 [] r = (cF [] (bf r)).map bq ++ [bO 3 (bw 3 [] r) r] := by simp [bu, fU]
 rw [eP] at h;have hne := pN r;have h64 : ∀ s ∈ bf r, s.length ≤ 64 := fun s hs => (fH hM s (gZ.1 hs)).2;generalize hmr : bf r = m at h hml eA eP hne h64;generalize bw 3 [] r = T at h hT1 hT2 hT3 hTl eA eP;refine aa (an := ql) tab_ok Tryz.func117 ?_;have hsl := aF m;conv=>whnf
 refine tL ?_;conv=>whnf
 refine eu 3 r (by omega) fun p hp => ?_;rw [hm] at hp;subst hp;conv=>whnf
 refine kK r (by omega) ?_;rw [hmr];conv=>whnf
 obtain ⟨a, n, rfl⟩ := abr hne;refine aq.step ?_;conv=>whnf
 refine aK (by rw [hsl]; simp <;> omega) ?_;conv=>whnf
 refine re a ?_;have eB := j9 a;have hsl2 := aL a;have ha64 := h64 a aa1;conv=>whnf
 refine ⟨rfl, by rw [c9]; rw [eB]; simp only [aac, hsl2, aag, aaj]; omega, ?_⟩;rw [eB, pT];conv=>whnf
 refine ⟨rfl, by rw [cA]; simp, ?_⟩;conv=>whnf
 refine aq.ind3 (fun (i : Nat) (t o : List B) => [(8, .sl (some (al 8)) 1 (cc o)), (30, vi i)]) (fun i t o => [(0, bL (ar 37 0) (ar 37 1) t), (al 8, .row 77 1 o.length), (ar 37 0, bK t), (ar 37 1, bJ t)]) (fun i _ _ => (a :: n).length - i) (fun i t o => i ≤ (a :: n).length ∧ 1 ≤ i ∧ o ++ (cF t ((a :: n).drop i)).map bq = (cF [] (a :: n)).map bq ∧ ((a :: n).drop i).foldl cL t = (a :: n).foldl cL [] ∧ o.length ≤ i ∧ t.length ≤ i) 1 [a] [bq a] rfl ⟨by simp, by omega, by simp [cF], by simp [cL], by simp, by simp⟩ ?_;rintro i t o ⟨h0, hi1, ho1, ho2, hl1, hl2⟩ IH;have hol : o.length ≤ 60 := by omega
 have hrl := aP o;conv=>whnf
 refine ae (fun hc => ?_) (fun hc => ?_)
 ·have hc := ap hsl hc;have IH0 := IH (i + 1);clear IH;rw [aao hc] at ho1 ho2;rw [cF] at ho1;rw [aaQ] at ho2
  (conv=>whnf); (repeat ((with_reducible refine ac ?_ ?_); exact aaa (by omega); (conv=>whnf)))
  refine idxNat (by simpa using hc) ?_;have h64s := h64 (a :: n)[i] (aaf hc);generalize (a :: n)[i] = s at ho1 ho2 h64s ⊢;have eB := j9 s;have hsl2 := aL s;by_cases hs : s ∈ t
  ·have IH := IH0 t o ⟨by omega, by omega, by rw [aaz hs] at ho1; exact ho1, by rw [dJ hs] at ho2; exact ho2, by omega, by omega⟩ (by omega);conv=>whnf
   refine jN t s hs fun j => ?_;conv=>whnf
   rw [am (by omega)];exact IH
  ·have IH := IH0 (t ++ [s]) (o ++ [bq s]) ⟨by omega, by omega, by rw [aap hs] at ho1; rw [← ho1]; simp, by rw [du hs] at ho2; exact ho2, by simp; omega, by simp; omega⟩ (by omega);rw [bY] at IH;conv=>whnf
   refine gW t s (by omega) hs fun j => ?_;conv=>whnf
   refine ⟨rfl, by rw [c9]; rw [eB]; simp only [aac, hsl2, aag, aaj]; omega, ?_⟩;rw [eB, pT];conv=>whnf
   refine ⟨hrl.symm, by rw [hrl, cA]; simp; omega, ?_⟩;conv=>whnf
   rw [am (by omega), hrl];rw [show (o ++ [bq s]).length = o.length + 1 by simp] at IH;exact IH
 ·have hc := au hsl hc;have e : i = (a :: n).length := by omega
  subst e;rw [List.drop_length] at ho1 ho2;rw [show cF t [] = [] from rfl, abi, aaR] at ho1;rw [abH] at ho2;rw [← eA] at ho2;subst ho2;rw [← ho1, bY] at h;conv=>whnf
  refine JV r t hM (by omega) hT1 hT2 hT3 ?_;conv=>whnf
  refine ⟨hrl.symm, by rw [hrl, cA]; simp; omega, ?_⟩;conv=>whnf
  exact h
theorem ne1 {v : Int} (hv : v = 2 ∨ v = 3) : v ≠ 1 := by omega
theorem Ob {v : Int} (hv : v = 2 ∨ v = 3) (r : Rc) (hd : r.deps.length < 100000) (hm : aR v r = false) {R} (h : R (.tup [.val (.slice none 0 0), vi 1]) [dg]) : ag Tryz.prog 117 [vi v, .ptr 0 0, .agg r.enc] [dg] R := by
 rcases hv with rfl | rfl
 ·exact Of r hd hm h
 ·exact Od r hd hm h
theorem Oa {v : Int} (hv : v = 2 ∨ v = 3) (r : Rc) (l : List B) (hd : r.deps.length < 100000) (hm : aR v r = false) {R} (h : R (.tup [.val (.slice none 0 0), vi 1]) [bL 1 2 l, bK l, bJ l]) : ag Tryz.prog 117 [vi v, .ptr 0 0, .agg r.enc] [bL 1 2 l, bK l, bJ l] R := by
 rcases hv with rfl | rfl
 ·exact Oe r l hd hm h
 ·exact Oc r l hd hm h
theorem zA {v : Int} (hv : v = 2 ∨ v = 3) (r : Rc) (l : List B) (hl : l.length < 90000) (hm : aR v r = true) {R} (h : R (.tup [.sl none 1 (cc (bu v l r)), vi 0]) [bL 1 2 (bw v l r), bK (bw v l r), bJ (bw v l r)]) : ag Tryz.prog 117 [vi v, .ptr 0 0, .agg r.enc] [bL 1 2 l, bK l, bJ l] R := by
 rcases hv with rfl | rfl
 ·exact F5 r l hl hm h
 ·exact F3 r l hl hm h
theorem zB {v : Int} (hv : v = 2 ∨ v = 3) (r : Rc) (hm : aR v r = true) {R} (h : R (.tup [.sl none 1 (cc (bu v [] r)), vi 0]) [bL 1 2 (bw v [] r), bK (bw v [] r), bJ (bw v [] r)]) : ag Tryz.prog 117 [vi v, .ptr 0 0, .agg r.enc] [dg] R := by
 rcases hv with rfl | rfl
 ·exact F6 r hm h
 ·exact F4 r hm h
def cO (b : B) (at_ : Nat) : aE := .cells 332 [.sl none 1 (ai b), vi (at_ : Int), vi 0]
theorem lI (b : B) (hb : b.length < 1000000) {R} (h : R (.ptr 0 0) [cO b 0]) : ag Tryz.prog 215 [.sl none 1 (ai b), vi 0] [] R := by
 refine aa (an := RO) tab_ok Tryz.func215 ?_;have hbl := aL b;conv=>whnf
 refine kS b (by omega) ?_;conv=>whnf
 exact h
theorem L8 (p q : B) (n : Nat) (hn : n < 18446744073709551616) (hl : p.length + q.length < 10000000) {R} (h : R (un n) [cO (p ++ vrn n ++ q) (p.length + (vrn n).length)]) : ag Tryz.prog 271 [.ptr 0 0, .fn (.func 267) [] []] [cO (p ++ vrn n ++ q) p.length] R := by
 refine aa (an := Q6) tab_ok Tryz.func271 ?_;conv=>whnf
 refine qq p q n hn (by omega) ?_;conv=>whnf
 exact h
theorem A3 (p q : B) (n : Nat) (hn : n < 18446744073709551616) (hl : p.length + q.length < 10000000) {R} (h : R (un n) [cO (p ++ vrn n ++ q) (p.length + (vrn n).length)]) : ag Tryz.prog 250 [.ptr 0 0] [cO (p ++ vrn n ++ q) p.length] R := by
 refine aa (an := Rr) tab_ok Tryz.func250 ?_;conv=>whnf
 refine L8 p q n hn hl ?_;conv=>whnf
 exact h
theorem QQ (c : UInt8) (q : B) {R} (h : R (.tup [.val (.int .u8 (c.toNat : Int)), vi 1, vi 0]) []) (hq : q.length < 1000000) : ag Tryz.prog 270 [.sl none 1 (ai (c :: q)), vi 0] [] R := by
 refine aa (an := Q7) tab_ok Tryz.func270 ?_;have hbl := aL (c :: q);conv=>whnf
 exact h
theorem w9 (c : UInt8) (q : B) (hq : q.length < 1000000) {R} (h : R (.val (.int .u8 (c.toNat : Int))) [cO (c :: q) 1]) : ag Tryz.prog 249 [.ptr 0 0] [cO (c :: q) 0] R := by
 refine aa (an := Rs) tab_ok Tryz.func249 ?_;conv=>whnf
 refine aa (an := Q9) tab_ok Tryz.func269 ?_;conv=>whnf
 refine QQ c q ?_ hq;conv=>whnf
 exact h
theorem Qf (p q s : B) (hs : s.length ≤ 64) (hl : p.length + q.length < 10000000) {R} (h : R (.tup [vs s, vi ((p.length + (a8 s).length : Nat) : Int), vi 0]) []) : ag Tryz.prog 276 [.sl none 1 (ai (p ++ a8 s ++ q)), vi (p.length : Int), .cptr [vi 64] 0] [] R := by
 refine aa (an := Q3) tab_ok Tryz.func276 ?_;conv=>whnf
 refine (show ag Tryz.prog 246 [.sl none 1 (ai (p ++ a8 s ++ q)), vi (p.length : Int), vi ((64 : Nat) : Int)] [] _ from ?_);refine qZ p q s 64 hs (by omega) (by omega) ?_;conv=>whnf
 exact h
theorem C4 (p q s : B) (hs : s.length ≤ 64) (hl : p.length + q.length < 10000000) {R} (h : R (vs s) [cO (p ++ a8 s ++ q) (p.length + (a8 s).length)]) : ag Tryz.prog 268 [.ptr 0 0, vi 64] [cO (p ++ a8 s ++ q) p.length] R := by
 refine aa (an := Ra) tab_ok Tryz.func268 ?_;conv=>whnf
 refine aa (an := Q4) tab_ok Tryz.func275 ?_;conv=>whnf
 refine Qf p q s hs hl ?_;conv=>whnf
 exact h
theorem lj (b : B) (n : Nat) {R} (h : R (vi 0) [cO b n]) : ag Tryz.prog 251 [.ptr 0 0] [cO b n] R := by
 refine aa (an := Rq) tab_ok Tryz.func251 ?_;conv=>whnf
 exact h
theorem vN {P A Q : B} {n : Nat} (hP : P = A ++ vrn n ++ Q) (hn : n < 18446744073709551616) (hl : P.length < 1000000) {R} (h : R (un n) [cO P (A ++ vrn n).length]) : ag Tryz.prog 250 [.ptr 0 0] [cO P A.length] R := by
 subst hP;rw [show (A ++ vrn n).length = A.length + (vrn n).length from aac] at h;exact A3 A Q n hn (by simp at hl; omega) h
def rdr : AV := .agg [.ptr 0 0, .ptr 1 0]
theorem pJ (b : B) (l : List B) (a i : Nat) (hi : i < l.length) (hl : l.length < 1000000) {R} (h : R (vs l[i]) [cO b a, bL 2 3 l, bK l, bJ l]) : ag Tryz.prog 253 [rdr, un i] [cO b a, bL 2 3 l, bK l, bJ l] R := by
 refine aa (an := Rp) tab_ok Tryz.func253 ?_;conv=>whnf
 refine oN l i hi hl ?_;conv=>whnf
 exact h
theorem AT {l : List B} {s : B} (hs : s ∈ l) : ∃ h : l.idxOf s < l.length, l[l.idxOf s] = s := ⟨abB hs, List.getElem_idxOf (abB hs)⟩
theorem BK {P A Q : B} {l : List B} {s : B} (hs : s ∈ l) (hP : P = A ++ vrn (l.idxOf s) ++ Q) (hl : P.length < 1000000) (hll : l.length < 1000000) {R} (h : R (vs s) [cO P (A ++ vrn (l.idxOf s)).length, bL 2 3 l, bK l, bJ l]) : ag Tryz.prog 247 [rdr] [cO P A.length, bL 2 3 l, bK l, bJ l] R := by
 refine aa (an := Ru) tab_ok Tryz.func247 ?_;obtain ⟨hi, he⟩ := AT hs;conv=>whnf
 refine ⟨?_, ?_, trivial⟩
 ·conv=>whnf
  refine ⟨?_, trivial⟩;conv=>whnf
  refine ⟨?_, trivial⟩;conv=>whnf
  refine vN hP (by omega) hl ?_;conv=>whnf
  refine ⟨?_, trivial⟩;conv=>whnf
  refine pJ P l _ (l.idxOf s) hi hll ?_;rw [he];conv=>whnf
  exact h
 ·conv=>whnf
  refine ⟨?_, ?_, trivial⟩
  ·conv=>whnf
   refine ⟨?_, trivial⟩;conv=>whnf
   refine vN hP (by omega) hl ?_;conv=>whnf
   refine ⟨?_, trivial⟩;conv=>whnf
   refine pJ P l _ (l.idxOf s) hi hll ?_;rw [he];conv=>whnf
   exact h
  ·conv=>whnf
   refine vN hP (by omega) hl ?_;conv=>whnf
   refine ⟨?_, trivial⟩;conv=>whnf
   refine ⟨?_, trivial⟩;conv=>whnf
   refine pJ P l _ (l.idxOf s) hi hll ?_;rw [he];conv=>whnf
   exact h
theorem Gj {P A Q s : B} (hs : s.length ≤ 64) (hP : P = A ++ a8 s ++ Q) (hl : P.length < 1000000) {R} (h : R (vs s) [cO P (A ++ a8 s).length, dg]) : ag Tryz.prog 248 [rdr] [cO P A.length, dg] R := by
 refine aa (an := Rt) tab_ok Tryz.func248 ?_;subst hP;rw [show (A ++ a8 s).length = A.length + (a8 s).length from aac] at h;conv=>whnf
 refine C4 A Q s hs (by simp at hl; omega) ?_;conv=>whnf
 exact h
theorem Ol {P A Q : B} {d : Dp} (hs : d.name.length ≤ 64) (ho : d.order = false) (hP : P = A ++ a8 d.name ++ Q) (hl : P.length < 1000000) {R} (h : R (.agg [vs d.name, un 0, .val (.bool d.order)]) [cO P (A ++ a8 d.name).length, dg]) : ag Tryz.prog 252 [rdr, vi 1, .fn (.func 248) [rdr] []] [cO P A.length, dg] R := by
 refine aa (an := KZ) tab_ok Tryz.func252 ?_;rw [ho] at h;conv=>whnf
 refine Gj hs hP hl ?_;conv=>whnf
 exact h
theorem Ok {P A Q : B} {l : List B} {d : Dp} (hs : d.name ∈ l) (ho : d.order = false) (hP : P = A ++ vrn (l.idxOf d.name) ++ Q) (hl : P.length < 1000000) (hll : l.length < 1000000) {R} (h : R (.agg [vs d.name, un 0, .val (.bool d.order)]) [cO P (A ++ vrn (l.idxOf d.name)).length, bL 2 3 l, bK l, bJ l]) : ag Tryz.prog 252 [rdr, vi 2, .fn (.func 247) [rdr] []] [cO P A.length, bL 2 3 l, bK l, bJ l] R := by
 refine aa (an := KZ) tab_ok Tryz.func252 ?_;rw [ho] at h;conv=>whnf
 refine BK hs hP hl hll ?_;conv=>whnf
 exact h
theorem Oj {P A Q : B} {l : List B} {d : Dp} (hs : d.name ∈ l) (hP : P = A ++ vrn (eQ l d) ++ Q) (hl : P.length < 1000000) (hll : l.length < 1000000) {R} (h : R (.agg [vs d.name, un 0, .val (.bool d.order)]) [cO P (A ++ vrn (eQ l d)).length, bL 2 3 l, bK l, bJ l]) : ag Tryz.prog 252 [rdr, vi 3, .fn (.func 247) [rdr] []] [cO P A.length, bL 2 3 l, bK l, bJ l] R := by
 refine aa (an := KZ) tab_ok Tryz.func252 ?_;obtain ⟨hi, he⟩ := AT hs;have hN : eQ l d < 18446744073709551616 := by unfold eQ; split <;> omega
 have e1 : IntKind.u64.wrap (((eQ l d : Nat) : Int).tdiv 2) = ((l.idxOf d.name : Nat) : Int) := by
  rw [Int.tdiv_eq_ediv_of_nonneg (abe _)];show (((eQ l d : Nat) : Int) / 2) % 18446744073709551616 = _;unfold eQ;split <;> omega
 have e2 : (((eQ l d : Nat) : Int).tmod 2 == 1) = d.order := by
  rw [Int.tmod_eq_emod_of_nonneg (abe _)];unfold eQ
  cases d.order <;> simp <;> omega
 conv=>whnf
 refine vN hP hN hl ?_;conv=>whnf
 rw [e1];refine pJ P l _ (l.idxOf d.name) hi hll ?_;rw [he];conv=>whnf
 rw [e2];exact h
theorem cY {P A : B} {n : Nat} (hP : A ++ vrn n <+: P) (hn : n < 18446744073709551616) (hl : P.length < 1000000) {R} (h : R (un n) [cO P (A ++ vrn n).length]) : ag Tryz.prog 250 [.ptr 0 0] [cO P A.length] R := by
 obtain ⟨Q, hQ⟩ := hP;exact vN hQ.symm hn hl h
theorem wM {P q : B} (hP : P = 1 :: q) (hl : P.length < 1000000) {R} (h : R (.val (.int .u8 1)) [cO P ([1] : B).length]) : ag Tryz.prog 249 [.ptr 0 0] [cO P 0] R := by
 subst hP;exact w9 1 q (by simp at hl; omega) h
theorem wL {P q : B} (hP : P = 2 :: q) (hl : P.length < 1000000) {R} (h : R (.val (.int .u8 2)) [cO P ([2] : B).length]) : ag Tryz.prog 249 [.ptr 0 0] [cO P 0] R := by
 subst hP;exact w9 2 q (by simp at hl; omega) h
theorem nF {P A : B} {l : List B} {s : B} (hs : s ∈ l) (hP : A ++ vrn (l.idxOf s) <+: P) (hl : P.length < 1000000) (hll : l.length < 1000000) {R} (h : R (vs s) [cO P (A ++ vrn (l.idxOf s)).length, bL 2 3 l, bK l, bJ l]) : ag Tryz.prog 247 [rdr] [cO P A.length, bL 2 3 l, bK l, bJ l] R := by
 obtain ⟨Q, hQ⟩ := hP;exact BK hs hQ.symm hl hll h
theorem yv {P A s : B} (hs : s.length ≤ 64) (hP : A ++ a8 s <+: P) (hl : P.length < 1000000) {R} (h : R (vs s) [cO P (A ++ a8 s).length, dg]) : ag Tryz.prog 248 [rdr] [cO P A.length, dg] R := by
 obtain ⟨Q, hQ⟩ := hP;exact Gj hs hQ.symm hl h
def rO (k : Int) (tg : B) (ru : Nat) (deps : AV) (ou we : Nat) (ta : B) : aE := .cells 67 [vi k, vs tg, un ru, deps, un ou, un we, vs ta]
def rdO : aE := .cells 304 [.ptr 0 0, .ptr 1 0]
theorem mt {v : Int} {t : List B} {l : List Dp} {i : Nat} (hi : i < l.length) : bX v t l = bX v t (l.take i) ++ (lT v t l[i] ++ bX v t (l.drop (i + 1))) := by
 have e : l.take i ++ (l[i] :: l.drop (i + 1)) = l := by rw [← aao hi, abm]
 have e2 : bX v t (l.take i ++ (l[i] :: l.drop (i + 1))) = bX v t (l.take i) ++ (lT v t l[i] ++ bX v t (l.drop (i + 1))) := by
  unfold bX;rw [aaG, aaF, abL, aa2]
 rw [e] at e2;exact e2
theorem mg (k : Int) (t : B) (u o w : Nat) (g : B) : AV.le (.agg [vi k, vs t, un u, .val (.slice none 0 0), un o, un w, vs g]) (.agg [vi k, vs t, un u, .sl none 3 [], un o, un w, vs g]) :=
 iJ (.cons (.refl _) (.cons (.refl _) (.cons (.refl _) (.cons (cy 3) (leL.refl _)))))
theorem jp : (tab.ti 167).bytes = 32 := rfl
theorem j8 {l : List Dp} {i : Nat} (hi : i < l.length) : dO (l.take (i + 1)) = dO (l.take i) ++ [l[i].enc] := by
 rw [aab hi];unfold dO;rw [aaG];rfl
theorem yu {P A : B} {d : Dp} (hs : d.name.length ≤ 64) (ho : d.order = false) (hP : A ++ a8 d.name <+: P) (hl : P.length < 1000000) {R} (h : R (.agg [vs d.name, un 0, .val (.bool d.order)]) [cO P (A ++ a8 d.name).length, dg]) : ag Tryz.prog 252 [rdr, vi 1, .fn (.func 248) [rdr] []] [cO P A.length, dg] R := by
 obtain ⟨Q, hQ⟩ := hP;exact Ol hs ho hQ.symm hl h
theorem yr {P A : B} {l : List B} {d : Dp} (hs : d.name ∈ l) (ho : d.order = false) (hP : A ++ vrn (l.idxOf d.name) <+: P) (hl : P.length < 1000000) (hll : l.length < 1000000) {R} (h : R (.agg [vs d.name, un 0, .val (.bool d.order)]) [cO P (A ++ vrn (l.idxOf d.name)).length, bL 2 3 l, bK l, bJ l]) : ag Tryz.prog 252 [rdr, vi 2, .fn (.func 247) [rdr] []] [cO P A.length, bL 2 3 l, bK l, bJ l] R := by
 obtain ⟨Q, hQ⟩ := hP;exact Ok hs ho hQ.symm hl hll h
theorem yq {P A : B} {l : List B} {d : Dp} (hs : d.name ∈ l) (hP : A ++ vrn (eQ l d) <+: P) (hl : P.length < 1000000) (hll : l.length < 1000000) {R} (h : R (.agg [vs d.name, un 0, .val (.bool d.order)]) [cO P (A ++ vrn (eQ l d)).length, bL 2 3 l, bK l, bJ l]) : ag Tryz.prog 252 [rdr, vi 3, .fn (.func 247) [rdr] []] [cO P A.length, bL 2 3 l, bK l, bJ l] R := by
 obtain ⟨Q, hQ⟩ := hP;exact Oj hs hQ.symm hl hll h
theorem LW (r : Rc) (hm : kF 1 r) {R} (h : R (.agg r.enc) [cO (bO 1 [] r) (bO 1 [] r).length, dg]) : ag Tryz.prog 216 [rdr, vi 1] [cO (bO 1 [] r) 0, dg] R := by
 have hk := hm.kind.imp id gw;have hF := gx (v := 1) (t := []) hm (by simp);have hD := gB (v := 1) (t := []) hm (by simp);have hPl := (ga (v := 1) (t := []) hm (by simp)).2;have hd16 := hm.deps;have hnm := hm.names;have ht2 := hm.t2;have hw0 := hm.wen;have htg3 := hm.tag3;have hord := hm.order;refine ag.res ?_;refine aa (an := K0) tab_ok Tryz.func216 ?_;rcases hk with hk | hk
 ·have e1 := eW (v := 1) (t := []) hk;have eF : dp 1 [] r = [1] ++ a8 r.target ++ vrn r.rule.toNat ++ vrn r.deps.length := by unfold dp cX; simp
  have eE : lS 1 [] r = vrn r.out.toNat := by simp [lS]
  rw [eE] at e1;generalize bO 1 [] r = P at h hPl e1 ⊢;obtain ⟨k, tg, ru, ds, ou, we, ta⟩ := r;dsimp only at hk hF hD hd16 hnm ht2 h eF e1 hw0 htg3 hord;subst hk;have q0 : ∃ q, P = 1 :: q := ⟨_, by rw [e1, eF]; simp only [aak, aav, aam]; rfl⟩;have q1 : [1] ++ a8 tg <+: P := ⟨_, by rw [e1, eF]; simp only [aak, aav, aam]; rfl⟩;have q2 : [1] ++ a8 tg ++ vrn ru.toNat <+: P := ⟨_, by rw [e1, eF]; simp only [aak, aav, aam]; rfl⟩;have q3 : [1] ++ a8 tg ++ vrn ru.toNat ++ vrn ds.length <+: P := ⟨_, by rw [e1, eF]; simp only [aak, aav, aam]; rfl⟩;obtain ⟨q, q0⟩ := q0;conv=>whnf
  refine wM q0 (by omega) ?_;conv=>whnf
  refine yv ht2 q1 (by omega) ?_;conv=>whnf
  refine cY q2 ru.isLt (by omega) ?_;conv=>whnf
  refine cY q3 (by omega) (by omega) ?_;rw [← eF];generalize dp 1 [] (Rc.mk 1 tg ru ds ou we ta) = F at h hF e1 ⊢;clear q1 q2 q3 q0 eF;have p1 : F ++ bX 1 [] ds ++ vrn ou.toNat <+: P := ⟨[], by rw [aaR, e1]⟩;have e1' := e1;by_cases hds : ds = []
  ·subst hds;have hz : bX 1 [] [] = [] := rfl;rw [hz, aaR] at p1 e1;conv=>whnf
   refine aq.step ?_;conv=>whnf
   have hw : we = 0 := hw0 rfl;have hta : ta = [] := htg3 (by decide);subst hw hta;have pe : F ++ vrn ou.toNat = P := e1.symm;refine cY p1 ou.isLt (by omega) ?_;rw [pe];conv=>whnf
   exact cw (mg 1 tg ru.toNat ou.toNat 0 []) rfl h
  ·have hpos : 0 < ds.length := List.length_pos_iff.2 hds;have hstep : ∀ (i : Nat) (hi : i < ds.length) (A : B), A = F ++ bX 1 [] (ds.take i) → (A ++ a8 ds[i].name <+: P) ∧ (A ++ a8 ds[i].name ++ vrn ds[i].hash.toNat <+: P) ∧ A ++ a8 ds[i].name ++ vrn ds[i].hash.toNat = F ++ bX 1 [] (ds.take (i + 1)) := by
    intro i hi A hA;have e2 := mt (v := 1) (t := []) hi;have e3 : lT 1 [] ds[i] = a8 ds[i].name ++ vrn ds[i].hash.toNat := by simp [lT, cX]
    refine ⟨⟨_, by rw [e1, hA, e2, e3]; simp only [aak]; rfl⟩, ⟨_, by rw [e1, hA, e2, e3]; simp only [aak]; rfl⟩, ?_⟩;rw [hA, fm hi, e3];simp
   have h00 := hstep 0 hpos F (by simp [bX]);obtain ⟨w1, w2, w3⟩ := h00;have hn0 := hnm ds[0] (aaf hpos);have ho := hord (by decide) ds[0] (aaf hpos);have hn := hn0;have eN : IntKind.u64.wrap (((ds.length : Nat) : Int) - 1) = ((ds.length - 1 : Nat) : Int) := by
    show (((ds.length : Nat) : Int) - 1) % 18446744073709551616 = _;omega
   have ed : dO (ds.take 1) = [ds[0].enc] := by rw [j8 hpos]; rfl
   have hB2 : F ++ a8 ds[0].name ++ vrn ds[0].hash.toNat = F ++ bX 1 [] (ds.take 1) := w3;generalize hd0 : ds[0] = d at w1 w2 w3 hn0 ed hB2 ho hn;conv=>whnf
   refine aq.step ?_;conv=>whnf
   refine aK (aaa (by omega)) ?_;conv=>whnf
   refine lj P _ ?_;conv=>whnf
   refine yu hn.2 ho w1 (by omega) ?_;conv=>whnf
   refine cY w2 d.hash.isLt (by omega) ?_;conv=>whnf
   refine ⟨(by rw [jp]; decide : 1 * ((tab.ti 167).bytes + 1) ≤ 140737488355328), ?_⟩;conv=>whnf
   rw [eN, show [[AV.val (Value.string (ofB d.name)), AV.val (Value.int IntKind.u64 ((d.hash.toNat : Nat) : Int)), AV.val (Value.bool d.order)]] = dO (ds.take 1) from ed.symm, show (dO (ds.take 1)).length = 1 by rw [ed]; rfl];refine aq.ind2 (fun (i : Nat) (A : B) => [(6, un (ds.length - i))]) (fun i A => [(0, cO P A.length), (1, dg), (al 2, rdO), (al 4, rO 1 tg ru.toNat (.sl (some (al 56)) 3 (dO (ds.take i))) 0 0 []), (al 56, .row 167 3 i)]) (fun i _ => ds.length - i) (fun i A => 1 ≤ i ∧ i ≤ ds.length ∧ A = F ++ bX 1 [] (ds.take i)) 1 (F ++ a8 d.name ++ vrn d.hash.toNat) rfl ⟨by omega, by omega, hB2⟩ ?_;rintro i A ⟨h1, h2, hA⟩ IH;have hlA : (dO (ds.take i)).length = i := by rw [bD, aan]; omega
   conv=>whnf
   refine ae (fun hc => ?_) (fun hc => ?_)
   ·have hc : i < ds.length := by have hc := aal hc; omega
    obtain ⟨v1, v2, v3⟩ := hstep i hc A hA;have hni := hnm ds[i] (aaf hc);have ho := hord (by decide) ds[i] (aaf hc);have hn := hni;have IH := IH (i + 1) _ ⟨by omega, by omega, v3⟩ (by omega);rw [j8 hc] at IH;have eN2 : IntKind.u64.wrap (((ds.length - i : Nat) : Int) - 1) = ((ds.length - (i + 1) : Nat) : Int) := by
     show (((ds.length - i : Nat) : Int) - 1) % 18446744073709551616 = _;omega
    generalize ds[i] = e at v1 v2 v3 hni IH ho hn;conv=>whnf
    refine lj P _ ?_;conv=>whnf
    refine yu hn.2 ho v1 (by omega) ?_;conv=>whnf
    refine cY v2 e.hash.isLt (by omega) ?_;conv=>whnf
    refine ⟨hlA.symm, by rw [hlA, jp]; simp; omega, ?_⟩;conv=>whnf
    rw [eN2, hlA];exact IH
   ·have hc : i = ds.length := by have hc := aat hc; omega
    subst hc;rw [aax] at hA;rw [← hA] at p1 e1;rw [aax];conv=>whnf
    have hw : we = 0 := hw0 rfl;have hta : ta = [] := htg3 (by decide);subst hw hta;have pe : A ++ vrn ou.toNat = P := e1.symm;refine cY p1 ou.isLt (by omega) ?_;rw [pe];conv=>whnf
    exact bB h
 ·have e1 := gu (v := 1) (t := []) hk;have eg : r.enc = [vi 2, vs r.target, un 0, .sl none 3 [], un 0, un 0, vs []] := by
   rcases hm.kind with e | e
   ·rw [e] at hk; cases hk
   ·rw [e]; rfl
  have e2 : cX 1 [] r.target = a8 r.target := by simp [cX]
  rw [e2] at e1;rw [eg] at h;generalize bO 1 [] r = P at h hPl e1 ⊢;obtain ⟨k, tg, ru, ds, ou, we, ta⟩ := r;dsimp only at hk ht2 h e1;have q1 : [2] ++ a8 tg = P := by rw [e1]; rfl
  have q1' : [2] ++ a8 tg <+: P := ⟨[], by rw [aaR]; exact q1⟩;conv=>whnf
  refine wL e1 (by omega) ?_;conv=>whnf
  refine yv ht2 q1' (by omega) ?_;rw [q1];conv=>whnf
  exact cw (mg 2 tg 0 0 0 []) rfl h
theorem Gc (r : Rc) (l : List B) (hm : kF 2 r) (hl : l.length < 100000) (ht : r.target ∈ l) (hds : ∀ d ∈ r.deps, d.name ∈ l) (htg : r.tag ≠ [] → r.tag ∈ l) {R} (h : R (.agg r.enc) [cO (bO 2 l r) (bO 2 l r).length, bL 2 3 l, bK l, bJ l]) : ag Tryz.prog 216 [rdr, vi 2] [cO (bO 2 l r) 0, bL 2 3 l, bK l, bJ l] R := by
 have hk := hm.kind.imp id gw;have hF := gx (v := 2) (t := l) hm (by omega);have hD := gB (v := 2) (t := l) hm (by omega);have hPl := (ga (v := 2) (t := l) hm (by omega)).2;have hd16 := hm.deps;have hnm := hm.names;have ht2 := hm.t2;have hw0 := hm.wen;have htg3 := hm.tag3;have hord := hm.order;refine ag.res ?_;refine aa (an := K0) tab_ok Tryz.func216 ?_;rcases hk with hk | hk
 ·have e1 := eW (v := 2) (t := l) hk;have eF : dp 2 l r = [1] ++ vrn (l.idxOf r.target) ++ vrn r.rule.toNat ++ vrn r.deps.length := by unfold dp cX; simp
  have eE : lS 2 l r = vrn r.out.toNat ++ vrn r.wen.toNat := by simp [lS]
  rw [eE] at e1;generalize bO 2 l r = P at h hPl e1 ⊢;obtain ⟨k, tg, ru, ds, ou, we, ta⟩ := r;dsimp only at hk hF hD hd16 hnm ht2 h eF e1 hw0 htg3 hord ht hds htg;subst hk;have q0 : ∃ q, P = 1 :: q := ⟨_, by rw [e1, eF]; simp only [aak, aav, aam]; rfl⟩;have q1 : [1] ++ vrn (l.idxOf tg) <+: P := ⟨_, by rw [e1, eF]; simp only [aak, aav, aam]; rfl⟩;have q2 : [1] ++ vrn (l.idxOf tg) ++ vrn ru.toNat <+: P := ⟨_, by rw [e1, eF]; simp only [aak, aav, aam]; rfl⟩;have q3 : [1] ++ vrn (l.idxOf tg) ++ vrn ru.toNat ++ vrn ds.length <+: P := ⟨_, by rw [e1, eF]; simp only [aak, aav, aam]; rfl⟩;obtain ⟨q, q0⟩ := q0;conv=>whnf
  refine wM q0 (by omega) ?_;conv=>whnf
  refine nF ht q1 (by omega) (by omega) ?_;conv=>whnf
  refine cY q2 ru.isLt (by omega) ?_;conv=>whnf
  refine cY q3 (by omega) (by omega) ?_;rw [← eF];generalize dp 2 l (Rc.mk 1 tg ru ds ou we ta) = F at h hF e1 ⊢;clear q1 q2 q3 q0 eF;have p1 : F ++ bX 2 l ds ++ vrn ou.toNat <+: P := ⟨_, by rw [e1]; simp only [aak]; rfl⟩;have p2 : F ++ bX 2 l ds ++ vrn ou.toNat ++ vrn we.toNat = P := by rw [e1]; simp only [aak]
  have p2' : F ++ bX 2 l ds ++ vrn ou.toNat ++ vrn we.toNat <+: P := ⟨[], by rw [aaR]; exact p2⟩;have hds1 : ∀ d ∈ ds, d.name ∈ l := hds;have e1' := e1;by_cases hds : ds = []
  ·subst hds;have hz : bX 2 l [] = [] := rfl;rw [hz, aaR] at p1 e1;rw [hz, aaR] at p2 p2';conv=>whnf
   refine aq.step ?_;conv=>whnf
   have hta : ta = [] := htg3 (by decide);subst hta;refine cY p1 ou.isLt (by omega) ?_;conv=>whnf
   refine cY p2' we.isLt (by omega) ?_;rw [p2];conv=>whnf
   exact cw (mg 1 tg ru.toNat ou.toNat we.toNat []) rfl h
  ·have hpos : 0 < ds.length := List.length_pos_iff.2 hds;have hstep : ∀ (i : Nat) (hi : i < ds.length) (A : B), A = F ++ bX 2 l (ds.take i) → (A ++ vrn (l.idxOf ds[i].name) <+: P) ∧ (A ++ vrn (l.idxOf ds[i].name) ++ vrn ds[i].hash.toNat <+: P) ∧ A ++ vrn (l.idxOf ds[i].name) ++ vrn ds[i].hash.toNat = F ++ bX 2 l (ds.take (i + 1)) := by
    intro i hi A hA;have e2 := mt (v := 2) (t := l) hi;have e3 : lT 2 l ds[i] = vrn (l.idxOf ds[i].name) ++ vrn ds[i].hash.toNat := by simp [lT, cX]
    refine ⟨⟨_, by rw [e1, hA, e2, e3]; simp only [aak]; rfl⟩, ⟨_, by rw [e1, hA, e2, e3]; simp only [aak]; rfl⟩, ?_⟩;rw [hA, fm hi, e3];simp
   have h00 := hstep 0 hpos F (by simp [bX]);obtain ⟨w1, w2, w3⟩ := h00;have hn0 := hnm ds[0] (aaf hpos);have ho := hord (by decide) ds[0] (aaf hpos);have hin := hds1 ds[0] (aaf hpos);have eN : IntKind.u64.wrap (((ds.length : Nat) : Int) - 1) = ((ds.length - 1 : Nat) : Int) := by
    show (((ds.length : Nat) : Int) - 1) % 18446744073709551616 = _;omega
   have ed : dO (ds.take 1) = [ds[0].enc] := by rw [j8 hpos]; rfl
   have hB2 : F ++ vrn (l.idxOf ds[0].name) ++ vrn ds[0].hash.toNat = F ++ bX 2 l (ds.take 1) := w3;generalize hd0 : ds[0] = d at w1 w2 w3 hn0 ed hB2 ho hin;conv=>whnf
   refine aq.step ?_;conv=>whnf
   refine aK (aaa (by omega)) ?_;conv=>whnf
   refine lj P _ ?_;conv=>whnf
   refine yr hin ho w1 (by omega) (by omega) ?_;conv=>whnf
   refine cY w2 d.hash.isLt (by omega) ?_;conv=>whnf
   refine ⟨(by rw [jp]; decide : 1 * ((tab.ti 167).bytes + 1) ≤ 140737488355328), ?_⟩;conv=>whnf
   rw [eN, show [[AV.val (Value.string (ofB d.name)), AV.val (Value.int IntKind.u64 ((d.hash.toNat : Nat) : Int)), AV.val (Value.bool d.order)]] = dO (ds.take 1) from ed.symm, show (dO (ds.take 1)).length = 1 by rw [ed]; rfl];refine aq.ind2 (fun (i : Nat) (A : B) => [(6, un (ds.length - i))]) (fun i A => [(0, cO P A.length), (1, bL 2 3 l), (2, bK l), (3, bJ l), (al 2, rdO), (al 4, rO 1 tg ru.toNat (.sl (some (al 56)) 3 (dO (ds.take i))) 0 0 []), (al 56, .row 167 3 i)]) (fun i _ => ds.length - i) (fun i A => 1 ≤ i ∧ i ≤ ds.length ∧ A = F ++ bX 2 l (ds.take i)) 1 (F ++ vrn (l.idxOf d.name) ++ vrn d.hash.toNat) rfl ⟨by omega, by omega, hB2⟩ ?_;rintro i A ⟨h1, h2, hA⟩ IH;have hlA : (dO (ds.take i)).length = i := by rw [bD, aan]; omega
   conv=>whnf
   refine ae (fun hc => ?_) (fun hc => ?_)
   ·have hc : i < ds.length := by have hc := aal hc; omega
    obtain ⟨v1, v2, v3⟩ := hstep i hc A hA;have hni := hnm ds[i] (aaf hc);have ho := hord (by decide) ds[i] (aaf hc);have hin := hds1 ds[i] (aaf hc);have IH := IH (i + 1) _ ⟨by omega, by omega, v3⟩ (by omega);rw [j8 hc] at IH;have eN2 : IntKind.u64.wrap (((ds.length - i : Nat) : Int) - 1) = ((ds.length - (i + 1) : Nat) : Int) := by
     show (((ds.length - i : Nat) : Int) - 1) % 18446744073709551616 = _;omega
    generalize ds[i] = e at v1 v2 v3 hni IH ho hin;conv=>whnf
    refine lj P _ ?_;conv=>whnf
    refine yr hin ho v1 (by omega) (by omega) ?_;conv=>whnf
    refine cY v2 e.hash.isLt (by omega) ?_;conv=>whnf
    refine ⟨hlA.symm, by rw [hlA, jp]; simp; omega, ?_⟩;conv=>whnf
    rw [eN2, hlA];exact IH
   ·have hc : i = ds.length := by have hc := aat hc; omega
    subst hc;rw [aax] at hA;rw [← hA] at p1 e1;rw [← hA] at p2 p2';rw [aax];conv=>whnf
    have hta : ta = [] := htg3 (by decide);subst hta;refine cY p1 ou.isLt (by omega) ?_;conv=>whnf
    refine cY p2' we.isLt (by omega) ?_;rw [p2];conv=>whnf
    exact bB h
 ·have e1 := gu (v := 2) (t := l) hk;have eg : r.enc = [vi 2, vs r.target, un 0, .sl none 3 [], un 0, un 0, vs []] := by
   rcases hm.kind with e | e
   ·rw [e] at hk; cases hk
   ·rw [e]; rfl
  have e2 : cX 2 l r.target = vrn (l.idxOf r.target) := by simp [cX]
  rw [e2] at e1;rw [eg] at h;generalize bO 2 l r = P at h hPl e1 ⊢;obtain ⟨k, tg, ru, ds, ou, we, ta⟩ := r;dsimp only at hk ht2 h e1 ht hds htg;have q1 : [2] ++ vrn (l.idxOf tg) = P := by rw [e1]; rfl
  have q1' : [2] ++ vrn (l.idxOf tg) <+: P := ⟨[], by rw [aaR]; exact q1⟩;conv=>whnf
  refine wL e1 (by omega) ?_;conv=>whnf
  refine nF ht q1' (by omega) (by omega) ?_;rw [q1];conv=>whnf
  exact cw (mg 2 tg 0 0 0 []) rfl h
theorem Gb (r : Rc) (l : List B) (hm : kF 3 r) (hl : l.length < 100000) (ht : r.target ∈ l) (hds : ∀ d ∈ r.deps, d.name ∈ l) (htg : r.tag ≠ [] → r.tag ∈ l) {R} (h : R (.agg r.enc) [cO (bO 3 l r) (bO 3 l r).length, bL 2 3 l, bK l, bJ l]) : ag Tryz.prog 216 [rdr, vi 3] [cO (bO 3 l r) 0, bL 2 3 l, bK l, bJ l] R := by
 have hk := hm.kind.imp id gw;have hF := gx (v := 3) (t := l) hm (by omega);have hD := gB (v := 3) (t := l) hm (by omega);have hPl := (ga (v := 3) (t := l) hm (by omega)).2;have hd16 := hm.deps;have hnm := hm.names;have ht2 := hm.t2;have hw0 := hm.wen;have htg3 := hm.tag3;have hord := hm.order;refine ag.res ?_;refine aa (an := K0) tab_ok Tryz.func216 ?_;rcases hk with hk | hk
 ·have e1 := eW (v := 3) (t := l) hk;have eF : dp 3 l r = [1] ++ vrn (l.idxOf r.target) ++ vrn r.rule.toNat ++ vrn r.deps.length := by unfold dp cX; simp
  have eE : lS 3 l r = vrn r.out.toNat ++ vrn r.wen.toNat ++ kH l r.tag := by simp [lS]
  rw [eE] at e1;generalize bO 3 l r = P at h hPl e1 ⊢;obtain ⟨k, tg, ru, ds, ou, we, ta⟩ := r;dsimp only at hk hF hD hd16 hnm ht2 h eF e1 hw0 htg3 hord ht hds htg;subst hk;have q0 : ∃ q, P = 1 :: q := ⟨_, by rw [e1, eF]; simp only [aak, aav, aam]; rfl⟩;have q1 : [1] ++ vrn (l.idxOf tg) <+: P := ⟨_, by rw [e1, eF]; simp only [aak, aav, aam]; rfl⟩;have q2 : [1] ++ vrn (l.idxOf tg) ++ vrn ru.toNat <+: P := ⟨_, by rw [e1, eF]; simp only [aak, aav, aam]; rfl⟩;have q3 : [1] ++ vrn (l.idxOf tg) ++ vrn ru.toNat ++ vrn ds.length <+: P := ⟨_, by rw [e1, eF]; simp only [aak, aav, aam]; rfl⟩;obtain ⟨q, q0⟩ := q0;conv=>whnf
  refine wM q0 (by omega) ?_;conv=>whnf
  refine nF ht q1 (by omega) (by omega) ?_;conv=>whnf
  refine cY q2 ru.isLt (by omega) ?_;conv=>whnf
  refine cY q3 (by omega) (by omega) ?_;rw [← eF];generalize dp 3 l (Rc.mk 1 tg ru ds ou we ta) = F at h hF e1 ⊢;clear q1 q2 q3 q0 eF;have p1 : F ++ bX 3 l ds ++ vrn ou.toNat <+: P := ⟨_, by rw [e1]; simp only [aak]; rfl⟩;have p2 : F ++ bX 3 l ds ++ vrn ou.toNat ++ vrn we.toNat <+: P := ⟨_, by rw [e1]; simp only [aak]; rfl⟩;have hds1 : ∀ d ∈ ds, d.name ∈ l := hds;have e1' := e1;by_cases hds : ds = []
  ·subst hds;have hz : bX 3 l [] = [] := rfl;rw [hz, aaR] at p1 e1;rw [hz, aaR] at p2;conv=>whnf
   refine aq.step ?_;conv=>whnf
   have hix := aa6 (a := ta) (l := l);have pe : F ++ vrn ou.toNat ++ vrn we.toNat ++ kH l ta = P := by rw [e1]; simp only [aak]
   have pe' : F ++ vrn ou.toNat ++ vrn we.toNat ++ kH l ta <+: P := ⟨[], by rw [aaR]; exact pe⟩;refine cY p1 ou.isLt (by omega) ?_;conv=>whnf
   refine cY p2 we.isLt (by omega) ?_;conv=>whnf
   by_cases hta : ta = []
   ·subst hta;rw [show kH l [] = vrn 0 from rfl] at pe pe';refine cY pe' (by omega) (by omega) ?_;rw [pe];conv=>whnf
    exact cw (mg 1 tg ru.toNat ou.toNat we.toNat []) rfl h
   ·have hti := htg hta;rw [show kH l ta = vrn (l.idxOf ta + 1) by simp [kH, hta]] at pe pe';obtain ⟨hi2, he2⟩ := AT hti;have eT : IntKind.u64.wrap (((l.idxOf ta + 1 : Nat) : Int) - 1) = ((l.idxOf ta : Nat) : Int) := by
     show (((l.idxOf ta + 1 : Nat) : Int) - 1) % 18446744073709551616 = _;omega
    refine cY pe' (by omega) (by omega) ?_;rw [pe];conv=>whnf
    refine aK (aaa (by omega)) ?_;conv=>whnf
    rw [eT];refine pJ P l _ (l.idxOf ta) hi2 (by omega) ?_;rw [he2];conv=>whnf
    exact cw (mg 1 tg ru.toNat ou.toNat we.toNat ta) rfl h
  ·have hpos : 0 < ds.length := List.length_pos_iff.2 hds;have hstep : ∀ (i : Nat) (hi : i < ds.length) (A : B), A = F ++ bX 3 l (ds.take i) → (A ++ vrn (eQ l ds[i]) <+: P) ∧ (A ++ vrn (eQ l ds[i]) ++ vrn ds[i].hash.toNat <+: P) ∧ A ++ vrn (eQ l ds[i]) ++ vrn ds[i].hash.toNat = F ++ bX 3 l (ds.take (i + 1)) := by
    intro i hi A hA;have e2 := mt (v := 3) (t := l) hi;have e3 : lT 3 l ds[i] = vrn (eQ l ds[i]) ++ vrn ds[i].hash.toNat := by simp [lT, cX]
    refine ⟨⟨_, by rw [e1, hA, e2, e3]; simp only [aak]; rfl⟩, ⟨_, by rw [e1, hA, e2, e3]; simp only [aak]; rfl⟩, ?_⟩;rw [hA, fm hi, e3];simp
   have h00 := hstep 0 hpos F (by simp [bX]);obtain ⟨w1, w2, w3⟩ := h00;have hn0 := hnm ds[0] (aaf hpos);have hin := hds1 ds[0] (aaf hpos);have eN : IntKind.u64.wrap (((ds.length : Nat) : Int) - 1) = ((ds.length - 1 : Nat) : Int) := by
    show (((ds.length : Nat) : Int) - 1) % 18446744073709551616 = _;omega
   have ed : dO (ds.take 1) = [ds[0].enc] := by rw [j8 hpos]; rfl
   have hB2 : F ++ vrn (eQ l ds[0]) ++ vrn ds[0].hash.toNat = F ++ bX 3 l (ds.take 1) := w3;generalize hd0 : ds[0] = d at w1 w2 w3 hn0 ed hB2 hin;conv=>whnf
   refine aq.step ?_;conv=>whnf
   refine aK (aaa (by omega)) ?_;conv=>whnf
   refine lj P _ ?_;conv=>whnf
   refine yq hin w1 (by omega) (by omega) ?_;conv=>whnf
   refine cY w2 d.hash.isLt (by omega) ?_;conv=>whnf
   refine ⟨(by rw [jp]; decide : 1 * ((tab.ti 167).bytes + 1) ≤ 140737488355328), ?_⟩;conv=>whnf
   rw [eN, show [[AV.val (Value.string (ofB d.name)), AV.val (Value.int IntKind.u64 ((d.hash.toNat : Nat) : Int)), AV.val (Value.bool d.order)]] = dO (ds.take 1) from ed.symm, show (dO (ds.take 1)).length = 1 by rw [ed]; rfl];refine aq.ind2 (fun (i : Nat) (A : B) => [(6, un (ds.length - i))]) (fun i A => [(0, cO P A.length), (1, bL 2 3 l), (2, bK l), (3, bJ l), (al 2, rdO), (al 4, rO 1 tg ru.toNat (.sl (some (al 56)) 3 (dO (ds.take i))) 0 0 []), (al 56, .row 167 3 i)]) (fun i _ => ds.length - i) (fun i A => 1 ≤ i ∧ i ≤ ds.length ∧ A = F ++ bX 3 l (ds.take i)) 1 (F ++ vrn (eQ l d) ++ vrn d.hash.toNat) rfl ⟨by omega, by omega, hB2⟩ ?_;rintro i A ⟨h1, h2, hA⟩ IH;have hlA : (dO (ds.take i)).length = i := by rw [bD, aan]; omega
   conv=>whnf
   refine ae (fun hc => ?_) (fun hc => ?_)
   ·have hc : i < ds.length := by have hc := aal hc; omega
    obtain ⟨v1, v2, v3⟩ := hstep i hc A hA;have hni := hnm ds[i] (aaf hc);have hin := hds1 ds[i] (aaf hc);have IH := IH (i + 1) _ ⟨by omega, by omega, v3⟩ (by omega);rw [j8 hc] at IH;have eN2 : IntKind.u64.wrap (((ds.length - i : Nat) : Int) - 1) = ((ds.length - (i + 1) : Nat) : Int) := by
     show (((ds.length - i : Nat) : Int) - 1) % 18446744073709551616 = _;omega
    generalize ds[i] = e at v1 v2 v3 hni IH hin;conv=>whnf
    refine lj P _ ?_;conv=>whnf
    refine yq hin v1 (by omega) (by omega) ?_;conv=>whnf
    refine cY v2 e.hash.isLt (by omega) ?_;conv=>whnf
    refine ⟨hlA.symm, by rw [hlA, jp]; simp; omega, ?_⟩;conv=>whnf
    rw [eN2, hlA];exact IH
   ·have hc : i = ds.length := by have hc := aat hc; omega
    subst hc;rw [aax] at hA;rw [← hA] at p1 e1;rw [← hA] at p2;rw [aax];conv=>whnf
    have hix := aa6 (a := ta) (l := l);have pe : A ++ vrn ou.toNat ++ vrn we.toNat ++ kH l ta = P := by rw [e1]; simp only [aak]
    have pe' : A ++ vrn ou.toNat ++ vrn we.toNat ++ kH l ta <+: P := ⟨[], by rw [aaR]; exact pe⟩;refine cY p1 ou.isLt (by omega) ?_;conv=>whnf
    refine cY p2 we.isLt (by omega) ?_;conv=>whnf
    by_cases hta : ta = []
    ·subst hta;rw [show kH l [] = vrn 0 from rfl] at pe pe';refine cY pe' (by omega) (by omega) ?_;rw [pe];conv=>whnf
     exact bB h
    ·have hti := htg hta;rw [show kH l ta = vrn (l.idxOf ta + 1) by simp [kH, hta]] at pe pe';obtain ⟨hi2, he2⟩ := AT hti;have eT : IntKind.u64.wrap (((l.idxOf ta + 1 : Nat) : Int) - 1) = ((l.idxOf ta : Nat) : Int) := by
      show (((l.idxOf ta + 1 : Nat) : Int) - 1) % 18446744073709551616 = _;omega
     refine cY pe' (by omega) (by omega) ?_;rw [pe];conv=>whnf
     refine aK (aaa (by omega)) ?_;conv=>whnf
     rw [eT];refine pJ P l _ (l.idxOf ta) hi2 (by omega) ?_;rw [he2];conv=>whnf
     exact bB h
 ·have e1 := gu (v := 3) (t := l) hk;have eg : r.enc = [vi 2, vs r.target, un 0, .sl none 3 [], un 0, un 0, vs []] := by
   rcases hm.kind with e | e
   ·rw [e] at hk; cases hk
   ·rw [e]; rfl
  have e2 : cX 3 l r.target = vrn (l.idxOf r.target) := by simp [cX]
  rw [e2] at e1;rw [eg] at h;generalize bO 3 l r = P at h hPl e1 ⊢;obtain ⟨k, tg, ru, ds, ou, we, ta⟩ := r;dsimp only at hk ht2 h e1 ht hds htg;have q1 : [2] ++ vrn (l.idxOf tg) = P := by rw [e1]; rfl
  have q1' : [2] ++ vrn (l.idxOf tg) <+: P := ⟨[], by rw [aaR]; exact q1⟩;conv=>whnf
  refine wL e1 (by omega) ?_;conv=>whnf
  refine nF ht q1' (by omega) (by omega) ?_;rw [q1];conv=>whnf
  exact cw (mg 2 tg 0 0 0 []) rfl h
theorem II (a : B) {R} (h : R (.val (.bool true)) []) : ag Tryz.prog 218 [.sl none 1 (ai a), .sl none 1 (ai a)] [] R := by
 refine aa (an := RM) tab_ok Tryz.func218 ?_;obtain ⟨ns, n1, n2⟩ := gR a;conv=>whnf
 refine ⟨ns, n1, ?_⟩;rw [n2];conv=>whnf
 refine ⟨ns, n1, ?_⟩;rw [n2];conv=>whnf
 rw [aaa rfl];exact h
theorem kz (l : List B) (hl : l.length < 1000000) {R} (h : R (.val (.bool true)) []) : ag Tryz.prog 217 [.sl none 1 (cc l), .sl none 1 (cc l), .fn (.func 218) [] []] [] R := by
 refine aa (an := RN) tab_ok Tryz.func217 ?_;have hrl := aP l;conv=>whnf
 refine ak (by simp) ?_;conv=>whnf
 refine aq.ind1 (fun (i : Nat) => [(17, vi i)]) (fun i => []) (fun i => l.length - i) (fun i => i ≤ l.length) 0 rfl (by omega) ?_;rintro i h0 IH;conv=>whnf
 refine ae (fun hc => ?_) (fun hc => ?_)
 ·have hc := ap hrl hc
  (conv=>whnf); (repeat ((with_reducible refine ac ?_ ?_); exact aaa (by omega); (conv=>whnf)))
  refine idxNat (by simpa using hc) ?_
  (conv=>whnf); (repeat ((with_reducible refine ac ?_ ?_); exact aaa (by omega); (conv=>whnf)))
  refine idxNat (by simpa using hc) ?_;conv=>whnf
  refine II l[i] ?_;conv=>whnf
  rw [am (by omega)];exact IH (i + 1) (by omega) (by omega)
 ·conv=>whnf
  exact h
def Dt : AV := .agg [vi 0, vs [], un 0, .val (.slice none 0 0), un 0, un 0, vs []]
theorem kB (s : B) : List.drop (1 : Int).toNat (List.take (((ai (bq s)).length : Nat) : Int).toNat (ai (bq s))) = ai s := by
 rw [aaC, aax];rfl
theorem D7 (A : List B) (hA : A.length < 100000) {R} (h : R (.tup [Dt, vi 0, vi 6]) [dg]) : ag Tryz.prog 166 [vi 1, .ptr 0 0, .sl none 1 (cc A), vi (A.length : Int)] [dg] R := by
 refine aa (an := qk) tab_ok Tryz.func166 ?_;have hrl := aP A;conv=>whnf
 refine F1 ?_;conv=>whnf
 refine ak (aai (by omega)) ?_;conv=>whnf
 refine iv ?_;conv=>whnf
 refine aq.step ?_;conv=>whnf
 refine ak (aai (by omega)) ?_;conv=>whnf
 refine aK (beq_iff_eq.2 (by omega)) ?_;conv=>whnf
 exact h
theorem D6 (A ms : List B) (hA : A.length < 100000) (hml : ms.length < 5000) {R} (h : R (.tup [Dt, vi 0, vi 6]) [dg]) : ag Tryz.prog 166 [vi 2, .ptr 0 0, .sl none 1 (cc (A ++ ms.map bq)), vi (A.length : Int)] [dg] R := by
 refine aa (an := qk) tab_ok Tryz.func166 ?_;have hPl : (A ++ ms.map bq).length = A.length + ms.length := by simp
 have hel : ∀ (i : Nat) (hi : i < ms.length) (hj : A.length + i < (A ++ ms.map bq).length), (A ++ ms.map bq)[A.length + i] = bq ms[i] := fun i hi hj => by
  rw [aaH (by omega)];simp
 generalize A ++ ms.map bq = P at hPl hel ⊢;have hrl := aP P;conv=>whnf
 refine tM ?_;conv=>whnf
 refine ak (aai (by omega)) ?_;conv=>whnf
 refine iv ?_;conv=>whnf
 by_cases hmne : ms = []
 ·subst hmne;simp only [aaj, aa8] at hPl;refine aq.step ?_;conv=>whnf
  refine ak (aai (by omega)) ?_;conv=>whnf
  refine aK (beq_iff_eq.2 (by omega)) ?_;conv=>whnf
  exact h
 obtain ⟨s, ms, rfl⟩ := abr hmne;simp only [aag] at hml;have hpl2 : (s :: ms).length = ms.length + 1 := rfl;refine aq.step ?_;have hp := hel 0 (by simp) (by omega);simp only [aa8, List.getElem_cons_zero] at hp;obtain ⟨ns, n1, n2⟩ := gR s;have hbl : (ai (bq s)).length = s.length + 1 := by rw [aL]; rfl
 conv=>whnf
 refine aK (aaa (by omega)) ?_
 (conv=>whnf); (repeat ((with_reducible refine ac ?_ ?_); exact aaa (by omega); (conv=>whnf)))
 refine ab (show ((A.length : Int) : Int).toNat < P.length by omega) ?_;rw [show P[((A.length : Int) : Int).toNat]'(by omega) = bq s from hp];conv=>whnf
 refine aK (aaa (by omega)) ?_
 (conv=>whnf); (repeat ((with_reducible refine ac ?_ ?_); exact aaa (by omega); (conv=>whnf)))
 refine ab (show ((A.length : Int) : Int).toNat < P.length by omega) ?_;rw [show P[((A.length : Int) : Int).toNat]'(by omega) = bq s from hp]
 (conv=>whnf); (repeat ((with_reducible refine ac ?_ ?_); exact aaa (by omega); (conv=>whnf)))
 refine ab (show ((A.length : Int) : Int).toNat < P.length by omega) ?_;rw [show P[((A.length : Int) : Int).toNat]'(by omega) = bq s from hp]
 (conv=>whnf); (repeat ((with_reducible refine ac ?_ ?_); exact aaa (by omega); (conv=>whnf)))
 refine ⟨ns, (by rw [kB]; exact n1), ?_⟩;rw [n2];conv=>whnf
 refine re s ?_;conv=>whnf
 rw [am (by omega)];refine aq.ind2 (fun (i : Nat) (T : List B) => [(9, vi ((A.length + i : Nat) : Int))]) (fun i T => [(0, dg), (al 8, rO 0 [] 0 (.val (.slice none 0 0)) 0 0 []), (ar 34 0, bL (ar 64 0) (ar 64 1) T), (ar 64 0, bK T), (ar 64 1, bJ T)]) (fun i _ => (s :: ms).length - i) (fun i T => i ≤ (s :: ms).length ∧ 1 ≤ i ∧ T.length ≤ i) 1 [s] rfl ⟨by simp, by omega, by simp⟩ ?_;rintro i T ⟨h0, h1, hT⟩ IH;conv=>whnf
 by_cases hc : i < (s :: ms).length
 ·have hp := hel i hc (by omega);have IH0 := IH (i + 1);clear IH;generalize (s :: ms)[i] = s2 at hp;obtain ⟨ns, n1, n2⟩ := gR s2;have hbl : (ai (bq s2)).length = s2.length + 1 := by rw [aL]; rfl
  refine aK (aaa (by omega)) ?_
  (conv=>whnf); (repeat ((with_reducible refine ac ?_ ?_); exact aaa (by omega); (conv=>whnf)))
  refine ab (show (((A.length + i : Nat) : Int) : Int).toNat < P.length by omega) ?_;rw [show P[(((A.length + i : Nat) : Int) : Int).toNat]'(by omega) = bq s2 from hp];conv=>whnf
  refine aK (aaa (by omega)) ?_
  (conv=>whnf); (repeat ((with_reducible refine ac ?_ ?_); exact aaa (by omega); (conv=>whnf)))
  refine ab (show (((A.length + i : Nat) : Int) : Int).toNat < P.length by omega) ?_;rw [show P[(((A.length + i : Nat) : Int) : Int).toNat]'(by omega) = bq s2 from hp]
  (conv=>whnf); (repeat ((with_reducible refine ac ?_ ?_); exact aaa (by omega); (conv=>whnf)))
  refine ab (show (((A.length + i : Nat) : Int) : Int).toNat < P.length by omega) ?_;rw [show P[(((A.length + i : Nat) : Int) : Int).toNat]'(by omega) = bq s2 from hp]
  (conv=>whnf); (repeat ((with_reducible refine ac ?_ ?_); exact aaa (by omega); (conv=>whnf)))
  refine ⟨ns, (by rw [kB]; exact n1), ?_⟩;rw [n2];conv=>whnf
  by_cases hs : s2 ∈ T
  ·have IH := IH0 T ⟨by omega, by omega, by omega⟩ (by omega);refine jN T s2 hs fun j => ?_;conv=>whnf
   rw [am (by omega)];exact IH
  ·have IH := IH0 (T ++ [s2]) ⟨by omega, by omega, by rw [aac]; simp only [aag, aaj]; omega⟩ (by omega);refine gW T s2 (by omega) hs fun j => ?_;conv=>whnf
   rw [am (by omega)];exact IH
 ·refine ak (aai (by omega)) ?_;conv=>whnf
  refine aK (beq_iff_eq.2 (by omega)) ?_;conv=>whnf
  exact h
theorem D5 (t : List B) (ht0 : t ≠ []) (htn : t.Nodup) (htl : t.length < 80000) (A ms : List B) (hA : A.length < 100000) (hml : ms.length < 5000) {R} (h : R (.tup [Dt, vi 0, vi 6]) [bL 1 2 t, bK t, bJ t]) : ag Tryz.prog 166 [vi 2, .ptr 0 0, .sl none 1 (cc (A ++ ms.map bq)), vi (A.length : Int)] [bL 1 2 t, bK t, bJ t] R := by
 refine aa (an := qk) tab_ok Tryz.func166 ?_;have hPl : (A ++ ms.map bq).length = A.length + ms.length := by simp
 have hel : ∀ (i : Nat) (hi : i < ms.length) (hj : A.length + i < (A ++ ms.map bq).length), (A ++ ms.map bq)[A.length + i] = bq ms[i] := fun i hi hj => by
  rw [aaH (by omega)];simp
 generalize A ++ ms.map bq = P at hPl hel ⊢;have hrl := aP P;conv=>whnf
 refine tM ?_;conv=>whnf
 refine ak (aai (by omega)) ?_;conv=>whnf
 refine jg t ht0 htn (by omega) ?_;conv=>whnf
 refine aq.ind2 (fun (i : Nat) (T : List B) => [(9, vi ((A.length + i : Nat) : Int))]) (fun i T => [(0, bL 1 2 t), (1, bK t), (2, bJ t), (al 8, rO 0 [] 0 (.val (.slice none 0 0)) 0 0 []), (ar 34 0, bL (ar 34 1) (ar 34 2) T), (ar 34 1, bK T), (ar 34 2, bJ T)]) (fun i _ => ms.length - i) (fun i T => i ≤ ms.length ∧ T.length ≤ t.length + i) 0 t rfl ⟨by omega, by omega⟩ ?_;rintro i T ⟨h0, hT⟩ IH;conv=>whnf
 by_cases hc : i < ms.length
 ·have hp := hel i hc (by omega);have IH0 := IH (i + 1);clear IH;generalize ms[i] = s at hp;obtain ⟨ns, n1, n2⟩ := gR s;have hbl : (ai (bq s)).length = s.length + 1 := by rw [aL]; rfl
  refine aK (aaa (by omega)) ?_
  (conv=>whnf); (repeat ((with_reducible refine ac ?_ ?_); exact aaa (by omega); (conv=>whnf)))
  refine ab (show (((A.length + i : Nat) : Int) : Int).toNat < P.length by omega) ?_;rw [show P[(((A.length + i : Nat) : Int) : Int).toNat]'(by omega) = bq s from hp];conv=>whnf
  refine aK (aaa (by omega)) ?_
  (conv=>whnf); (repeat ((with_reducible refine ac ?_ ?_); exact aaa (by omega); (conv=>whnf)))
  refine ab (show (((A.length + i : Nat) : Int) : Int).toNat < P.length by omega) ?_;rw [show P[(((A.length + i : Nat) : Int) : Int).toNat]'(by omega) = bq s from hp]
  (conv=>whnf); (repeat ((with_reducible refine ac ?_ ?_); exact aaa (by omega); (conv=>whnf)))
  refine ab (show (((A.length + i : Nat) : Int) : Int).toNat < P.length by omega) ?_;rw [show P[(((A.length + i : Nat) : Int) : Int).toNat]'(by omega) = bq s from hp]
  (conv=>whnf); (repeat ((with_reducible refine ac ?_ ?_); exact aaa (by omega); (conv=>whnf)))
  refine ⟨ns, (by rw [kB]; exact n1), ?_⟩;rw [n2];conv=>whnf
  by_cases hs : s ∈ T
  ·have IH := IH0 T ⟨by omega, by omega⟩ (by omega);refine jN T s hs fun j => ?_;conv=>whnf
   rw [am (by omega)];exact IH
  ·have IH := IH0 (T ++ [s]) ⟨by omega, by rw [aac]; simp only [aag, aaj]; omega⟩ (by omega);refine gW T s (by omega) hs fun j => ?_;conv=>whnf
   rw [am (by omega)];exact IH
 ·refine ak (aai (by omega)) ?_;conv=>whnf
  refine aK (beq_iff_eq.2 (by omega)) ?_;conv=>whnf
  exact h
theorem D4 (A ms : List B) (hA : A.length < 100000) (hml : ms.length < 5000) {R} (h : R (.tup [Dt, vi 0, vi 6]) [dg]) : ag Tryz.prog 166 [vi 3, .ptr 0 0, .sl none 1 (cc (A ++ ms.map bq)), vi (A.length : Int)] [dg] R := by
 refine aa (an := qk) tab_ok Tryz.func166 ?_;have hPl : (A ++ ms.map bq).length = A.length + ms.length := by simp
 have hel : ∀ (i : Nat) (hi : i < ms.length) (hj : A.length + i < (A ++ ms.map bq).length), (A ++ ms.map bq)[A.length + i] = bq ms[i] := fun i hi hj => by
  rw [aaH (by omega)];simp
 generalize A ++ ms.map bq = P at hPl hel ⊢;have hrl := aP P;conv=>whnf
 refine tL ?_;conv=>whnf
 refine ak (aai (by omega)) ?_;conv=>whnf
 refine iv ?_;conv=>whnf
 by_cases hmne : ms = []
 ·subst hmne;simp only [aaj, aa8] at hPl;refine aq.step ?_;conv=>whnf
  refine ak (aai (by omega)) ?_;conv=>whnf
  refine aK (beq_iff_eq.2 (by omega)) ?_;conv=>whnf
  exact h
 obtain ⟨s, ms, rfl⟩ := abr hmne;simp only [aag] at hml;have hpl2 : (s :: ms).length = ms.length + 1 := rfl;refine aq.step ?_;have hp := hel 0 (by simp) (by omega);simp only [aa8, List.getElem_cons_zero] at hp;obtain ⟨ns, n1, n2⟩ := gR s;have hbl : (ai (bq s)).length = s.length + 1 := by rw [aL]; rfl
 conv=>whnf
 refine aK (aaa (by omega)) ?_
 (conv=>whnf); (repeat ((with_reducible refine ac ?_ ?_); exact aaa (by omega); (conv=>whnf)))
 refine ab (show ((A.length : Int) : Int).toNat < P.length by omega) ?_;rw [show P[((A.length : Int) : Int).toNat]'(by omega) = bq s from hp];conv=>whnf
 refine aK (aaa (by omega)) ?_
 (conv=>whnf); (repeat ((with_reducible refine ac ?_ ?_); exact aaa (by omega); (conv=>whnf)))
 refine ab (show ((A.length : Int) : Int).toNat < P.length by omega) ?_;rw [show P[((A.length : Int) : Int).toNat]'(by omega) = bq s from hp]
 (conv=>whnf); (repeat ((with_reducible refine ac ?_ ?_); exact aaa (by omega); (conv=>whnf)))
 refine ab (show ((A.length : Int) : Int).toNat < P.length by omega) ?_;rw [show P[((A.length : Int) : Int).toNat]'(by omega) = bq s from hp]
 (conv=>whnf); (repeat ((with_reducible refine ac ?_ ?_); exact aaa (by omega); (conv=>whnf)))
 refine ⟨ns, (by rw [kB]; exact n1), ?_⟩;rw [n2];conv=>whnf
 refine re s ?_;conv=>whnf
 rw [am (by omega)];refine aq.ind2 (fun (i : Nat) (T : List B) => [(9, vi ((A.length + i : Nat) : Int))]) (fun i T => [(0, dg), (al 8, rO 0 [] 0 (.val (.slice none 0 0)) 0 0 []), (ar 34 0, bL (ar 64 0) (ar 64 1) T), (ar 64 0, bK T), (ar 64 1, bJ T)]) (fun i _ => (s :: ms).length - i) (fun i T => i ≤ (s :: ms).length ∧ 1 ≤ i ∧ T.length ≤ i) 1 [s] rfl ⟨by simp, by omega, by simp⟩ ?_;rintro i T ⟨h0, h1, hT⟩ IH;conv=>whnf
 by_cases hc : i < (s :: ms).length
 ·have hp := hel i hc (by omega);have IH0 := IH (i + 1);clear IH;generalize (s :: ms)[i] = s2 at hp;obtain ⟨ns, n1, n2⟩ := gR s2;have hbl : (ai (bq s2)).length = s2.length + 1 := by rw [aL]; rfl
  refine aK (aaa (by omega)) ?_
  (conv=>whnf); (repeat ((with_reducible refine ac ?_ ?_); exact aaa (by omega); (conv=>whnf)))
  refine ab (show (((A.length + i : Nat) : Int) : Int).toNat < P.length by omega) ?_;rw [show P[(((A.length + i : Nat) : Int) : Int).toNat]'(by omega) = bq s2 from hp];conv=>whnf
  refine aK (aaa (by omega)) ?_
  (conv=>whnf); (repeat ((with_reducible refine ac ?_ ?_); exact aaa (by omega); (conv=>whnf)))
  refine ab (show (((A.length + i : Nat) : Int) : Int).toNat < P.length by omega) ?_;rw [show P[(((A.length + i : Nat) : Int) : Int).toNat]'(by omega) = bq s2 from hp]
  (conv=>whnf); (repeat ((with_reducible refine ac ?_ ?_); exact aaa (by omega); (conv=>whnf)))
  refine ab (show (((A.length + i : Nat) : Int) : Int).toNat < P.length by omega) ?_;rw [show P[(((A.length + i : Nat) : Int) : Int).toNat]'(by omega) = bq s2 from hp]
  (conv=>whnf); (repeat ((with_reducible refine ac ?_ ?_); exact aaa (by omega); (conv=>whnf)))
  refine ⟨ns, (by rw [kB]; exact n1), ?_⟩;rw [n2];conv=>whnf
  by_cases hs : s2 ∈ T
  ·have IH := IH0 T ⟨by omega, by omega, by omega⟩ (by omega);refine jN T s2 hs fun j => ?_;conv=>whnf
   rw [am (by omega)];exact IH
  ·have IH := IH0 (T ++ [s2]) ⟨by omega, by omega, by rw [aac]; simp only [aag, aaj]; omega⟩ (by omega);refine gW T s2 (by omega) hs fun j => ?_;conv=>whnf
   rw [am (by omega)];exact IH
 ·refine ak (aai (by omega)) ?_;conv=>whnf
  refine aK (beq_iff_eq.2 (by omega)) ?_;conv=>whnf
  exact h
theorem D3 (t : List B) (ht0 : t ≠ []) (htn : t.Nodup) (htl : t.length < 80000) (A ms : List B) (hA : A.length < 100000) (hml : ms.length < 5000) {R} (h : R (.tup [Dt, vi 0, vi 6]) [bL 1 2 t, bK t, bJ t]) : ag Tryz.prog 166 [vi 3, .ptr 0 0, .sl none 1 (cc (A ++ ms.map bq)), vi (A.length : Int)] [bL 1 2 t, bK t, bJ t] R := by
 refine aa (an := qk) tab_ok Tryz.func166 ?_;have hPl : (A ++ ms.map bq).length = A.length + ms.length := by simp
 have hel : ∀ (i : Nat) (hi : i < ms.length) (hj : A.length + i < (A ++ ms.map bq).length), (A ++ ms.map bq)[A.length + i] = bq ms[i] := fun i hi hj => by
  rw [aaH (by omega)];simp
 generalize A ++ ms.map bq = P at hPl hel ⊢;have hrl := aP P;conv=>whnf
 refine tL ?_;conv=>whnf
 refine ak (aai (by omega)) ?_;conv=>whnf
 refine jg t ht0 htn (by omega) ?_;conv=>whnf
 refine aq.ind2 (fun (i : Nat) (T : List B) => [(9, vi ((A.length + i : Nat) : Int))]) (fun i T => [(0, bL 1 2 t), (1, bK t), (2, bJ t), (al 8, rO 0 [] 0 (.val (.slice none 0 0)) 0 0 []), (ar 34 0, bL (ar 34 1) (ar 34 2) T), (ar 34 1, bK T), (ar 34 2, bJ T)]) (fun i _ => ms.length - i) (fun i T => i ≤ ms.length ∧ T.length ≤ t.length + i) 0 t rfl ⟨by omega, by omega⟩ ?_;rintro i T ⟨h0, hT⟩ IH;conv=>whnf
 by_cases hc : i < ms.length
 ·have hp := hel i hc (by omega);have IH0 := IH (i + 1);clear IH;generalize ms[i] = s at hp;obtain ⟨ns, n1, n2⟩ := gR s;have hbl : (ai (bq s)).length = s.length + 1 := by rw [aL]; rfl
  refine aK (aaa (by omega)) ?_
  (conv=>whnf); (repeat ((with_reducible refine ac ?_ ?_); exact aaa (by omega); (conv=>whnf)))
  refine ab (show (((A.length + i : Nat) : Int) : Int).toNat < P.length by omega) ?_;rw [show P[(((A.length + i : Nat) : Int) : Int).toNat]'(by omega) = bq s from hp];conv=>whnf
  refine aK (aaa (by omega)) ?_
  (conv=>whnf); (repeat ((with_reducible refine ac ?_ ?_); exact aaa (by omega); (conv=>whnf)))
  refine ab (show (((A.length + i : Nat) : Int) : Int).toNat < P.length by omega) ?_;rw [show P[(((A.length + i : Nat) : Int) : Int).toNat]'(by omega) = bq s from hp]
  (conv=>whnf); (repeat ((with_reducible refine ac ?_ ?_); exact aaa (by omega); (conv=>whnf)))
  refine ab (show (((A.length + i : Nat) : Int) : Int).toNat < P.length by omega) ?_;rw [show P[(((A.length + i : Nat) : Int) : Int).toNat]'(by omega) = bq s from hp]
  (conv=>whnf); (repeat ((with_reducible refine ac ?_ ?_); exact aaa (by omega); (conv=>whnf)))
  refine ⟨ns, (by rw [kB]; exact n1), ?_⟩;rw [n2];conv=>whnf
  by_cases hs : s ∈ T
  ·have IH := IH0 T ⟨by omega, by omega⟩ (by omega);refine jN T s hs fun j => ?_;conv=>whnf
   rw [am (by omega)];exact IH
  ·have IH := IH0 (T ++ [s]) ⟨by omega, by rw [aac]; simp only [aag, aaj]; omega⟩ (by omega);refine gW T s (by omega) hs fun j => ?_;conv=>whnf
   rw [am (by omega)];exact IH
 ·refine ak (aai (by omega)) ?_;conv=>whnf
  refine aK (beq_iff_eq.2 (by omega)) ?_;conv=>whnf
  exact h
theorem LS (r : Rc) (hm : aR 1 r = true) (A Q : List B) (hA : A.length < 100000) (hQ : Q.length < 100000) {R} (h : R (.tup [.agg r.enc, vi ((A.length + (bu 1 [] r).length : Nat) : Int), vi 0]) [dg]) : ag Tryz.prog 166 [vi 1, .ptr 0 0, .sl none 1 (cc (A ++ bu 1 [] r ++ Q)), vi (A.length : Int)] [dg] R := by
 have hM := aT hm;have hd16 := hM.deps;refine aa (an := qk) tab_ok Tryz.func166 ?_;have hTl := fu 1 [] r;obtain ⟨ms, hms⟩ : ∃ ms, ms = ([] : List B) := ⟨_, rfl⟩;have hY : bu 1 [] r = ms.map bq ++ [bO 1 (bw 1 [] r) r] := by rw [hms]; simp [bu, fU]
 have hml : ms.length ≤ 18 := by
  rw [hms];simp
 have hLl := ga (v := 1) (t := bw 1 [] r) hM (by simp [bw]);obtain ⟨L, hLe⟩ : ∃ L, L = bO 1 (bw 1 [] r) r := ⟨_, rfl⟩;rw [← hLe] at hLl hY;have hLne : 0 < L.length := hLl.1;have hL0 : (((L[0]).toNat : Int) == 0) = false := by
  have : L[0] = 1 ∨ L[0] = 2 := by
   subst hLe;unfold bO;split <;> simp
  rcases this with e | e <;> rw [e] <;> rfl
 have hLb := aL L;have hYl : (bu 1 [] r).length = ms.length + 1 := by rw [hY]; simp
 have hPl : (A ++ bu 1 [] r ++ Q).length = A.length + ms.length + 1 + Q.length := by simp [hYl]; omega
 have hel : ∀ (i : Nat) (hi : i < ms.length) (hj : A.length + i < (A ++ bu 1 [] r ++ Q).length), (A ++ bu 1 [] r ++ Q)[A.length + i] = bq ms[i] := fun i hi hj => by
  rw [aaT (by simp [hYl]; omega), aaH (by omega), aa9 hY, aaT (by simp; omega)];simp
 have hlast : ∀ (hj : A.length + ms.length < (A ++ bu 1 [] r ++ Q).length), (A ++ bu 1 [] r ++ Q)[A.length + ms.length] = L := fun hj => by
  rw [aaT (by simp [hYl]), aaH (by omega), aa9 hY, aaH (by simp)];simp
 have eSl : List.drop A.length (List.take (A.length + ms.length + 1) (cc (A ++ bu 1 [] r ++ Q))) = cc (bu 1 [] r) := by
  rw [bY, bY, aaB (by simp [aP, hYl]; omega), aae (by simp [aP, hYl]; omega), abl (by rw [aP]; exact aar _), abC (by rw [aP]; exact aar _), aam]
 have hPut := @zC r hm;rw [hYl] at h;generalize hYe : bu 1 [] r = Y at hY hYl hel hlast eSl hPl hPut ⊢;generalize A ++ Y ++ Q = P at hel hlast eSl hPl ⊢;have hlast := hlast (by omega);have hrl := aP P;rw [nt] at hLe;have hRL := @LW r hM;rw [← hLe] at hRL;have hms0 := hms;clear hY hYe;conv=>whnf
 refine F1 ?_;conv=>whnf
 refine ak (aai (by omega)) ?_;conv=>whnf
 refine iv ?_;conv=>whnf
 refine aq.step ?_;simp only [hms0, aaj, aa8] at hlast eSl h hPl;conv=>whnf
 refine aK (aaa (by omega)) ?_
 (conv=>whnf); (repeat ((with_reducible refine ac ?_ ?_); exact aaa (by omega); (conv=>whnf)))
 refine ab (show (A.length : Int).toNat < P.length by omega) ?_;rw [show P[(A.length : Int).toNat]'(by omega) = L from hlast];conv=>whnf
 refine aK (aaa (by omega)) ?_
 (conv=>whnf); (repeat ((with_reducible refine ac ?_ ?_); exact aaa (by omega); (conv=>whnf)))
 refine ab (show (A.length : Int).toNat < P.length by omega) ?_;rw [show P[(A.length : Int).toNat]'(by omega) = L from hlast]
 (conv=>whnf); (repeat ((with_reducible refine ac ?_ ?_); exact aaa (by omega); (conv=>whnf)))
 refine ab (show (0 : Int).toNat < L.length by simp; omega) ?_;rw [show L[(0 : Int).toNat]'(by simp; omega) = L[0] from rfl];conv=>whnf
 refine ak hL0 ?_;conv=>whnf
 refine ak (beq_eq_false_iff_ne.2 (by omega)) ?_
 (conv=>whnf); (repeat ((with_reducible refine ac ?_ ?_); exact aaa (by omega); (conv=>whnf)))
 refine ab (show (A.length : Int).toNat < P.length by omega) ?_;rw [show P[(A.length : Int).toNat]'(by omega) = L from hlast];conv=>whnf
 refine lI L (by omega) ?_;conv=>whnf
 refine hRL ?_;conv=>whnf
 rw [am (by omega)];refine iv ?_;conv=>whnf
 refine hPut ?_;conv=>whnf
 refine ac (aaa (by omega)) ?_;conv=>whnf
 refine ac (aaa (by omega)) ?_;conv=>whnf
 refine (show ag Tryz.prog 217 [.sl none 1 (cc Y), .sl none 1 (List.drop A.length (List.take (A.length + 1) (cc P))), .fn (.func 218) [] []] [] _ from ?_);rw [eSl];refine kz Y (by omega) ?_;conv=>whnf
 refine hPut ?_;conv=>whnf
 exact h
theorem LR (r : Rc) (hm : aR 2 r = true) (A Q : List B) (hA : A.length < 100000) (hQ : Q.length < 100000) {R} (h : R (.tup [.agg r.enc, vi ((A.length + (bu 2 [] r).length : Nat) : Int), vi 0]) [bL 1 2 (bw 2 [] r), bK (bw 2 [] r), bJ (bw 2 [] r)]) : ag Tryz.prog 166 [vi 2, .ptr 0 0, .sl none 1 (cc (A ++ bu 2 [] r ++ Q)), vi (A.length : Int)] [dg] R := by
 have hM := aT hm;have hd16 := hM.deps;refine aa (an := qk) tab_ok Tryz.func166 ?_;have hTl := fu 2 [] r;obtain ⟨ms, hms⟩ : ∃ ms, ms = cF [] (bf r) := ⟨_, rfl⟩;have hY : bu 2 [] r = ms.map bq ++ [bO 2 (bw 2 [] r) r] := by rw [hms]; simp [bu, fU]
 have hml : ms.length ≤ 18 := by
  rw [hms];have := lA (bf r) [];have := dm r;omega
 have hfin : ms.foldl cL [] = bw 2 [] r := by rw [hms, kn, fF (by decide)]
 have hT1 := cm (v := 2) (by decide) [] r (x := r.target) (by simp [bI]);have hT2 : ∀ d ∈ r.deps, d.name ∈ bw 2 [] r := fun d hd => cm (by decide) [] r (aaw _ (aa3 _ (aaD hd)));have hT3 : r.tag ≠ [] → r.tag ∈ bw 2 [] r := fun e => cm (by decide) [] r (by simp [bI, e]);have hmne : ms ≠ [] := fun e => by
  rw [e] at hfin;exact kU (v := 2) (by decide) [] r hfin.symm
 have hLl := ga (v := 2) (t := bw 2 [] r) hM (by simp at hTl; omega);obtain ⟨L, hLe⟩ : ∃ L, L = bO 2 (bw 2 [] r) r := ⟨_, rfl⟩;rw [← hLe] at hLl hY;have hLne : 0 < L.length := hLl.1;have hL0 : (((L[0]).toNat : Int) == 0) = false := by
  have : L[0] = 1 ∨ L[0] = 2 := by
   subst hLe;unfold bO;split <;> simp
  rcases this with e | e <;> rw [e] <;> rfl
 have hLb := aL L;have hYl : (bu 2 [] r).length = ms.length + 1 := by rw [hY]; simp
 have hPl : (A ++ bu 2 [] r ++ Q).length = A.length + ms.length + 1 + Q.length := by simp [hYl]; omega
 have hel : ∀ (i : Nat) (hi : i < ms.length) (hj : A.length + i < (A ++ bu 2 [] r ++ Q).length), (A ++ bu 2 [] r ++ Q)[A.length + i] = bq ms[i] := fun i hi hj => by
  rw [aaT (by simp [hYl]; omega), aaH (by omega), aa9 hY, aaT (by simp; omega)];simp
 have hlast : ∀ (hj : A.length + ms.length < (A ++ bu 2 [] r ++ Q).length), (A ++ bu 2 [] r ++ Q)[A.length + ms.length] = L := fun hj => by
  rw [aaT (by simp [hYl]), aaH (by omega), aa9 hY, aaH (by simp)];simp
 have eSl : List.drop A.length (List.take (A.length + ms.length + 1) (cc (A ++ bu 2 [] r ++ Q))) = cc (bu 2 [] r) := by
  rw [bY, bY, aaB (by simp [aP, hYl]; omega), aae (by simp [aP, hYl]; omega), abl (by rw [aP]; exact aar _), abC (by rw [aP]; exact aar _), aam]
 have hPut := @F6 r hm;rw [hYl] at h;generalize hYe : bu 2 [] r = Y at hY hYl hel hlast eSl hPl hPut ⊢;generalize A ++ Y ++ Q = P at hel hlast eSl hPl ⊢;have hlast := hlast (by omega);have hrl := aP P;generalize bw 2 [] r = U at h hTl hT1 hT2 hT3 hLe hfin hPut;have hRL := @Gc r U hM (by simp at hTl; omega) hT1 hT2 hT3;rw [← hLe] at hRL;clear hms hY hYe;conv=>whnf
 refine tM ?_;conv=>whnf
 refine ak (aai (by omega)) ?_;conv=>whnf
 refine iv ?_;conv=>whnf
 obtain ⟨s, ms, rfl⟩ := abr hmne;refine aq.step ?_;have hp := hel 0 (by simp) (by omega);simp only [aa8, List.getElem_cons_zero] at hp;obtain ⟨ns, n1, n2⟩ := gR s;have hbl : (ai (bq s)).length = s.length + 1 := by rw [aL]; rfl
 conv=>whnf
 refine aK (aaa (by omega)) ?_
 (conv=>whnf); (repeat ((with_reducible refine ac ?_ ?_); exact aaa (by omega); (conv=>whnf)))
 refine ab (show ((A.length : Int) : Int).toNat < P.length by omega) ?_;rw [show P[((A.length : Int) : Int).toNat]'(by omega) = bq s from hp];conv=>whnf
 refine aK (aaa (by omega)) ?_
 (conv=>whnf); (repeat ((with_reducible refine ac ?_ ?_); exact aaa (by omega); (conv=>whnf)))
 refine ab (show ((A.length : Int) : Int).toNat < P.length by omega) ?_;rw [show P[((A.length : Int) : Int).toNat]'(by omega) = bq s from hp]
 (conv=>whnf); (repeat ((with_reducible refine ac ?_ ?_); exact aaa (by omega); (conv=>whnf)))
 refine ab (show ((A.length : Int) : Int).toNat < P.length by omega) ?_;rw [show P[((A.length : Int) : Int).toNat]'(by omega) = bq s from hp]
 (conv=>whnf); (repeat ((with_reducible refine ac ?_ ?_); exact aaa (by omega); (conv=>whnf)))
 refine ⟨ns, (by rw [kB]; exact n1), ?_⟩;rw [n2];conv=>whnf
 refine re s ?_;conv=>whnf
 rw [am (by omega)];refine aq.ind2 (fun (i : Nat) (T : List B) => [(9, vi ((A.length + i : Nat) : Int))]) (fun i T => [(0, dg), (al 8, rO 0 [] 0 (.val (.slice none 0 0)) 0 0 []), (ar 34 0, bL (ar 64 0) (ar 64 1) T), (ar 64 0, bK T), (ar 64 1, bJ T)]) (fun i _ => (s :: ms).length - i) (fun i T => i ≤ (s :: ms).length ∧ 1 ≤ i ∧ T.length ≤ i ∧ T = ((s :: ms).take i).foldl cL []) 1 [s] rfl ⟨by simp, by omega, by simp, by simp [cL]⟩ ?_;rintro i T ⟨h0, h1, hT, hTe⟩ IH;conv=>whnf
 by_cases hc : i < (s :: ms).length
 ·have hp := hel i hc (by omega);have IH0 := IH (i + 1);clear IH;have hTs : cL T (s :: ms)[i] = ((s :: ms).take (i + 1)).foldl cL [] := by
   rw [aab hc, abn, ← hTe];rfl
  generalize (s :: ms)[i] = s2 at hp hTs;obtain ⟨ns, n1, n2⟩ := gR s2;have hbl : (ai (bq s2)).length = s2.length + 1 := by rw [aL]; rfl
  refine aK (aaa (by omega)) ?_
  (conv=>whnf); (repeat ((with_reducible refine ac ?_ ?_); exact aaa (by omega); (conv=>whnf)))
  refine ab (show (((A.length + i : Nat) : Int) : Int).toNat < P.length by omega) ?_;rw [show P[(((A.length + i : Nat) : Int) : Int).toNat]'(by omega) = bq s2 from hp];conv=>whnf
  refine aK (aaa (by omega)) ?_
  (conv=>whnf); (repeat ((with_reducible refine ac ?_ ?_); exact aaa (by omega); (conv=>whnf)))
  refine ab (show (((A.length + i : Nat) : Int) : Int).toNat < P.length by omega) ?_;rw [show P[(((A.length + i : Nat) : Int) : Int).toNat]'(by omega) = bq s2 from hp]
  (conv=>whnf); (repeat ((with_reducible refine ac ?_ ?_); exact aaa (by omega); (conv=>whnf)))
  refine ab (show (((A.length + i : Nat) : Int) : Int).toNat < P.length by omega) ?_;rw [show P[(((A.length + i : Nat) : Int) : Int).toNat]'(by omega) = bq s2 from hp]
  (conv=>whnf); (repeat ((with_reducible refine ac ?_ ?_); exact aaa (by omega); (conv=>whnf)))
  refine ⟨ns, (by rw [kB]; exact n1), ?_⟩;rw [n2];conv=>whnf
  by_cases hs : s2 ∈ T
  ·have IH := IH0 T ⟨by omega, by omega, by omega, by rw [← hTs, dJ hs]⟩ (by omega);refine jN T s2 hs fun j => ?_;conv=>whnf
   rw [am (by omega)];exact IH
  ·have IH := IH0 (T ++ [s2]) ⟨by omega, by omega, by rw [aac]; simp only [aag, aaj]; omega, by rw [← hTs, du hs]⟩ (by omega);refine gW T s2 (by omega) hs fun j => ?_;conv=>whnf
   rw [am (by omega)];exact IH
 ·have hi : i = (s :: ms).length := by omega
  subst hi;rw [aax, hfin] at hTe;subst hTe;clear IH;refine aK (aaa (by omega)) ?_
  (conv=>whnf); (repeat ((with_reducible refine ac ?_ ?_); exact aaa (by omega); (conv=>whnf)))
  refine ab (show ((A.length + (s :: ms).length : Nat) : Int).toNat < P.length by omega) ?_;rw [show P[((A.length + (s :: ms).length : Nat) : Int).toNat]'(by omega) = L from hlast];conv=>whnf
  refine aK (aaa (by omega)) ?_
  (conv=>whnf); (repeat ((with_reducible refine ac ?_ ?_); exact aaa (by omega); (conv=>whnf)))
  refine ab (show ((A.length + (s :: ms).length : Nat) : Int).toNat < P.length by omega) ?_;rw [show P[((A.length + (s :: ms).length : Nat) : Int).toNat]'(by omega) = L from hlast]
  (conv=>whnf); (repeat ((with_reducible refine ac ?_ ?_); exact aaa (by omega); (conv=>whnf)))
  refine ab (show (0 : Int).toNat < L.length by simp; omega) ?_;rw [show L[(0 : Int).toNat]'(by simp; omega) = L[0] from rfl];conv=>whnf
  refine ak hL0 ?_;conv=>whnf
  refine ak (beq_eq_false_iff_ne.2 (by omega)) ?_
  (conv=>whnf); (repeat ((with_reducible refine ac ?_ ?_); exact aaa (by omega); (conv=>whnf)))
  refine ab (show ((A.length + (s :: ms).length : Nat) : Int).toNat < P.length by omega) ?_;rw [show P[((A.length + (s :: ms).length : Nat) : Int).toNat]'(by omega) = L from hlast];conv=>whnf
  refine lI L (by omega) ?_;conv=>whnf
  refine hRL ?_;conv=>whnf
  rw [am (by omega)];refine iv ?_;conv=>whnf
  refine hPut ?_;conv=>whnf
  refine ac (aaa (by omega)) ?_;conv=>whnf
  refine ac (aaa (by omega)) ?_;conv=>whnf
  refine (show ag Tryz.prog 217 [.sl none 1 (cc Y), .sl none 1 (List.drop A.length (List.take (A.length + (s :: ms).length + 1) (cc P))), .fn (.func 218) [] []] [] _ from ?_);rw [eSl];refine kz Y (by omega) ?_;conv=>whnf
  refine hPut ?_;conv=>whnf
  exact h
theorem LQ (r : Rc) (hm : aR 2 r = true) (t : List B) (ht0 : t ≠ []) (htn : t.Nodup) (htl : t.length < 80000) (A Q : List B) (hA : A.length < 100000) (hQ : Q.length < 100000) {R} (h : R (.tup [.agg r.enc, vi ((A.length + (bu 2 t r).length : Nat) : Int), vi 0]) [bL 1 2 (bw 2 t r), bK (bw 2 t r), bJ (bw 2 t r)]) : ag Tryz.prog 166 [vi 2, .ptr 0 0, .sl none 1 (cc (A ++ bu 2 t r ++ Q)), vi (A.length : Int)] [bL 1 2 t, bK t, bJ t] R := by
 have hM := aT hm;have hd16 := hM.deps;refine aa (an := qk) tab_ok Tryz.func166 ?_;have hTl := fu 2 t r;obtain ⟨ms, hms⟩ : ∃ ms, ms = cF t (bf r) := ⟨_, rfl⟩;have hY : bu 2 t r = ms.map bq ++ [bO 2 (bw 2 t r) r] := by rw [hms]; simp [bu, fU]
 have hml : ms.length ≤ 18 := by
  rw [hms];have := lA (bf r) t;have := dm r;omega
 have hfin : ms.foldl cL t = bw 2 t r := by rw [hms, kn, fF (by decide)]
 have hT1 := cm (v := 2) (by decide) t r (x := r.target) (by simp [bI]);have hT2 : ∀ d ∈ r.deps, d.name ∈ bw 2 t r := fun d hd => cm (by decide) t r (aaw _ (aa3 _ (aaD hd)));have hT3 : r.tag ≠ [] → r.tag ∈ bw 2 t r := fun e => cm (by decide) t r (by simp [bI, e]);have hLl := ga (v := 2) (t := bw 2 t r) hM (by omega);obtain ⟨L, hLe⟩ : ∃ L, L = bO 2 (bw 2 t r) r := ⟨_, rfl⟩;rw [← hLe] at hLl hY;have hLne : 0 < L.length := hLl.1;have hL0 : (((L[0]).toNat : Int) == 0) = false := by
  have : L[0] = 1 ∨ L[0] = 2 := by
   subst hLe;unfold bO;split <;> simp
  rcases this with e | e <;> rw [e] <;> rfl
 have hLb := aL L;have hYl : (bu 2 t r).length = ms.length + 1 := by rw [hY]; simp
 have hPl : (A ++ bu 2 t r ++ Q).length = A.length + ms.length + 1 + Q.length := by simp [hYl]; omega
 have hel : ∀ (i : Nat) (hi : i < ms.length) (hj : A.length + i < (A ++ bu 2 t r ++ Q).length), (A ++ bu 2 t r ++ Q)[A.length + i] = bq ms[i] := fun i hi hj => by
  rw [aaT (by simp [hYl]; omega), aaH (by omega), aa9 hY, aaT (by simp; omega)];simp
 have hlast : ∀ (hj : A.length + ms.length < (A ++ bu 2 t r ++ Q).length), (A ++ bu 2 t r ++ Q)[A.length + ms.length] = L := fun hj => by
  rw [aaT (by simp [hYl]), aaH (by omega), aa9 hY, aaH (by simp)];simp
 have eSl : List.drop A.length (List.take (A.length + ms.length + 1) (cc (A ++ bu 2 t r ++ Q))) = cc (bu 2 t r) := by
  rw [bY, bY, aaB (by simp [aP, hYl]; omega), aae (by simp [aP, hYl]; omega), abl (by rw [aP]; exact aar _), abC (by rw [aP]; exact aar _), aam]
 have hPut := @F5 r t (by omega) hm;rw [hYl] at h;generalize hYe : bu 2 t r = Y at hY hYl hel hlast eSl hPl hPut ⊢;generalize A ++ Y ++ Q = P at hel hlast eSl hPl ⊢;have hlast := hlast (by omega);have hrl := aP P;generalize bw 2 t r = U at h hTl hT1 hT2 hT3 hLe hfin hPut;have hRL := @Gc r U hM (by omega) hT1 hT2 hT3;rw [← hLe] at hRL;clear hms hY hYe;conv=>whnf
 refine tM ?_;conv=>whnf
 refine ak (aai (by omega)) ?_;conv=>whnf
 refine jg t ht0 htn (by omega) ?_;conv=>whnf
 refine aq.ind2 (fun (i : Nat) (T : List B) => [(9, vi ((A.length + i : Nat) : Int))]) (fun i T => [(0, bL 1 2 t), (1, bK t), (2, bJ t), (al 8, rO 0 [] 0 (.val (.slice none 0 0)) 0 0 []), (ar 34 0, bL (ar 34 1) (ar 34 2) T), (ar 34 1, bK T), (ar 34 2, bJ T)]) (fun i _ => ms.length - i) (fun i T => i ≤ ms.length ∧ T.length ≤ t.length + i ∧ T = (ms.take i).foldl cL t) 0 t rfl ⟨by omega, by omega, by simp⟩ ?_;rintro i T ⟨h0, hT, hTe⟩ IH;conv=>whnf
 by_cases hc : i < ms.length
 ·have hp := hel i hc (by omega);have IH0 := IH (i + 1);clear IH;have hTs : cL T ms[i] = (ms.take (i + 1)).foldl cL t := by
   rw [aab hc, abn, ← hTe];rfl
  generalize ms[i] = s at hp hTs;obtain ⟨ns, n1, n2⟩ := gR s;have hbl : (ai (bq s)).length = s.length + 1 := by rw [aL]; rfl
  refine aK (aaa (by omega)) ?_
  (conv=>whnf); (repeat ((with_reducible refine ac ?_ ?_); exact aaa (by omega); (conv=>whnf)))
  refine ab (show (((A.length + i : Nat) : Int) : Int).toNat < P.length by omega) ?_;rw [show P[(((A.length + i : Nat) : Int) : Int).toNat]'(by omega) = bq s from hp];conv=>whnf
  refine aK (aaa (by omega)) ?_
  (conv=>whnf); (repeat ((with_reducible refine ac ?_ ?_); exact aaa (by omega); (conv=>whnf)))
  refine ab (show (((A.length + i : Nat) : Int) : Int).toNat < P.length by omega) ?_;rw [show P[(((A.length + i : Nat) : Int) : Int).toNat]'(by omega) = bq s from hp]
  (conv=>whnf); (repeat ((with_reducible refine ac ?_ ?_); exact aaa (by omega); (conv=>whnf)))
  refine ab (show (((A.length + i : Nat) : Int) : Int).toNat < P.length by omega) ?_;rw [show P[(((A.length + i : Nat) : Int) : Int).toNat]'(by omega) = bq s from hp]
  (conv=>whnf); (repeat ((with_reducible refine ac ?_ ?_); exact aaa (by omega); (conv=>whnf)))
  refine ⟨ns, (by rw [kB]; exact n1), ?_⟩;rw [n2];conv=>whnf
  by_cases hs : s ∈ T
  ·have IH := IH0 T ⟨by omega, by omega, by rw [← hTs, dJ hs]⟩ (by omega);refine jN T s hs fun j => ?_;conv=>whnf
   rw [am (by omega)];exact IH
  ·have IH := IH0 (T ++ [s]) ⟨by omega, by rw [aac]; simp only [aag, aaj]; omega, by rw [← hTs, du hs]⟩ (by omega);refine gW T s (by omega) hs fun j => ?_;conv=>whnf
   rw [am (by omega)];exact IH
 ·have hi : i = ms.length := by omega
  subst hi;rw [aax, hfin] at hTe;subst hTe;clear IH;refine aK (aaa (by omega)) ?_
  (conv=>whnf); (repeat ((with_reducible refine ac ?_ ?_); exact aaa (by omega); (conv=>whnf)))
  refine ab (show ((A.length + ms.length : Nat) : Int).toNat < P.length by omega) ?_;rw [show P[((A.length + ms.length : Nat) : Int).toNat]'(by omega) = L from hlast];conv=>whnf
  refine aK (aaa (by omega)) ?_
  (conv=>whnf); (repeat ((with_reducible refine ac ?_ ?_); exact aaa (by omega); (conv=>whnf)))
  refine ab (show ((A.length + ms.length : Nat) : Int).toNat < P.length by omega) ?_;rw [show P[((A.length + ms.length : Nat) : Int).toNat]'(by omega) = L from hlast]
  (conv=>whnf); (repeat ((with_reducible refine ac ?_ ?_); exact aaa (by omega); (conv=>whnf)))
  refine ab (show (0 : Int).toNat < L.length by simp; omega) ?_;rw [show L[(0 : Int).toNat]'(by simp; omega) = L[0] from rfl];conv=>whnf
  refine ak hL0 ?_;conv=>whnf
  refine ak (beq_eq_false_iff_ne.2 (by omega)) ?_
  (conv=>whnf); (repeat ((with_reducible refine ac ?_ ?_); exact aaa (by omega); (conv=>whnf)))
  refine ab (show ((A.length + ms.length : Nat) : Int).toNat < P.length by omega) ?_;rw [show P[((A.length + ms.length : Nat) : Int).toNat]'(by omega) = L from hlast];conv=>whnf
  refine lI L (by omega) ?_;conv=>whnf
  refine hRL ?_;conv=>whnf
  rw [am (by omega)];refine jg t ht0 htn (by omega) ?_;conv=>whnf
  refine hPut ?_;conv=>whnf
  refine ac (aaa (by omega)) ?_;conv=>whnf
  refine ac (aaa (by omega)) ?_;conv=>whnf
  refine (show ag Tryz.prog 217 [.sl none 1 (cc Y), .sl none 1 (List.drop A.length (List.take (A.length + ms.length + 1) (cc P))), .fn (.func 218) [] []] [] _ from ?_);rw [eSl];refine kz Y (by omega) ?_;conv=>whnf
  refine hPut ?_;conv=>whnf
  exact h
theorem LP (r : Rc) (hm : aR 3 r = true) (A Q : List B) (hA : A.length < 100000) (hQ : Q.length < 100000) {R} (h : R (.tup [.agg r.enc, vi ((A.length + (bu 3 [] r).length : Nat) : Int), vi 0]) [bL 1 2 (bw 3 [] r), bK (bw 3 [] r), bJ (bw 3 [] r)]) : ag Tryz.prog 166 [vi 3, .ptr 0 0, .sl none 1 (cc (A ++ bu 3 [] r ++ Q)), vi (A.length : Int)] [dg] R := by
 have hM := aT hm;have hd16 := hM.deps;refine aa (an := qk) tab_ok Tryz.func166 ?_;have hTl := fu 3 [] r;obtain ⟨ms, hms⟩ : ∃ ms, ms = cF [] (bf r) := ⟨_, rfl⟩;have hY : bu 3 [] r = ms.map bq ++ [bO 3 (bw 3 [] r) r] := by rw [hms]; simp [bu, fU]
 have hml : ms.length ≤ 18 := by
  rw [hms];have := lA (bf r) [];have := dm r;omega
 have hfin : ms.foldl cL [] = bw 3 [] r := by rw [hms, kn, fF (by decide)]
 have hT1 := cm (v := 3) (by decide) [] r (x := r.target) (by simp [bI]);have hT2 : ∀ d ∈ r.deps, d.name ∈ bw 3 [] r := fun d hd => cm (by decide) [] r (aaw _ (aa3 _ (aaD hd)));have hT3 : r.tag ≠ [] → r.tag ∈ bw 3 [] r := fun e => cm (by decide) [] r (by simp [bI, e]);have hmne : ms ≠ [] := fun e => by
  rw [e] at hfin;exact kU (v := 3) (by decide) [] r hfin.symm
 have hLl := ga (v := 3) (t := bw 3 [] r) hM (by simp at hTl; omega);obtain ⟨L, hLe⟩ : ∃ L, L = bO 3 (bw 3 [] r) r := ⟨_, rfl⟩;rw [← hLe] at hLl hY;have hLne : 0 < L.length := hLl.1;have hL0 : (((L[0]).toNat : Int) == 0) = false := by
  have : L[0] = 1 ∨ L[0] = 2 := by
   subst hLe;unfold bO;split <;> simp
  rcases this with e | e <;> rw [e] <;> rfl
 have hLb := aL L;have hYl : (bu 3 [] r).length = ms.length + 1 := by rw [hY]; simp
 have hPl : (A ++ bu 3 [] r ++ Q).length = A.length + ms.length + 1 + Q.length := by simp [hYl]; omega
 have hel : ∀ (i : Nat) (hi : i < ms.length) (hj : A.length + i < (A ++ bu 3 [] r ++ Q).length), (A ++ bu 3 [] r ++ Q)[A.length + i] = bq ms[i] := fun i hi hj => by
  rw [aaT (by simp [hYl]; omega), aaH (by omega), aa9 hY, aaT (by simp; omega)];simp
 have hlast : ∀ (hj : A.length + ms.length < (A ++ bu 3 [] r ++ Q).length), (A ++ bu 3 [] r ++ Q)[A.length + ms.length] = L := fun hj => by
  rw [aaT (by simp [hYl]), aaH (by omega), aa9 hY, aaH (by simp)];simp
 have eSl : List.drop A.length (List.take (A.length + ms.length + 1) (cc (A ++ bu 3 [] r ++ Q))) = cc (bu 3 [] r) := by
  rw [bY, bY, aaB (by simp [aP, hYl]; omega), aae (by simp [aP, hYl]; omega), abl (by rw [aP]; exact aar _), abC (by rw [aP]; exact aar _), aam]
 have hPut := @F4 r hm;rw [hYl] at h;generalize hYe : bu 3 [] r = Y at hY hYl hel hlast eSl hPl hPut ⊢;generalize A ++ Y ++ Q = P at hel hlast eSl hPl ⊢;have hlast := hlast (by omega);have hrl := aP P;generalize bw 3 [] r = U at h hTl hT1 hT2 hT3 hLe hfin hPut;have hRL := @Gb r U hM (by simp at hTl; omega) hT1 hT2 hT3;rw [← hLe] at hRL;clear hms hY hYe;conv=>whnf
 refine tL ?_;conv=>whnf
 refine ak (aai (by omega)) ?_;conv=>whnf
 refine iv ?_;conv=>whnf
 obtain ⟨s, ms, rfl⟩ := abr hmne;refine aq.step ?_;have hp := hel 0 (by simp) (by omega);simp only [aa8, List.getElem_cons_zero] at hp;obtain ⟨ns, n1, n2⟩ := gR s;have hbl : (ai (bq s)).length = s.length + 1 := by rw [aL]; rfl
 conv=>whnf
 refine aK (aaa (by omega)) ?_
 (conv=>whnf); (repeat ((with_reducible refine ac ?_ ?_); exact aaa (by omega); (conv=>whnf)))
 refine ab (show ((A.length : Int) : Int).toNat < P.length by omega) ?_;rw [show P[((A.length : Int) : Int).toNat]'(by omega) = bq s from hp];conv=>whnf
 refine aK (aaa (by omega)) ?_
 (conv=>whnf); (repeat ((with_reducible refine ac ?_ ?_); exact aaa (by omega); (conv=>whnf)))
 refine ab (show ((A.length : Int) : Int).toNat < P.length by omega) ?_;rw [show P[((A.length : Int) : Int).toNat]'(by omega) = bq s from hp]
 (conv=>whnf); (repeat ((with_reducible refine ac ?_ ?_); exact aaa (by omega); (conv=>whnf)))
 refine ab (show ((A.length : Int) : Int).toNat < P.length by omega) ?_;rw [show P[((A.length : Int) : Int).toNat]'(by omega) = bq s from hp]
 (conv=>whnf); (repeat ((with_reducible refine ac ?_ ?_); exact aaa (by omega); (conv=>whnf)))
 refine ⟨ns, (by rw [kB]; exact n1), ?_⟩;rw [n2];conv=>whnf
 refine re s ?_;conv=>whnf
 rw [am (by omega)];refine aq.ind2 (fun (i : Nat) (T : List B) => [(9, vi ((A.length + i : Nat) : Int))]) (fun i T => [(0, dg), (al 8, rO 0 [] 0 (.val (.slice none 0 0)) 0 0 []), (ar 34 0, bL (ar 64 0) (ar 64 1) T), (ar 64 0, bK T), (ar 64 1, bJ T)]) (fun i _ => (s :: ms).length - i) (fun i T => i ≤ (s :: ms).length ∧ 1 ≤ i ∧ T.length ≤ i ∧ T = ((s :: ms).take i).foldl cL []) 1 [s] rfl ⟨by simp, by omega, by simp, by simp [cL]⟩ ?_;rintro i T ⟨h0, h1, hT, hTe⟩ IH;conv=>whnf
 by_cases hc : i < (s :: ms).length
 ·have hp := hel i hc (by omega);have IH0 := IH (i + 1);clear IH;have hTs : cL T (s :: ms)[i] = ((s :: ms).take (i + 1)).foldl cL [] := by
   rw [aab hc, abn, ← hTe];rfl
  generalize (s :: ms)[i] = s2 at hp hTs;obtain ⟨ns, n1, n2⟩ := gR s2;have hbl : (ai (bq s2)).length = s2.length + 1 := by rw [aL]; rfl
  refine aK (aaa (by omega)) ?_
  (conv=>whnf); (repeat ((with_reducible refine ac ?_ ?_); exact aaa (by omega); (conv=>whnf)))
  refine ab (show (((A.length + i : Nat) : Int) : Int).toNat < P.length by omega) ?_;rw [show P[(((A.length + i : Nat) : Int) : Int).toNat]'(by omega) = bq s2 from hp];conv=>whnf
  refine aK (aaa (by omega)) ?_
  (conv=>whnf); (repeat ((with_reducible refine ac ?_ ?_); exact aaa (by omega); (conv=>whnf)))
  refine ab (show (((A.length + i : Nat) : Int) : Int).toNat < P.length by omega) ?_;rw [show P[(((A.length + i : Nat) : Int) : Int).toNat]'(by omega) = bq s2 from hp]
  (conv=>whnf); (repeat ((with_reducible refine ac ?_ ?_); exact aaa (by omega); (conv=>whnf)))
  refine ab (show (((A.length + i : Nat) : Int) : Int).toNat < P.length by omega) ?_;rw [show P[(((A.length + i : Nat) : Int) : Int).toNat]'(by omega) = bq s2 from hp]
  (conv=>whnf); (repeat ((with_reducible refine ac ?_ ?_); exact aaa (by omega); (conv=>whnf)))
  refine ⟨ns, (by rw [kB]; exact n1), ?_⟩;rw [n2];conv=>whnf
  by_cases hs : s2 ∈ T
  ·have IH := IH0 T ⟨by omega, by omega, by omega, by rw [← hTs, dJ hs]⟩ (by omega);refine jN T s2 hs fun j => ?_;conv=>whnf
   rw [am (by omega)];exact IH
  ·have IH := IH0 (T ++ [s2]) ⟨by omega, by omega, by rw [aac]; simp only [aag, aaj]; omega, by rw [← hTs, du hs]⟩ (by omega);refine gW T s2 (by omega) hs fun j => ?_;conv=>whnf
   rw [am (by omega)];exact IH
 ·have hi : i = (s :: ms).length := by omega
  subst hi;rw [aax, hfin] at hTe;subst hTe;clear IH;refine aK (aaa (by omega)) ?_
  (conv=>whnf); (repeat ((with_reducible refine ac ?_ ?_); exact aaa (by omega); (conv=>whnf)))
  refine ab (show ((A.length + (s :: ms).length : Nat) : Int).toNat < P.length by omega) ?_;rw [show P[((A.length + (s :: ms).length : Nat) : Int).toNat]'(by omega) = L from hlast];conv=>whnf
  refine aK (aaa (by omega)) ?_
  (conv=>whnf); (repeat ((with_reducible refine ac ?_ ?_); exact aaa (by omega); (conv=>whnf)))
  refine ab (show ((A.length + (s :: ms).length : Nat) : Int).toNat < P.length by omega) ?_;rw [show P[((A.length + (s :: ms).length : Nat) : Int).toNat]'(by omega) = L from hlast]
  (conv=>whnf); (repeat ((with_reducible refine ac ?_ ?_); exact aaa (by omega); (conv=>whnf)))
  refine ab (show (0 : Int).toNat < L.length by simp; omega) ?_;rw [show L[(0 : Int).toNat]'(by simp; omega) = L[0] from rfl];conv=>whnf
  refine ak hL0 ?_;conv=>whnf
  refine ak (beq_eq_false_iff_ne.2 (by omega)) ?_
  (conv=>whnf); (repeat ((with_reducible refine ac ?_ ?_); exact aaa (by omega); (conv=>whnf)))
  refine ab (show ((A.length + (s :: ms).length : Nat) : Int).toNat < P.length by omega) ?_;rw [show P[((A.length + (s :: ms).length : Nat) : Int).toNat]'(by omega) = L from hlast];conv=>whnf
  refine lI L (by omega) ?_;conv=>whnf
  refine hRL ?_;conv=>whnf
  rw [am (by omega)];refine iv ?_;conv=>whnf
  refine hPut ?_;conv=>whnf
  refine ac (aaa (by omega)) ?_;conv=>whnf
  refine ac (aaa (by omega)) ?_;conv=>whnf
  refine (show ag Tryz.prog 217 [.sl none 1 (cc Y), .sl none 1 (List.drop A.length (List.take (A.length + (s :: ms).length + 1) (cc P))), .fn (.func 218) [] []] [] _ from ?_);rw [eSl];refine kz Y (by omega) ?_;conv=>whnf
  refine hPut ?_;conv=>whnf
  exact h
theorem LO (r : Rc) (hm : aR 3 r = true) (t : List B) (ht0 : t ≠ []) (htn : t.Nodup) (htl : t.length < 80000) (A Q : List B) (hA : A.length < 100000) (hQ : Q.length < 100000) {R} (h : R (.tup [.agg r.enc, vi ((A.length + (bu 3 t r).length : Nat) : Int), vi 0]) [bL 1 2 (bw 3 t r), bK (bw 3 t r), bJ (bw 3 t r)]) : ag Tryz.prog 166 [vi 3, .ptr 0 0, .sl none 1 (cc (A ++ bu 3 t r ++ Q)), vi (A.length : Int)] [bL 1 2 t, bK t, bJ t] R := by
 have hM := aT hm;have hd16 := hM.deps;refine aa (an := qk) tab_ok Tryz.func166 ?_;have hTl := fu 3 t r;obtain ⟨ms, hms⟩ : ∃ ms, ms = cF t (bf r) := ⟨_, rfl⟩;have hY : bu 3 t r = ms.map bq ++ [bO 3 (bw 3 t r) r] := by rw [hms]; simp [bu, fU]
 have hml : ms.length ≤ 18 := by
  rw [hms];have := lA (bf r) t;have := dm r;omega
 have hfin : ms.foldl cL t = bw 3 t r := by rw [hms, kn, fF (by decide)]
 have hT1 := cm (v := 3) (by decide) t r (x := r.target) (by simp [bI]);have hT2 : ∀ d ∈ r.deps, d.name ∈ bw 3 t r := fun d hd => cm (by decide) t r (aaw _ (aa3 _ (aaD hd)));have hT3 : r.tag ≠ [] → r.tag ∈ bw 3 t r := fun e => cm (by decide) t r (by simp [bI, e]);have hLl := ga (v := 3) (t := bw 3 t r) hM (by omega);obtain ⟨L, hLe⟩ : ∃ L, L = bO 3 (bw 3 t r) r := ⟨_, rfl⟩;rw [← hLe] at hLl hY;have hLne : 0 < L.length := hLl.1;have hL0 : (((L[0]).toNat : Int) == 0) = false := by
  have : L[0] = 1 ∨ L[0] = 2 := by
   subst hLe;unfold bO;split <;> simp
  rcases this with e | e <;> rw [e] <;> rfl
 have hLb := aL L;have hYl : (bu 3 t r).length = ms.length + 1 := by rw [hY]; simp
 have hPl : (A ++ bu 3 t r ++ Q).length = A.length + ms.length + 1 + Q.length := by simp [hYl]; omega
 have hel : ∀ (i : Nat) (hi : i < ms.length) (hj : A.length + i < (A ++ bu 3 t r ++ Q).length), (A ++ bu 3 t r ++ Q)[A.length + i] = bq ms[i] := fun i hi hj => by
  rw [aaT (by simp [hYl]; omega), aaH (by omega), aa9 hY, aaT (by simp; omega)];simp
 have hlast : ∀ (hj : A.length + ms.length < (A ++ bu 3 t r ++ Q).length), (A ++ bu 3 t r ++ Q)[A.length + ms.length] = L := fun hj => by
  rw [aaT (by simp [hYl]), aaH (by omega), aa9 hY, aaH (by simp)];simp
 have eSl : List.drop A.length (List.take (A.length + ms.length + 1) (cc (A ++ bu 3 t r ++ Q))) = cc (bu 3 t r) := by
  rw [bY, bY, aaB (by simp [aP, hYl]; omega), aae (by simp [aP, hYl]; omega), abl (by rw [aP]; exact aar _), abC (by rw [aP]; exact aar _), aam]
 have hPut := @F3 r t (by omega) hm;rw [hYl] at h;generalize hYe : bu 3 t r = Y at hY hYl hel hlast eSl hPl hPut ⊢;generalize A ++ Y ++ Q = P at hel hlast eSl hPl ⊢;have hlast := hlast (by omega);have hrl := aP P;generalize bw 3 t r = U at h hTl hT1 hT2 hT3 hLe hfin hPut;have hRL := @Gb r U hM (by omega) hT1 hT2 hT3;rw [← hLe] at hRL;clear hms hY hYe;conv=>whnf
 refine tL ?_;conv=>whnf
 refine ak (aai (by omega)) ?_;conv=>whnf
 refine jg t ht0 htn (by omega) ?_;conv=>whnf
 refine aq.ind2 (fun (i : Nat) (T : List B) => [(9, vi ((A.length + i : Nat) : Int))]) (fun i T => [(0, bL 1 2 t), (1, bK t), (2, bJ t), (al 8, rO 0 [] 0 (.val (.slice none 0 0)) 0 0 []), (ar 34 0, bL (ar 34 1) (ar 34 2) T), (ar 34 1, bK T), (ar 34 2, bJ T)]) (fun i _ => ms.length - i) (fun i T => i ≤ ms.length ∧ T.length ≤ t.length + i ∧ T = (ms.take i).foldl cL t) 0 t rfl ⟨by omega, by omega, by simp⟩ ?_;rintro i T ⟨h0, hT, hTe⟩ IH;conv=>whnf
 by_cases hc : i < ms.length
 ·have hp := hel i hc (by omega);have IH0 := IH (i + 1);clear IH;have hTs : cL T ms[i] = (ms.take (i + 1)).foldl cL t := by
   rw [aab hc, abn, ← hTe];rfl
  generalize ms[i] = s at hp hTs;obtain ⟨ns, n1, n2⟩ := gR s;have hbl : (ai (bq s)).length = s.length + 1 := by rw [aL]; rfl
  refine aK (aaa (by omega)) ?_
  (conv=>whnf); (repeat ((with_reducible refine ac ?_ ?_); exact aaa (by omega); (conv=>whnf)))
  refine ab (show (((A.length + i : Nat) : Int) : Int).toNat < P.length by omega) ?_;rw [show P[(((A.length + i : Nat) : Int) : Int).toNat]'(by omega) = bq s from hp];conv=>whnf
  refine aK (aaa (by omega)) ?_
  (conv=>whnf); (repeat ((with_reducible refine ac ?_ ?_); exact aaa (by omega); (conv=>whnf)))
  refine ab (show (((A.length + i : Nat) : Int) : Int).toNat < P.length by omega) ?_;rw [show P[(((A.length + i : Nat) : Int) : Int).toNat]'(by omega) = bq s from hp]
  (conv=>whnf); (repeat ((with_reducible refine ac ?_ ?_); exact aaa (by omega); (conv=>whnf)))
  refine ab (show (((A.length + i : Nat) : Int) : Int).toNat < P.length by omega) ?_;rw [show P[(((A.length + i : Nat) : Int) : Int).toNat]'(by omega) = bq s from hp]
  (conv=>whnf); (repeat ((with_reducible refine ac ?_ ?_); exact aaa (by omega); (conv=>whnf)))
  refine ⟨ns, (by rw [kB]; exact n1), ?_⟩;rw [n2];conv=>whnf
  by_cases hs : s ∈ T
  ·have IH := IH0 T ⟨by omega, by omega, by rw [← hTs, dJ hs]⟩ (by omega);refine jN T s hs fun j => ?_;conv=>whnf
   rw [am (by omega)];exact IH
  ·have IH := IH0 (T ++ [s]) ⟨by omega, by rw [aac]; simp only [aag, aaj]; omega, by rw [← hTs, du hs]⟩ (by omega);refine gW T s (by omega) hs fun j => ?_;conv=>whnf
   rw [am (by omega)];exact IH
 ·have hi : i = ms.length := by omega
  subst hi;rw [aax, hfin] at hTe;subst hTe;clear IH;refine aK (aaa (by omega)) ?_
  (conv=>whnf); (repeat ((with_reducible refine ac ?_ ?_); exact aaa (by omega); (conv=>whnf)))
  refine ab (show ((A.length + ms.length : Nat) : Int).toNat < P.length by omega) ?_;rw [show P[((A.length + ms.length : Nat) : Int).toNat]'(by omega) = L from hlast];conv=>whnf
  refine aK (aaa (by omega)) ?_
  (conv=>whnf); (repeat ((with_reducible refine ac ?_ ?_); exact aaa (by omega); (conv=>whnf)))
  refine ab (show ((A.length + ms.length : Nat) : Int).toNat < P.length by omega) ?_;rw [show P[((A.length + ms.length : Nat) : Int).toNat]'(by omega) = L from hlast]
  (conv=>whnf); (repeat ((with_reducible refine ac ?_ ?_); exact aaa (by omega); (conv=>whnf)))
  refine ab (show (0 : Int).toNat < L.length by simp; omega) ?_;rw [show L[(0 : Int).toNat]'(by simp; omega) = L[0] from rfl];conv=>whnf
  refine ak hL0 ?_;conv=>whnf
  refine ak (beq_eq_false_iff_ne.2 (by omega)) ?_
  (conv=>whnf); (repeat ((with_reducible refine ac ?_ ?_); exact aaa (by omega); (conv=>whnf)))
  refine ab (show ((A.length + ms.length : Nat) : Int).toNat < P.length by omega) ?_;rw [show P[((A.length + ms.length : Nat) : Int).toNat]'(by omega) = L from hlast];conv=>whnf
  refine lI L (by omega) ?_;conv=>whnf
  refine hRL ?_;conv=>whnf
  rw [am (by omega)];refine jg t ht0 htn (by omega) ?_;conv=>whnf
  refine hPut ?_;conv=>whnf
  refine ac (aaa (by omega)) ?_;conv=>whnf
  refine ac (aaa (by omega)) ?_;conv=>whnf
  refine (show ag Tryz.prog 217 [.sl none 1 (cc Y), .sl none 1 (List.drop A.length (List.take (A.length + ms.length + 1) (cc P))), .fn (.func 218) [] []] [] _ from ?_);rw [eSl];refine kz Y (by omega) ?_;conv=>whnf
  refine hPut ?_;conv=>whnf
  exact h
end Go.Abs
end
section
namespace Go.Abs
open Go Go.Proofs
attribute [local irreducible] aH aD aO firstIdx
theorem xa (p : B) (n k : Nat) (hn : n < 18446744073709551616) (hk : k < (vrn n).length) (hl : p.length < 100000000) {R} (h : R (.tup [.val (.int .u64 0), vi 0, vi 2]) []) : ag Tryz.prog 267 [.sl none 1 (ai (p ++ (vrn n).take k)), vi (p.length : Int)] [] R := by
 refine aa (an := Nw) tab_ok Tryz.func267 ?_;have hv := ct hn;have hp := jt n;have hat := zk n;have hbl : (ai (p ++ (vrn n).take k)).length = p.length + k := by rw [aL, aac, aan]; omega
 conv=>whnf
 refine ae (fun g => ?_) (fun g => ?_)
 ·exfalso;have g := aal g;rw [hbl] at g;omega
 conv=>whnf
 refine aq.ind1 (fun (i : Nat) => [(4, .val (.int .u64 ((n % 128 ^ i : Nat) : Int))), (17, vi i)]) (fun _ => []) (fun i => 10 - i) (fun i => i ≤ k) 0 (by simp [Nat.mod_one]; rfl) (by omega) ?_;rintro i h0 IH;have h0' : i < (vrn n).length := by omega
 have hb := (vrn n)[i].toNat_lt;obtain ⟨a1, a2, a3⟩ := hat i h0';have e1 : IntKind.i64.wrap ((p.length : Int) + (i : Int)) = ((p.length + i : Nat) : Int) := by rw [aI (by omega) (by omega)]; omega
 have e7 : IntKind.i64.wrap (7 * (i : Int)) = ((7 * i : Nat) : Int) := by rw [aI (by omega) (by omega)]; omega
 conv=>whnf
 refine ae (fun g2 => ?_) (fun g2 => ?_)
 ·conv=>whnf
  refine ae (fun g3 => ?_) (fun g3 => ?_)
  ·conv=>whnf
   exact h
  have hik : i < k := by
   rw [e1, hbl] at g3;have g3 := aat g3;omega
  have hget : (ai (p ++ (vrn n).take k))[p.length + i]? = some [.val (.int .u8 ((vrn n)[i].toNat : Int))] := by
   unfold ai;rw [aaE, aaV (by omega), Nat.add_sub_cancel_left, abb hik, aad h0'];rfl
  conv=>whnf
  refine ac (aaa (by rw [e1]; omega)) ?_;rw [e1];refine gI.2 ⟨_, hget, ?_⟩;have hlow := DD hb;rw [aaz (show i + 1 < (vrn n).length by omega)] at a1;have hnx := IH (i + 1) (by omega) (by omega);generalize hx : (vrn n)[i].toNat = x at a1 hb hlow hget ⊢;conv=>whnf
  refine ae (fun g4 => ?_) (fun g4 => ?_)
  ·exfalso;have g4 : i = 9 := by have := beq_iff_eq.1 g4; omega
   omega
  ·conv=>whnf
   refine ae (fun g6 => ?_) (fun g6 => ?_)
   ·have g6 := aal g6;conv=>whnf
    refine ae (fun g7 => ?_) (fun g7 => ?_)
    ·exfalso;have g7 := beq_iff_eq.1 g7;omega
    conv=>whnf
    refine ac (aaa (by rw [e7]; omega)) ?_;conv=>whnf
    refine ak (aai (by rw [a1]; omega)) ?_;conv=>whnf
    rw [vor hn (by omega) hb (by rw [a1]; omega), aI (by omega) (by omega), show (i : Int) + 1 = ((i + 1 : Nat) : Int) by omega];exact hnx
   ·conv=>whnf
    refine ac (aaa (by rw [e7]; omega)) ?_;conv=>whnf
    refine ak (aai (by rw [a1]; omega)) ?_;conv=>whnf
    rw [vor hn (by omega) hb (by rw [a1]; omega), aI (by omega) (by omega), show (i : Int) + 1 = ((i + 1 : Nat) : Int) by omega];exact hnx
 ·exfalso;have g2 := aat g2;omega
theorem xN (p s : B) (most k : Nat) (hs : s.length ≤ most) (hm : most < 10000000) (hk : k < (a8 s).length) (hl : p.length < 50000000) {R} (h : R (.tup [vs [], vi 0, vi 2]) []) : ag Tryz.prog 246 [.sl none 1 (ai (p ++ (a8 s).take k)), vi (p.length : Int), vi (most : Int)] [] R := by
 refine aa (an := Nx) tab_ok Tryz.func246 ?_;have hv := ct (n := s.length) (by omega);have hbs : (a8 s).length = (vrn s.length).length + s.length := by simp [a8]
 by_cases hc : k < (vrn s.length).length
 ·have eb : p ++ (a8 s).take k = p ++ (vrn s.length).take k := by
   unfold a8;rw [aaB (by omega)]
  rw [eb];conv=>whnf
  refine xa p s.length k (by omega) hc (by omega) ?_;conv=>whnf
  exact h
 ·obtain ⟨j, hj⟩ : ∃ j, k = (vrn s.length).length + j := ⟨k - (vrn s.length).length, by omega⟩;have eb : p ++ (a8 s).take k = p ++ vrn s.length ++ s.take j := by
   unfold a8;rw [hj, abf, aak]
  rw [eb];have hbl : (ai (p ++ vrn s.length ++ s.take j)).length = p.length + (vrn s.length).length + j := by rw [aL, aac, aac, aan]; omega
  have em : IntKind.u64.wrap (if (most : Int) < 0 then 0 else (most : Int)) = (most : Int) := by
   rw [aap (by omega)];show (most : Int) % 18446744073709551616 = _;omega
  have el : IntKind.u64.wrap (IntKind.i64.wrap (((ai (p ++ vrn s.length ++ s.take j)).length : Int) - ((p.length + (vrn s.length).length : Nat) : Int))) = ((j : Nat) : Int) := by
   rw [hbl, aI (by omega) (by omega)];show _ % 18446744073709551616 = _;omega
  conv=>whnf
  refine qq p (s.take j) s.length (by omega) (by rw [aan]; omega) ?_;conv=>whnf
  refine ae (fun g => ?_) (fun g => ?_)
  ·exfalso;rw [em] at g;have g := aal g;omega
  conv=>whnf
  refine ae (fun g => ?_) (fun g => ?_)
  ·conv=>whnf
   exact h
  ·exfalso;rw [el] at g;have g := aat g;omega
theorem xE (p s : B) (k : Nat) (h1 : 1 ≤ s.length) (h2 : s.length ≤ 2048) (h0 : 0 < k) (hk : k < (bl s).length) (hl : p.length < 4000000) {R} (h : R (.tup [.val (.slice none 0 0), vi 0, vi 2]) []) : ag Tryz.prog 213 [.sl none 1 (ai (p ++ (bl s).take k)), vi (p.length : Int)] [] R := by
 refine aa (an := K1) tab_ok Tryz.func213 ?_;have hv := ct (n := s.length) (by omega);have hbs : (a8 s).length = (vrn s.length).length + s.length := by simp [a8]
 have hfs : (bl s).length = (a8 s).length + 4 := by simp [bl, gG, dE]
 have hbl : (ai (p ++ (bl s).take k)).length = p.length + k := by rw [aL, aac, aan]; omega
 conv=>whnf
 refine ae (fun g => ?_) (fun g => ?_)
 ·exfalso;have g := beq_iff_eq.1 g;rw [hbl] at g;omega
 conv=>whnf
 refine (show ag Tryz.prog 246 [.sl none 1 (ai (p ++ (bl s).take k)), vi (p.length : Int), vi ((2048 : Nat) : Int)] [] _ from ?_);by_cases hc : k < (a8 s).length
 ·have eb : p ++ (bl s).take k = p ++ (a8 s).take k := by
   unfold bl gG;rw [aaB (by omega)]
  rw [eb];refine xN p s 2048 k h2 (by omega) hc (by omega) ?_;conv=>whnf
  exact h
 ·obtain ⟨j, hj⟩ : ∃ j, k = (a8 s).length + j := ⟨k - (a8 s).length, by omega⟩;have hw4 := dE (Crc.sum (a8 s)).toNat;have eb : p ++ (bl s).take k = p ++ a8 s ++ (w4 (Crc.sum (a8 s)).toNat).take j := by
   unfold bl gG;rw [hj, abf, aak]
  have e1 : IntKind.i64.wrap (((ai (p ++ (bl s).take k)).length : Int) - ((p.length + (a8 s).length : Nat) : Int)) = ((j : Nat) : Int) := by rw [hbl, aI (by omega) (by omega)]; omega
  have hne : decide (ofB s = ofB []) = false := aai (fun e => by have := bZ e; rw [this] at h1; simp at h1);rw [eb] at e1 ⊢;refine qZ p ((w4 (Crc.sum (a8 s)).toNat).take j) s 2048 h2 (by omega) (by rw [aan]; omega) ?_;conv=>whnf
  refine ak hne ?_;conv=>whnf
  refine ae (fun g => ?_) (fun g => ?_)
  ·conv=>whnf
   exact h
  ·exfalso;rw [e1] at g;have g := aat g;omega
def qo (t : B) : Prop := t = [] ∨ ∃ (s : B) (k : Nat), 1 ≤ s.length ∧ s.length ≤ 2048 ∧ 0 < k ∧ k < (bl s).length ∧ t = (bl s).take k
theorem wu (p : B) {t : B} (ht : qo t) (hl : p.length < 4000000) {R} (h : ∀ e : Int, e ≠ 0 → R (.tup [.val (.slice none 0 0), vi 0, vi e]) []) : ag Tryz.prog 213 [.sl none 1 (ai (p ++ t)), vi (p.length : Int)] [] R := by
 rcases ht with rfl | ⟨s, k, h1, h2, h3, h4, rfl⟩
 ·rw [aaR];exact xD p (by omega) (h 6 (by decide))
 ·exact xE p s k h1 h2 h3 h4 hl (h 2 (by decide))
end Go.Abs
end
section
namespace Go.Abs
open Go Go.Proofs Go.RowKit
attribute [local go_sem] Oper.semAt_some
theorem rC {G : Gh} {a : AV} {x y : Value} {v : Value} (h : Rep G (.tup [a, .val x, .val y]) v) : ∃ u, v = .tuple #[u, x, y] ∧ Rep G a u := by
 simp only [Rep, aB] at h;obtain ⟨vs, rfl, u, _, rfl, hu, _, _, rfl, rfl, _, _, rfl, rfl, rfl⟩ := h;exact ⟨u, rfl, hu⟩
set_option maxHeartbeats 4000000 in
theorem Cq (h0 : B) (l : List B) (t : B) (ht : qo t) (hok : ∀ p ∈ l, 1 ≤ p.length ∧ p.length ≤ 2048) (hl : h0.length + (aw l).length + t.length < 3500000) : GQ Tryz.prog 212 [.cptr [.sl none 1 (ai (h0 ++ (aw l ++ t)))] 0, .ptr 0 0] [.cells 3 [vi (h0.length : Int)]] (nU h0.length l) := by
 refine ⟨fun args w => ix (by kernel_rfl), fun G w lb hW hr lp n' J Jx hY hS hK hJ0 => ?_⟩;simp only [aB, Rep, fv] at hr;obtain ⟨_, _, rfl, ⟨bc, oc, rfl, ⟨⟨vB, hvB, hB⟩, _⟩, _⟩, _, _, rfl, ⟨b, hb, rfl⟩, rfl⟩ := hr;obtain ⟨b', vs, e1, e2, e3, e4⟩ := hW.obj 0 _ rfl;rw [hb] at e1; cases e1;simp only [aB, Rep] at e3;obtain ⟨_, _, rfl, rfl, rfl⟩ := e3;have hO : ∀ c, (∃ k, G.at k c) ↔ c = b := fun c => by
  constructor
  ·rintro ⟨k, hk⟩;have h1 : ∃ o, ax (bC 0 [aE.cells 3 [vi (h0.length : Int)]]) k = some o := by
    rcases hk with h4 | ⟨u, t, h4, _⟩ <;> exact hW.dom k _ h4
   obtain ⟨o, ho⟩ := h1;rw [bU] at ho;have : k = 0 := by
    cases k with
    | zero => rfl
    | succ k => simp at ho
   subst this;rcases hk with h4 | ⟨u, t, h4, _⟩
   ·rw [hb] at h4; cases h4; rfl
   ·rw [hb] at h4; cases h4
  ·rintro rfl; exact ⟨0, .inl hb⟩
 obtain ⟨Own, hOwn⟩ : ∃ Own : Nat → Prop, Own = fun c => ∃ k, G.at k c := ⟨_, rfl⟩;rw [← hOwn] at hJ0;have hO : ∀ c, Own c ↔ c = b := by rw [hOwn]; exact hO
 clear hOwn;have hglob := hW.glob;have hlenA := pi h0.length l;rw [show FW none = Fence.wide from rfl] at hY ⊢;refine callsIn_of_wp Tryz.func212 rfl trivial ?_ rfl;simp only [Tryz.ntmps212, aa4, aag, aaj, Nat.reduceAdd, Nat.reduceSub, abp, abo, abx, abu, aam, aav, aa8]
 gi_wp2
 gi_loopw [4] (fun _ wr => ∃ (i : Nat) (K : Nat → Nat → Option Value), i ≤ l.length ∧ J i Own K wr ∧ (∀ o, K b o = none) ∧ (∀ c o v, G.K c o = some v → K c o = some v) ∧ wr.heap[b]? = some (.cells #[.int .i64 ((h0.length + (aw (l.take i)).length : Nat) : Int)] 3 (0, 0)))
  (fun _ wr => match wr.cell? ⟨b, 0, none⟩ with | some (.int _ x) => (4000000 - x).toNat | _ => 0)
 case atStart => exact ⟨0, G.K, by omega, hJ0, e4, fun _ _ _ h => h, by simpa [aw] using e2⟩
 case round =>
  obtain ⟨i, K, hi, hJi, hKb, hKG, hbx⟩ := hrel;obtain ⟨off, hoff⟩ : ∃ off : Nat, off = h0.length + (aw (l.take i)).length := ⟨_, rfl⟩;rw [← hoff] at hbx;obtain ⟨hcell, hfz⟩ := cP hbx;have hcB := hK i Own K wr hJi _ _ _ (hKG _ _ _ hvB);have hOlt : ∀ c, Own c → c < wr.heap.size := fun c hc => by
   rw [(hO c).1 hc]; exact (Array.getElem?_eq_some_iff.1 hbx).1
  have hBK : Rep ⟨K, fun _ => none⟩ (.sl none 1 (ai (h0 ++ (aw l ++ t)))) vB := by
   have h1 : Rep G (.sl none 1 (ai (h0 ++ (aw l ++ t)))) vB := by simp only [Rep]; exact hB
   exact Rep.nameless (G := G) (G' := ⟨K, fun _ => none⟩) hKG _ _ rfl h1
  have hvi : ∀ x : Int, Rep ⟨K, fun _ => none⟩ (vi x) (.int .i64 x) := fun x => by
   show Rep _ (.val (.int .i64 x)) _;simp only [Rep]
  by_cases hlt : i < l.length
  ·have hp := hok _ (aaf hlt);have hsp : h0 ++ (aw l ++ t) = (h0 ++ aw (l.take i)) ++ bl l[i] ++ (aw (l.drop (i + 1)) ++ t) := by
    rw [mI hlt]; simp
   have hlen2 : (aw l).length = (aw (l.take i)).length + (bl l[i]).length + (aw (l.drop (i + 1))).length := by
    rw [mI hlt, aac, aac]
   have hget := EU (h0 ++ aw (l.take i)) (aw (l.drop (i + 1)) ++ t) l[i] hp.1 hp.2 (by simp; omega) (R := fun r os => r = .tup [.sl none 1 (ai l[i]), vi (((h0 ++ aw (l.take i)).length + (bl l[i]).length : Nat) : Int), vi 0] ∧ os = []) ⟨rfl, rfl⟩;rw [← hsp, aac, ← hoff] at hget;have hxs : (nU h0.length l)[i]? = some [.sl none 1 (ai l[i]), vi ((h0.length + (aw (l.take (i + 1))).length : Nat) : Int)] := wl hlt;have hnx : h0.length + (aw (l.take (i + 1))).length = off + (bl l[i]).length := by rw [rZ hlt, hoff]; omega
   rw [hnx] at hxs;obtain ⟨nx, hnxe⟩ : ∃ nx : Nat, nx = off + (bl l[i]).length := ⟨_, rfl⟩;rw [← hnxe] at hget hxs hnx;have hcalm := fun m => hget.calm (K := K) (W := wr) (vals := [vB, .int .i64 (off : Int)]) (hK i Own K wr hJi) (hglob.mono hKG) (by simp only [aB]; exact ⟨_, _, rfl, hBK, _, _, rfl, hvi _, rfl⟩) hOlt (A := #[vB, .int .i64 (off : Int)]) rfl m;have hflen : 5 ≤ (bl l[i]).length := by simp [bl, gG, dE, a8]; omega
   have hlt2 : off < nx ∧ nx < 4000000 := by omega
   clear hget hsp hoff hnxe hlen2 hflen hvi hBK hB
   gi_wp2
   refine ⟨trivial, fun h => by simp [Fence.wide] at h, (hcalm _).mono ?_⟩;rintro e W1 ⟨v, r, os', G', rfl, ⟨rfl, rfl⟩, hRep, hKn, hst, hbl⟩;obtain ⟨vp, rfl, hvp⟩ := rC hRep;have hbW : b < wr.heap.size := hOlt b ((hO b).2 rfl);have hJ1 := hS i Own K wr Own G'.K W1 hJi hst;have hbx1 := (hbl b hbW).1.trans hbx;have hKb1 : ∀ o, G'.K b o = none := fun o => ((hbl b hbW).2 o).trans (hKb o);have hKG1 : ∀ c o v, G.K c o = some v → G'.K c o = some v := fun c o v h => hst.more _ _ _ (hKG c o v h);obtain ⟨hcell1, hfz1⟩ := cP hbx1;have hwr := hcell;clear hcalm hRep hcell hfz hcB;obtain ⟨fn, tmps, assign, body, hy, hR⟩ := hY (n' - 1) i _ #[vp, .int .i64 (nx : Int)] Own G'.K W1 hxs
    (by simp only [aB]; exact ⟨_, _, rfl, Rep.nameless (G := G') (G' := ⟨G'.K, fun _ => none⟩) (fun _ _ _ h => h) _ _ rfl hvp, _, _, rfl, (by show Rep _ (.val (.int .i64 (nx : Int))) _; simp only [Rep]), rfl⟩) hJ1
   clear hY hJi
   gi_wp2
   refine ⟨fun h => by simp [Fence.wide] at h, hR.mono ?_⟩;rintro e W3 (⟨rfl, K', hJ3, hKK, hO3, hos3, htape3, hout3, hsz3⟩ | ⟨rfl, hJx3⟩)
   ·clear hR hy;have hbx3 := (hO3 b ((hO b).2 rfl)).1.trans hbx1;obtain ⟨hcell3, hfz3⟩ := cP hbx3;have hKb3 : ∀ o, K' b o = none := fun o => by rw [(hO3 b ((hO b).2 rfl)).2 o]; exact hKb1 o
    have hst3 := xZ (v' := .int .i64 (nx : Int)) hO hbx3 hKb3 (hK (i + 1) Own K' W3 hJ3);have hJ4 := hS (i + 1) Own K' W3 Own K' _ hJ3 hst3;have hbx4 := iK (.int .i64 (nx : Int)) hbx3;have hc4 := (cP hbx4).1;have hKG3 : ∀ c o v, G.K c o = some v → K' c o = some v := fun c o v h => hKK _ _ _ (hKG1 c o v h);clear hS hK hst hO3 hcell1 hfz1
    gi_wp2
    refine ⟨⟨i + 1, K', hlt, hJ4, hKb3, hKG3, by rw [hnx]; exact hbx4⟩, ?_⟩;rw [hc4, hwr];show (4000000 - (nx : Int)).toNat < (4000000 - (off : Int)).toNat;omega
   ·clear hR hy
    gi_wp2
    refine bodyPost_ret (results_none rfl _ _ _) rfl ?_;exact ⟨⟨_, rfl⟩, .inr hJx3⟩
  ·have hfin : i = l.length := by omega
   subst hfin;have hsp : h0.length + (aw l).length = off := by rw [hoff, aax]
   have hget := wu (h0 ++ aw l) ht (by simp; omega) (R := fun r os => ∃ e : Int, e ≠ 0 ∧ r = .tup [.val (.slice none 0 0), vi 0, vi e] ∧ os = []) fun e he => ⟨e, he, rfl, rfl⟩;rw [aak, aac, hsp] at hget;have hcalm := fun m => hget.calm (K := K) (W := wr) (vals := [vB, .int .i64 (off : Int)]) (hK l.length Own K wr hJi) (hglob.mono hKG) (by simp only [aB]; exact ⟨_, _, rfl, hBK, _, _, rfl, hvi _, rfl⟩) hOlt (A := #[vB, .int .i64 (off : Int)]) rfl m;clear hget hsp hoff hvi hBK hB
   gi_wp2
   refine ⟨trivial, fun h => by simp [Fence.wide] at h, (hcalm _).mono ?_⟩;rintro e W1 ⟨v, r, os', G', rfl, ⟨er, her, rfl, rfl⟩, hRep, hKn, hst, hbl⟩;obtain ⟨vp, rfl, hvp⟩ := rC hRep;have hJ1 := hS l.length Own K wr Own G'.K W1 hJi hst;rw [← hlenA] at hJ1
   gi_wp2
   refine ⟨fun f h => (nomatch h), ?_⟩
   gi_wp2
   refine bodyPost_ret (results_none rfl _ _ _) rfl ?_;exact ⟨⟨_, rfl⟩, .inl ⟨Own, G'.K, hJ1⟩⟩
end Go.Abs
end
section
namespace Go.Abs
open Go Go.Proofs Go.RowKit Go.Lib Dig
attribute [local irreducible] aH aD aO firstIdx
theorem vq {K : Nat → Nat → Option Value} {ob : Nm → Option GO} {g : Nat} : ∀ (ss : B) (i : Nat), (∀ j c, ss[j]? = some c → K g (i + j) = some (.int .u8 (c.toNat : Int))) → d7 ⟨K, ob⟩ 1 (some ⟨g, 0, none⟩) i (ai ss)
 | [], _, _ => trivial
 | s :: ss, i, h => by
  refine ⟨⟨g, 0, rfl, rfl, rfl, ⟨_, by have := h 0 s rfl; simpa using this, rfl⟩, trivial⟩, vq ss (i + 1) fun j s' hs => ?_⟩;have := h (j + 1) s' (by simpa using hs);rw [show i + 1 + j = i + (j + 1) by omega];exact this
structure NO (w w' : World) (c : UInt8) (b cap : Nat) : Prop where
 os : w'.os = w.os
 tape : w'.tape = w.tape
 output : w'.output = w.output
 size : w.heap.size ≤ b
 lt : b < w'.heap.size
 old : ∀ k, k < w.heap.size → w'.heap[k]? = w.heap[k]?
 cells : ∀ (j : Nat) (x : UInt8), [84, 80, 72, c][j]? = some x → w'.cell? ⟨b, j, none⟩ = some (.int .u8 (x.toNat : Int))
 cap : 4 ≤ cap
theorem s9 (w : World) (c : UInt8) (x : Int) (hx : x = (c.toNat : Int)) (i0 : TypeInfo) (hi : Tryz.prog.info? 5 = some i0) (hz0 : i0.zero = some (.int .u8 0)) (hz1 : i0.size = 1) (hz2 : i0.bytes = 1) : ∃ w2 w4 cap, (convert 77 77 (.slice (some ⟨w.heap.size, 0, none⟩) 3 3)).run Tryz.prog (w.alloc (.cells #[.int .u8 84, .int .u8 80, .int .u8 72] 5)) = .ok (.slice (some ⟨w.heap.size, 0, none⟩) 3 3) w2 ∧ w2.heap.size = w.heap.size + 1 ∧
   (∀ ty, (Builtin.append_ #[77, 77] ty #[.slice (some ⟨w.heap.size, 0, none⟩) 3 3, .slice (some ⟨w.heap.size + 1, 0, none⟩) 1 1]).run Tryz.prog (w2.alloc (.cells #[.int .u8 x] 5)) = .ok (.slice (some ⟨w.heap.size + 2, 0, none⟩) 4 cap) w4) ∧ NO w w4 c (w.heap.size + 2) cap := by
 subst hx;have hsh : (w.alloc (.cells #[.int .u8 84, .int .u8 80, .int .u8 72] 5)).shape? w.heap.size = some (5, 3) := by
  unfold World.shape?;rw [heap_alloc_new];rfl
 have hc : (convert 77 77 (.slice (some ⟨w.heap.size, 0, none⟩) 3 3)).run Tryz.prog (w.alloc (.cells #[.int .u8 84, .int .u8 80, .int .u8 72] 5)) = .ok (.slice (some ⟨w.heap.size, 0, none⟩) 3 3) ((w.alloc (.cells #[.int .u8 84, .int .u8 80, .int .u8 72] 5)).freeze ⟨w.heap.size, 3, none⟩ 1) := by
  simp [convert, run_underlying (Tryz.underlying77), run_underlying (Tryz.underlying5), markStringish, hsh]
 generalize hw1 : w.alloc (.cells #[.int .u8 84, .int .u8 80, .int .u8 72] 5) = w1 at hc;have hs1 : w1.heap.size = w.heap.size + 1 := by rw [← hw1]; simp
 have h1b : w1.heap[w.heap.size]? = some (.cells #[.int .u8 84, .int .u8 80, .int .u8 72] 5 (0, 0)) := by rw [← hw1]; exact heap_alloc_new w _
 have h1o : ∀ k, k < w.heap.size → w1.heap[k]? = w.heap[k]? := fun k hk => by rw [← hw1]; exact heap_alloc_old w _ hk
 have e1 : w1.os = w.os ∧ w1.tape = w.tape ∧ w1.output = w.output := by rw [← hw1]; exact ⟨rfl, rfl, rfl⟩
 generalize hw2 : w1.freeze ⟨w.heap.size, 3, none⟩ 1 = w2 at hc;have hs2 : w2.heap.size = w.heap.size + 1 := by rw [← hw2, ← hs1]; unfold World.freeze; split <;> simp
 have h2o : ∀ b, b ≠ w.heap.size → w2.heap[b]? = w1.heap[b]? := fun b hb => by
  rw [← hw2];unfold World.freeze;split
  ·rfl
  ·simp [Array.getElem?_modify, Ne.symm hb]
 have h2b : ∃ fz, w2.heap[w.heap.size]? = some (.cells #[.int .u8 84, .int .u8 80, .int .u8 72] 5 fz) := by
  rw [← hw2];unfold World.freeze;split
  ·exact ⟨_, h1b⟩
  ·exact ⟨_, by simp [Array.getElem?_modify, h1b]; rfl⟩
 have e2 : w2.os = w1.os ∧ w2.tape = w1.tape ∧ w2.output = w1.output := by
  rw [← hw2];refine ⟨?_, ?_, ?_⟩ <;> (unfold World.freeze; split <;> rfl)
 obtain ⟨fz, h2b⟩ := h2b;generalize hw3 : w2.alloc (.cells #[.int .u8 (c.toNat : Int)] 5) = w3;have hs3 : w3.heap.size = w.heap.size + 2 := by rw [← hw3]; simp; omega
 have h3b : w3.heap[w2.heap.size]? = some (.cells #[.int .u8 (c.toNat : Int)] 5 (0, 0)) := by rw [← hw3]; exact heap_alloc_new w2 _
 have h3o : ∀ k, k < w2.heap.size → w3.heap[k]? = w2.heap[k]? := fun k hk => by rw [← hw3]; exact heap_alloc_old w2 _ hk
 have e3 : w3.os = w2.os ∧ w3.tape = w2.tape ∧ w3.output = w2.output := by rw [← hw3]; exact ⟨rfl, rfl, rfl⟩
 have h3a : w3.heap[w.heap.size]? = some (.cells #[.int .u8 84, .int .u8 80, .int .u8 72] 5 fz) := (h3o _ (by omega)).trans h2b;have hap := fun ty => run_append_grow (P := Tryz.prog) w3 77 ty 5 i0 (.int .u8 0) Tryz.underlying77 hi hz0 ⟨w.heap.size, 0, none⟩ 3 3 [.int .u8 84, .int .u8 80, .int .u8 72] (by rw [hz1]; rfl)
  (fun j v hj => by
   rw [cU, aaS];rw [Lib.cell_of_heap h3a];simpa using hj) ⟨w2.heap.size, 0, none⟩ 1 1 [.int .u8 (c.toNat : Int)] (by rw [hz1]; rfl)
  (fun j v hj => by
   rw [cU, aaS];rw [Lib.cell_of_heap h3b];simpa using hj) (by omega) (by decide) (by rw [hz2]; decide)
 have hb2 : w.heap.size + 2 = w3.heap.size := by omega
 rw [hs2] at hap;refine ⟨w2, _, _, hc, hs2, fun ty => by rw [hw3, hb2]; exact hap ty, ?_⟩;have hge := grownCap_ge w3 (3 + 1) 3 5;rw [hb2];refine ⟨e3.1.trans (e2.1.trans e1.1), e3.2.1.trans (e2.2.1.trans e1.2.1), e3.2.2.trans (e2.2.2.trans e1.2.2), by omega, by simp, fun k hk => ?_, fun j x hj => ?_, hge⟩
 ·rw [heap_alloc_old w3.drew _ (show k < w3.drew.heap.size from by show k < w3.heap.size; omega)];show w3.heap[k]? = _;rw [h3o k (by omega), h2o k (by omega), h1o k hk]
 ·have hn := heap_alloc_new w3.drew (.cells ([Value.int .u8 84, .int .u8 80, .int .u8 72].toArray ++ [Value.int .u8 (c.toNat : Int)].toArray ++ Builtin.zeroCells (Value.int .u8 0).cells (grownCap w3 (3 + 1) 3 5 - (3 + 1))) 5);rw [show w3.heap.size = w3.drew.heap.size from rfl, Lib.cell_of_heap hn];have hj4 : j < 4 := by
   have := (List.getElem?_eq_some_iff.1 hj).1;simpa using this
  rw [Array.getElem?_append_left (by simp; omega)];rcases j with _ | _ | _ | _ | j
  ·simp at hj; subst hj; rfl
  ·simp at hj; subst hj; rfl
  ·simp at hj; subst hj; rfl
  ·simp at hj; subst hj; rfl
  ·omega
theorem wi (G : Gh) (w w4 : World) (v : UInt8) (cap : Nat) (hW : WR G (bC 0 []) w) (hH : NO w w4 v (w.heap.size + 2) cap) : Calls Tryz.prog 155 #[.slice (some ⟨w.heap.size + 2, 0, none⟩) 4 cap] w4 fun e w' => ∃ (u : Value) (G' : Gh), e = .returned u ∧ Rep G' (.sl none 1 (ai (gG [84, 80, 72, v]))) u ∧ Inv (At G w) ⟨[], bC 0 []⟩ G' { tmps := #[], defers := [] } w' := by
 have hI := JX hW;obtain ⟨K', hK'⟩ : ∃ K' : Nat → Nat → Option Value, K' = fun b o => if b = w.heap.size + 2 then ([84, 80, 72, v][o]?).map (fun c : UInt8 => Value.int .u8 (c.toNat : Int)) else G.K b o := ⟨_, rfl⟩
 obtain ⟨hI2, hle⟩ := hI.grow (w' := w4) (K' := K') hH.os hH.tape hH.output (by have := hH.size; have := hH.lt; omega) hH.old (fun b o hb => by rw [hK']; simp only; rw [aap (by omega)])
  (fun b o u hb e => by
   rw [hK'] at e;simp only at e;split at e
   ·rename_i hb2;subst hb2
    cases hc : ([84, 80, 72, v] : List UInt8)[o]? with
    | none => rw [hc] at e; cases e
    | some c =>
     rw [hc] at e;have := hH.cells o c hc;rw [this];simpa using e
   ·have := hI.wr.kltb e;omega)
 have hRep : Rep ⟨K', fun _ => none⟩ (.sl none 1 (ai [84, 80, 72, v])) (.slice (some ⟨w.heap.size + 2, 0, none⟩) 4 cap) := by
  simp only [Rep];exact ⟨⟨_, _, rfl, hH.cap, vq [84, 80, 72, v] 0 fun j c hj => by rw [hK']; simp [hj]⟩, trivial⟩
 have hs := (rz [84, 80, 72, v] (by simp) (R := fun r os => r = .sl none 1 (ai (gG [84, 80, 72, v])) ∧ os = []) ⟨rfl, rfl⟩).calm (K := K') (W := w4) (vals := [.slice (some ⟨w.heap.size + 2, 0, none⟩) 4 cap]) hI2.wr.know hI2.wr.glob (by simp only [aB]; exact ⟨_, _, rfl, hRep, rfl⟩) (Own := fun _ => False) (fun b h => h.elim) (A := #[.slice (some ⟨w.heap.size + 2, 0, none⟩) 4 cap]) rfl 1;refine (callsIn_wide.1 hs).mono ?_;rintro e W' ⟨u, r, os', G', rfl, ⟨rfl, rfl⟩, hu, hKn, hst, hbl⟩;obtain ⟨hI3, hle3⟩ := hI2.grow (w' := W') (K' := G'.K) hst.os hst.tape hst.output hst.size (fun b hb => (hbl b hb).1) (fun b o hb => (hbl b hb).2 o) (fun b o u _ e => hKn b o u e);exact ⟨u, ⟨G'.K, G.ob⟩, rfl, Rep.nameless (G := G') (fun _ _ _ h => h) _ _ rfl hu, hI3⟩
theorem Ia (G : Gh) (w : World) (v : Nat) (hv : v = 1 ∨ v = 2 ∨ v = 3) (hW : WR G (bC 0 []) w) : Calls Tryz.prog 115 #[.int .i64 (v : Int)] w fun e w' => ∃ (u : Value) (G' : Gh), e = .returned (.tuple #[u, .int .i64 0]) ∧ Rep G' (.sl none 1 (ai (dG v))) u ∧ Inv (At G w) ⟨[], bC 0 []⟩ G' { tmps := #[], defers := [] } w' := by
 have mixed := rN;obtain ⟨i0, hi, hz0, hz1, hz2⟩ := info_parts FV;rcases hv with rfl | rfl | rfl
 ·obtain ⟨w2, w4, cap, hcv, hs2, hap, hH⟩ := s9 w 1 1 rfl i0 hi hz0 hz1 hz2;have hseal := wi G w w4 1 cap hW hH
  go_enter Tryz.func115, Tryz.ntmps115
  go_wp2_with (first | (go_at_call 155; refine hseal.mono ?_; rintro e W' ⟨u, G', rfl, hu, hI⟩) | (at_builtin; refine Lib.wpList_append_run _ rfl _ _ _ _ rfl _ _ rfl rfl _ _ (hap _) ?_) | go_in)
  go_ret2
  exact ⟨u, G', rfl, hu, hI⟩
 ·obtain ⟨w2, w4, cap, hcv, hs2, hap, hH⟩ := s9 w 2 2 rfl i0 hi hz0 hz1 hz2;have hseal := wi G w w4 2 cap hW hH
  go_enter Tryz.func115, Tryz.ntmps115
  go_wp2_with (first | (go_at_call 155; refine hseal.mono ?_; rintro e W' ⟨u, G', rfl, hu, hI⟩) | (at_builtin; refine Lib.wpList_append_run _ rfl _ _ _ _ rfl _ _ rfl rfl _ _ (hap _) ?_) | go_in)
  go_ret2
  exact ⟨u, G', rfl, hu, hI⟩
 ·obtain ⟨w2, w4, cap, hcv, hs2, hap, hH⟩ := s9 w 3 3 rfl i0 hi hz0 hz1 hz2;have hseal := wi G w w4 3 cap hW hH
  go_enter Tryz.func115, Tryz.ntmps115
  go_wp2_with (first | (go_at_call 155; refine hseal.mono ?_; rintro e W' ⟨u, G', rfl, hu, hI⟩) | (at_builtin; refine Lib.wpList_append_run _ rfl _ _ _ _ rfl _ _ rfl rfl _ _ (hap _) ?_) | go_in)
  go_ret2
  exact ⟨u, G', rfl, hu, hI⟩
theorem rf (v : Nat) (hv : v = 1 ∨ v = 2 ∨ v = 3) {R} (h : R (.tup [.sl none 1 (ai (dG v)), vi 0]) []) : ag Tryz.prog 115 [vi (v : Int)] [] R := by
 refine BX fun G w vals hW hA => ?_;have hA : ∃ a l, vals = a :: l ∧ a = .int .i64 (v : Int) ∧ l = [] := by simpa only [aB, Rep, vi] using hA
 obtain ⟨_, _, rfl, rfl, rfl⟩ := hA;refine (Ia G w v hv hW).mono ?_;rintro e w' ⟨u, G', rfl, hu, hI⟩;exact ⟨_, _, [], G', rfl, h, (by simp only [Rep, aB]; exact ⟨[u, .int .i64 0], rfl, u, _, rfl, (by simpa only [Rep] using hu), _, _, rfl, rfl, rfl⟩), hI, (by intro i o ho; cases ho), by simp [AV.names, cH, vi]⟩
theorem nV (v : Int) {R} (h : ∀ p, p = (decide (1 ≤ v) && decide (v ≤ 3)) → R (.val (.bool p)) []) : ag Tryz.prog 154 [vi v] [] R := by
 refine aa (an := So) tab_ok Tryz.func154 ?_;conv=>whnf
 refine ae (fun g => ?_) (fun g => ?_)
 ·have g : 1 ≤ v := by have g := aal g; omega
  conv=>whnf
  exact h _ (by rw [aaa g, aaI])
 ·have g : ¬ 1 ≤ v := by have g := aat g; omega
  conv=>whnf
  exact h _ (by rw [aai g, Bool.false_and])
end Go.Abs
end
section
namespace Go.Abs
open Go Go.Proofs Dig
attribute [local irreducible] aH aD aO firstIdx
theorem eL (v : Int) : (dG v).length = 8 := rfl
theorem IW (q : B) (hq : q.length < 3500000) {R} (h : R (.tup [vi 1, vi 0]) []) : ag Tryz.prog 122 [.sl none 1 (ai (dG 1 ++ q))] [] R := by
 have hbl : (ai (dG 1 ++ q)).length = 8 + q.length := by rw [aL, aac, eL]
 refine aa (an := La) tab_ok Tryz.func122 ?_;obtain ⟨ns, n1, n2⟩ := gR [84, 80, 72];conv=>whnf
 refine ac (aaa (by rw [hbl]; omega)) ?_;conv=>whnf
 refine ⟨ns, n1, ?_⟩;rw [n2];conv=>whnf
 refine lU _ q (by simp [iU]; omega) ?_;conv=>whnf
 refine nV _ fun p hp => ?_;have hp : p = true := hp;subst hp;conv=>whnf
 exact h
theorem IV (q : B) (hq : q.length < 3500000) {R} (h : R (.tup [vi 2, vi 0]) []) : ag Tryz.prog 122 [.sl none 1 (ai (dG 2 ++ q))] [] R := by
 have hbl : (ai (dG 2 ++ q)).length = 8 + q.length := by rw [aL, aac, eL]
 refine aa (an := La) tab_ok Tryz.func122 ?_;obtain ⟨ns, n1, n2⟩ := gR [84, 80, 72];conv=>whnf
 refine ac (aaa (by rw [hbl]; omega)) ?_;conv=>whnf
 refine ⟨ns, n1, ?_⟩;rw [n2];conv=>whnf
 refine lU _ q (by simp [iU]; omega) ?_;conv=>whnf
 refine nV _ fun p hp => ?_;have hp : p = true := hp;subst hp;conv=>whnf
 exact h
theorem IU (q : B) (hq : q.length < 3500000) {R} (h : R (.tup [vi 3, vi 0]) []) : ag Tryz.prog 122 [.sl none 1 (ai (dG 3 ++ q))] [] R := by
 have hbl : (ai (dG 3 ++ q)).length = 8 + q.length := by rw [aL, aac, eL]
 refine aa (an := La) tab_ok Tryz.func122 ?_;obtain ⟨ns, n1, n2⟩ := gR [84, 80, 72];conv=>whnf
 refine ac (aaa (by rw [hbl]; omega)) ?_;conv=>whnf
 refine ⟨ns, n1, ?_⟩;rw [n2];conv=>whnf
 refine lU _ q (by simp [iU]; omega) ?_;conv=>whnf
 refine nV _ fun p hp => ?_;have hp : p = true := hp;subst hp;conv=>whnf
 exact h
theorem Am (b : B) (n : Nat) {R} (h : R (.fn (.func 212) [] [.cptr [.sl none 1 (ai b)] 0, .ptr 0 0]) [.cells 3 [vi (n : Int)]]) : ag Tryz.prog 164 [.sl none 1 (ai b), vi (n : Int)] [] R := by
 refine aa (an := Sj) tab_ok Tryz.func164 ?_;conv=>whnf
 exact h
theorem aY : (tab.ti 3).bytes = 8 := rfl
theorem vm {l : List B} {i : Nat} (hi : i < l.length) : cc (l.take (i + 1)) = cc (l.take i) ++ [[.sl none 1 (ai l[i])]] := by
 rw [aab hi, bY];rfl
theorem s7 {l : List Nat} {i : Nat} (hi : i < l.length) : dh (l.take (i + 1)) = dh (l.take i) ++ [[vi (l[i] : Int)]] := by
 rw [aab hi];unfold dh;rw [aaG];rfl
def rnS : List AV := [.junk, .junk, .junk, .junk, .ptr (al 4) 0, .ptr (al 5) 0, .junk, .junk, .junk, .junk, .junk, .junk, .junk, .junk, .junk, .junk, .junk, .junk, .junk, .junk, .junk, .junk, .junk]
theorem IY (h0 : B) (l : List B) (t : B) (ht : qo t) (hok : ∀ p ∈ l, 1 ≤ p.length ∧ p.length ≤ 2048) (hl : h0.length + (aw l).length + t.length < 3500000) (hll : l.length < 100000) {R} (h : R (.tup [.sl none 1 (cc l), .sl none 1 (dh (fk h0.length l))]) []) : ag Tryz.prog 123 [.sl none 1 (ai (h0 ++ (aw l ++ t))), vi (h0.length : Int)] [] R := by
 refine ag.res ?_;refine aa (an := SP) tab_ok Tryz.func123 ?_;conv=>whnf
 refine Am (h0 ++ (aw l ++ t)) h0.length ?_;conv=>whnf
 refine .inr ?_;conv=>whnf
 have hlA := pi h0.length l;have hel := eO l h0.length;refine ⟨nU h0.length l, Cq h0 l t ht hok hl, ?_, ?_⟩
 ·intro x hx;obtain ⟨q, _, rfl⟩ := List.mem_map.1 hx;rfl
 refine ⟨fun i s => (i = 0 ∧ s = ⟨rnS, [(al 4, .cells 183 [.val (.slice none 0 0)]), (al 5, .cells 54 [.val (.slice none 0 0)])]⟩) ∨
  (0 < i ∧ i ≤ l.length ∧ s = ⟨rnS, [(al 4, .cells 183 [.sl (some (al 16)) 1 (cc (l.take i))]), (al 5, .cells 54 [.sl (some (al 20)) 1 (dh ((fk h0.length l).take i))]), (al 16, .row 77 1 i), (al 20, .row 3 1 i)]⟩), .inl ⟨rfl, rfl⟩, ?_, ?_⟩
 ·rintro i x s hx hs;have hi : i < l.length := by
   have := (List.getElem?_eq_some_iff.1 hx).1;omega
  have hx2 := wl (o := h0.length) hi;rw [hx] at hx2
  cases hx2;have hee := pm l h0.length i hi;have hi2 : i < (fk h0.length l).length := by omega
  have hei : (fk h0.length l)[i] = h0.length + (aw (l.take (i + 1))).length := by
   rw [aad hi2] at hee;exact Option.some.inj hee
  generalize h0.length + (aw (l.take (i + 1))).length = e at hei hx hee ⊢;rcases hs with ⟨rfl, rfl⟩ | ⟨h1, h2, rfl⟩
  ·have e1 : cc (l.take (0 + 1)) = [[.sl none 1 (ai l[0])]] := by rw [vm hi]; rfl
   have e2 : dh ((fk h0.length l).take (0 + 1)) = [[vi (e : Int)]] := by rw [s7 hi2, hei]; rfl
   conv=>whnf
   refine ⟨?_, ?_, trivial⟩
   ·conv=>whnf
    refine ⟨?_, ?_, trivial⟩
    ·conv=>whnf
     refine ⟨by rw [cA]; simp, ?_⟩;conv=>whnf
     refine ⟨?_, trivial⟩;conv=>whnf
     refine ⟨?_, trivial⟩;conv=>whnf
     refine ⟨by rw [aY]; simp, ?_⟩;conv=>whnf
     refine ⟨?_, trivial⟩;conv=>whnf
     refine ⟨?_, trivial⟩;conv=>whnf
     refine .inr ⟨by omega, by omega, ?_⟩;rw [e1, e2];rfl
    ·conv=>whnf
     refine ⟨?_, trivial⟩;conv=>whnf
     refine ⟨by rw [cA]; simp, ?_⟩;conv=>whnf
     refine ⟨?_, trivial⟩;conv=>whnf
     refine ⟨by rw [aY]; simp, ?_⟩;conv=>whnf
     refine ⟨?_, trivial⟩;conv=>whnf
     refine ⟨?_, trivial⟩;conv=>whnf
     refine .inr ⟨by omega, by omega, ?_⟩;rw [e1, e2];rfl
   ·conv=>whnf
    refine ⟨?_, trivial⟩;conv=>whnf
    refine ⟨?_, trivial⟩;conv=>whnf
    refine ⟨by rw [cA]; simp, ?_⟩;conv=>whnf
    refine ⟨?_, trivial⟩;conv=>whnf
    refine ⟨by rw [aY]; simp, ?_⟩;conv=>whnf
    refine ⟨?_, trivial⟩;conv=>whnf
    refine ⟨?_, trivial⟩;conv=>whnf
    refine .inr ⟨by omega, by omega, ?_⟩;rw [e1, e2];rfl
  ·have e1 := vm hi;have e2 := s7 hi2;rw [hei] at e2;have l1 : (cc (l.take i)).length = i := by rw [aP, aan]; omega
   have l2 : (dh ((fk h0.length l).take i)).length = i := by rw [b8, aan]; omega
   conv=>whnf
   refine ⟨?_, ?_, trivial⟩
   ·conv=>whnf
    refine ⟨?_, ?_, trivial⟩
    ·conv=>whnf
     refine ⟨l1.symm, by rw [l1, cA]; simp; omega, ?_⟩;conv=>whnf
     refine ⟨?_, trivial⟩;conv=>whnf
     refine ⟨?_, trivial⟩;conv=>whnf
     refine ⟨l2.symm, by rw [l2, aY]; simp; omega, ?_⟩;conv=>whnf
     refine ⟨?_, trivial⟩;conv=>whnf
     refine ⟨?_, trivial⟩;conv=>whnf
     refine .inr ⟨by omega, by omega, ?_⟩;rw [e1, e2, l1, l2];rfl
    ·conv=>whnf
     refine ⟨?_, trivial⟩;conv=>whnf
     refine ⟨l1.symm, by rw [l1, cA]; simp; omega, ?_⟩;conv=>whnf
     refine ⟨?_, trivial⟩;conv=>whnf
     refine ⟨l2.symm, by rw [l2, aY]; simp; omega, ?_⟩;conv=>whnf
     refine ⟨?_, trivial⟩;conv=>whnf
     refine ⟨?_, trivial⟩;conv=>whnf
     refine .inr ⟨by omega, by omega, ?_⟩;rw [e1, e2, l1, l2];rfl
   ·conv=>whnf
    refine ⟨?_, trivial⟩;conv=>whnf
    refine ⟨?_, trivial⟩;conv=>whnf
    refine ⟨l1.symm, by rw [l1, cA]; simp; omega, ?_⟩;conv=>whnf
    refine ⟨?_, trivial⟩;conv=>whnf
    refine ⟨l2.symm, by rw [l2, aY]; simp; omega, ?_⟩;conv=>whnf
    refine ⟨?_, trivial⟩;conv=>whnf
    refine ⟨?_, trivial⟩;conv=>whnf
    refine .inr ⟨by omega, by omega, ?_⟩;rw [e1, e2, l1, l2];rfl
 ·rintro s (⟨h1, rfl⟩ | ⟨h1, h2, rfl⟩)
  ·have hl0 : l = [] := List.length_eq_zero_iff.1 (by omega);subst hl0;conv=>whnf
   refine ⟨?_, ?_, trivial⟩
   ·conv=>whnf
    refine ⟨?_, ?_, trivial⟩
    ·conv=>whnf
     refine ⟨?_, trivial⟩;conv=>whnf
     refine ⟨?_, trivial⟩;conv=>whnf
     exact cw (f9 (.cons (cy 1) (.cons (cy 1) .nil))) rfl h
    ·conv=>whnf
     refine ⟨?_, trivial⟩;conv=>whnf
     refine ⟨?_, trivial⟩;conv=>whnf
     exact cw (f9 (.cons (cy 1) (.cons (cy 1) .nil))) rfl h
   ·conv=>whnf
    refine ⟨?_, trivial⟩;conv=>whnf
    refine ⟨?_, trivial⟩;conv=>whnf
    refine ⟨?_, trivial⟩;conv=>whnf
    exact cw (f9 (.cons (cy 1) (.cons (cy 1) .nil))) rfl h
  ·rw [hlA, aax, ← hel, aax];conv=>whnf
   refine ⟨?_, ?_, trivial⟩
   ·conv=>whnf
    refine ⟨?_, ?_, trivial⟩
    ·conv=>whnf
     refine ⟨?_, trivial⟩;conv=>whnf
     refine ⟨?_, trivial⟩;conv=>whnf
     exact bB h
    ·conv=>whnf
     refine ⟨?_, trivial⟩;conv=>whnf
     refine ⟨?_, trivial⟩;conv=>whnf
     exact bB h
   ·conv=>whnf
    refine ⟨?_, trivial⟩;conv=>whnf
    refine ⟨?_, trivial⟩;conv=>whnf
    refine ⟨?_, trivial⟩;conv=>whnf
    exact bB h
end Go.Abs
end
section
namespace Go.Abs
open Go Go.Proofs Go.RowKit Dig
attribute [local irreducible] aH aD aO firstIdx
attribute [local go_sem] Oper.semAt_some
theorem iu {t : List B} (h : t ≠ []) : qt t = [bL 1 2 t, bK t, bJ t] := by
 cases t with
 | nil => exact absurd rfl h
 | cons a l => rfl
theorem Jw (v : Int) (hv : v = 1 ∨ v = 2 ∨ v = 3) (r : Rc) (hm : aR v r = true) (t : List B) (ht1 : v = 1 → t = []) (htn : t.Nodup) (htl : t.length < 80000) (A Q : List B) (hA : A.length < 100000) (hQ : Q.length < 100000) {R} (h : R (.tup [.agg r.enc, vi ((A.length + (bu v t r).length : Nat) : Int), vi 0]) (qt (bw v t r))) : ag Tryz.prog 166 [vi v, .ptr 0 0, .sl none 1 (cc (A ++ bu v t r ++ Q)), vi (A.length : Int)] (qt t) R := by
 rcases hv with rfl | rfl | rfl
 ·have := ht1 rfl;subst this;rw [nt] at h;exact LS r hm A Q hA hQ h
 ·rw [iu (kU (by decide) t r)] at h;by_cases ht : t = []
  ·subst ht;exact LR r hm A Q hA hQ h
  ·rw [iu ht];exact LQ r hm t ht htn htl A Q hA hQ h
 ·rw [iu (kU (by decide) t r)] at h;by_cases ht : t = []
  ·subst ht;exact LP r hm A Q hA hQ h
  ·rw [iu ht];exact LO r hm t ht htn htl A Q hA hQ h
theorem BE (v : Int) (hv : v = 1 ∨ v = 2 ∨ v = 3) (t : List B) (ht1 : v = 1 → t = []) (htn : t.Nodup) (htl : t.length < 80000) (A ms : List B) (hms : v = 1 → ms = []) (hA : A.length < 100000) (hml : ms.length < 5000) {R} (h : R (.tup [Dt, vi 0, vi 6]) (qt t)) : ag Tryz.prog 166 [vi v, .ptr 0 0, .sl none 1 (cc (A ++ ms.map bq)), vi (A.length : Int)] (qt t) R := by
 rcases hv with rfl | rfl | rfl
 ·have := ht1 rfl;subst this;have := hms rfl;subst this;rw [abi, aaR];exact D7 A hA h
 ·by_cases ht : t = []
  ·subst ht;exact D6 A ms hA hml h
  ·rw [iu ht] at h ⊢;exact D5 t ht htn htl A ms hA hml h
 ·by_cases ht : t = []
  ·subst ht;exact D4 A ms hA hml h
  ·rw [iu ht] at h ⊢;exact D3 t ht htn htl A ms hA hml h
def p7 (v : Int) : List B → Nat → List Rc → List (List AV)
 | _, _, [] => []
 | t, o, r :: l => [.agg r.enc, vi ((o + (bu v t r).length : Nat) : Int)] :: p7 v (bw v t r) (o + (bu v t r).length) l
theorem rF (v : Int) : ∀ (l : List Rc) (t : List B) (o : Nat), (p7 v t o l).length = l.length := by
 intro l
 induction l with
 | nil => intro t o; rfl
 | cons r l ih => intro t o; simp [p7, ih]
theorem vw (v : Int) : ∀ (l : List Rc) (t : List B) (o i : Nat) (h : i < l.length), (p7 v t o l)[i]? = some [.agg (l[i]).enc, vi ((o + (aW v t (l.take (i + 1))).length : Nat) : Int)] := by
 intro l
 induction l with
 | nil => intro t o i h; simp at h
 | cons r l ih =>
  intro t o i h
  cases i with
  | zero => simp [p7, aW]
  | succ i =>
   simp only [p7, List.getElem?_cons_succ];rw [ih _ _ i (by simpa using h)];simp [aW, Nat.add_assoc]
def plP (v : Int) (l : List Rc) (i : Nat) : Nat := (aW v [] (l.take i)).length
def tbP (v : Int) (l : List Rc) (i : Nat) : List B := ln v [] (l.take i)
theorem g9 {v : Int} {l : List Rc} {i : Nat} (h : i < l.length) : tbP v l (i + 1) = bw v (tbP v l i) l[i] := by
 unfold tbP ln;rw [aab h, abn];rfl
theorem mZ {v : Int} {l : List Rc} {i : Nat} (h : i < l.length) : plP v l (i + 1) = plP v l i + (bu v (tbP v l i) l[i]).length := by
 unfold plP tbP;rw [aab h, eJ, aac];simp [aW]
theorem mc {v : Int} {l : List Rc} {i : Nat} (h : i < l.length) : aW v [] l = aW v [] (l.take i) ++ bu v (tbP v l i) l[i] ++ aW v (tbP v l (i + 1)) (l.drop (i + 1)) := by
 have e : l.take i ++ (l[i] :: l.drop (i + 1)) = l := by rw [← aao h, abm]
 have e2 : aW v [] (l.take i ++ (l[i] :: l.drop (i + 1))) = aW v [] (l.take i) ++ bu v (tbP v l i) l[i] ++ aW v (tbP v l (i + 1)) (l.drop (i + 1)) := by
  rw [eJ, aW, g9 h, aak];rfl
 rw [e] at e2;exact e2
theorem f7 {v : Int} {t : List B} {r : Rc} (h : r.deps.length ≤ 16) : 1 ≤ (bu v t r).length ∧ (bu v t r).length ≤ 19 := by
 unfold bu;have h1 : (fU v t r).length ≤ 18 := by
  unfold fU;split
  ·simp
  ·have := lA (bf r) t;have := dm r;rw [abg]; omega
 rw [aac];simp;omega
theorem jX {v : Int} : ∀ {l : List Rc} {t : List B}, (∀ r ∈ l, r.deps.length ≤ 16) → l.length ≤ (aW v t l).length ∧ (aW v t l).length ≤ 19 * l.length := by
 intro l
 induction l with
 | nil => intro t h; simp [aW]
 | cons r l ih =>
  intro t h;have h1 := f7 (v := v) (t := t) (h r aa1);have h2 := ih (t := bw v t r) fun x hx => h x (aaw _ hx);rw [aW, aac, aag];omega
theorem WR.move {G : Gh} {objs : List (Nm × aE)} {w : World} (h : WR G objs w) {K' : Nat → Nat → Option Value} {w' : World} (hle : ∀ b o v, G.K b o = some v → K' b o = some v)
  (hw : ∀ b, (∃ n, G.at n b) → w'.heap[b]? = w.heap[b]? ∧ ∀ o, K' b o = G.K b o) (hk : ∀ b o v, K' b o = some v → w'.cell? ⟨b, o, none⟩ = some v) : WR ⟨K', G.ob⟩ objs w' :=
 ⟨hk, fun n o ho => (h.obj n o ho).keep ⟨hle, fun _ _ e => e, fun n u t e => ⟨u, t, e, .inr ⟨rfl, rfl⟩⟩⟩ rfl fun b hb => hw b ⟨n, hb⟩, h.dom, fun n m b h1 h2 => h.apart n m b h1 h2, h.glob.mono hle⟩
theorem ag.ownCall {P : Program} {f : FuncId} {args : List AV} {os : List aE} {R : AV → List aE → Prop} (h : ag P f args os R) {G : Gh} {W : World} {vals : List Value} (hW : WR G (bC 0 os) W) (hv : aB G args vals) {A : Array Value} (hA : A = vals.toArray) (m : Nat) : CallsIn Fence.wide m P f A W fun e W' => ∃ (v : Value) (r : AV) (os' : List aE) (G' : Gh), e = .returned v ∧ R r os' ∧ Rep G' r v ∧ WR G' (bC 0 os') W' ∧ G.le G' ∧ w8 (fun b => ∃ n, G.at n b) G.K W (fun b => ∃ n, G'.at n b) G'.K W' := by
 subst hA;refine (callsIn_wide.2 (h.run G W vals hW hv)).mono ?_;rintro e W' ⟨v, r, os', G', rfl, hR, hRep, hWR, hle, hext, hnb, _, _⟩;refine ⟨v, r, os', G', rfl, hR, hRep, hWR, hle, ⟨hext.os, hext.tape, hext.output, hext.size, hext.block, ?_, hle.K, hext.knew, hWR.know, ?_⟩⟩
 ·rintro b ⟨n, hn⟩;exact hnb n b hn
 ·rintro b ⟨n, hn⟩;obtain ⟨g, hg⟩ : ∃ g, G'.ob n = some g := by rcases hn with hn | ⟨u, t, hn, _⟩ <;> exact ⟨_, hn⟩
  obtain ⟨o, ho⟩ := hWR.dom n g hg;exact (hWR.obj n o ho).lt hn
theorem Ge {G : Gh} {r : Rc} {v : Value} (h : Rep G (.agg r.enc) v) : ∃ d, v = .agg #[.int .i64 r.kind, .string (ofB r.target), .int .u64 (r.rule.toNat : Int), d, .int .u64 (r.out.toNat : Int), .int .u64 (r.wen.toNat : Int), .string (ofB r.tag)] ∧ Rep G (.sl none 3 (dO r.deps)) d := by
 have hx : ∃ vs : List Value, v = .agg vs.toArray ∧ aB G r.enc vs := h;clear h;obtain ⟨vs, rfl, hy⟩ := hx;obtain ⟨a1, _, rfl, h1, a2, _, rfl, h2, a3, _, rfl, h3, a4, _, rfl, h4, a5, _, rfl, h5, a6, _, rfl, h6, a7, _, rfl, h7, rfl⟩ := hy;refine ⟨a4, ?_, h4⟩;have h1 : a1 = .int .i64 r.kind := h1;have h2 : a2 = .string (ofB r.target) := h2;have h3 : a3 = .int .u64 (r.rule.toNat : Int) := h3;have h5 : a5 = .int .u64 (r.out.toNat : Int) := h5;have h6 : a6 = .int .u64 (r.wen.toNat : Int) := h6;have h7 : a7 = .string (ofB r.tag) := h7;subst h1 h2 h3 h5 h6 h7;rfl
attribute [local go_sem] Oper.semAt_some
theorem zW {objs : List aE} {G : Gh} {W : World} (h : WR G (bC 0 objs) W) {b : Nat} (hb : ∃ n, G.at n b) : b < W.heap.size := by
 obtain ⟨n, hn⟩ := hb;obtain ⟨g, hg⟩ : ∃ g, G.ob n = some g := by rcases hn with hn | ⟨u, t, hn, _⟩ <;> exact ⟨_, hn⟩
 obtain ⟨o, ho⟩ := h.dom n g hg;exact (h.obj n o ho).lt hn
set_option maxHeartbeats 4000000 in
theorem zN (v : Int) (hv : v = 1 ∨ v = 2 ∨ v = 3) (l : List Rc) (hm : ∀ r ∈ l, aR v r = true) (hl : l.length ≤ 1100) (ms : List B) (hms : v = 1 → ms = []) (hml : ms.length < 5000) : GQ Tryz.prog 165 [.cptr [vi v] 0, .cptr [.sl none 1 (cc (aW v [] l ++ ms.map bq))] 0] [] (p7 v [] 0 l) := by
 refine ⟨fun args w => ix (by kernel_rfl), fun G w lb hW hr lp n' J Jx hY hS hK hJ0 => ?_⟩;have hd16 : ∀ r ∈ l, r.deps.length ≤ 16 := fun r hr => (aT (hm r hr)).deps;have hpl := jX (v := v) (l := l) (t := []) hd16;have hlenA := rF v l [] 0;generalize hPs : aW v [] l ++ ms.map bq = Ps at hr;simp only [aB, Rep, fv] at hr;obtain ⟨_, _, rfl, ⟨bv, ov, rfl, ⟨⟨vV, hvV, hV⟩, _⟩, _⟩, _, _, rfl, ⟨bp, op, rfl, ⟨⟨vP, hvP, hP⟩, _⟩, _⟩, rfl⟩ := hr;have hV : vV = .int .i64 v := hV;subst hV;have hGob : ∀ n g, G.ob n ≠ some g := fun n g e => by
  obtain ⟨o, ho⟩ := hW.dom n g e
  cases ho
 have hglob := hW.glob
 -- intern.New
 have hnew := (ol (R := fun r os => r = .ptr 0 0 ∧ os = [dg]) ⟨rfl, rfl⟩).ownCall (G := G) (W := w) (vals := [.slice none 0 0]) hW (by simp only [aB, Rep]; exact ⟨_, _, rfl, rfl, rfl⟩) (A := #[.slice none 0 0]) rfl;rw [show FW none = Fence.wide from rfl] at hY ⊢;refine callsIn_of_wp Tryz.func165 rfl trivial ?_ rfl;simp only [Tryz.ntmps165, aa4, aag, aaj, Nat.reduceAdd, Nat.reduceSub, abp, abo, abx, abu, aam, aav, aa8]
 gi_wp2
 refine ⟨trivial, fun h => by simp [Fence.wide] at h, (hnew _).mono ?_⟩;rintro e W0 ⟨v0, r0, os0, G0, rfl, ⟨rfl, rfl⟩, hRep0, hWR0, hle0, hst0⟩;obtain ⟨bt, hbt, rfl⟩ : ∃ b, G0.ob 0 = some (.blk b) ∧ v0 = .pointer (some ⟨b, 0, none⟩) := hRep0;have hJ1 := hS 0 _ _ _ _ _ _ hJ0 hst0
 gi_wp2
 gi_loopw [5] (fun x wr => ∃ (i : Nat) (Gi : Gh), i ≤ l.length ∧ x = .int .i64 ((plP v l i : Nat) : Int) ∧ WR Gi (bC 0 (qt (tbP v l i))) wr ∧ Gi.ob 0 = some (.blk bt) ∧ (∀ b o u, G.K b o = some u → Gi.K b o = some u) ∧ J i (fun b => ∃ n, Gi.at n b) Gi.K wr)
  (fun x wr => match x with | .int _ x => (4000000 - x).toNat | _ => 0)
 case atStart => exact ⟨0, G0, by omega, rfl, hWR0, hbt, hle0.K, hJ1⟩
 case round =>
  obtain ⟨i, Gi, hi, rfl, hWi, hbi, hGK, hJi⟩ := hrel;have hcV := hWi.know _ _ _ (hGK _ _ _ hvV);have hcP := hWi.know _ _ _ (hGK _ _ _ hvP);have hPi : Rep Gi (.sl none 1 (cc Ps)) vP := by
   have h1 : Rep G (.sl none 1 (cc Ps)) vP := by simp only [Rep]; exact hP
   exact Rep.nameless (G := G) (G' := Gi) hGK _ _ rfl h1
  have hvi : ∀ x : Int, Rep Gi (vi x) (.int .i64 x) := fun x => by
   show Rep _ (.val (.int .i64 x)) _;simp only [Rep]
  have hargs : aB Gi [vi v, .ptr 0 0, .sl none 1 (cc Ps), vi ((plP v l i : Nat) : Int)] [.int .i64 v, .pointer (some ⟨bt, 0, none⟩), vP, .int .i64 ((plP v l i : Nat) : Int)] := by
   simp only [aB];exact ⟨_, _, rfl, hvi _, _, _, rfl, (by simp only [Rep]; exact ⟨bt, hbi, rfl⟩), _, _, rfl, hPi, _, _, rfl, hvi _, rfl⟩
  have hmt : ∀ r ∈ l.take i, aR v r = true := fun r hr => hm r (aaU hr);have htl := lm (v := v) (l := l.take i) (t := []) fun r hr => aT (hmt r hr);have hnd : (tbP v l i).Nodup := DN v (l.take i) List.nodup_nil;have hT1 : v = 1 → tbP v l i = [] := fun e => by subst e; exact u4 _ _
  have htl : (tbP v l i).length ≤ 20000 := by
   unfold tbP;rw [aan] at htl;simp at htl;omega
  have hpt := jX (v := v) (l := l.take i) (t := []) fun r hr => hd16 r (aaU hr);have hpt : plP v l i ≤ 21000 := by
   unfold plP;rw [aan] at hpt;omega
  by_cases hlt : i < l.length
  ·have hmi := hm _ (aaf hlt);have hsp := mc (v := v) hlt;have hPs2 : Ps = aW v [] (l.take i) ++ bu v (tbP v l i) l[i] ++ (aW v (tbP v l (i + 1)) (l.drop (i + 1)) ++ ms.map bq) := by rw [← hPs, hsp, aak]
   have hdl := jX (v := v) (l := l.drop (i + 1)) (t := tbP v l (i + 1)) fun r hr => hd16 r (abT hr);have hget := Jw v hv l[i] hmi (tbP v l i) hT1 hnd (by omega) (aW v [] (l.take i)) (aW v (tbP v l (i + 1)) (l.drop (i + 1)) ++ ms.map bq) (by show plP v l i < _; omega) (by rw [aac, abg]; simp at hdl ⊢; omega)
    (R := fun r os => r = .tup [.agg l[i].enc, vi ((plP v l (i + 1) : Nat) : Int), vi 0] ∧ os = qt (tbP v l (i + 1))) ⟨by rw [mZ hlt]; rfl, by rw [g9 hlt]⟩
   rw [← hPs2] at hget;have hcall := hget.ownCall hWi hargs (A := #[.int .i64 v, .pointer (some ⟨bt, 0, none⟩), vP, .int .i64 ((plP v l i : Nat) : Int)]) rfl;have hxs := vw v l [] 0 i hlt;rw [aaS] at hxs;have hxs : (p7 v [] 0 l)[i]? = some [.agg (l[i]).enc, vi ((plP v l (i + 1) : Nat) : Int)] := hxs;have hinc : plP v l i < plP v l (i + 1) ∧ plP v l (i + 1) < 4000000 := by
    have h1 := f7 (v := v) (t := tbP v l i) (r := l[i]) (hd16 _ (aaf hlt));have h2 := mZ (v := v) hlt;omega
   clear hget hsp hPs2 hdl hmt htl hpt hT1 hnd hargs hPi hvi hmi
   gi_wp2
   refine ⟨trivial, fun h => by simp [Fence.wide] at h, (hcall _).mono ?_⟩;rintro e W1 ⟨v1, r1, os1, G1, rfl, ⟨rfl, rfl⟩, hRep1, hWR1, hle1, hst1⟩;obtain ⟨u1, rfl, hu1⟩ := rC hRep1;obtain ⟨d1, rfl, hd1⟩ := Ge hu1;obtain ⟨A1, c1, rfl⟩ : ∃ A1 c1, d1 = .slice A1 (dO l[i].deps).length c1 := by
    simp only [Rep] at hd1;obtain ⟨⟨A1, c1, e, _⟩, _⟩ := hd1;exact ⟨A1, c1, e⟩
   have hJ2 := hS i _ _ _ _ _ _ hJi hst1;clear hcall
   gi_wp2
   have hstep2 : ∀ o, w8 (fun b => ∃ n, G1.at n b) G1.K W1 (fun b => ∃ n, G1.at n b) G1.K (W1.alloc o) := fun o =>
    ⟨rfl, rfl, rfl, by simp, fun b hb _ => heap_alloc_old W1 o hb, fun b h => .inl h, fun _ _ _ h => h, fun _ _ _ _ => rfl, fun b o2 v2 e2 => by
     have hk := hWR1.know _ _ _ e2;rw [cell_of_heap (heap_alloc_old W1 o (AG hk))];exact hk, fun b h => by have := zW hWR1 h; simp; omega⟩
   have hmove2 : ∀ o, WR G1 (bC 0 (qt (tbP v l (i + 1)))) (W1.alloc o) := fun o =>
    hWR1.move (K' := G1.K) (fun _ _ _ h => h) (fun b hb => ⟨heap_alloc_old W1 o (zW hWR1 hb), fun _ => rfl⟩) (hstep2 o).know
   have hJ3 := fun o => hS i _ _ _ _ _ _ hJ2 (hstep2 o);have hRec : aB ⟨G1.K, fun _ => none⟩ [.agg (l[i]).enc, vi ((plP v l (i + 1) : Nat) : Int)] [.agg #[.int .i64 l[i].kind, .string (ofB l[i].target), .int .u64 (l[i].rule.toNat : Int), .slice A1 (dO l[i].deps).length c1, .int .u64 (l[i].out.toNat : Int), .int .u64 (l[i].wen.toNat : Int), .string (ofB l[i].tag)], .int .i64 ((plP v l (i + 1) : Nat) : Int)] := by
    simp only [aB];exact ⟨_, _, rfl, Rep.nameless (G := G1) (G' := ⟨G1.K, fun _ => none⟩) (fun _ _ _ h => h) _ _ rfl hu1, _, _, rfl, (by show Rep _ (.val (.int .i64 ((plP v l (i + 1) : Nat) : Int))) _; simp only [Rep]), rfl⟩
   generalize hW2 : W1.alloc _ = W2;have hWR2 := hW2 ▸ hmove2 _;have hJ4 := hW2 ▸ hJ3 _;obtain ⟨fn, tmps, assign, body, hy, hR⟩ := hY (n' - 1) i _ #[.agg #[.int .i64 l[i].kind, .string (ofB l[i].target), .int .u64 (l[i].rule.toNat : Int), .slice A1 (dO l[i].deps).length c1, .int .u64 (l[i].out.toNat : Int), .int .u64 (l[i].wen.toNat : Int), .string (ofB l[i].tag)], .int .i64 ((plP v l (i + 1) : Nat) : Int)] _ G1.K W2 hxs hRec hJ4;clear hY hJ3 hmove2 hstep2;rw [hy]
   gi_wp2
   refine ⟨fun h => by simp [Fence.wide] at h, hR.mono ?_⟩;rintro e W3 (⟨rfl, K', hJ5, hKK, hO3, hos3, htape3, hout3, hsz3⟩ | ⟨rfl, hJx3⟩)
   ·clear hR hy;have hWR3 : WR ⟨K', G1.ob⟩ (bC 0 (qt (tbP v l (i + 1)))) W3 := hWR2.move hKK (fun b hb => hO3 b hb) (hK (i + 1) _ K' W3 hJ5)
    gi_wp2
    refine ⟨⟨i + 1, ⟨K', G1.ob⟩, hlt, rfl, hWR3, hle1.blk _ _ hbi, fun b o u h => hKK _ _ _ (hle1.K _ _ _ (hGK _ _ _ h)), hJ5⟩, ?_⟩;show (4000000 - ((plP v l (i + 1) : Nat) : Int)).toNat < (4000000 - ((plP v l i : Nat) : Int)).toNat;omega
   ·clear hR hy
    gi_wp2
    refine bodyPost_ret (results_none rfl _ _ _) rfl ?_;exact ⟨⟨_, rfl⟩, .inr hJx3⟩
  ·have hfin : i = l.length := by omega
   subst hfin;have hPs2 : Ps = aW v [] (l.take l.length) ++ ms.map bq := by rw [← hPs, aax]
   have hget := BE v hv (tbP v l l.length) hT1 hnd (by omega) (aW v [] (l.take l.length)) ms hms (by show plP v l l.length < _; omega) hml (R := fun r os => r = .tup [Dt, vi 0, vi 6] ∧ os = qt (tbP v l l.length)) ⟨rfl, rfl⟩;rw [← hPs2] at hget;have hcall := hget.ownCall hWi hargs (A := #[.int .i64 v, .pointer (some ⟨bt, 0, none⟩), vP, .int .i64 ((plP v l l.length : Nat) : Int)]) rfl;clear hget hPs2 hmt htl hpt hT1 hnd hargs hPi hvi
   gi_wp2
   refine ⟨trivial, fun h => by simp [Fence.wide] at h, (hcall _).mono ?_⟩;rintro e W1 ⟨v1, r1, os1, G1, rfl, ⟨rfl, rfl⟩, hRep1, hWR1, hle1, hst1⟩;obtain ⟨u1, rfl, hu1⟩ := rC hRep1;have hR6 : Rep G1 (.agg (Rc.mk 0 [] 0 [] 0 0 []).enc) u1 := mg 0 [] 0 0 0 [] G1 u1 hu1;obtain ⟨d1, rfl, hd1⟩ := Ge hR6;obtain ⟨A1, c1, rfl⟩ : ∃ A1 c1, d1 = .slice A1 0 c1 := by
    simp only [Rep] at hd1;obtain ⟨⟨A1, c1, e, _⟩, _⟩ := hd1;exact ⟨A1, c1, e⟩
   have hJ2 := hS l.length _ _ _ _ _ _ hJi hst1;have hstep2 : ∀ o, w8 (fun b => ∃ n, G1.at n b) G1.K W1 (fun b => ∃ n, G1.at n b) G1.K (W1.alloc o) := fun o =>
    ⟨rfl, rfl, rfl, by simp, fun b hb _ => heap_alloc_old W1 o hb, fun b h => .inl h, fun _ _ _ h => h, fun _ _ _ _ => rfl, fun b o2 v2 e2 => by
     have hk := hWR1.know _ _ _ e2;rw [cell_of_heap (heap_alloc_old W1 o (AG hk))];exact hk, fun b h => by have := zW hWR1 h; simp; omega⟩
   have hJ3 := fun o => hS l.length _ _ _ _ _ _ hJ2 (hstep2 o);rw [← hlenA] at hJ3;clear hcall hstep2
   gi_wp2
   refine ⟨fun f h => (nomatch h), ?_⟩
   gi_wp2
   refine bodyPost_ret (results_none rfl _ _ _) rfl ?_;exact ⟨⟨_, rfl⟩, .inl ⟨_, _, hJ3 _⟩⟩
end Go.Abs
end
section
namespace Go.Abs
open Go Go.Proofs Dig
attribute [local irreducible] aH aD aO firstIdx
theorem Pt {R} (h : R (.tup [.sl none 1 (ai (dG 1)), vi 0]) []) : ag Tryz.prog 115 [vi 1] [] R := rf 1 (by decide) h
theorem Pr {R} (h : R (.tup [.sl none 1 (ai (dG 2)), vi 0]) []) : ag Tryz.prog 115 [vi 2] [] R := rf 2 (by decide) h
theorem Pq {R} (h : R (.tup [.sl none 1 (ai (dG 3)), vi 0]) []) : ag Tryz.prog 115 [vi 3] [] R := rf 3 (by decide) h
theorem Pp {v : Int} (hv : v = 2 ∨ v = 3) {R} (h : R (.tup [.sl none 1 (ai (dG v)), vi 0]) []) : ag Tryz.prog 115 [vi v] [] R := by
 rcases hv with rfl | rfl
 ·exact Pr h
 ·exact Pq h
theorem eM (l : List B) (k : Nat) : (aw (l.take k)).length ≤ (aw l).length := by
 have h : aw l = aw (l.take k) ++ aw (l.drop k) := by rw [← dC, abm]
 rw [h, aac];omega
theorem vF {v : Int} {l : List Rc} {i : Nat} (hi : i < l.length) : dG v ++ aw (aW v [] (l.take i)) ++ aw (bu v (tbP v l i) l[i]) = dG v ++ aw (aW v [] (l.take (i + 1))) := by
 rw [aab hi, eJ, dC, aak];simp [aW];rfl
theorem vU {v : Int} {l : List Rc} {i : Nat} (hi : i < l.length) (h : ∀ r ∈ l.take i, aR v r = true) (h1 : aR v l[i] = true) : ∀ r ∈ l.take (i + 1), aR v r = true := by
 rw [aab hi];intro r hr;rcases List.mem_append.1 hr with hr | hr
 ·exact h r hr
 ·rw [List.mem_singleton.1 hr]; exact h1
theorem zT {v : Int} {l : List Rc} {i : Nat} (hl : l.length ≤ 1000) (h : ∀ r ∈ l.take i, aR v r = true) : (dG v ++ aw (aW v [] (l.take i))).length ≤ 3000008 := by
 have h1 : (l.take i).length ≤ 1000 := by rw [aan]; omega
 have h2 := jv (v := v) (l := l.take i) (t := []) (fun r hr => aT (h r hr)) (by simp; omega);rw [aac, eL];omega
theorem rv {v : Int} {l : List Rc} {i : Nat} (hl : l.length ≤ 1100) (h : ∀ r ∈ l.take i, aR v r = true) : (tbP v l i).length ≤ 20000 := by
 have h1 : (l.take i).length ≤ 1100 := by rw [aan]; omega
 have h2 := lm (v := v) (l := l.take i) (t := []) fun r hr => aT (h r hr);unfold tbP;simp at h2;omega
theorem O0 (l : List Rc) (hl : l.length ≤ 1000) (hd : ∀ r ∈ l, r.deps.length < 100000) {R} (hy : (∀ r ∈ l, aR 1 r = true) → R (.tup [.sl none 1 (ai (aC 1 l)), vi 0]) []) (hn : (¬ ∀ r ∈ l, aR 1 r = true) → R (.tup [.val (.slice none 0 0), vi 1]) []) : ag Tryz.prog 81 [vi 1, .sl none 7 (be l)] [] R := by
 refine aa (an := Pa) tab_ok Tryz.func81 ?_;have hsl := bd l;conv=>whnf
 refine Pt ?_;conv=>whnf
 refine ol ?_;conv=>whnf
 refine aq.ind2 (fun (i : Nat) (b : B) => [(6, .sl none 1 (ai b)), (26, vi i)]) (fun i b => [(ar 23 0, dg)]) (fun i _ => l.length - i) (fun i b => i ≤ l.length ∧ (∀ r ∈ l.take i, aR 1 r = true) ∧ b = dG 1 ++ aw (aW 1 [] (l.take i))) 0 (dG 1) rfl ⟨by omega, by simp, by simp [aW, aw]⟩ ?_;rintro i b ⟨h0, hm, hb0⟩ IH;have hbl : b.length ≤ 3000008 := by rw [hb0]; exact zT hl hm
 conv=>whnf
 refine ae (fun hc => ?_) (fun hc => ?_)
 ·have hi := ap hsl hc;have hdi := hd _ (aaf hi);obtain ⟨TT, hTT⟩ : ∃ TT, tbP 1 l i = TT := ⟨_, rfl⟩;have hT0 : TT = [] := by rw [← hTT]; exact u4 _ _
  have hTl : TT.length ≤ 20000 := by rw [hT0]; simp
  (conv=>whnf); (repeat ((with_reducible refine ac ?_ ?_); exact aaa (by omega); (conv=>whnf)))
  refine idxNat (by simpa using hi) ?_;conv=>whnf
  by_cases hmi : aR 1 l[i] = true
  ·have hmt := vU hi hm hmi;refine zC l[i] hmi ?_;rw [← hT0];have hpl := iA (t := TT) (aT hmi) (by omega);have hpf := dF (t := TT) (aT hmi) (by omega);have hpc := (f7 (v := 1) (t := TT) (aT hmi).deps).2;have hpn := vF (v := 1) hi;rw [hTT] at hpn;generalize hps : bu 1 TT l[i] = ps at hpl hpf hpn hpc;have hrl := aP ps;conv=>whnf
   refine aq.ind2 (fun (k : Nat) (c : B) => [(6, .sl none 1 (ai c)), (42, vi k)]) (fun k c => [(ar 23 0, dg)]) (fun k _ => ps.length - k) (fun k c => k ≤ ps.length ∧ c = b ++ aw (ps.take k)) 0 b rfl ⟨by omega, by simp [aw]⟩ ?_;rintro k c ⟨hk0, hc0⟩ IH2;have hcl : c.length ≤ 3003008 := by have := eM ps k; rw [hc0, aac]; omega
   conv=>whnf
   refine ae (fun hk => ?_) (fun hk => ?_)
   ·have hk := ap hrl hk;have hp := hpl _ (aaf hk);have hS : c ++ bl ps[k] = b ++ aw (ps.take (k + 1)) := by
     rw [hc0, aab hk, dB, aak]
    have IH2 := IH2 (k + 1) _ ⟨hk, hS⟩ (by omega)
    (conv=>whnf); (repeat ((with_reducible refine ac ?_ ?_); exact aaa (by omega); (conv=>whnf)))
    refine idxNat (by simpa using hk) ?_;conv=>whnf
    refine dX c ps[k] (by omega) hp.1 hp.2 ?_;conv=>whnf
    rw [am (by omega)];exact IH2
   ·have hk := au hrl hk;have hke : k = ps.length := by omega
    subst hke;rw [aax, hb0, hpn] at hc0;conv=>whnf
    rw [am (by omega)];exact IH (i + 1) c ⟨hi, hmt, hc0⟩ (by omega)
  ·have hmi : aR 1 l[i] = false := by simpa using hmi
   refine Og l[i] hdi hmi ?_;conv=>whnf
   exact hn fun h => by rw [h _ (aaf hi)] at hmi; cases hmi
 ·have hi := au hsl hc;rw [aae hi] at hm hb0;conv=>whnf
  rw [hb0];exact hy hm
theorem KF {v : Int} (hv : v = 2 ∨ v = 3) (l : List Rc) (hl : l.length ≤ 1000) (hd : ∀ r ∈ l, r.deps.length < 100000) {R} (hy : (∀ r ∈ l, aR v r = true) → R (.tup [.sl none 1 (ai (aC v l)), vi 0]) []) (hn : (¬ ∀ r ∈ l, aR v r = true) → R (.tup [.val (.slice none 0 0), vi 1]) []) : ag Tryz.prog 81 [vi v, .sl none 7 (be l)] [] R := by
 refine aa (an := Pa) tab_ok Tryz.func81 ?_;have hsl := bd l;conv=>whnf
 refine Pp hv ?_;conv=>whnf
 refine ol ?_;conv=>whnf
 by_cases hl0 : l = []
 ·subst hl0;refine aq.step ?_;conv=>whnf
  have e := hy (fun r hr => by cases hr);rw [show aC v [] = dG v from by simp [aC, aW, aw]] at e;exact e
 have hi : 0 < l.length := List.length_pos_iff.2 hl0;refine aq.step ?_;conv=>whnf
 refine aK (by rw [hsl]; exact aaa (by omega)) ?_
 (conv=>whnf); (repeat ((with_reducible refine ac ?_ ?_); exact aaa (by omega); (conv=>whnf)))
 refine ab (show (0 : Int).toNat < l.length by simpa using hi) ?_;rw [show l[(0 : Int).toNat]'(by simpa using hi) = l[0] from rfl];have hdi := hd _ (aaf hi);by_cases hmi : aR v l[0] = true
 ·obtain ⟨TT, hTT⟩ : ∃ TT, tbP v l 0 = TT := ⟨_, rfl⟩;have hT0 : TT = [] := by rw [← hTT]; rfl
  have hTl : TT.length ≤ 20000 := by rw [hT0]; simp
  have hm : ∀ r ∈ l.take 0, aR v r = true := by simp
  have hmt := vU hi hm hmi;obtain ⟨i, hi0⟩ : ∃ i : Nat, i = 0 := ⟨0, rfl⟩;obtain ⟨b, hb0⟩ : ∃ b, b = dG v ++ aw (aW v [] (l.take 0)) := ⟨_, rfl⟩;have hbh : dG v = b := by rw [hb0]; simp [aW, aw]
  have hbl : b.length ≤ 3000008 := by rw [hb0]; exact zT hl hm
  rw [hbh];conv=>whnf
  refine zB hv l[0] hmi ?_;rw [← hT0];have hpl := iA (t := TT) (aT hmi) (by omega);have hpf := dF (t := TT) (aT hmi) (by omega);have hpc := (f7 (v := v) (t := TT) (aT hmi).deps).2;have hpn := vF (v := v) hi;rw [hTT] at hpn;generalize hps : bu v TT l[0] = ps at hpl hpf hpn hpc;have hrl := aP ps;conv=>whnf
  refine aq.ind2 (fun (k : Nat) (c : B) => [(6, .sl none 1 (ai c)), (42, vi k)]) (fun k c => [(ar 23 0, bL (ar 34 0) (ar 34 1) (bw v TT l[0])), (ar 34 0, bK (bw v TT l[0])), (ar 34 1, bJ (bw v TT l[0]))]) (fun k _ => ps.length - k) (fun k c => k ≤ ps.length ∧ c = b ++ aw (ps.take k)) 0 b rfl ⟨by omega, by simp [aw]⟩ ?_;rintro k c ⟨hk0, hc0⟩ IH2;have hcl : c.length ≤ 3003008 := by have := eM ps k; rw [hc0, aac]; omega
  conv=>whnf
  refine ae (fun hk => ?_) (fun hk => ?_)
  ·have hk := ap hrl hk;have hp := hpl _ (aaf hk);have hS : c ++ bl ps[k] = b ++ aw (ps.take (k + 1)) := by
    rw [hc0, aab hk, dB, aak]
   have IH2 := IH2 (k + 1) _ ⟨hk, hS⟩ (by omega)
   (conv=>whnf); (repeat ((with_reducible refine ac ?_ ?_); exact aaa (by omega); (conv=>whnf)))
   refine idxNat (by simpa using hk) ?_;conv=>whnf
   refine dX c ps[k] (by omega) hp.1 hp.2 ?_;conv=>whnf
   rw [am (by omega)];exact IH2
  ·have hk := au hrl hk;have hke : k = ps.length := by omega
   subst hke;rw [aax, hb0, hpn] at hc0;conv=>whnf
   rw [show IntKind.i64.wrap ((0 : Int) + 1) = ((1 : Nat) : Int) from rfl];have hT1 : bw v TT l[0] = tbP v l 1 := by rw [← hTT]; exact (g9 hi).symm
   rw [hT1];refine aq.ind3 (fun (i : Nat) (b : B) (T : List B) => [(6, .sl none 1 (ai b)), (26, vi i)]) (fun i b T => [(ar 23 0, bL (ar 34 0) (ar 34 1) T), (ar 34 0, bK T), (ar 34 1, bJ T)]) (fun i _ _ => l.length - i) (fun i b T => 1 ≤ i ∧ i ≤ l.length ∧ (∀ r ∈ l.take i, aR v r = true) ∧ b = dG v ++ aw (aW v [] (l.take i)) ∧ T = tbP v l i) 1 c _ rfl ⟨by omega, hi, hmt, hc0, rfl⟩ ?_;clear hc0 hcl hbl hb0 hbh hmi hdi hm hmt hTT hT0 hTl hT1 hpl hpf hpn hps hrl hk IH2 hk0
   skip
   rintro i b T ⟨h00, h0, hm, hb0, hT⟩ IH;have hbl : b.length ≤ 3000008 := by rw [hb0]; exact zT hl hm
   conv=>whnf
   refine ae (fun hc => ?_) (fun hc => ?_)
   ·have hi := ap hsl hc;have hdi := hd _ (aaf hi);have hTne : T ≠ [] := by
     obtain ⟨j, rfl⟩ : ∃ j, i = j + 1 := ⟨i - 1, by omega⟩;rw [hT, g9 (by omega)];exact kU (ne1 hv) _ _
    obtain ⟨TT, hTT⟩ : ∃ TT, tbP v l i = TT := ⟨_, rfl⟩;have hTeq : T = TT := hT.trans hTT;have hTl : TT.length ≤ 20000 := by rw [← hTT]; exact rv (by omega) hm
    subst hTeq
    (conv=>whnf); (repeat ((with_reducible refine ac ?_ ?_); exact aaa (by omega); (conv=>whnf)))
    refine idxNat (by simpa using hi) ?_;conv=>whnf
    by_cases hmi : aR v l[i] = true
    ·have hmt := vU hi hm hmi;refine zA hv l[i] T (by omega) hmi ?_;have hT1 : bw v T l[i] = tbP v l (i + 1) := by rw [← hTT]; exact (g9 hi).symm
     rw [hT1];have hpl := iA (t := T) (aT hmi) (by omega);have hpf := dF (t := T) (aT hmi) (by omega);have hpc := (f7 (v := v) (t := T) (aT hmi).deps).2;have hpn := vF (v := v) hi;rw [hTT] at hpn;generalize hps : bu v T l[i] = ps at hpl hpf hpn hpc;have hrl := aP ps;conv=>whnf
     refine aq.ind2 (fun (k : Nat) (c : B) => [(6, .sl none 1 (ai c)), (42, vi k)]) (fun k c => [(ar 23 0, bL (ar 34 0) (ar 34 1) (tbP v l (i + 1))), (ar 34 0, bK (tbP v l (i + 1))), (ar 34 1, bJ (tbP v l (i + 1)))]) (fun k _ => ps.length - k) (fun k c => k ≤ ps.length ∧ c = b ++ aw (ps.take k)) 0 b rfl ⟨by omega, by simp [aw]⟩ ?_;rintro k c ⟨hk0, hc0⟩ IH2;have hcl : c.length ≤ 3003008 := by have := eM ps k; rw [hc0, aac]; omega
     conv=>whnf
     refine ae (fun hk => ?_) (fun hk => ?_)
     ·have hk := ap hrl hk;have hp := hpl _ (aaf hk);have hS : c ++ bl ps[k] = b ++ aw (ps.take (k + 1)) := by
       rw [hc0, aab hk, dB, aak]
      have IH2 := IH2 (k + 1) _ ⟨hk, hS⟩ (by omega)
      (conv=>whnf); (repeat ((with_reducible refine ac ?_ ?_); exact aaa (by omega); (conv=>whnf)))
      refine idxNat (by simpa using hk) ?_;conv=>whnf
      refine dX c ps[k] (by omega) hp.1 hp.2 ?_;conv=>whnf
      rw [am (by omega)];exact IH2
     ·have hk := au hrl hk;have hke : k = ps.length := by omega
      subst hke;rw [aax, hb0, hpn] at hc0;conv=>whnf
      rw [am (by omega)];exact IH (i + 1) c _ ⟨by omega, hi, hmt, hc0, rfl⟩ (by omega)
    ·have hmi : aR v l[i] = false := by simpa using hmi
     refine Oa hv l[i] T hdi hmi ?_;conv=>whnf
     exact hn fun h => by rw [h _ (aaf hi)] at hmi; cases hmi
   ·have hi := au hsl hc;rw [aae hi] at hm hb0;conv=>whnf
    rw [hb0];exact hy hm
 ·have hmi : aR v l[0] = false := by simpa using hmi
  conv=>whnf
  refine Ob hv l[0] hdi hmi ?_;conv=>whnf
  exact hn fun h => by rw [h _ (aaf hi)] at hmi; cases hmi
end Go.Abs
end
