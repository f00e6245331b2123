/- Several texts of this claim, one behind the other: P6, P7, P8, NC, NA, P9, PA, PB, PD, PC, PE, L6, L7, L8, L9, LA, LB, LC. -/
import Derived.Test.YtnjeogcgfoabhaaGreatYBuildClean2
import Derived.Test.YtnjeogcgfoabhaaGreatE0BA
import Derived.Test.YtnjeogcgfoabhaaGreatE0C1
set_option maxRecDepth 100000
set_option maxHeartbeats 4000000
set_option linter.unusedVariables false
set_option linter.unusedSimpArgs false
section
namespace Go.Abs
open Go Go.Proofs Dig
attribute [local irreducible] aH aE aO firstIdx
theorem vT {P A Q : B} {n : Nat} (hP : P = A ++ vrn n ++ Q) (hn : n < 18446744073709551616) (hl : P.length < 1000000) {R} (h : R (un n) [cO P (A ++ vrn n).length]) :
  ag Tryz.prog 250 [.ptr 0 0] [cO P A.length] R := by
 subst hP;rw [show (A ++ vrn n).length = A.length + (vrn n).length from List.length_append] at h;exact A7 A Q n hn (by simp at hl; omega) h
def rdr : AV := .agg [.ptr 0 0, .ptr 1 0]
theorem pL (b : B) (l : List B) (a i : Nat) (hi : i < l.length) (hl : l.length < 1000000) {R} (h : R (vs l[i]) [cO b a, bN 2 3 l, bM l, bL l]) :
  ag Tryz.prog 253 [rdr, un i] [cO b a, bN 2 3 l, bM l, bL l] R := by
 refine ab (an := Rq) tab_ok Tryz.func253 ?_;conv=>whnf
 refine oR l i hi hl ?_;conv=>whnf
 exact h
theorem AY {l : List B} {s : B} (hs : s ∈ l) : ∃ h : l.idxOf s < l.length, l[l.idxOf s] = s := ⟨List.idxOf_lt_length_of_mem hs, List.getElem_idxOf (List.idxOf_lt_length_of_mem hs)⟩
theorem BN {P A Q : B} {l : List B} {s : B} (hs : s ∈ l) (hP : P = A ++ vrn (l.idxOf s) ++ Q) (hl : P.length < 1000000) (hll : l.length < 1000000) {R} (h : R (vs s) [cO P (A ++ vrn (l.idxOf s)).length, bN 2 3 l, bM l, bL l]) :
  ag Tryz.prog 247 [rdr] [cO P A.length, bN 2 3 l, bM l, bL l] R := by
 refine ab (an := Rv) tab_ok Tryz.func247 ?_;obtain ⟨hi, he⟩ := AY hs;conv=>whnf
 refine ⟨?_, ?_, trivial⟩
 ·conv=>whnf
  refine ⟨?_, trivial⟩;conv=>whnf
  refine ⟨?_, trivial⟩;conv=>whnf
  refine vT hP (by omega) hl ?_;conv=>whnf
  refine ⟨?_, trivial⟩;conv=>whnf
  refine pL P l _ (l.idxOf s) hi hll ?_;rw [he];conv=>whnf
  exact h
 ·conv=>whnf
  refine ⟨?_, ?_, trivial⟩
  ·conv=>whnf
   refine ⟨?_, trivial⟩;conv=>whnf
   refine vT hP (by omega) hl ?_;conv=>whnf
   refine ⟨?_, trivial⟩;conv=>whnf
   refine pL P l _ (l.idxOf s) hi hll ?_;rw [he];conv=>whnf
   exact h
  ·conv=>whnf
   refine vT hP (by omega) hl ?_;conv=>whnf
   refine ⟨?_, trivial⟩;conv=>whnf
   refine ⟨?_, trivial⟩;conv=>whnf
   refine pL P l _ (l.idxOf s) hi hll ?_;rw [he];conv=>whnf
   exact h
theorem Gk {P A Q s : B} (hs : s.length ≤ 64) (hP : P = A ++ ba s ++ Q) (hl : P.length < 1000000) {R} (h : R (vs s) [cO P (A ++ ba s).length, dq]) :
  ag Tryz.prog 248 [rdr] [cO P A.length, dq] R := by
 refine ab (an := Ru) tab_ok Tryz.func248 ?_;subst hP;rw [show (A ++ ba s).length = A.length + (ba s).length from List.length_append] at h;conv=>whnf
 refine C6 A Q s hs (by simp at hl; omega) ?_;conv=>whnf
 exact h
theorem Ol {P A Q : B} {d : Dp} (hs : d.name.length ≤ 64) (ho : d.order = false) (hP : P = A ++ ba d.name ++ Q) (hl : P.length < 1000000) {R} (h : R (.agg [vs d.name, un 0, .val (.bool d.order)]) [cO P (A ++ ba d.name).length, dq]) :
  ag Tryz.prog 252 [rdr, vi 1, .fn (.func 248) [rdr] []] [cO P A.length, dq] R := by
 refine ab (an := KZ) tab_ok Tryz.func252 ?_;rw [ho] at h;conv=>whnf
 refine Gk hs hP hl ?_;conv=>whnf
 exact h
theorem Ok {P A Q : B} {l : List B} {d : Dp} (hs : d.name ∈ l) (ho : d.order = false) (hP : P = A ++ vrn (l.idxOf d.name) ++ Q) (hl : P.length < 1000000) (hll : l.length < 1000000) {R} (h : R (.agg [vs d.name, un 0, .val (.bool d.order)]) [cO P (A ++ vrn (l.idxOf d.name)).length, bN 2 3 l, bM l, bL l]) :
  ag Tryz.prog 252 [rdr, vi 2, .fn (.func 247) [rdr] []] [cO P A.length, bN 2 3 l, bM l, bL l] R := by
 refine ab (an := KZ) tab_ok Tryz.func252 ?_;rw [ho] at h;conv=>whnf
 refine BN hs hP hl hll ?_;conv=>whnf
 exact h
theorem Oj {P A Q : B} {l : List B} {d : Dp} (hs : d.name ∈ l) (hP : P = A ++ vrn (eY l d) ++ Q) (hl : P.length < 1000000) (hll : l.length < 1000000) {R} (h : R (.agg [vs d.name, un 0, .val (.bool d.order)]) [cO P (A ++ vrn (eY l d)).length, bN 2 3 l, bM l, bL l]) :
  ag Tryz.prog 252 [rdr, vi 3, .fn (.func 247) [rdr] []] [cO P A.length, bN 2 3 l, bM l, bL l] R := by
 refine ab (an := KZ) tab_ok Tryz.func252 ?_;obtain ⟨hi, he⟩ := AY hs;have hN : eY l d < 18446744073709551616 := by unfold eY; split <;> omega
 have e1 : IntKind.u64.wrap (((eY l d : Nat) : Int).tdiv 2) = ((l.idxOf d.name : Nat) : Int) := by
  rw [Int.tdiv_eq_ediv_of_nonneg (Int.natCast_nonneg _)];show (((eY l d : Nat) : Int) / 2) % 18446744073709551616 = _;unfold eY;split <;> omega
 have e2 : (((eY l d : Nat) : Int).tmod 2 == 1) = d.order := by
  rw [Int.tmod_eq_emod_of_nonneg (Int.natCast_nonneg _)];unfold eY
  cases d.order <;> simp <;> omega
 conv=>whnf
 refine vT hP hN hl ?_;conv=>whnf
 rw [e1];refine pL P l _ (l.idxOf d.name) hi hll ?_;rw [he];conv=>whnf
 rw [e2];exact h
theorem db {P A : B} {n : Nat} (hP : A ++ vrn n <+: P) (hn : n < 18446744073709551616) (hl : P.length < 1000000) {R} (h : R (un n) [cO P (A ++ vrn n).length]) :
  ag Tryz.prog 250 [.ptr 0 0] [cO P A.length] R := by
 obtain ⟨Q, hQ⟩ := hP;exact vT hQ.symm hn hl h
theorem wT {P q : B} (hP : P = 1 :: q) (hl : P.length < 1000000) {R} (h : R (.val (.int .u8 1)) [cO P ([1] : B).length]) : ag Tryz.prog 249 [.ptr 0 0] [cO P 0] R := by
 subst hP;exact xf 1 q (by simp at hl; omega) h
theorem wS {P q : B} (hP : P = 2 :: q) (hl : P.length < 1000000) {R} (h : R (.val (.int .u8 2)) [cO P ([2] : B).length]) : ag Tryz.prog 249 [.ptr 0 0] [cO P 0] R := by
 subst hP;exact xf 2 q (by simp at hl; omega) h
theorem nM {P A : B} {l : List B} {s : B} (hs : s ∈ l) (hP : A ++ vrn (l.idxOf s) <+: P) (hl : P.length < 1000000) (hll : l.length < 1000000) {R} (h : R (vs s) [cO P (A ++ vrn (l.idxOf s)).length, bN 2 3 l, bM l, bL l]) :
  ag Tryz.prog 247 [rdr] [cO P A.length, bN 2 3 l, bM l, bL l] R := by
 obtain ⟨Q, hQ⟩ := hP;exact BN hs hQ.symm hl hll h
theorem yB {P A s : B} (hs : s.length ≤ 64) (hP : A ++ ba s <+: P) (hl : P.length < 1000000) {R} (h : R (vs s) [cO P (A ++ ba s).length, dq]) :
  ag Tryz.prog 248 [rdr] [cO P A.length, dq] R := by
 obtain ⟨Q, hQ⟩ := hP;exact Gk hs hQ.symm hl h
def rO (k : Int) (tg : B) (ru : Nat) (deps : AV) (ou we : Nat) (ta : B) : aF := .cells 67 [vi k, vs tg, un ru, deps, un ou, un we, vs ta]
def rdO : aF := .cells 304 [.ptr 0 0, .ptr 1 0]
theorem mG {v : Int} {t : List B} {l : List Dp} {i : Nat} (hi : i < l.length) : bZ v t l = bZ v t (l.take i) ++ (mg v t l[i] ++ bZ v t (l.drop (i + 1))) := by
 have e : l.take i ++ (l[i] :: l.drop (i + 1)) = l := by rw [← List.drop_eq_getElem_cons hi, List.take_append_drop]
 have e2 : bZ v t (l.take i ++ (l[i] :: l.drop (i + 1))) = bZ v t (l.take i) ++ (mg v t l[i] ++ bZ v t (l.drop (i + 1))) := by
  unfold bZ;rw [List.map_append, List.map_cons, List.flatten_append, List.flatten_cons]
 rw [e] at e2;exact e2
theorem my (k : Int) (t : B) (u o w : Nat) (g : B) : AV.le (.agg [vi k, vs t, un u, .val (.slice none 0 0), un o, un w, vs g]) (.agg [vi k, vs t, un u, .sl none 3 [], un o, un w, vs g]) :=
 iL (.cons (.refl _) (.cons (.refl _) (.cons (.refl _) (.cons (cy 3) (leL.refl _)))))
theorem jA : (tab.ti 167).bytes = 32 := rfl
theorem kw {l : List Dp} {i : Nat} (hi : i < l.length) : dV (l.take (i + 1)) = dV (l.take i) ++ [l[i].enc] := by
 rw [List.take_succ_eq_append_getElem hi];unfold dV;rw [List.map_append];rfl
theorem yA {P A : B} {d : Dp} (hs : d.name.length ≤ 64) (ho : d.order = false) (hP : A ++ ba d.name <+: P) (hl : P.length < 1000000) {R} (h : R (.agg [vs d.name, un 0, .val (.bool d.order)]) [cO P (A ++ ba d.name).length, dq]) :
  ag Tryz.prog 252 [rdr, vi 1, .fn (.func 248) [rdr] []] [cO P A.length, dq] R := by
 obtain ⟨Q, hQ⟩ := hP;exact Ol hs ho hQ.symm hl h
theorem yz {P A : B} {l : List B} {d : Dp} (hs : d.name ∈ l) (ho : d.order = false) (hP : A ++ vrn (l.idxOf d.name) <+: P) (hl : P.length < 1000000) (hll : l.length < 1000000) {R} (h : R (.agg [vs d.name, un 0, .val (.bool d.order)]) [cO P (A ++ vrn (l.idxOf d.name)).length, bN 2 3 l, bM l, bL l]) :
  ag Tryz.prog 252 [rdr, vi 2, .fn (.func 247) [rdr] []] [cO P A.length, bN 2 3 l, bM l, bL l] R := by
 obtain ⟨Q, hQ⟩ := hP;exact Ok hs ho hQ.symm hl hll h
theorem yx {P A : B} {l : List B} {d : Dp} (hs : d.name ∈ l) (hP : A ++ vrn (eY l d) <+: P) (hl : P.length < 1000000) (hll : l.length < 1000000) {R} (h : R (.agg [vs d.name, un 0, .val (.bool d.order)]) [cO P (A ++ vrn (eY l d)).length, bN 2 3 l, bM l, bL l]) :
  ag Tryz.prog 252 [rdr, vi 3, .fn (.func 247) [rdr] []] [cO P A.length, bN 2 3 l, bM l, bL l] R := by
 obtain ⟨Q, hQ⟩ := hP;exact Oj hs hQ.symm hl hll h
theorem LW (r : Rc) (hm : kW 1 r) {R} (h : R (.agg r.enc) [cO (bS 1 [] r) (bS 1 [] r).length, dq]) :
  ag Tryz.prog 216 [rdr, vi 1] [cO (bS 1 [] r) 0, dq] R := by
 have hk := hm.kind.imp id gB;have hF := gC (v := 1) (t := []) hm (by simp);have hD := gH (v := 1) (t := []) hm (by simp);have hPl := (gh (v := 1) (t := []) hm (by simp)).2;have hd16 := hm.deps;have hnm := hm.names;have ht2 := hm.t2;have hw0 := hm.wen;have htg3 := hm.tag3;have hord := hm.order;refine ag.res ?_;refine ab (an := K0) tab_ok Tryz.func216 ?_;rcases hk with hk | hk
 ·have e1 := fe (v := 1) (t := []) hk;have eF : dx 1 [] r = [1] ++ ba r.target ++ vrn r.rule.toNat ++ vrn r.deps.length := by unfold dx da; simp
  have eE : mf 1 [] r = vrn r.out.toNat := by simp [mf]
  rw [eE] at e1;generalize bS 1 [] r = P at h hPl e1 ⊢;obtain ⟨k, tg, ru, ds, ou, we, ta⟩ := r;dsimp only at hk hF hD hd16 hnm ht2 h eF e1 hw0 htg3 hord;subst hk;have q0 : ∃ q, P = 1 :: q := ⟨_, by rw [e1, eF]; simp only [List.append_assoc, List.cons_append, List.nil_append]; rfl⟩;have q1 : [1] ++ ba tg <+: P := ⟨_, by rw [e1, eF]; simp only [List.append_assoc, List.cons_append, List.nil_append]; rfl⟩;have q2 : [1] ++ ba tg ++ vrn ru.toNat <+: P := ⟨_, by rw [e1, eF]; simp only [List.append_assoc, List.cons_append, List.nil_append]; rfl⟩;have q3 : [1] ++ ba tg ++ vrn ru.toNat ++ vrn ds.length <+: P := ⟨_, by rw [e1, eF]; simp only [List.append_assoc, List.cons_append, List.nil_append]; rfl⟩;obtain ⟨q, q0⟩ := q0;conv=>whnf
  refine wT q0 (by omega) ?_;conv=>whnf
  refine yB ht2 q1 (by omega) ?_;conv=>whnf
  refine db q2 ru.isLt (by omega) ?_;conv=>whnf
  refine db q3 (by omega) (by omega) ?_;rw [← eF];generalize dx 1 [] (Rc.mk 1 tg ru ds ou we ta) = F at h hF e1 ⊢;clear q1 q2 q3 q0 eF;have p1 : F ++ bZ 1 [] ds ++ vrn ou.toNat <+: P := ⟨[], by rw [List.append_nil, e1]⟩;have e1' := e1;by_cases hds : ds = []
  ·subst hds;have hz : bZ 1 [] [] = [] := rfl;rw [hz, List.append_nil] at p1 e1;conv=>whnf
   refine au.step ?_;conv=>whnf
   have hw : we = 0 := hw0 rfl;have hta : ta = [] := htg3 (by decide);subst hw hta;have pe : F ++ vrn ou.toNat = P := e1.symm;refine db p1 ou.isLt (by omega) ?_;rw [pe];conv=>whnf
   exact cf (my 1 tg ru.toNat ou.toNat 0 []) rfl h
  ·have hpos : 0 < ds.length := List.length_pos_iff.2 hds;have hstep : ∀ (i : Nat) (hi : i < ds.length) (A : B), A = F ++ bZ 1 [] (ds.take i) → (A ++ ba ds[i].name <+: P) ∧ (A ++ ba ds[i].name ++ vrn ds[i].hash.toNat <+: P) ∧ A ++ ba ds[i].name ++ vrn ds[i].hash.toNat = F ++ bZ 1 [] (ds.take (i + 1)) := by
    intro i hi A hA;have e2 := mG (v := 1) (t := []) hi;have e3 : mg 1 [] ds[i] = ba ds[i].name ++ vrn ds[i].hash.toNat := by simp [mg, da]
    refine ⟨⟨_, by rw [e1, hA, e2, e3]; simp only [List.append_assoc]; rfl⟩, ⟨_, by rw [e1, hA, e2, e3]; simp only [List.append_assoc]; rfl⟩, ?_⟩;rw [hA, fy hi, e3];simp
   have h00 := hstep 0 hpos F (by simp [bZ]);obtain ⟨w1, w2, w3⟩ := h00;have hn0 := hnm ds[0] (List.getElem_mem hpos);have ho := hord (by decide) ds[0] (List.getElem_mem hpos);have hn := hn0;have eN : IntKind.u64.wrap (((ds.length : Nat) : Int) - 1) = ((ds.length - 1 : Nat) : Int) := by
    show (((ds.length : Nat) : Int) - 1) % 18446744073709551616 = _;omega
   have ed : dV (ds.take 1) = [ds[0].enc] := by rw [kw hpos]; rfl
   have hB2 : F ++ ba ds[0].name ++ vrn ds[0].hash.toNat = F ++ bZ 1 [] (ds.take 1) := w3;generalize hd0 : ds[0] = d at w1 w2 w3 hn0 ed hB2 ho hn;conv=>whnf
   refine au.step ?_;conv=>whnf
   refine aI (decide_eq_true (by omega)) ?_;conv=>whnf
   refine lF P _ ?_;conv=>whnf
   refine yA hn.2 ho w1 (by omega) ?_;conv=>whnf
   refine db w2 d.hash.isLt (by omega) ?_;conv=>whnf
   refine ⟨(by rw [jA]; decide : 1 * ((tab.ti 167).bytes + 1) ≤ 140737488355328), ?_⟩;conv=>whnf
   rw [eN, show [[AV.val (Value.string (ofB d.name)), AV.val (Value.int IntKind.u64 ((d.hash.toNat : Nat) : Int)), AV.val (Value.bool d.order)]] = dV (ds.take 1) from ed.symm, show (dV (ds.take 1)).length = 1 by rw [ed]; rfl];refine au.ind2 (fun (i : Nat) (A : B) => [(6, un (ds.length - i))]) (fun i A => [(0, cO P A.length), (1, dq), (ak 2, rdO), (ak 4, rO 1 tg ru.toNat (.sl (some (ak 56)) 3 (dV (ds.take i))) 0 0 []), (ak 56, .row 167 3 i)]) (fun i _ => ds.length - i) (fun i A => 1 ≤ i ∧ i ≤ ds.length ∧ A = F ++ bZ 1 [] (ds.take i)) 1 (F ++ ba d.name ++ vrn d.hash.toNat) rfl ⟨by omega, by omega, hB2⟩ ?_;rintro i A ⟨h1, h2, hA⟩ IH;have hlA : (dV (ds.take i)).length = i := by rw [bF, List.length_take]; omega
   conv=>whnf
   refine ae (fun hc => ?_) (fun hc => ?_)
   ·have hc : i < ds.length := by have hc := of_decide_eq_true hc; omega
    obtain ⟨v1, v2, v3⟩ := hstep i hc A hA;have hni := hnm ds[i] (List.getElem_mem hc);have ho := hord (by decide) ds[i] (List.getElem_mem hc);have hn := hni;have IH := IH (i + 1) _ ⟨by omega, by omega, v3⟩ (by omega);rw [kw hc] at IH;have eN2 : IntKind.u64.wrap (((ds.length - i : Nat) : Int) - 1) = ((ds.length - (i + 1) : Nat) : Int) := by
     show (((ds.length - i : Nat) : Int) - 1) % 18446744073709551616 = _;omega
    generalize ds[i] = e at v1 v2 v3 hni IH ho hn;conv=>whnf
    refine lF P _ ?_;conv=>whnf
    refine yA hn.2 ho v1 (by omega) ?_;conv=>whnf
    refine db v2 e.hash.isLt (by omega) ?_;conv=>whnf
    refine ⟨hlA.symm, by rw [hlA, jA]; simp; omega, ?_⟩;conv=>whnf
    rw [eN2, hlA];exact IH
   ·have hc : i = ds.length := by have hc := of_decide_eq_false hc; omega
    subst hc;rw [List.take_length] at hA;rw [← hA] at p1 e1;rw [List.take_length];conv=>whnf
    have hw : we = 0 := hw0 rfl;have hta : ta = [] := htg3 (by decide);subst hw hta;have pe : A ++ vrn ou.toNat = P := e1.symm;refine db p1 ou.isLt (by omega) ?_;rw [pe];conv=>whnf
    exact bB h
 ·have e1 := gA (v := 1) (t := []) hk;have eg : r.enc = [vi 2, vs r.target, un 0, .sl none 3 [], un 0, un 0, vs []] := by
   rcases hm.kind with e | e
   ·rw [e] at hk; cases hk
   ·rw [e]; rfl
  have e2 : da 1 [] r.target = ba r.target := by simp [da]
  rw [e2] at e1;rw [eg] at h;generalize bS 1 [] r = P at h hPl e1 ⊢;obtain ⟨k, tg, ru, ds, ou, we, ta⟩ := r;dsimp only at hk ht2 h e1;have q1 : [2] ++ ba tg = P := by rw [e1]; rfl
  have q1' : [2] ++ ba tg <+: P := ⟨[], by rw [List.append_nil]; exact q1⟩;conv=>whnf
  refine wS e1 (by omega) ?_;conv=>whnf
  refine yB ht2 q1' (by omega) ?_;rw [q1];conv=>whnf
  exact cf (my 2 tg 0 0 0 []) rfl h
theorem Gd (r : Rc) (l : List B) (hm : kW 2 r) (hl : l.length < 100000) (ht : r.target ∈ l) (hds : ∀ d ∈ r.deps, d.name ∈ l) (htg : r.tag ≠ [] → r.tag ∈ l) {R} (h : R (.agg r.enc) [cO (bS 2 l r) (bS 2 l r).length, bN 2 3 l, bM l, bL l]) :
  ag Tryz.prog 216 [rdr, vi 2] [cO (bS 2 l r) 0, bN 2 3 l, bM l, bL l] R := by
 have hk := hm.kind.imp id gB;have hF := gC (v := 2) (t := l) hm (by omega);have hD := gH (v := 2) (t := l) hm (by omega);have hPl := (gh (v := 2) (t := l) hm (by omega)).2;have hd16 := hm.deps;have hnm := hm.names;have ht2 := hm.t2;have hw0 := hm.wen;have htg3 := hm.tag3;have hord := hm.order;refine ag.res ?_;refine ab (an := K0) tab_ok Tryz.func216 ?_;rcases hk with hk | hk
 ·have e1 := fe (v := 2) (t := l) hk;have eF : dx 2 l r = [1] ++ vrn (l.idxOf r.target) ++ vrn r.rule.toNat ++ vrn r.deps.length := by unfold dx da; simp
  have eE : mf 2 l r = vrn r.out.toNat ++ vrn r.wen.toNat := by simp [mf]
  rw [eE] at e1;generalize bS 2 l r = P at h hPl e1 ⊢;obtain ⟨k, tg, ru, ds, ou, we, ta⟩ := r;dsimp only at hk hF hD hd16 hnm ht2 h eF e1 hw0 htg3 hord ht hds htg;subst hk;have q0 : ∃ q, P = 1 :: q := ⟨_, by rw [e1, eF]; simp only [List.append_assoc, List.cons_append, List.nil_append]; rfl⟩;have q1 : [1] ++ vrn (l.idxOf tg) <+: P := ⟨_, by rw [e1, eF]; simp only [List.append_assoc, List.cons_append, List.nil_append]; rfl⟩;have q2 : [1] ++ vrn (l.idxOf tg) ++ vrn ru.toNat <+: P := ⟨_, by rw [e1, eF]; simp only [List.append_assoc, List.cons_append, List.nil_append]; rfl⟩;have q3 : [1] ++ vrn (l.idxOf tg) ++ vrn ru.toNat ++ vrn ds.length <+: P := ⟨_, by rw [e1, eF]; simp only [List.append_assoc, List.cons_append, List.nil_append]; rfl⟩;obtain ⟨q, q0⟩ := q0;conv=>whnf
  refine wT q0 (by omega) ?_;conv=>whnf
  refine nM ht q1 (by omega) (by omega) ?_;conv=>whnf
  refine db q2 ru.isLt (by omega) ?_;conv=>whnf
  refine db q3 (by omega) (by omega) ?_;rw [← eF];generalize dx 2 l (Rc.mk 1 tg ru ds ou we ta) = F at h hF e1 ⊢;clear q1 q2 q3 q0 eF;have p1 : F ++ bZ 2 l ds ++ vrn ou.toNat <+: P := ⟨_, by rw [e1]; simp only [List.append_assoc]; rfl⟩;have p2 : F ++ bZ 2 l ds ++ vrn ou.toNat ++ vrn we.toNat = P := by rw [e1]; simp only [List.append_assoc]
  have p2' : F ++ bZ 2 l ds ++ vrn ou.toNat ++ vrn we.toNat <+: P := ⟨[], by rw [List.append_nil]; exact p2⟩;have hds1 : ∀ d ∈ ds, d.name ∈ l := hds;have e1' := e1;by_cases hds : ds = []
  ·subst hds;have hz : bZ 2 l [] = [] := rfl;rw [hz, List.append_nil] at p1 e1;rw [hz, List.append_nil] at p2 p2';conv=>whnf
   refine au.step ?_;conv=>whnf
   have hta : ta = [] := htg3 (by decide);subst hta;refine db p1 ou.isLt (by omega) ?_;conv=>whnf
   refine db p2' we.isLt (by omega) ?_;rw [p2];conv=>whnf
   exact cf (my 1 tg ru.toNat ou.toNat we.toNat []) rfl h
  ·have hpos : 0 < ds.length := List.length_pos_iff.2 hds;have hstep : ∀ (i : Nat) (hi : i < ds.length) (A : B), A = F ++ bZ 2 l (ds.take i) → (A ++ vrn (l.idxOf ds[i].name) <+: P) ∧ (A ++ vrn (l.idxOf ds[i].name) ++ vrn ds[i].hash.toNat <+: P) ∧ A ++ vrn (l.idxOf ds[i].name) ++ vrn ds[i].hash.toNat = F ++ bZ 2 l (ds.take (i + 1)) := by
    intro i hi A hA;have e2 := mG (v := 2) (t := l) hi;have e3 : mg 2 l ds[i] = vrn (l.idxOf ds[i].name) ++ vrn ds[i].hash.toNat := by simp [mg, da]
    refine ⟨⟨_, by rw [e1, hA, e2, e3]; simp only [List.append_assoc]; rfl⟩, ⟨_, by rw [e1, hA, e2, e3]; simp only [List.append_assoc]; rfl⟩, ?_⟩;rw [hA, fy hi, e3];simp
   have h00 := hstep 0 hpos F (by simp [bZ]);obtain ⟨w1, w2, w3⟩ := h00;have hn0 := hnm ds[0] (List.getElem_mem hpos);have ho := hord (by decide) ds[0] (List.getElem_mem hpos);have hin := hds1 ds[0] (List.getElem_mem hpos);have eN : IntKind.u64.wrap (((ds.length : Nat) : Int) - 1) = ((ds.length - 1 : Nat) : Int) := by
    show (((ds.length : Nat) : Int) - 1) % 18446744073709551616 = _;omega
   have ed : dV (ds.take 1) = [ds[0].enc] := by rw [kw hpos]; rfl
   have hB2 : F ++ vrn (l.idxOf ds[0].name) ++ vrn ds[0].hash.toNat = F ++ bZ 2 l (ds.take 1) := w3;generalize hd0 : ds[0] = d at w1 w2 w3 hn0 ed hB2 ho hin;conv=>whnf
   refine au.step ?_;conv=>whnf
   refine aI (decide_eq_true (by omega)) ?_;conv=>whnf
   refine lF P _ ?_;conv=>whnf
   refine yz hin ho w1 (by omega) (by omega) ?_;conv=>whnf
   refine db w2 d.hash.isLt (by omega) ?_;conv=>whnf
   refine ⟨(by rw [jA]; decide : 1 * ((tab.ti 167).bytes + 1) ≤ 140737488355328), ?_⟩;conv=>whnf
   rw [eN, show [[AV.val (Value.string (ofB d.name)), AV.val (Value.int IntKind.u64 ((d.hash.toNat : Nat) : Int)), AV.val (Value.bool d.order)]] = dV (ds.take 1) from ed.symm, show (dV (ds.take 1)).length = 1 by rw [ed]; rfl];refine au.ind2 (fun (i : Nat) (A : B) => [(6, un (ds.length - i))]) (fun i A => [(0, cO P A.length), (1, bN 2 3 l), (2, bM l), (3, bL l), (ak 2, rdO), (ak 4, rO 1 tg ru.toNat (.sl (some (ak 56)) 3 (dV (ds.take i))) 0 0 []), (ak 56, .row 167 3 i)]) (fun i _ => ds.length - i) (fun i A => 1 ≤ i ∧ i ≤ ds.length ∧ A = F ++ bZ 2 l (ds.take i)) 1 (F ++ vrn (l.idxOf d.name) ++ vrn d.hash.toNat) rfl ⟨by omega, by omega, hB2⟩ ?_;rintro i A ⟨h1, h2, hA⟩ IH;have hlA : (dV (ds.take i)).length = i := by rw [bF, List.length_take]; omega
   conv=>whnf
   refine ae (fun hc => ?_) (fun hc => ?_)
   ·have hc : i < ds.length := by have hc := of_decide_eq_true hc; omega
    obtain ⟨v1, v2, v3⟩ := hstep i hc A hA;have hni := hnm ds[i] (List.getElem_mem hc);have ho := hord (by decide) ds[i] (List.getElem_mem hc);have hin := hds1 ds[i] (List.getElem_mem hc);have IH := IH (i + 1) _ ⟨by omega, by omega, v3⟩ (by omega);rw [kw hc] at IH;have eN2 : IntKind.u64.wrap (((ds.length - i : Nat) : Int) - 1) = ((ds.length - (i + 1) : Nat) : Int) := by
     show (((ds.length - i : Nat) : Int) - 1) % 18446744073709551616 = _;omega
    generalize ds[i] = e at v1 v2 v3 hni IH ho hin;conv=>whnf
    refine lF P _ ?_;conv=>whnf
    refine yz hin ho v1 (by omega) (by omega) ?_;conv=>whnf
    refine db v2 e.hash.isLt (by omega) ?_;conv=>whnf
    refine ⟨hlA.symm, by rw [hlA, jA]; simp; omega, ?_⟩;conv=>whnf
    rw [eN2, hlA];exact IH
   ·have hc : i = ds.length := by have hc := of_decide_eq_false hc; omega
    subst hc;rw [List.take_length] at hA;rw [← hA] at p1 e1;rw [← hA] at p2 p2';rw [List.take_length];conv=>whnf
    have hta : ta = [] := htg3 (by decide);subst hta;refine db p1 ou.isLt (by omega) ?_;conv=>whnf
    refine db p2' we.isLt (by omega) ?_;rw [p2];conv=>whnf
    exact bB h
 ·have e1 := gA (v := 2) (t := l) hk;have eg : r.enc = [vi 2, vs r.target, un 0, .sl none 3 [], un 0, un 0, vs []] := by
   rcases hm.kind with e | e
   ·rw [e] at hk; cases hk
   ·rw [e]; rfl
  have e2 : da 2 l r.target = vrn (l.idxOf r.target) := by simp [da]
  rw [e2] at e1;rw [eg] at h;generalize bS 2 l r = P at h hPl e1 ⊢;obtain ⟨k, tg, ru, ds, ou, we, ta⟩ := r;dsimp only at hk ht2 h e1 ht hds htg;have q1 : [2] ++ vrn (l.idxOf tg) = P := by rw [e1]; rfl
  have q1' : [2] ++ vrn (l.idxOf tg) <+: P := ⟨[], by rw [List.append_nil]; exact q1⟩;conv=>whnf
  refine wS e1 (by omega) ?_;conv=>whnf
  refine nM ht q1' (by omega) (by omega) ?_;rw [q1];conv=>whnf
  exact cf (my 2 tg 0 0 0 []) rfl h
theorem Gc (r : Rc) (l : List B) (hm : kW 3 r) (hl : l.length < 100000) (ht : r.target ∈ l) (hds : ∀ d ∈ r.deps, d.name ∈ l) (htg : r.tag ≠ [] → r.tag ∈ l) {R} (h : R (.agg r.enc) [cO (bS 3 l r) (bS 3 l r).length, bN 2 3 l, bM l, bL l]) :
  ag Tryz.prog 216 [rdr, vi 3] [cO (bS 3 l r) 0, bN 2 3 l, bM l, bL l] R := by
 have hk := hm.kind.imp id gB;have hF := gC (v := 3) (t := l) hm (by omega);have hD := gH (v := 3) (t := l) hm (by omega);have hPl := (gh (v := 3) (t := l) hm (by omega)).2;have hd16 := hm.deps;have hnm := hm.names;have ht2 := hm.t2;have hw0 := hm.wen;have htg3 := hm.tag3;have hord := hm.order;refine ag.res ?_;refine ab (an := K0) tab_ok Tryz.func216 ?_;rcases hk with hk | hk
 ·have e1 := fe (v := 3) (t := l) hk;have eF : dx 3 l r = [1] ++ vrn (l.idxOf r.target) ++ vrn r.rule.toNat ++ vrn r.deps.length := by unfold dx da; simp
  have eE : mf 3 l r = vrn r.out.toNat ++ vrn r.wen.toNat ++ kY l r.tag := by simp [mf]
  rw [eE] at e1;generalize bS 3 l r = P at h hPl e1 ⊢;obtain ⟨k, tg, ru, ds, ou, we, ta⟩ := r;dsimp only at hk hF hD hd16 hnm ht2 h eF e1 hw0 htg3 hord ht hds htg;subst hk;have q0 : ∃ q, P = 1 :: q := ⟨_, by rw [e1, eF]; simp only [List.append_assoc, List.cons_append, List.nil_append]; rfl⟩;have q1 : [1] ++ vrn (l.idxOf tg) <+: P := ⟨_, by rw [e1, eF]; simp only [List.append_assoc, List.cons_append, List.nil_append]; rfl⟩;have q2 : [1] ++ vrn (l.idxOf tg) ++ vrn ru.toNat <+: P := ⟨_, by rw [e1, eF]; simp only [List.append_assoc, List.cons_append, List.nil_append]; rfl⟩;have q3 : [1] ++ vrn (l.idxOf tg) ++ vrn ru.toNat ++ vrn ds.length <+: P := ⟨_, by rw [e1, eF]; simp only [List.append_assoc, List.cons_append, List.nil_append]; rfl⟩;obtain ⟨q, q0⟩ := q0;conv=>whnf
  refine wT q0 (by omega) ?_;conv=>whnf
  refine nM ht q1 (by omega) (by omega) ?_;conv=>whnf
  refine db q2 ru.isLt (by omega) ?_;conv=>whnf
  refine db q3 (by omega) (by omega) ?_;rw [← eF];generalize dx 3 l (Rc.mk 1 tg ru ds ou we ta) = F at h hF e1 ⊢;clear q1 q2 q3 q0 eF;have p1 : F ++ bZ 3 l ds ++ vrn ou.toNat <+: P := ⟨_, by rw [e1]; simp only [List.append_assoc]; rfl⟩;have p2 : F ++ bZ 3 l ds ++ vrn ou.toNat ++ vrn we.toNat <+: P := ⟨_, by rw [e1]; simp only [List.append_assoc]; rfl⟩;have hds1 : ∀ d ∈ ds, d.name ∈ l := hds;have e1' := e1;by_cases hds : ds = []
  ·subst hds;have hz : bZ 3 l [] = [] := rfl;rw [hz, List.append_nil] at p1 e1;rw [hz, List.append_nil] at p2;conv=>whnf
   refine au.step ?_;conv=>whnf
   have hix := List.idxOf_le_length (a := ta) (l := l);have pe : F ++ vrn ou.toNat ++ vrn we.toNat ++ kY l ta = P := by rw [e1]; simp only [List.append_assoc]
   have pe' : F ++ vrn ou.toNat ++ vrn we.toNat ++ kY l ta <+: P := ⟨[], by rw [List.append_nil]; exact pe⟩;refine db p1 ou.isLt (by omega) ?_;conv=>whnf
   refine db p2 we.isLt (by omega) ?_;conv=>whnf
   by_cases hta : ta = []
   ·subst hta;rw [show kY l [] = vrn 0 from rfl] at pe pe';refine db pe' (by omega) (by omega) ?_;rw [pe];conv=>whnf
    exact cf (my 1 tg ru.toNat ou.toNat we.toNat []) rfl h
   ·have hti := htg hta;rw [show kY l ta = vrn (l.idxOf ta + 1) by simp [kY, hta]] at pe pe';obtain ⟨hi2, he2⟩ := AY hti;have eT : IntKind.u64.wrap (((l.idxOf ta + 1 : Nat) : Int) - 1) = ((l.idxOf ta : Nat) : Int) := by
     show (((l.idxOf ta + 1 : Nat) : Int) - 1) % 18446744073709551616 = _;omega
    refine db pe' (by omega) (by omega) ?_;rw [pe];conv=>whnf
    refine aI (decide_eq_true (by omega)) ?_;conv=>whnf
    rw [eT];refine pL P l _ (l.idxOf ta) hi2 (by omega) ?_;rw [he2];conv=>whnf
    exact cf (my 1 tg ru.toNat ou.toNat we.toNat ta) rfl h
  ·have hpos : 0 < ds.length := List.length_pos_iff.2 hds;have hstep : ∀ (i : Nat) (hi : i < ds.length) (A : B), A = F ++ bZ 3 l (ds.take i) → (A ++ vrn (eY l ds[i]) <+: P) ∧ (A ++ vrn (eY l ds[i]) ++ vrn ds[i].hash.toNat <+: P) ∧ A ++ vrn (eY l ds[i]) ++ vrn ds[i].hash.toNat = F ++ bZ 3 l (ds.take (i + 1)) := by
    intro i hi A hA;have e2 := mG (v := 3) (t := l) hi;have e3 : mg 3 l ds[i] = vrn (eY l ds[i]) ++ vrn ds[i].hash.toNat := by simp [mg, da]
    refine ⟨⟨_, by rw [e1, hA, e2, e3]; simp only [List.append_assoc]; rfl⟩, ⟨_, by rw [e1, hA, e2, e3]; simp only [List.append_assoc]; rfl⟩, ?_⟩;rw [hA, fy hi, e3];simp
   have h00 := hstep 0 hpos F (by simp [bZ]);obtain ⟨w1, w2, w3⟩ := h00;have hn0 := hnm ds[0] (List.getElem_mem hpos);have hin := hds1 ds[0] (List.getElem_mem hpos);have eN : IntKind.u64.wrap (((ds.length : Nat) : Int) - 1) = ((ds.length - 1 : Nat) : Int) := by
    show (((ds.length : Nat) : Int) - 1) % 18446744073709551616 = _;omega
   have ed : dV (ds.take 1) = [ds[0].enc] := by rw [kw hpos]; rfl
   have hB2 : F ++ vrn (eY l ds[0]) ++ vrn ds[0].hash.toNat = F ++ bZ 3 l (ds.take 1) := w3;generalize hd0 : ds[0] = d at w1 w2 w3 hn0 ed hB2 hin;conv=>whnf
   refine au.step ?_;conv=>whnf
   refine aI (decide_eq_true (by omega)) ?_;conv=>whnf
   refine lF P _ ?_;conv=>whnf
   refine yx hin w1 (by omega) (by omega) ?_;conv=>whnf
   refine db w2 d.hash.isLt (by omega) ?_;conv=>whnf
   refine ⟨(by rw [jA]; decide : 1 * ((tab.ti 167).bytes + 1) ≤ 140737488355328), ?_⟩;conv=>whnf
   rw [eN, show [[AV.val (Value.string (ofB d.name)), AV.val (Value.int IntKind.u64 ((d.hash.toNat : Nat) : Int)), AV.val (Value.bool d.order)]] = dV (ds.take 1) from ed.symm, show (dV (ds.take 1)).length = 1 by rw [ed]; rfl];refine au.ind2 (fun (i : Nat) (A : B) => [(6, un (ds.length - i))]) (fun i A => [(0, cO P A.length), (1, bN 2 3 l), (2, bM l), (3, bL l), (ak 2, rdO), (ak 4, rO 1 tg ru.toNat (.sl (some (ak 56)) 3 (dV (ds.take i))) 0 0 []), (ak 56, .row 167 3 i)]) (fun i _ => ds.length - i) (fun i A => 1 ≤ i ∧ i ≤ ds.length ∧ A = F ++ bZ 3 l (ds.take i)) 1 (F ++ vrn (eY l d) ++ vrn d.hash.toNat) rfl ⟨by omega, by omega, hB2⟩ ?_;rintro i A ⟨h1, h2, hA⟩ IH;have hlA : (dV (ds.take i)).length = i := by rw [bF, List.length_take]; omega
   conv=>whnf
   refine ae (fun hc => ?_) (fun hc => ?_)
   ·have hc : i < ds.length := by have hc := of_decide_eq_true hc; omega
    obtain ⟨v1, v2, v3⟩ := hstep i hc A hA;have hni := hnm ds[i] (List.getElem_mem hc);have hin := hds1 ds[i] (List.getElem_mem hc);have IH := IH (i + 1) _ ⟨by omega, by omega, v3⟩ (by omega);rw [kw hc] at IH;have eN2 : IntKind.u64.wrap (((ds.length - i : Nat) : Int) - 1) = ((ds.length - (i + 1) : Nat) : Int) := by
     show (((ds.length - i : Nat) : Int) - 1) % 18446744073709551616 = _;omega
    generalize ds[i] = e at v1 v2 v3 hni IH hin;conv=>whnf
    refine lF P _ ?_;conv=>whnf
    refine yx hin v1 (by omega) (by omega) ?_;conv=>whnf
    refine db v2 e.hash.isLt (by omega) ?_;conv=>whnf
    refine ⟨hlA.symm, by rw [hlA, jA]; simp; omega, ?_⟩;conv=>whnf
    rw [eN2, hlA];exact IH
   ·have hc : i = ds.length := by have hc := of_decide_eq_false hc; omega
    subst hc;rw [List.take_length] at hA;rw [← hA] at p1 e1;rw [← hA] at p2;rw [List.take_length];conv=>whnf
    have hix := List.idxOf_le_length (a := ta) (l := l);have pe : A ++ vrn ou.toNat ++ vrn we.toNat ++ kY l ta = P := by rw [e1]; simp only [List.append_assoc]
    have pe' : A ++ vrn ou.toNat ++ vrn we.toNat ++ kY l ta <+: P := ⟨[], by rw [List.append_nil]; exact pe⟩;refine db p1 ou.isLt (by omega) ?_;conv=>whnf
    refine db p2 we.isLt (by omega) ?_;conv=>whnf
    by_cases hta : ta = []
    ·subst hta;rw [show kY l [] = vrn 0 from rfl] at pe pe';refine db pe' (by omega) (by omega) ?_;rw [pe];conv=>whnf
     exact bB h
    ·have hti := htg hta;rw [show kY l ta = vrn (l.idxOf ta + 1) by simp [kY, hta]] at pe pe';obtain ⟨hi2, he2⟩ := AY hti;have eT : IntKind.u64.wrap (((l.idxOf ta + 1 : Nat) : Int) - 1) = ((l.idxOf ta : Nat) : Int) := by
      show (((l.idxOf ta + 1 : Nat) : Int) - 1) % 18446744073709551616 = _;omega
     refine db pe' (by omega) (by omega) ?_;rw [pe];conv=>whnf
     refine aI (decide_eq_true (by omega)) ?_;conv=>whnf
     rw [eT];refine pL P l _ (l.idxOf ta) hi2 (by omega) ?_;rw [he2];conv=>whnf
     exact bB h
 ·have e1 := gA (v := 3) (t := l) hk;have eg : r.enc = [vi 2, vs r.target, un 0, .sl none 3 [], un 0, un 0, vs []] := by
   rcases hm.kind with e | e
   ·rw [e] at hk; cases hk
   ·rw [e]; rfl
  have e2 : da 3 l r.target = vrn (l.idxOf r.target) := by simp [da]
  rw [e2] at e1;rw [eg] at h;generalize bS 3 l r = P at h hPl e1 ⊢;obtain ⟨k, tg, ru, ds, ou, we, ta⟩ := r;dsimp only at hk ht2 h e1 ht hds htg;have q1 : [2] ++ vrn (l.idxOf tg) = P := by rw [e1]; rfl
  have q1' : [2] ++ vrn (l.idxOf tg) <+: P := ⟨[], by rw [List.append_nil]; exact q1⟩;conv=>whnf
  refine wS e1 (by omega) ?_;conv=>whnf
  refine nM ht q1' (by omega) (by omega) ?_;rw [q1];conv=>whnf
  exact cf (my 2 tg 0 0 0 []) rfl h
theorem IJ (a : B) {R} (h : R (.val (.bool true)) []) : ag Tryz.prog 218 [.sl none 1 (ai a), .sl none 1 (ai a)] [] R := by
 refine ab (an := RN) tab_ok Tryz.func218 ?_;obtain ⟨ns, n1, n2⟩ := gV a;conv=>whnf
 refine ⟨ns, n1, ?_⟩;rw [n2];conv=>whnf
 refine ⟨ns, n1, ?_⟩;rw [n2];conv=>whnf
 rw [decide_eq_true rfl];exact h
theorem kR (l : List B) (hl : l.length < 1000000) {R} (h : R (.val (.bool true)) []) : ag Tryz.prog 217 [.sl none 1 (ce l), .sl none 1 (ce l), .fn (.func 218) [] []] [] R := by
 refine ab (an := RO) tab_ok Tryz.func217 ?_;have hrl := aP l;conv=>whnf
 refine am (by simp) ?_;conv=>whnf
 refine au.ind1 (fun (i : Nat) => [(17, vi i)]) (fun i => []) (fun i => l.length - i) (fun i => i ≤ l.length) 0 rfl (by omega) ?_;rintro i h0 IH;conv=>whnf
 refine ae (fun hc => ?_) (fun hc => ?_)
 ·have hc := ap hrl hc
  (conv=>whnf); (repeat ((with_reducible refine ac ?_ ?_); exact decide_eq_true (by omega); (conv=>whnf)))
  refine idxNat (by simpa using hc) ?_
  (conv=>whnf); (repeat ((with_reducible refine ac ?_ ?_); exact decide_eq_true (by omega); (conv=>whnf)))
  refine idxNat (by simpa using hc) ?_;conv=>whnf
  refine IJ l[i] ?_;conv=>whnf
  rw [al (by omega)];exact IH (i + 1) (by omega) (by omega)
 ·conv=>whnf
  exact h
def Dv : AV := .agg [vi 0, vs [], un 0, .val (.slice none 0 0), un 0, un 0, vs []]
theorem kS (s : B) : List.drop (1 : Int).toNat (List.take (((ai (bu s)).length : Nat) : Int).toNat (ai (bu s))) = ai s := by
 rw [Int.toNat_natCast, List.take_length];rfl
theorem D9 (A : List B) (hA : A.length < 100000) {R} (h : R (.tup [Dv, vi 0, vi 6]) [dq]) :
  ag Tryz.prog 166 [vi 1, .ptr 0 0, .sl none 1 (ce A), vi (A.length : Int)] [dq] R := by
 refine ab (an := qn) tab_ok Tryz.func166 ?_;have hrl := aP A;conv=>whnf
 refine F2 ?_;conv=>whnf
 refine am (decide_eq_false (by omega)) ?_;conv=>whnf
 refine iy ?_;conv=>whnf
 refine au.step ?_;conv=>whnf
 refine am (decide_eq_false (by omega)) ?_;conv=>whnf
 refine aI (beq_iff_eq.2 (by omega)) ?_;conv=>whnf
 exact h
theorem D8 (A ms : List B) (hA : A.length < 100000) (hml : ms.length < 5000) {R} (h : R (.tup [Dv, vi 0, vi 6]) [dq]) :
  ag Tryz.prog 166 [vi 2, .ptr 0 0, .sl none 1 (ce (A ++ ms.map bu)), vi (A.length : Int)] [dq] R := by
 refine ab (an := qn) tab_ok Tryz.func166 ?_;have hPl : (A ++ ms.map bu).length = A.length + ms.length := by simp
 have hel : ∀ (i : Nat) (hi : i < ms.length) (hj : A.length + i < (A ++ ms.map bu).length), (A ++ ms.map bu)[A.length + i] = bu ms[i] := fun i hi hj => by
  rw [List.getElem_append_right (by omega)];simp
 generalize A ++ ms.map bu = P at hPl hel ⊢;have hrl := aP P;conv=>whnf
 refine tR ?_;conv=>whnf
 refine am (decide_eq_false (by omega)) ?_;conv=>whnf
 refine iy ?_;conv=>whnf
 by_cases hmne : ms = []
 ·subst hmne;simp only [List.length_nil, Nat.add_zero] at hPl;refine au.step ?_;conv=>whnf
  refine am (decide_eq_false (by omega)) ?_;conv=>whnf
  refine aI (beq_iff_eq.2 (by omega)) ?_;conv=>whnf
  exact h
 obtain ⟨s, ms, rfl⟩ := List.exists_cons_of_ne_nil hmne;simp only [List.length_cons] at hml;have hpl2 : (s :: ms).length = ms.length + 1 := rfl;refine au.step ?_;have hp := hel 0 (by simp) (by omega);simp only [Nat.add_zero, List.getElem_cons_zero] at hp;obtain ⟨ns, n1, n2⟩ := gV s;have hbl : (ai (bu s)).length = s.length + 1 := by rw [aM]; rfl
 conv=>whnf
 refine aI (decide_eq_true (by omega)) ?_
 (conv=>whnf); (repeat ((with_reducible refine ac ?_ ?_); exact decide_eq_true (by omega); (conv=>whnf)))
 refine aa (show ((A.length : Int) : Int).toNat < P.length by omega) ?_;rw [show P[((A.length : Int) : Int).toNat]'(by omega) = bu s from hp];conv=>whnf
 refine aI (decide_eq_true (by omega)) ?_
 (conv=>whnf); (repeat ((with_reducible refine ac ?_ ?_); exact decide_eq_true (by omega); (conv=>whnf)))
 refine aa (show ((A.length : Int) : Int).toNat < P.length by omega) ?_;rw [show P[((A.length : Int) : Int).toNat]'(by omega) = bu s from hp]
 (conv=>whnf); (repeat ((with_reducible refine ac ?_ ?_); exact decide_eq_true (by omega); (conv=>whnf)))
 refine aa (show ((A.length : Int) : Int).toNat < P.length by omega) ?_;rw [show P[((A.length : Int) : Int).toNat]'(by omega) = bu s from hp]
 (conv=>whnf); (repeat ((with_reducible refine ac ?_ ?_); exact decide_eq_true (by omega); (conv=>whnf)))
 refine ⟨ns, (by rw [kS]; exact n1), ?_⟩;rw [n2];conv=>whnf
 refine ri s ?_;conv=>whnf
 rw [al (by omega)];refine au.ind2 (fun (i : Nat) (T : List B) => [(9, vi ((A.length + i : Nat) : Int))]) (fun i T => [(0, dq), (ak 8, rO 0 [] 0 (.val (.slice none 0 0)) 0 0 []), (ax 34 0, bN (ax 64 0) (ax 64 1) T), (ax 64 0, bM T), (ax 64 1, bL T)]) (fun i _ => (s :: ms).length - i) (fun i T => i ≤ (s :: ms).length ∧ 1 ≤ i ∧ T.length ≤ i) 1 [s] rfl ⟨by simp, by omega, by simp⟩ ?_;rintro i T ⟨h0, h1, hT⟩ IH;conv=>whnf
 by_cases hc : i < (s :: ms).length
 ·have hp := hel i hc (by omega);have IH0 := IH (i + 1);clear IH;generalize (s :: ms)[i] = s2 at hp;obtain ⟨ns, n1, n2⟩ := gV s2;have hbl : (ai (bu s2)).length = s2.length + 1 := by rw [aM]; rfl
  refine aI (decide_eq_true (by omega)) ?_
  (conv=>whnf); (repeat ((with_reducible refine ac ?_ ?_); exact decide_eq_true (by omega); (conv=>whnf)))
  refine aa (show (((A.length + i : Nat) : Int) : Int).toNat < P.length by omega) ?_;rw [show P[(((A.length + i : Nat) : Int) : Int).toNat]'(by omega) = bu s2 from hp];conv=>whnf
  refine aI (decide_eq_true (by omega)) ?_
  (conv=>whnf); (repeat ((with_reducible refine ac ?_ ?_); exact decide_eq_true (by omega); (conv=>whnf)))
  refine aa (show (((A.length + i : Nat) : Int) : Int).toNat < P.length by omega) ?_;rw [show P[(((A.length + i : Nat) : Int) : Int).toNat]'(by omega) = bu s2 from hp]
  (conv=>whnf); (repeat ((with_reducible refine ac ?_ ?_); exact decide_eq_true (by omega); (conv=>whnf)))
  refine aa (show (((A.length + i : Nat) : Int) : Int).toNat < P.length by omega) ?_;rw [show P[(((A.length + i : Nat) : Int) : Int).toNat]'(by omega) = bu s2 from hp]
  (conv=>whnf); (repeat ((with_reducible refine ac ?_ ?_); exact decide_eq_true (by omega); (conv=>whnf)))
  refine ⟨ns, (by rw [kS]; exact n1), ?_⟩;rw [n2];conv=>whnf
  by_cases hs : s2 ∈ T
  ·have IH := IH0 T ⟨by omega, by omega, by omega⟩ (by omega);refine j8 T s2 hs fun j => ?_;conv=>whnf
   rw [al (by omega)];exact IH
  ·have IH := IH0 (T ++ [s2]) ⟨by omega, by omega, by rw [List.length_append]; simp only [List.length_cons, List.length_nil]; omega⟩ (by omega);refine gZ T s2 (by omega) hs fun j => ?_;conv=>whnf
   rw [al (by omega)];exact IH
 ·refine am (decide_eq_false (by omega)) ?_;conv=>whnf
  refine aI (beq_iff_eq.2 (by omega)) ?_;conv=>whnf
  exact h
theorem D7 (t : List B) (ht0 : t ≠ []) (htn : t.Nodup) (htl : t.length < 80000) (A ms : List B) (hA : A.length < 100000) (hml : ms.length < 5000) {R} (h : R (.tup [Dv, vi 0, vi 6]) [bN 1 2 t, bM t, bL t]) :
  ag Tryz.prog 166 [vi 2, .ptr 0 0, .sl none 1 (ce (A ++ ms.map bu)), vi (A.length : Int)] [bN 1 2 t, bM t, bL t] R := by
 refine ab (an := qn) tab_ok Tryz.func166 ?_;have hPl : (A ++ ms.map bu).length = A.length + ms.length := by simp
 have hel : ∀ (i : Nat) (hi : i < ms.length) (hj : A.length + i < (A ++ ms.map bu).length), (A ++ ms.map bu)[A.length + i] = bu ms[i] := fun i hi hj => by
  rw [List.getElem_append_right (by omega)];simp
 generalize A ++ ms.map bu = P at hPl hel ⊢;have hrl := aP P;conv=>whnf
 refine tR ?_;conv=>whnf
 refine am (decide_eq_false (by omega)) ?_;conv=>whnf
 refine jo t ht0 htn (by omega) ?_;conv=>whnf
 refine au.ind2 (fun (i : Nat) (T : List B) => [(9, vi ((A.length + i : Nat) : Int))]) (fun i T => [(0, bN 1 2 t), (1, bM t), (2, bL t), (ak 8, rO 0 [] 0 (.val (.slice none 0 0)) 0 0 []), (ax 34 0, bN (ax 34 1) (ax 34 2) T), (ax 34 1, bM T), (ax 34 2, bL T)]) (fun i _ => ms.length - i) (fun i T => i ≤ ms.length ∧ T.length ≤ t.length + i) 0 t rfl ⟨by omega, by omega⟩ ?_;rintro i T ⟨h0, hT⟩ IH;conv=>whnf
 by_cases hc : i < ms.length
 ·have hp := hel i hc (by omega);have IH0 := IH (i + 1);clear IH;generalize ms[i] = s at hp;obtain ⟨ns, n1, n2⟩ := gV s;have hbl : (ai (bu s)).length = s.length + 1 := by rw [aM]; rfl
  refine aI (decide_eq_true (by omega)) ?_
  (conv=>whnf); (repeat ((with_reducible refine ac ?_ ?_); exact decide_eq_true (by omega); (conv=>whnf)))
  refine aa (show (((A.length + i : Nat) : Int) : Int).toNat < P.length by omega) ?_;rw [show P[(((A.length + i : Nat) : Int) : Int).toNat]'(by omega) = bu s from hp];conv=>whnf
  refine aI (decide_eq_true (by omega)) ?_
  (conv=>whnf); (repeat ((with_reducible refine ac ?_ ?_); exact decide_eq_true (by omega); (conv=>whnf)))
  refine aa (show (((A.length + i : Nat) : Int) : Int).toNat < P.length by omega) ?_;rw [show P[(((A.length + i : Nat) : Int) : Int).toNat]'(by omega) = bu s from hp]
  (conv=>whnf); (repeat ((with_reducible refine ac ?_ ?_); exact decide_eq_true (by omega); (conv=>whnf)))
  refine aa (show (((A.length + i : Nat) : Int) : Int).toNat < P.length by omega) ?_;rw [show P[(((A.length + i : Nat) : Int) : Int).toNat]'(by omega) = bu s from hp]
  (conv=>whnf); (repeat ((with_reducible refine ac ?_ ?_); exact decide_eq_true (by omega); (conv=>whnf)))
  refine ⟨ns, (by rw [kS]; exact n1), ?_⟩;rw [n2];conv=>whnf
  by_cases hs : s ∈ T
  ·have IH := IH0 T ⟨by omega, by omega⟩ (by omega);refine j8 T s hs fun j => ?_;conv=>whnf
   rw [al (by omega)];exact IH
  ·have IH := IH0 (T ++ [s]) ⟨by omega, by rw [List.length_append]; simp only [List.length_cons, List.length_nil]; omega⟩ (by omega);refine gZ T s (by omega) hs fun j => ?_;conv=>whnf
   rw [al (by omega)];exact IH
 ·refine am (decide_eq_false (by omega)) ?_;conv=>whnf
  refine aI (beq_iff_eq.2 (by omega)) ?_;conv=>whnf
  exact h
theorem D6 (A ms : List B) (hA : A.length < 100000) (hml : ms.length < 5000) {R} (h : R (.tup [Dv, vi 0, vi 6]) [dq]) :
  ag Tryz.prog 166 [vi 3, .ptr 0 0, .sl none 1 (ce (A ++ ms.map bu)), vi (A.length : Int)] [dq] R := by
 refine ab (an := qn) tab_ok Tryz.func166 ?_;have hPl : (A ++ ms.map bu).length = A.length + ms.length := by simp
 have hel : ∀ (i : Nat) (hi : i < ms.length) (hj : A.length + i < (A ++ ms.map bu).length), (A ++ ms.map bu)[A.length + i] = bu ms[i] := fun i hi hj => by
  rw [List.getElem_append_right (by omega)];simp
 generalize A ++ ms.map bu = P at hPl hel ⊢;have hrl := aP P;conv=>whnf
 refine tQ ?_;conv=>whnf
 refine am (decide_eq_false (by omega)) ?_;conv=>whnf
 refine iy ?_;conv=>whnf
 by_cases hmne : ms = []
 ·subst hmne;simp only [List.length_nil, Nat.add_zero] at hPl;refine au.step ?_;conv=>whnf
  refine am (decide_eq_false (by omega)) ?_;conv=>whnf
  refine aI (beq_iff_eq.2 (by omega)) ?_;conv=>whnf
  exact h
 obtain ⟨s, ms, rfl⟩ := List.exists_cons_of_ne_nil hmne;simp only [List.length_cons] at hml;have hpl2 : (s :: ms).length = ms.length + 1 := rfl;refine au.step ?_;have hp := hel 0 (by simp) (by omega);simp only [Nat.add_zero, List.getElem_cons_zero] at hp;obtain ⟨ns, n1, n2⟩ := gV s;have hbl : (ai (bu s)).length = s.length + 1 := by rw [aM]; rfl
 conv=>whnf
 refine aI (decide_eq_true (by omega)) ?_
 (conv=>whnf); (repeat ((with_reducible refine ac ?_ ?_); exact decide_eq_true (by omega); (conv=>whnf)))
 refine aa (show ((A.length : Int) : Int).toNat < P.length by omega) ?_;rw [show P[((A.length : Int) : Int).toNat]'(by omega) = bu s from hp];conv=>whnf
 refine aI (decide_eq_true (by omega)) ?_
 (conv=>whnf); (repeat ((with_reducible refine ac ?_ ?_); exact decide_eq_true (by omega); (conv=>whnf)))
 refine aa (show ((A.length : Int) : Int).toNat < P.length by omega) ?_;rw [show P[((A.length : Int) : Int).toNat]'(by omega) = bu s from hp]
 (conv=>whnf); (repeat ((with_reducible refine ac ?_ ?_); exact decide_eq_true (by omega); (conv=>whnf)))
 refine aa (show ((A.length : Int) : Int).toNat < P.length by omega) ?_;rw [show P[((A.length : Int) : Int).toNat]'(by omega) = bu s from hp]
 (conv=>whnf); (repeat ((with_reducible refine ac ?_ ?_); exact decide_eq_true (by omega); (conv=>whnf)))
 refine ⟨ns, (by rw [kS]; exact n1), ?_⟩;rw [n2];conv=>whnf
 refine ri s ?_;conv=>whnf
 rw [al (by omega)];refine au.ind2 (fun (i : Nat) (T : List B) => [(9, vi ((A.length + i : Nat) : Int))]) (fun i T => [(0, dq), (ak 8, rO 0 [] 0 (.val (.slice none 0 0)) 0 0 []), (ax 34 0, bN (ax 64 0) (ax 64 1) T), (ax 64 0, bM T), (ax 64 1, bL T)]) (fun i _ => (s :: ms).length - i) (fun i T => i ≤ (s :: ms).length ∧ 1 ≤ i ∧ T.length ≤ i) 1 [s] rfl ⟨by simp, by omega, by simp⟩ ?_;rintro i T ⟨h0, h1, hT⟩ IH;conv=>whnf
 by_cases hc : i < (s :: ms).length
 ·have hp := hel i hc (by omega);have IH0 := IH (i + 1);clear IH;generalize (s :: ms)[i] = s2 at hp;obtain ⟨ns, n1, n2⟩ := gV s2;have hbl : (ai (bu s2)).length = s2.length + 1 := by rw [aM]; rfl
  refine aI (decide_eq_true (by omega)) ?_
  (conv=>whnf); (repeat ((with_reducible refine ac ?_ ?_); exact decide_eq_true (by omega); (conv=>whnf)))
  refine aa (show (((A.length + i : Nat) : Int) : Int).toNat < P.length by omega) ?_;rw [show P[(((A.length + i : Nat) : Int) : Int).toNat]'(by omega) = bu s2 from hp];conv=>whnf
  refine aI (decide_eq_true (by omega)) ?_
  (conv=>whnf); (repeat ((with_reducible refine ac ?_ ?_); exact decide_eq_true (by omega); (conv=>whnf)))
  refine aa (show (((A.length + i : Nat) : Int) : Int).toNat < P.length by omega) ?_;rw [show P[(((A.length + i : Nat) : Int) : Int).toNat]'(by omega) = bu s2 from hp]
  (conv=>whnf); (repeat ((with_reducible refine ac ?_ ?_); exact decide_eq_true (by omega); (conv=>whnf)))
  refine aa (show (((A.length + i : Nat) : Int) : Int).toNat < P.length by omega) ?_;rw [show P[(((A.length + i : Nat) : Int) : Int).toNat]'(by omega) = bu s2 from hp]
  (conv=>whnf); (repeat ((with_reducible refine ac ?_ ?_); exact decide_eq_true (by omega); (conv=>whnf)))
  refine ⟨ns, (by rw [kS]; exact n1), ?_⟩;rw [n2];conv=>whnf
  by_cases hs : s2 ∈ T
  ·have IH := IH0 T ⟨by omega, by omega, by omega⟩ (by omega);refine j8 T s2 hs fun j => ?_;conv=>whnf
   rw [al (by omega)];exact IH
  ·have IH := IH0 (T ++ [s2]) ⟨by omega, by omega, by rw [List.length_append]; simp only [List.length_cons, List.length_nil]; omega⟩ (by omega);refine gZ T s2 (by omega) hs fun j => ?_;conv=>whnf
   rw [al (by omega)];exact IH
 ·refine am (decide_eq_false (by omega)) ?_;conv=>whnf
  refine aI (beq_iff_eq.2 (by omega)) ?_;conv=>whnf
  exact h
theorem D5 (t : List B) (ht0 : t ≠ []) (htn : t.Nodup) (htl : t.length < 80000) (A ms : List B) (hA : A.length < 100000) (hml : ms.length < 5000) {R} (h : R (.tup [Dv, vi 0, vi 6]) [bN 1 2 t, bM t, bL t]) :
  ag Tryz.prog 166 [vi 3, .ptr 0 0, .sl none 1 (ce (A ++ ms.map bu)), vi (A.length : Int)] [bN 1 2 t, bM t, bL t] R := by
 refine ab (an := qn) tab_ok Tryz.func166 ?_;have hPl : (A ++ ms.map bu).length = A.length + ms.length := by simp
 have hel : ∀ (i : Nat) (hi : i < ms.length) (hj : A.length + i < (A ++ ms.map bu).length), (A ++ ms.map bu)[A.length + i] = bu ms[i] := fun i hi hj => by
  rw [List.getElem_append_right (by omega)];simp
 generalize A ++ ms.map bu = P at hPl hel ⊢;have hrl := aP P;conv=>whnf
 refine tQ ?_;conv=>whnf
 refine am (decide_eq_false (by omega)) ?_;conv=>whnf
 refine jo t ht0 htn (by omega) ?_;conv=>whnf
 refine au.ind2 (fun (i : Nat) (T : List B) => [(9, vi ((A.length + i : Nat) : Int))]) (fun i T => [(0, bN 1 2 t), (1, bM t), (2, bL t), (ak 8, rO 0 [] 0 (.val (.slice none 0 0)) 0 0 []), (ax 34 0, bN (ax 34 1) (ax 34 2) T), (ax 34 1, bM T), (ax 34 2, bL T)]) (fun i _ => ms.length - i) (fun i T => i ≤ ms.length ∧ T.length ≤ t.length + i) 0 t rfl ⟨by omega, by omega⟩ ?_;rintro i T ⟨h0, hT⟩ IH;conv=>whnf
 by_cases hc : i < ms.length
 ·have hp := hel i hc (by omega);have IH0 := IH (i + 1);clear IH;generalize ms[i] = s at hp;obtain ⟨ns, n1, n2⟩ := gV s;have hbl : (ai (bu s)).length = s.length + 1 := by rw [aM]; rfl
  refine aI (decide_eq_true (by omega)) ?_
  (conv=>whnf); (repeat ((with_reducible refine ac ?_ ?_); exact decide_eq_true (by omega); (conv=>whnf)))
  refine aa (show (((A.length + i : Nat) : Int) : Int).toNat < P.length by omega) ?_;rw [show P[(((A.length + i : Nat) : Int) : Int).toNat]'(by omega) = bu s from hp];conv=>whnf
  refine aI (decide_eq_true (by omega)) ?_
  (conv=>whnf); (repeat ((with_reducible refine ac ?_ ?_); exact decide_eq_true (by omega); (conv=>whnf)))
  refine aa (show (((A.length + i : Nat) : Int) : Int).toNat < P.length by omega) ?_;rw [show P[(((A.length + i : Nat) : Int) : Int).toNat]'(by omega) = bu s from hp]
  (conv=>whnf); (repeat ((with_reducible refine ac ?_ ?_); exact decide_eq_true (by omega); (conv=>whnf)))
  refine aa (show (((A.length + i : Nat) : Int) : Int).toNat < P.length by omega) ?_;rw [show P[(((A.length + i : Nat) : Int) : Int).toNat]'(by omega) = bu s from hp]
  (conv=>whnf); (repeat ((with_reducible refine ac ?_ ?_); exact decide_eq_true (by omega); (conv=>whnf)))
  refine ⟨ns, (by rw [kS]; exact n1), ?_⟩;rw [n2];conv=>whnf
  by_cases hs : s ∈ T
  ·have IH := IH0 T ⟨by omega, by omega⟩ (by omega);refine j8 T s hs fun j => ?_;conv=>whnf
   rw [al (by omega)];exact IH
  ·have IH := IH0 (T ++ [s]) ⟨by omega, by rw [List.length_append]; simp only [List.length_cons, List.length_nil]; omega⟩ (by omega);refine gZ T s (by omega) hs fun j => ?_;conv=>whnf
   rw [al (by omega)];exact IH
 ·refine am (decide_eq_false (by omega)) ?_;conv=>whnf
  refine aI (beq_iff_eq.2 (by omega)) ?_;conv=>whnf
  exact h
theorem LS (r : Rc) (hm : aR 1 r = true) (A Q : List B) (hA : A.length < 100000) (hQ : Q.length < 100000) {R} (h : R (.tup [.agg r.enc, vi ((A.length + (bw 1 [] r).length : Nat) : Int), vi 0]) [dq]) :
  ag Tryz.prog 166 [vi 1, .ptr 0 0, .sl none 1 (ce (A ++ bw 1 [] r ++ Q)), vi (A.length : Int)] [dq] R := by
 have hM := aQ hm;have hd16 := hM.deps;refine ab (an := qn) tab_ok Tryz.func166 ?_;have hTl := fB 1 [] r;obtain ⟨ms, hms⟩ : ∃ ms, ms = ([] : List B) := ⟨_, rfl⟩;have hY : bw 1 [] r = ms.map bu ++ [bS 1 (bz 1 [] r) r] := by rw [hms]; simp [bw, fY]
 have hml : ms.length ≤ 18 := by
  rw [hms];simp
 have hLl := gh (v := 1) (t := bz 1 [] r) hM (by simp [bz]);obtain ⟨L, hLe⟩ : ∃ L, L = bS 1 (bz 1 [] r) r := ⟨_, rfl⟩;rw [← hLe] at hLl hY;have hLne : 0 < L.length := hLl.1;have hL0 : (((L[0]).toNat : Int) == 0) = false := by
  have : L[0] = 1 ∨ L[0] = 2 := by
   subst hLe;unfold bS;split <;> simp
  rcases this with e | e <;> rw [e] <;> rfl
 have hLb := aM L;have hYl : (bw 1 [] r).length = ms.length + 1 := by rw [hY]; simp
 have hPl : (A ++ bw 1 [] r ++ Q).length = A.length + ms.length + 1 + Q.length := by simp [hYl]; omega
 have hel : ∀ (i : Nat) (hi : i < ms.length) (hj : A.length + i < (A ++ bw 1 [] r ++ Q).length), (A ++ bw 1 [] r ++ Q)[A.length + i] = bu ms[i] := fun i hi hj => by
  rw [List.getElem_append_left (by simp [hYl]; omega), List.getElem_append_right (by omega), List.getElem_of_eq hY, List.getElem_append_left (by simp; omega)];simp
 have hlast : ∀ (hj : A.length + ms.length < (A ++ bw 1 [] r ++ Q).length), (A ++ bw 1 [] r ++ Q)[A.length + ms.length] = L := fun hj => by
  rw [List.getElem_append_left (by simp [hYl]), List.getElem_append_right (by omega), List.getElem_of_eq hY, List.getElem_append_right (by simp)];simp
 have eSl : List.drop A.length (List.take (A.length + ms.length + 1) (ce (A ++ bw 1 [] r ++ Q))) = ce (bw 1 [] r) := by
  rw [b8, b8, List.take_append_of_le_length (by simp [aP, hYl]; omega), List.take_of_length_le (by simp [aP, hYl]; omega), List.drop_append_of_le_length (by rw [aP]; exact Nat.le_refl _), List.drop_of_length_le (by rw [aP]; exact Nat.le_refl _), List.nil_append]
 have hPut := @zI r hm;rw [hYl] at h;generalize hYe : bw 1 [] r = Y at hY hYl hel hlast eSl hPl hPut ⊢;generalize A ++ Y ++ Q = P at hel hlast eSl hPl ⊢;have hlast := hlast (by omega);have hrl := aP P;rw [nC] at hLe;have hRL := @LW r hM;rw [← hLe] at hRL;have hms0 := hms;clear hY hYe;conv=>whnf
 refine F2 ?_;conv=>whnf
 refine am (decide_eq_false (by omega)) ?_;conv=>whnf
 refine iy ?_;conv=>whnf
 refine au.step ?_;simp only [hms0, List.length_nil, Nat.add_zero] at hlast eSl h hPl;conv=>whnf
 refine aI (decide_eq_true (by omega)) ?_
 (conv=>whnf); (repeat ((with_reducible refine ac ?_ ?_); exact decide_eq_true (by omega); (conv=>whnf)))
 refine aa (show (A.length : Int).toNat < P.length by omega) ?_;rw [show P[(A.length : Int).toNat]'(by omega) = L from hlast];conv=>whnf
 refine aI (decide_eq_true (by omega)) ?_
 (conv=>whnf); (repeat ((with_reducible refine ac ?_ ?_); exact decide_eq_true (by omega); (conv=>whnf)))
 refine aa (show (A.length : Int).toNat < P.length by omega) ?_;rw [show P[(A.length : Int).toNat]'(by omega) = L from hlast]
 (conv=>whnf); (repeat ((with_reducible refine ac ?_ ?_); exact decide_eq_true (by omega); (conv=>whnf)))
 refine aa (show (0 : Int).toNat < L.length by simp; omega) ?_;rw [show L[(0 : Int).toNat]'(by simp; omega) = L[0] from rfl];conv=>whnf
 refine am hL0 ?_;conv=>whnf
 refine am (beq_eq_false_iff_ne.2 (by omega)) ?_
 (conv=>whnf); (repeat ((with_reducible refine ac ?_ ?_); exact decide_eq_true (by omega); (conv=>whnf)))
 refine aa (show (A.length : Int).toNat < P.length by omega) ?_;rw [show P[(A.length : Int).toNat]'(by omega) = L from hlast];conv=>whnf
 refine lY L (by omega) ?_;conv=>whnf
 refine hRL ?_;conv=>whnf
 rw [al (by omega)];refine iy ?_;conv=>whnf
 refine hPut ?_;conv=>whnf
 refine ac (decide_eq_true (by omega)) ?_;conv=>whnf
 refine ac (decide_eq_true (by omega)) ?_;conv=>whnf
 refine (show ag Tryz.prog 217 [.sl none 1 (ce Y), .sl none 1 (List.drop A.length (List.take (A.length + 1) (ce P))), .fn (.func 218) [] []] [] _ from ?_);rw [eSl];refine kR Y (by omega) ?_;conv=>whnf
 refine hPut ?_;conv=>whnf
 exact h
theorem LR (r : Rc) (hm : aR 2 r = true) (A Q : List B) (hA : A.length < 100000) (hQ : Q.length < 100000) {R} (h : R (.tup [.agg r.enc, vi ((A.length + (bw 2 [] r).length : Nat) : Int), vi 0]) [bN 1 2 (bz 2 [] r), bM (bz 2 [] r), bL (bz 2 [] r)]) :
  ag Tryz.prog 166 [vi 2, .ptr 0 0, .sl none 1 (ce (A ++ bw 2 [] r ++ Q)), vi (A.length : Int)] [dq] R := by
 have hM := aQ hm;have hd16 := hM.deps;refine ab (an := qn) tab_ok Tryz.func166 ?_;have hTl := fB 2 [] r;obtain ⟨ms, hms⟩ : ∃ ms, ms = cI [] (bg r) := ⟨_, rfl⟩;have hY : bw 2 [] r = ms.map bu ++ [bS 2 (bz 2 [] r) r] := by rw [hms]; simp [bw, fY]
 have hml : ms.length ≤ 18 := by
  rw [hms];have := lQ (bg r) [];have := dw r;omega
 have hfin : ms.foldl cQ [] = bz 2 [] r := by rw [hms, kI, fK (by decide)]
 have hT1 := co (v := 2) (by decide) [] r (x := r.target) (by simp [bK]);have hT2 : ∀ d ∈ r.deps, d.name ∈ bz 2 [] r := fun d hd => co (by decide) [] r (List.mem_cons_of_mem _ (List.mem_append_left _ (List.mem_map_of_mem hd)));have hT3 : r.tag ≠ [] → r.tag ∈ bz 2 [] r := fun e => co (by decide) [] r (by simp [bK, e]);have hmne : ms ≠ [] := fun e => by
  rw [e] at hfin;exact lm (v := 2) (by decide) [] r hfin.symm
 have hLl := gh (v := 2) (t := bz 2 [] r) hM (by simp at hTl; omega);obtain ⟨L, hLe⟩ : ∃ L, L = bS 2 (bz 2 [] r) r := ⟨_, rfl⟩;rw [← hLe] at hLl hY;have hLne : 0 < L.length := hLl.1;have hL0 : (((L[0]).toNat : Int) == 0) = false := by
  have : L[0] = 1 ∨ L[0] = 2 := by
   subst hLe;unfold bS;split <;> simp
  rcases this with e | e <;> rw [e] <;> rfl
 have hLb := aM L;have hYl : (bw 2 [] r).length = ms.length + 1 := by rw [hY]; simp
 have hPl : (A ++ bw 2 [] r ++ Q).length = A.length + ms.length + 1 + Q.length := by simp [hYl]; omega
 have hel : ∀ (i : Nat) (hi : i < ms.length) (hj : A.length + i < (A ++ bw 2 [] r ++ Q).length), (A ++ bw 2 [] r ++ Q)[A.length + i] = bu ms[i] := fun i hi hj => by
  rw [List.getElem_append_left (by simp [hYl]; omega), List.getElem_append_right (by omega), List.getElem_of_eq hY, List.getElem_append_left (by simp; omega)];simp
 have hlast : ∀ (hj : A.length + ms.length < (A ++ bw 2 [] r ++ Q).length), (A ++ bw 2 [] r ++ Q)[A.length + ms.length] = L := fun hj => by
  rw [List.getElem_append_left (by simp [hYl]), List.getElem_append_right (by omega), List.getElem_of_eq hY, List.getElem_append_right (by simp)];simp
 have eSl : List.drop A.length (List.take (A.length + ms.length + 1) (ce (A ++ bw 2 [] r ++ Q))) = ce (bw 2 [] r) := by
  rw [b8, b8, List.take_append_of_le_length (by simp [aP, hYl]; omega), List.take_of_length_le (by simp [aP, hYl]; omega), List.drop_append_of_le_length (by rw [aP]; exact Nat.le_refl _), List.drop_of_length_le (by rw [aP]; exact Nat.le_refl _), List.nil_append]
 have hPut := @F7 r hm;rw [hYl] at h;generalize hYe : bw 2 [] r = Y at hY hYl hel hlast eSl hPl hPut ⊢;generalize A ++ Y ++ Q = P at hel hlast eSl hPl ⊢;have hlast := hlast (by omega);have hrl := aP P;generalize bz 2 [] r = U at h hTl hT1 hT2 hT3 hLe hfin hPut;have hRL := @Gd r U hM (by simp at hTl; omega) hT1 hT2 hT3;rw [← hLe] at hRL;clear hms hY hYe;conv=>whnf
 refine tR ?_;conv=>whnf
 refine am (decide_eq_false (by omega)) ?_;conv=>whnf
 refine iy ?_;conv=>whnf
 obtain ⟨s, ms, rfl⟩ := List.exists_cons_of_ne_nil hmne;refine au.step ?_;have hp := hel 0 (by simp) (by omega);simp only [Nat.add_zero, List.getElem_cons_zero] at hp;obtain ⟨ns, n1, n2⟩ := gV s;have hbl : (ai (bu s)).length = s.length + 1 := by rw [aM]; rfl
 conv=>whnf
 refine aI (decide_eq_true (by omega)) ?_
 (conv=>whnf); (repeat ((with_reducible refine ac ?_ ?_); exact decide_eq_true (by omega); (conv=>whnf)))
 refine aa (show ((A.length : Int) : Int).toNat < P.length by omega) ?_;rw [show P[((A.length : Int) : Int).toNat]'(by omega) = bu s from hp];conv=>whnf
 refine aI (decide_eq_true (by omega)) ?_
 (conv=>whnf); (repeat ((with_reducible refine ac ?_ ?_); exact decide_eq_true (by omega); (conv=>whnf)))
 refine aa (show ((A.length : Int) : Int).toNat < P.length by omega) ?_;rw [show P[((A.length : Int) : Int).toNat]'(by omega) = bu s from hp]
 (conv=>whnf); (repeat ((with_reducible refine ac ?_ ?_); exact decide_eq_true (by omega); (conv=>whnf)))
 refine aa (show ((A.length : Int) : Int).toNat < P.length by omega) ?_;rw [show P[((A.length : Int) : Int).toNat]'(by omega) = bu s from hp]
 (conv=>whnf); (repeat ((with_reducible refine ac ?_ ?_); exact decide_eq_true (by omega); (conv=>whnf)))
 refine ⟨ns, (by rw [kS]; exact n1), ?_⟩;rw [n2];conv=>whnf
 refine ri s ?_;conv=>whnf
 rw [al (by omega)];refine au.ind2 (fun (i : Nat) (T : List B) => [(9, vi ((A.length + i : Nat) : Int))]) (fun i T => [(0, dq), (ak 8, rO 0 [] 0 (.val (.slice none 0 0)) 0 0 []), (ax 34 0, bN (ax 64 0) (ax 64 1) T), (ax 64 0, bM T), (ax 64 1, bL T)]) (fun i _ => (s :: ms).length - i) (fun i T => i ≤ (s :: ms).length ∧ 1 ≤ i ∧ T.length ≤ i ∧ T = ((s :: ms).take i).foldl cQ []) 1 [s] rfl ⟨by simp, by omega, by simp, by simp [cQ]⟩ ?_;rintro i T ⟨h0, h1, hT, hTe⟩ IH;conv=>whnf
 by_cases hc : i < (s :: ms).length
 ·have hp := hel i hc (by omega);have IH0 := IH (i + 1);clear IH;have hTs : cQ T (s :: ms)[i] = ((s :: ms).take (i + 1)).foldl cQ [] := by
   rw [List.take_succ_eq_append_getElem hc, List.foldl_append, ← hTe];rfl
  generalize (s :: ms)[i] = s2 at hp hTs;obtain ⟨ns, n1, n2⟩ := gV s2;have hbl : (ai (bu s2)).length = s2.length + 1 := by rw [aM]; rfl
  refine aI (decide_eq_true (by omega)) ?_
  (conv=>whnf); (repeat ((with_reducible refine ac ?_ ?_); exact decide_eq_true (by omega); (conv=>whnf)))
  refine aa (show (((A.length + i : Nat) : Int) : Int).toNat < P.length by omega) ?_;rw [show P[(((A.length + i : Nat) : Int) : Int).toNat]'(by omega) = bu s2 from hp];conv=>whnf
  refine aI (decide_eq_true (by omega)) ?_
  (conv=>whnf); (repeat ((with_reducible refine ac ?_ ?_); exact decide_eq_true (by omega); (conv=>whnf)))
  refine aa (show (((A.length + i : Nat) : Int) : Int).toNat < P.length by omega) ?_;rw [show P[(((A.length + i : Nat) : Int) : Int).toNat]'(by omega) = bu s2 from hp]
  (conv=>whnf); (repeat ((with_reducible refine ac ?_ ?_); exact decide_eq_true (by omega); (conv=>whnf)))
  refine aa (show (((A.length + i : Nat) : Int) : Int).toNat < P.length by omega) ?_;rw [show P[(((A.length + i : Nat) : Int) : Int).toNat]'(by omega) = bu s2 from hp]
  (conv=>whnf); (repeat ((with_reducible refine ac ?_ ?_); exact decide_eq_true (by omega); (conv=>whnf)))
  refine ⟨ns, (by rw [kS]; exact n1), ?_⟩;rw [n2];conv=>whnf
  by_cases hs : s2 ∈ T
  ·have IH := IH0 T ⟨by omega, by omega, by omega, by rw [← hTs, dQ hs]⟩ (by omega);refine j8 T s2 hs fun j => ?_;conv=>whnf
   rw [al (by omega)];exact IH
  ·have IH := IH0 (T ++ [s2]) ⟨by omega, by omega, by rw [List.length_append]; simp only [List.length_cons, List.length_nil]; omega, by rw [← hTs, dz hs]⟩ (by omega);refine gZ T s2 (by omega) hs fun j => ?_;conv=>whnf
   rw [al (by omega)];exact IH
 ·have hi : i = (s :: ms).length := by omega
  subst hi;rw [List.take_length, hfin] at hTe;subst hTe;clear IH;refine aI (decide_eq_true (by omega)) ?_
  (conv=>whnf); (repeat ((with_reducible refine ac ?_ ?_); exact decide_eq_true (by omega); (conv=>whnf)))
  refine aa (show ((A.length + (s :: ms).length : Nat) : Int).toNat < P.length by omega) ?_;rw [show P[((A.length + (s :: ms).length : Nat) : Int).toNat]'(by omega) = L from hlast];conv=>whnf
  refine aI (decide_eq_true (by omega)) ?_
  (conv=>whnf); (repeat ((with_reducible refine ac ?_ ?_); exact decide_eq_true (by omega); (conv=>whnf)))
  refine aa (show ((A.length + (s :: ms).length : Nat) : Int).toNat < P.length by omega) ?_;rw [show P[((A.length + (s :: ms).length : Nat) : Int).toNat]'(by omega) = L from hlast]
  (conv=>whnf); (repeat ((with_reducible refine ac ?_ ?_); exact decide_eq_true (by omega); (conv=>whnf)))
  refine aa (show (0 : Int).toNat < L.length by simp; omega) ?_;rw [show L[(0 : Int).toNat]'(by simp; omega) = L[0] from rfl];conv=>whnf
  refine am hL0 ?_;conv=>whnf
  refine am (beq_eq_false_iff_ne.2 (by omega)) ?_
  (conv=>whnf); (repeat ((with_reducible refine ac ?_ ?_); exact decide_eq_true (by omega); (conv=>whnf)))
  refine aa (show ((A.length + (s :: ms).length : Nat) : Int).toNat < P.length by omega) ?_;rw [show P[((A.length + (s :: ms).length : Nat) : Int).toNat]'(by omega) = L from hlast];conv=>whnf
  refine lY L (by omega) ?_;conv=>whnf
  refine hRL ?_;conv=>whnf
  rw [al (by omega)];refine iy ?_;conv=>whnf
  refine hPut ?_;conv=>whnf
  refine ac (decide_eq_true (by omega)) ?_;conv=>whnf
  refine ac (decide_eq_true (by omega)) ?_;conv=>whnf
  refine (show ag Tryz.prog 217 [.sl none 1 (ce Y), .sl none 1 (List.drop A.length (List.take (A.length + (s :: ms).length + 1) (ce P))), .fn (.func 218) [] []] [] _ from ?_);rw [eSl];refine kR Y (by omega) ?_;conv=>whnf
  refine hPut ?_;conv=>whnf
  exact h
theorem LQ (r : Rc) (hm : aR 2 r = true) (t : List B) (ht0 : t ≠ []) (htn : t.Nodup) (htl : t.length < 80000) (A Q : List B) (hA : A.length < 100000) (hQ : Q.length < 100000) {R} (h : R (.tup [.agg r.enc, vi ((A.length + (bw 2 t r).length : Nat) : Int), vi 0]) [bN 1 2 (bz 2 t r), bM (bz 2 t r), bL (bz 2 t r)]) :
  ag Tryz.prog 166 [vi 2, .ptr 0 0, .sl none 1 (ce (A ++ bw 2 t r ++ Q)), vi (A.length : Int)] [bN 1 2 t, bM t, bL t] R := by
 have hM := aQ hm;have hd16 := hM.deps;refine ab (an := qn) tab_ok Tryz.func166 ?_;have hTl := fB 2 t r;obtain ⟨ms, hms⟩ : ∃ ms, ms = cI t (bg r) := ⟨_, rfl⟩;have hY : bw 2 t r = ms.map bu ++ [bS 2 (bz 2 t r) r] := by rw [hms]; simp [bw, fY]
 have hml : ms.length ≤ 18 := by
  rw [hms];have := lQ (bg r) t;have := dw r;omega
 have hfin : ms.foldl cQ t = bz 2 t r := by rw [hms, kI, fK (by decide)]
 have hT1 := co (v := 2) (by decide) t r (x := r.target) (by simp [bK]);have hT2 : ∀ d ∈ r.deps, d.name ∈ bz 2 t r := fun d hd => co (by decide) t r (List.mem_cons_of_mem _ (List.mem_append_left _ (List.mem_map_of_mem hd)));have hT3 : r.tag ≠ [] → r.tag ∈ bz 2 t r := fun e => co (by decide) t r (by simp [bK, e]);have hLl := gh (v := 2) (t := bz 2 t r) hM (by omega);obtain ⟨L, hLe⟩ : ∃ L, L = bS 2 (bz 2 t r) r := ⟨_, rfl⟩;rw [← hLe] at hLl hY;have hLne : 0 < L.length := hLl.1;have hL0 : (((L[0]).toNat : Int) == 0) = false := by
  have : L[0] = 1 ∨ L[0] = 2 := by
   subst hLe;unfold bS;split <;> simp
  rcases this with e | e <;> rw [e] <;> rfl
 have hLb := aM L;have hYl : (bw 2 t r).length = ms.length + 1 := by rw [hY]; simp
 have hPl : (A ++ bw 2 t r ++ Q).length = A.length + ms.length + 1 + Q.length := by simp [hYl]; omega
 have hel : ∀ (i : Nat) (hi : i < ms.length) (hj : A.length + i < (A ++ bw 2 t r ++ Q).length), (A ++ bw 2 t r ++ Q)[A.length + i] = bu ms[i] := fun i hi hj => by
  rw [List.getElem_append_left (by simp [hYl]; omega), List.getElem_append_right (by omega), List.getElem_of_eq hY, List.getElem_append_left (by simp; omega)];simp
 have hlast : ∀ (hj : A.length + ms.length < (A ++ bw 2 t r ++ Q).length), (A ++ bw 2 t r ++ Q)[A.length + ms.length] = L := fun hj => by
  rw [List.getElem_append_left (by simp [hYl]), List.getElem_append_right (by omega), List.getElem_of_eq hY, List.getElem_append_right (by simp)];simp
 have eSl : List.drop A.length (List.take (A.length + ms.length + 1) (ce (A ++ bw 2 t r ++ Q))) = ce (bw 2 t r) := by
  rw [b8, b8, List.take_append_of_le_length (by simp [aP, hYl]; omega), List.take_of_length_le (by simp [aP, hYl]; omega), List.drop_append_of_le_length (by rw [aP]; exact Nat.le_refl _), List.drop_of_length_le (by rw [aP]; exact Nat.le_refl _), List.nil_append]
 have hPut := @F6 r t (by omega) hm;rw [hYl] at h;generalize hYe : bw 2 t r = Y at hY hYl hel hlast eSl hPl hPut ⊢;generalize A ++ Y ++ Q = P at hel hlast eSl hPl ⊢;have hlast := hlast (by omega);have hrl := aP P;generalize bz 2 t r = U at h hTl hT1 hT2 hT3 hLe hfin hPut;have hRL := @Gd r U hM (by omega) hT1 hT2 hT3;rw [← hLe] at hRL;clear hms hY hYe;conv=>whnf
 refine tR ?_;conv=>whnf
 refine am (decide_eq_false (by omega)) ?_;conv=>whnf
 refine jo t ht0 htn (by omega) ?_;conv=>whnf
 refine au.ind2 (fun (i : Nat) (T : List B) => [(9, vi ((A.length + i : Nat) : Int))]) (fun i T => [(0, bN 1 2 t), (1, bM t), (2, bL t), (ak 8, rO 0 [] 0 (.val (.slice none 0 0)) 0 0 []), (ax 34 0, bN (ax 34 1) (ax 34 2) T), (ax 34 1, bM T), (ax 34 2, bL T)]) (fun i _ => ms.length - i) (fun i T => i ≤ ms.length ∧ T.length ≤ t.length + i ∧ T = (ms.take i).foldl cQ t) 0 t rfl ⟨by omega, by omega, by simp⟩ ?_;rintro i T ⟨h0, hT, hTe⟩ IH;conv=>whnf
 by_cases hc : i < ms.length
 ·have hp := hel i hc (by omega);have IH0 := IH (i + 1);clear IH;have hTs : cQ T ms[i] = (ms.take (i + 1)).foldl cQ t := by
   rw [List.take_succ_eq_append_getElem hc, List.foldl_append, ← hTe];rfl
  generalize ms[i] = s at hp hTs;obtain ⟨ns, n1, n2⟩ := gV s;have hbl : (ai (bu s)).length = s.length + 1 := by rw [aM]; rfl
  refine aI (decide_eq_true (by omega)) ?_
  (conv=>whnf); (repeat ((with_reducible refine ac ?_ ?_); exact decide_eq_true (by omega); (conv=>whnf)))
  refine aa (show (((A.length + i : Nat) : Int) : Int).toNat < P.length by omega) ?_;rw [show P[(((A.length + i : Nat) : Int) : Int).toNat]'(by omega) = bu s from hp];conv=>whnf
  refine aI (decide_eq_true (by omega)) ?_
  (conv=>whnf); (repeat ((with_reducible refine ac ?_ ?_); exact decide_eq_true (by omega); (conv=>whnf)))
  refine aa (show (((A.length + i : Nat) : Int) : Int).toNat < P.length by omega) ?_;rw [show P[(((A.length + i : Nat) : Int) : Int).toNat]'(by omega) = bu s from hp]
  (conv=>whnf); (repeat ((with_reducible refine ac ?_ ?_); exact decide_eq_true (by omega); (conv=>whnf)))
  refine aa (show (((A.length + i : Nat) : Int) : Int).toNat < P.length by omega) ?_;rw [show P[(((A.length + i : Nat) : Int) : Int).toNat]'(by omega) = bu s from hp]
  (conv=>whnf); (repeat ((with_reducible refine ac ?_ ?_); exact decide_eq_true (by omega); (conv=>whnf)))
  refine ⟨ns, (by rw [kS]; exact n1), ?_⟩;rw [n2];conv=>whnf
  by_cases hs : s ∈ T
  ·have IH := IH0 T ⟨by omega, by omega, by rw [← hTs, dQ hs]⟩ (by omega);refine j8 T s hs fun j => ?_;conv=>whnf
   rw [al (by omega)];exact IH
  ·have IH := IH0 (T ++ [s]) ⟨by omega, by rw [List.length_append]; simp only [List.length_cons, List.length_nil]; omega, by rw [← hTs, dz hs]⟩ (by omega);refine gZ T s (by omega) hs fun j => ?_;conv=>whnf
   rw [al (by omega)];exact IH
 ·have hi : i = ms.length := by omega
  subst hi;rw [List.take_length, hfin] at hTe;subst hTe;clear IH;refine aI (decide_eq_true (by omega)) ?_
  (conv=>whnf); (repeat ((with_reducible refine ac ?_ ?_); exact decide_eq_true (by omega); (conv=>whnf)))
  refine aa (show ((A.length + ms.length : Nat) : Int).toNat < P.length by omega) ?_;rw [show P[((A.length + ms.length : Nat) : Int).toNat]'(by omega) = L from hlast];conv=>whnf
  refine aI (decide_eq_true (by omega)) ?_
  (conv=>whnf); (repeat ((with_reducible refine ac ?_ ?_); exact decide_eq_true (by omega); (conv=>whnf)))
  refine aa (show ((A.length + ms.length : Nat) : Int).toNat < P.length by omega) ?_;rw [show P[((A.length + ms.length : Nat) : Int).toNat]'(by omega) = L from hlast]
  (conv=>whnf); (repeat ((with_reducible refine ac ?_ ?_); exact decide_eq_true (by omega); (conv=>whnf)))
  refine aa (show (0 : Int).toNat < L.length by simp; omega) ?_;rw [show L[(0 : Int).toNat]'(by simp; omega) = L[0] from rfl];conv=>whnf
  refine am hL0 ?_;conv=>whnf
  refine am (beq_eq_false_iff_ne.2 (by omega)) ?_
  (conv=>whnf); (repeat ((with_reducible refine ac ?_ ?_); exact decide_eq_true (by omega); (conv=>whnf)))
  refine aa (show ((A.length + ms.length : Nat) : Int).toNat < P.length by omega) ?_;rw [show P[((A.length + ms.length : Nat) : Int).toNat]'(by omega) = L from hlast];conv=>whnf
  refine lY L (by omega) ?_;conv=>whnf
  refine hRL ?_;conv=>whnf
  rw [al (by omega)];refine jo t ht0 htn (by omega) ?_;conv=>whnf
  refine hPut ?_;conv=>whnf
  refine ac (decide_eq_true (by omega)) ?_;conv=>whnf
  refine ac (decide_eq_true (by omega)) ?_;conv=>whnf
  refine (show ag Tryz.prog 217 [.sl none 1 (ce Y), .sl none 1 (List.drop A.length (List.take (A.length + ms.length + 1) (ce P))), .fn (.func 218) [] []] [] _ from ?_);rw [eSl];refine kR Y (by omega) ?_;conv=>whnf
  refine hPut ?_;conv=>whnf
  exact h
theorem LP (r : Rc) (hm : aR 3 r = true) (A Q : List B) (hA : A.length < 100000) (hQ : Q.length < 100000) {R} (h : R (.tup [.agg r.enc, vi ((A.length + (bw 3 [] r).length : Nat) : Int), vi 0]) [bN 1 2 (bz 3 [] r), bM (bz 3 [] r), bL (bz 3 [] r)]) :
  ag Tryz.prog 166 [vi 3, .ptr 0 0, .sl none 1 (ce (A ++ bw 3 [] r ++ Q)), vi (A.length : Int)] [dq] R := by
 have hM := aQ hm;have hd16 := hM.deps;refine ab (an := qn) tab_ok Tryz.func166 ?_;have hTl := fB 3 [] r;obtain ⟨ms, hms⟩ : ∃ ms, ms = cI [] (bg r) := ⟨_, rfl⟩;have hY : bw 3 [] r = ms.map bu ++ [bS 3 (bz 3 [] r) r] := by rw [hms]; simp [bw, fY]
 have hml : ms.length ≤ 18 := by
  rw [hms];have := lQ (bg r) [];have := dw r;omega
 have hfin : ms.foldl cQ [] = bz 3 [] r := by rw [hms, kI, fK (by decide)]
 have hT1 := co (v := 3) (by decide) [] r (x := r.target) (by simp [bK]);have hT2 : ∀ d ∈ r.deps, d.name ∈ bz 3 [] r := fun d hd => co (by decide) [] r (List.mem_cons_of_mem _ (List.mem_append_left _ (List.mem_map_of_mem hd)));have hT3 : r.tag ≠ [] → r.tag ∈ bz 3 [] r := fun e => co (by decide) [] r (by simp [bK, e]);have hmne : ms ≠ [] := fun e => by
  rw [e] at hfin;exact lm (v := 3) (by decide) [] r hfin.symm
 have hLl := gh (v := 3) (t := bz 3 [] r) hM (by simp at hTl; omega);obtain ⟨L, hLe⟩ : ∃ L, L = bS 3 (bz 3 [] r) r := ⟨_, rfl⟩;rw [← hLe] at hLl hY;have hLne : 0 < L.length := hLl.1;have hL0 : (((L[0]).toNat : Int) == 0) = false := by
  have : L[0] = 1 ∨ L[0] = 2 := by
   subst hLe;unfold bS;split <;> simp
  rcases this with e | e <;> rw [e] <;> rfl
 have hLb := aM L;have hYl : (bw 3 [] r).length = ms.length + 1 := by rw [hY]; simp
 have hPl : (A ++ bw 3 [] r ++ Q).length = A.length + ms.length + 1 + Q.length := by simp [hYl]; omega
 have hel : ∀ (i : Nat) (hi : i < ms.length) (hj : A.length + i < (A ++ bw 3 [] r ++ Q).length), (A ++ bw 3 [] r ++ Q)[A.length + i] = bu ms[i] := fun i hi hj => by
  rw [List.getElem_append_left (by simp [hYl]; omega), List.getElem_append_right (by omega), List.getElem_of_eq hY, List.getElem_append_left (by simp; omega)];simp
 have hlast : ∀ (hj : A.length + ms.length < (A ++ bw 3 [] r ++ Q).length), (A ++ bw 3 [] r ++ Q)[A.length + ms.length] = L := fun hj => by
  rw [List.getElem_append_left (by simp [hYl]), List.getElem_append_right (by omega), List.getElem_of_eq hY, List.getElem_append_right (by simp)];simp
 have eSl : List.drop A.length (List.take (A.length + ms.length + 1) (ce (A ++ bw 3 [] r ++ Q))) = ce (bw 3 [] r) := by
  rw [b8, b8, List.take_append_of_le_length (by simp [aP, hYl]; omega), List.take_of_length_le (by simp [aP, hYl]; omega), List.drop_append_of_le_length (by rw [aP]; exact Nat.le_refl _), List.drop_of_length_le (by rw [aP]; exact Nat.le_refl _), List.nil_append]
 have hPut := @F5 r hm;rw [hYl] at h;generalize hYe : bw 3 [] r = Y at hY hYl hel hlast eSl hPl hPut ⊢;generalize A ++ Y ++ Q = P at hel hlast eSl hPl ⊢;have hlast := hlast (by omega);have hrl := aP P;generalize bz 3 [] r = U at h hTl hT1 hT2 hT3 hLe hfin hPut;have hRL := @Gc r U hM (by simp at hTl; omega) hT1 hT2 hT3;rw [← hLe] at hRL;clear hms hY hYe;conv=>whnf
 refine tQ ?_;conv=>whnf
 refine am (decide_eq_false (by omega)) ?_;conv=>whnf
 refine iy ?_;conv=>whnf
 obtain ⟨s, ms, rfl⟩ := List.exists_cons_of_ne_nil hmne;refine au.step ?_;have hp := hel 0 (by simp) (by omega);simp only [Nat.add_zero, List.getElem_cons_zero] at hp;obtain ⟨ns, n1, n2⟩ := gV s;have hbl : (ai (bu s)).length = s.length + 1 := by rw [aM]; rfl
 conv=>whnf
 refine aI (decide_eq_true (by omega)) ?_
 (conv=>whnf); (repeat ((with_reducible refine ac ?_ ?_); exact decide_eq_true (by omega); (conv=>whnf)))
 refine aa (show ((A.length : Int) : Int).toNat < P.length by omega) ?_;rw [show P[((A.length : Int) : Int).toNat]'(by omega) = bu s from hp];conv=>whnf
 refine aI (decide_eq_true (by omega)) ?_
 (conv=>whnf); (repeat ((with_reducible refine ac ?_ ?_); exact decide_eq_true (by omega); (conv=>whnf)))
 refine aa (show ((A.length : Int) : Int).toNat < P.length by omega) ?_;rw [show P[((A.length : Int) : Int).toNat]'(by omega) = bu s from hp]
 (conv=>whnf); (repeat ((with_reducible refine ac ?_ ?_); exact decide_eq_true (by omega); (conv=>whnf)))
 refine aa (show ((A.length : Int) : Int).toNat < P.length by omega) ?_;rw [show P[((A.length : Int) : Int).toNat]'(by omega) = bu s from hp]
 (conv=>whnf); (repeat ((with_reducible refine ac ?_ ?_); exact decide_eq_true (by omega); (conv=>whnf)))
 refine ⟨ns, (by rw [kS]; exact n1), ?_⟩;rw [n2];conv=>whnf
 refine ri s ?_;conv=>whnf
 rw [al (by omega)];refine au.ind2 (fun (i : Nat) (T : List B) => [(9, vi ((A.length + i : Nat) : Int))]) (fun i T => [(0, dq), (ak 8, rO 0 [] 0 (.val (.slice none 0 0)) 0 0 []), (ax 34 0, bN (ax 64 0) (ax 64 1) T), (ax 64 0, bM T), (ax 64 1, bL T)]) (fun i _ => (s :: ms).length - i) (fun i T => i ≤ (s :: ms).length ∧ 1 ≤ i ∧ T.length ≤ i ∧ T = ((s :: ms).take i).foldl cQ []) 1 [s] rfl ⟨by simp, by omega, by simp, by simp [cQ]⟩ ?_;rintro i T ⟨h0, h1, hT, hTe⟩ IH;conv=>whnf
 by_cases hc : i < (s :: ms).length
 ·have hp := hel i hc (by omega);have IH0 := IH (i + 1);clear IH;have hTs : cQ T (s :: ms)[i] = ((s :: ms).take (i + 1)).foldl cQ [] := by
   rw [List.take_succ_eq_append_getElem hc, List.foldl_append, ← hTe];rfl
  generalize (s :: ms)[i] = s2 at hp hTs;obtain ⟨ns, n1, n2⟩ := gV s2;have hbl : (ai (bu s2)).length = s2.length + 1 := by rw [aM]; rfl
  refine aI (decide_eq_true (by omega)) ?_
  (conv=>whnf); (repeat ((with_reducible refine ac ?_ ?_); exact decide_eq_true (by omega); (conv=>whnf)))
  refine aa (show (((A.length + i : Nat) : Int) : Int).toNat < P.length by omega) ?_;rw [show P[(((A.length + i : Nat) : Int) : Int).toNat]'(by omega) = bu s2 from hp];conv=>whnf
  refine aI (decide_eq_true (by omega)) ?_
  (conv=>whnf); (repeat ((with_reducible refine ac ?_ ?_); exact decide_eq_true (by omega); (conv=>whnf)))
  refine aa (show (((A.length + i : Nat) : Int) : Int).toNat < P.length by omega) ?_;rw [show P[(((A.length + i : Nat) : Int) : Int).toNat]'(by omega) = bu s2 from hp]
  (conv=>whnf); (repeat ((with_reducible refine ac ?_ ?_); exact decide_eq_true (by omega); (conv=>whnf)))
  refine aa (show (((A.length + i : Nat) : Int) : Int).toNat < P.length by omega) ?_;rw [show P[(((A.length + i : Nat) : Int) : Int).toNat]'(by omega) = bu s2 from hp]
  (conv=>whnf); (repeat ((with_reducible refine ac ?_ ?_); exact decide_eq_true (by omega); (conv=>whnf)))
  refine ⟨ns, (by rw [kS]; exact n1), ?_⟩;rw [n2];conv=>whnf
  by_cases hs : s2 ∈ T
  ·have IH := IH0 T ⟨by omega, by omega, by omega, by rw [← hTs, dQ hs]⟩ (by omega);refine j8 T s2 hs fun j => ?_;conv=>whnf
   rw [al (by omega)];exact IH
  ·have IH := IH0 (T ++ [s2]) ⟨by omega, by omega, by rw [List.length_append]; simp only [List.length_cons, List.length_nil]; omega, by rw [← hTs, dz hs]⟩ (by omega);refine gZ T s2 (by omega) hs fun j => ?_;conv=>whnf
   rw [al (by omega)];exact IH
 ·have hi : i = (s :: ms).length := by omega
  subst hi;rw [List.take_length, hfin] at hTe;subst hTe;clear IH;refine aI (decide_eq_true (by omega)) ?_
  (conv=>whnf); (repeat ((with_reducible refine ac ?_ ?_); exact decide_eq_true (by omega); (conv=>whnf)))
  refine aa (show ((A.length + (s :: ms).length : Nat) : Int).toNat < P.length by omega) ?_;rw [show P[((A.length + (s :: ms).length : Nat) : Int).toNat]'(by omega) = L from hlast];conv=>whnf
  refine aI (decide_eq_true (by omega)) ?_
  (conv=>whnf); (repeat ((with_reducible refine ac ?_ ?_); exact decide_eq_true (by omega); (conv=>whnf)))
  refine aa (show ((A.length + (s :: ms).length : Nat) : Int).toNat < P.length by omega) ?_;rw [show P[((A.length + (s :: ms).length : Nat) : Int).toNat]'(by omega) = L from hlast]
  (conv=>whnf); (repeat ((with_reducible refine ac ?_ ?_); exact decide_eq_true (by omega); (conv=>whnf)))
  refine aa (show (0 : Int).toNat < L.length by simp; omega) ?_;rw [show L[(0 : Int).toNat]'(by simp; omega) = L[0] from rfl];conv=>whnf
  refine am hL0 ?_;conv=>whnf
  refine am (beq_eq_false_iff_ne.2 (by omega)) ?_
  (conv=>whnf); (repeat ((with_reducible refine ac ?_ ?_); exact decide_eq_true (by omega); (conv=>whnf)))
  refine aa (show ((A.length + (s :: ms).length : Nat) : Int).toNat < P.length by omega) ?_;rw [show P[((A.length + (s :: ms).length : Nat) : Int).toNat]'(by omega) = L from hlast];conv=>whnf
  refine lY L (by omega) ?_;conv=>whnf
  refine hRL ?_;conv=>whnf
  rw [al (by omega)];refine iy ?_;conv=>whnf
  refine hPut ?_;conv=>whnf
  refine ac (decide_eq_true (by omega)) ?_;conv=>whnf
  refine ac (decide_eq_true (by omega)) ?_;conv=>whnf
  refine (show ag Tryz.prog 217 [.sl none 1 (ce Y), .sl none 1 (List.drop A.length (List.take (A.length + (s :: ms).length + 1) (ce P))), .fn (.func 218) [] []] [] _ from ?_);rw [eSl];refine kR Y (by omega) ?_;conv=>whnf
  refine hPut ?_;conv=>whnf
  exact h
theorem LO (r : Rc) (hm : aR 3 r = true) (t : List B) (ht0 : t ≠ []) (htn : t.Nodup) (htl : t.length < 80000) (A Q : List B) (hA : A.length < 100000) (hQ : Q.length < 100000) {R} (h : R (.tup [.agg r.enc, vi ((A.length + (bw 3 t r).length : Nat) : Int), vi 0]) [bN 1 2 (bz 3 t r), bM (bz 3 t r), bL (bz 3 t r)]) :
  ag Tryz.prog 166 [vi 3, .ptr 0 0, .sl none 1 (ce (A ++ bw 3 t r ++ Q)), vi (A.length : Int)] [bN 1 2 t, bM t, bL t] R := by
 have hM := aQ hm;have hd16 := hM.deps;refine ab (an := qn) tab_ok Tryz.func166 ?_;have hTl := fB 3 t r;obtain ⟨ms, hms⟩ : ∃ ms, ms = cI t (bg r) := ⟨_, rfl⟩;have hY : bw 3 t r = ms.map bu ++ [bS 3 (bz 3 t r) r] := by rw [hms]; simp [bw, fY]
 have hml : ms.length ≤ 18 := by
  rw [hms];have := lQ (bg r) t;have := dw r;omega
 have hfin : ms.foldl cQ t = bz 3 t r := by rw [hms, kI, fK (by decide)]
 have hT1 := co (v := 3) (by decide) t r (x := r.target) (by simp [bK]);have hT2 : ∀ d ∈ r.deps, d.name ∈ bz 3 t r := fun d hd => co (by decide) t r (List.mem_cons_of_mem _ (List.mem_append_left _ (List.mem_map_of_mem hd)));have hT3 : r.tag ≠ [] → r.tag ∈ bz 3 t r := fun e => co (by decide) t r (by simp [bK, e]);have hLl := gh (v := 3) (t := bz 3 t r) hM (by omega);obtain ⟨L, hLe⟩ : ∃ L, L = bS 3 (bz 3 t r) r := ⟨_, rfl⟩;rw [← hLe] at hLl hY;have hLne : 0 < L.length := hLl.1;have hL0 : (((L[0]).toNat : Int) == 0) = false := by
  have : L[0] = 1 ∨ L[0] = 2 := by
   subst hLe;unfold bS;split <;> simp
  rcases this with e | e <;> rw [e] <;> rfl
 have hLb := aM L;have hYl : (bw 3 t r).length = ms.length + 1 := by rw [hY]; simp
 have hPl : (A ++ bw 3 t r ++ Q).length = A.length + ms.length + 1 + Q.length := by simp [hYl]; omega
 have hel : ∀ (i : Nat) (hi : i < ms.length) (hj : A.length + i < (A ++ bw 3 t r ++ Q).length), (A ++ bw 3 t r ++ Q)[A.length + i] = bu ms[i] := fun i hi hj => by
  rw [List.getElem_append_left (by simp [hYl]; omega), List.getElem_append_right (by omega), List.getElem_of_eq hY, List.getElem_append_left (by simp; omega)];simp
 have hlast : ∀ (hj : A.length + ms.length < (A ++ bw 3 t r ++ Q).length), (A ++ bw 3 t r ++ Q)[A.length + ms.length] = L := fun hj => by
  rw [List.getElem_append_left (by simp [hYl]), List.getElem_append_right (by omega), List.getElem_of_eq hY, List.getElem_append_right (by simp)];simp
 have eSl : List.drop A.length (List.take (A.length + ms.length + 1) (ce (A ++ bw 3 t r ++ Q))) = ce (bw 3 t r) := by
  rw [b8, b8, List.take_append_of_le_length (by simp [aP, hYl]; omega), List.take_of_length_le (by simp [aP, hYl]; omega), List.drop_append_of_le_length (by rw [aP]; exact Nat.le_refl _), List.drop_of_length_le (by rw [aP]; exact Nat.le_refl _), List.nil_append]
 have hPut := @F4 r t (by omega) hm;rw [hYl] at h;generalize hYe : bw 3 t r = Y at hY hYl hel hlast eSl hPl hPut ⊢;generalize A ++ Y ++ Q = P at hel hlast eSl hPl ⊢;have hlast := hlast (by omega);have hrl := aP P;generalize bz 3 t r = U at h hTl hT1 hT2 hT3 hLe hfin hPut;have hRL := @Gc r U hM (by omega) hT1 hT2 hT3;rw [← hLe] at hRL;clear hms hY hYe;conv=>whnf
 refine tQ ?_;conv=>whnf
 refine am (decide_eq_false (by omega)) ?_;conv=>whnf
 refine jo t ht0 htn (by omega) ?_;conv=>whnf
 refine au.ind2 (fun (i : Nat) (T : List B) => [(9, vi ((A.length + i : Nat) : Int))]) (fun i T => [(0, bN 1 2 t), (1, bM t), (2, bL t), (ak 8, rO 0 [] 0 (.val (.slice none 0 0)) 0 0 []), (ax 34 0, bN (ax 34 1) (ax 34 2) T), (ax 34 1, bM T), (ax 34 2, bL T)]) (fun i _ => ms.length - i) (fun i T => i ≤ ms.length ∧ T.length ≤ t.length + i ∧ T = (ms.take i).foldl cQ t) 0 t rfl ⟨by omega, by omega, by simp⟩ ?_;rintro i T ⟨h0, hT, hTe⟩ IH;conv=>whnf
 by_cases hc : i < ms.length
 ·have hp := hel i hc (by omega);have IH0 := IH (i + 1);clear IH;have hTs : cQ T ms[i] = (ms.take (i + 1)).foldl cQ t := by
   rw [List.take_succ_eq_append_getElem hc, List.foldl_append, ← hTe];rfl
  generalize ms[i] = s at hp hTs;obtain ⟨ns, n1, n2⟩ := gV s;have hbl : (ai (bu s)).length = s.length + 1 := by rw [aM]; rfl
  refine aI (decide_eq_true (by omega)) ?_
  (conv=>whnf); (repeat ((with_reducible refine ac ?_ ?_); exact decide_eq_true (by omega); (conv=>whnf)))
  refine aa (show (((A.length + i : Nat) : Int) : Int).toNat < P.length by omega) ?_;rw [show P[(((A.length + i : Nat) : Int) : Int).toNat]'(by omega) = bu s from hp];conv=>whnf
  refine aI (decide_eq_true (by omega)) ?_
  (conv=>whnf); (repeat ((with_reducible refine ac ?_ ?_); exact decide_eq_true (by omega); (conv=>whnf)))
  refine aa (show (((A.length + i : Nat) : Int) : Int).toNat < P.length by omega) ?_;rw [show P[(((A.length + i : Nat) : Int) : Int).toNat]'(by omega) = bu s from hp]
  (conv=>whnf); (repeat ((with_reducible refine ac ?_ ?_); exact decide_eq_true (by omega); (conv=>whnf)))
  refine aa (show (((A.length + i : Nat) : Int) : Int).toNat < P.length by omega) ?_;rw [show P[(((A.length + i : Nat) : Int) : Int).toNat]'(by omega) = bu s from hp]
  (conv=>whnf); (repeat ((with_reducible refine ac ?_ ?_); exact decide_eq_true (by omega); (conv=>whnf)))
  refine ⟨ns, (by rw [kS]; exact n1), ?_⟩;rw [n2];conv=>whnf
  by_cases hs : s ∈ T
  ·have IH := IH0 T ⟨by omega, by omega, by rw [← hTs, dQ hs]⟩ (by omega);refine j8 T s hs fun j => ?_;conv=>whnf
   rw [al (by omega)];exact IH
  ·have IH := IH0 (T ++ [s]) ⟨by omega, by rw [List.length_append]; simp only [List.length_cons, List.length_nil]; omega, by rw [← hTs, dz hs]⟩ (by omega);refine gZ T s (by omega) hs fun j => ?_;conv=>whnf
   rw [al (by omega)];exact IH
 ·have hi : i = ms.length := by omega
  subst hi;rw [List.take_length, hfin] at hTe;subst hTe;clear IH;refine aI (decide_eq_true (by omega)) ?_
  (conv=>whnf); (repeat ((with_reducible refine ac ?_ ?_); exact decide_eq_true (by omega); (conv=>whnf)))
  refine aa (show ((A.length + ms.length : Nat) : Int).toNat < P.length by omega) ?_;rw [show P[((A.length + ms.length : Nat) : Int).toNat]'(by omega) = L from hlast];conv=>whnf
  refine aI (decide_eq_true (by omega)) ?_
  (conv=>whnf); (repeat ((with_reducible refine ac ?_ ?_); exact decide_eq_true (by omega); (conv=>whnf)))
  refine aa (show ((A.length + ms.length : Nat) : Int).toNat < P.length by omega) ?_;rw [show P[((A.length + ms.length : Nat) : Int).toNat]'(by omega) = L from hlast]
  (conv=>whnf); (repeat ((with_reducible refine ac ?_ ?_); exact decide_eq_true (by omega); (conv=>whnf)))
  refine aa (show (0 : Int).toNat < L.length by simp; omega) ?_;rw [show L[(0 : Int).toNat]'(by simp; omega) = L[0] from rfl];conv=>whnf
  refine am hL0 ?_;conv=>whnf
  refine am (beq_eq_false_iff_ne.2 (by omega)) ?_
  (conv=>whnf); (repeat ((with_reducible refine ac ?_ ?_); exact decide_eq_true (by omega); (conv=>whnf)))
  refine aa (show ((A.length + ms.length : Nat) : Int).toNat < P.length by omega) ?_;rw [show P[((A.length + ms.length : Nat) : Int).toNat]'(by omega) = L from hlast];conv=>whnf
  refine lY L (by omega) ?_;conv=>whnf
  refine hRL ?_;conv=>whnf
  rw [al (by omega)];refine jo t ht0 htn (by omega) ?_;conv=>whnf
  refine hPut ?_;conv=>whnf
  refine ac (decide_eq_true (by omega)) ?_;conv=>whnf
  refine ac (decide_eq_true (by omega)) ?_;conv=>whnf
  refine (show ag Tryz.prog 217 [.sl none 1 (ce Y), .sl none 1 (List.drop A.length (List.take (A.length + ms.length + 1) (ce P))), .fn (.func 218) [] []] [] _ from ?_);rw [eSl];refine kR Y (by omega) ?_;conv=>whnf
  refine hPut ?_;conv=>whnf
  exact h
end Go.Abs
end
section
namespace Go.Abs
open Go Go.Proofs
attribute [local irreducible] aH aE aO firstIdx
theorem xg (p : B) (n k : Nat) (hn : n < 18446744073709551616) (hk : k < (vrn n).length) (hl : p.length < 100000000) {R} (h : R (.tup [.val (.int .u64 0), vi 0, vi 2]) []) :
  ag Tryz.prog 267 [.sl none 1 (ai (p ++ (vrn n).take k)), vi (p.length : Int)] [] R := by
 refine ab (an := Nw) tab_ok Tryz.func267 ?_;have hv := cv hn;have hp := jD n;have hat := zp n;have hbl : (ai (p ++ (vrn n).take k)).length = p.length + k := by rw [aM, List.length_append, List.length_take]; omega
 conv=>whnf
 refine ae (fun g => ?_) (fun g => ?_)
 ·exfalso;have g := of_decide_eq_true g;rw [hbl] at g;omega
 conv=>whnf
 refine au.ind1 (fun (i : Nat) => [(4, .val (.int .u64 ((n % 128 ^ i : Nat) : Int))), (17, vi i)]) (fun _ => []) (fun i => 10 - i) (fun i => i ≤ k) 0 (by simp [Nat.mod_one]; rfl) (by omega) ?_;rintro i h0 IH;have h0' : i < (vrn n).length := by omega
 have hb := (vrn n)[i].toNat_lt;obtain ⟨a1, a2, a3⟩ := hat i h0';have e1 : IntKind.i64.wrap ((p.length : Int) + (i : Int)) = ((p.length + i : Nat) : Int) := by rw [aK (by omega) (by omega)]; omega
 have e7 : IntKind.i64.wrap (7 * (i : Int)) = ((7 * i : Nat) : Int) := by rw [aK (by omega) (by omega)]; omega
 conv=>whnf
 refine ae (fun g2 => ?_) (fun g2 => ?_)
 ·conv=>whnf
  refine ae (fun g3 => ?_) (fun g3 => ?_)
  ·conv=>whnf
   exact h
  have hik : i < k := by
   rw [e1, hbl] at g3;have g3 := of_decide_eq_false g3;omega
  have hget : (ai (p ++ (vrn n).take k))[p.length + i]? = some [.val (.int .u8 ((vrn n)[i].toNat : Int))] := by
   unfold ai;rw [List.getElem?_map, List.getElem?_append_right (by omega), Nat.add_sub_cancel_left, List.getElem?_take_of_lt hik, List.getElem?_eq_getElem h0'];rfl
  conv=>whnf
  refine ac (decide_eq_true (by rw [e1]; omega)) ?_;rw [e1];refine gN.2 ⟨_, hget, ?_⟩;have hlow := DF hb;rw [if_pos (show i + 1 < (vrn n).length by omega)] at a1;have hnx := IH (i + 1) (by omega) (by omega);generalize hx : (vrn n)[i].toNat = x at a1 hb hlow hget ⊢;conv=>whnf
  refine ae (fun g4 => ?_) (fun g4 => ?_)
  ·exfalso;have g4 : i = 9 := by have := beq_iff_eq.1 g4; omega
   omega
  ·conv=>whnf
   refine ae (fun g6 => ?_) (fun g6 => ?_)
   ·have g6 := of_decide_eq_true g6;conv=>whnf
    refine ae (fun g7 => ?_) (fun g7 => ?_)
    ·exfalso;have g7 := beq_iff_eq.1 g7;omega
    conv=>whnf
    refine ac (decide_eq_true (by rw [e7]; omega)) ?_;conv=>whnf
    refine am (decide_eq_false (by rw [a1]; omega)) ?_;conv=>whnf
    rw [vor hn (by omega) hb (by rw [a1]; omega), aK (by omega) (by omega), show (i : Int) + 1 = ((i + 1 : Nat) : Int) by omega];exact hnx
   ·conv=>whnf
    refine ac (decide_eq_true (by rw [e7]; omega)) ?_;conv=>whnf
    refine am (decide_eq_false (by rw [a1]; omega)) ?_;conv=>whnf
    rw [vor hn (by omega) hb (by rw [a1]; omega), aK (by omega) (by omega), show (i : Int) + 1 = ((i + 1 : Nat) : Int) by omega];exact hnx
 ·exfalso;have g2 := of_decide_eq_false g2;omega
theorem xS (p s : B) (most k : Nat) (hs : s.length ≤ most) (hm : most < 10000000) (hk : k < (ba s).length) (hl : p.length < 50000000) {R} (h : R (.tup [vs [], vi 0, vi 2]) []) :
  ag Tryz.prog 246 [.sl none 1 (ai (p ++ (ba s).take k)), vi (p.length : Int), vi (most : Int)] [] R := by
 refine ab (an := Nx) tab_ok Tryz.func246 ?_;have hv := cv (n := s.length) (by omega);have hbs : (ba s).length = (vrn s.length).length + s.length := by simp [ba]
 by_cases hc : k < (vrn s.length).length
 ·have eb : p ++ (ba s).take k = p ++ (vrn s.length).take k := by
   unfold ba;rw [List.take_append_of_le_length (by omega)]
  rw [eb];conv=>whnf
  refine xg p s.length k (by omega) hc (by omega) ?_;conv=>whnf
  exact h
 ·obtain ⟨j, hj⟩ : ∃ j, k = (vrn s.length).length + j := ⟨k - (vrn s.length).length, by omega⟩;have eb : p ++ (ba s).take k = p ++ vrn s.length ++ s.take j := by
   unfold ba;rw [hj, List.take_length_add_append, List.append_assoc]
  rw [eb];have hbl : (ai (p ++ vrn s.length ++ s.take j)).length = p.length + (vrn s.length).length + j := by rw [aM, List.length_append, List.length_append, List.length_take]; omega
  have em : IntKind.u64.wrap (if (most : Int) < 0 then 0 else (most : Int)) = (most : Int) := by
   rw [if_neg (by omega)];show (most : Int) % 18446744073709551616 = _;omega
  have el : IntKind.u64.wrap (IntKind.i64.wrap (((ai (p ++ vrn s.length ++ s.take j)).length : Int) - ((p.length + (vrn s.length).length : Nat) : Int))) = ((j : Nat) : Int) := by
   rw [hbl, aK (by omega) (by omega)];show _ % 18446744073709551616 = _;omega
  conv=>whnf
  refine qt p (s.take j) s.length (by omega) (by rw [List.length_take]; omega) ?_;conv=>whnf
  refine ae (fun g => ?_) (fun g => ?_)
  ·exfalso;rw [em] at g;have g := of_decide_eq_true g;omega
  conv=>whnf
  refine ae (fun g => ?_) (fun g => ?_)
  ·conv=>whnf
   exact h
  ·exfalso;rw [el] at g;have g := of_decide_eq_false g;omega
theorem xJ (p s : B) (k : Nat) (h1 : 1 ≤ s.length) (h2 : s.length ≤ 2048) (h0 : 0 < k) (hk : k < (bq s).length) (hl : p.length < 4000000) {R} (h : R (.tup [.val (.slice none 0 0), vi 0, vi 2]) []) :
  ag Tryz.prog 213 [.sl none 1 (ai (p ++ (bq s).take k)), vi (p.length : Int)] [] R := by
 refine ab (an := K1) tab_ok Tryz.func213 ?_;have hv := cv (n := s.length) (by omega);have hbs : (ba s).length = (vrn s.length).length + s.length := by simp [ba]
 have hfs : (bq s).length = (ba s).length + 4 := by simp [bq, gL, dI]
 have hbl : (ai (p ++ (bq s).take k)).length = p.length + k := by rw [aM, List.length_append, List.length_take]; omega
 conv=>whnf
 refine ae (fun g => ?_) (fun g => ?_)
 ·exfalso;have g := beq_iff_eq.1 g;rw [hbl] at g;omega
 conv=>whnf
 refine (show ag Tryz.prog 246 [.sl none 1 (ai (p ++ (bq s).take k)), vi (p.length : Int), vi ((2048 : Nat) : Int)] [] _ from ?_);by_cases hc : k < (ba s).length
 ·have eb : p ++ (bq s).take k = p ++ (ba s).take k := by
   unfold bq gL;rw [List.take_append_of_le_length (by omega)]
  rw [eb];refine xS p s 2048 k h2 (by omega) hc (by omega) ?_;conv=>whnf
  exact h
 ·obtain ⟨j, hj⟩ : ∃ j, k = (ba s).length + j := ⟨k - (ba s).length, by omega⟩;have hw4 := dI (Crc.sum (ba s)).toNat;have eb : p ++ (bq s).take k = p ++ ba s ++ (w4 (Crc.sum (ba s)).toNat).take j := by
   unfold bq gL;rw [hj, List.take_length_add_append, List.append_assoc]
  have e1 : IntKind.i64.wrap (((ai (p ++ (bq s).take k)).length : Int) - ((p.length + (ba s).length : Nat) : Int)) = ((j : Nat) : Int) := by rw [hbl, aK (by omega) (by omega)]; omega
  have hne : decide (ofB s = ofB []) = false := decide_eq_false (fun e => by have := b9 e; rw [this] at h1; simp at h1);rw [eb] at e1 ⊢;refine q9 p ((w4 (Crc.sum (ba s)).toNat).take j) s 2048 h2 (by omega) (by rw [List.length_take]; omega) ?_;conv=>whnf
  refine am hne ?_;conv=>whnf
  refine ae (fun g => ?_) (fun g => ?_)
  ·conv=>whnf
   exact h
  ·exfalso;rw [e1] at g;have g := of_decide_eq_false g;omega
def qr (t : B) : Prop := t = [] ∨ ∃ (s : B) (k : Nat), 1 ≤ s.length ∧ s.length ≤ 2048 ∧ 0 < k ∧ k < (bq s).length ∧ t = (bq s).take k
theorem wC (p : B) {t : B} (ht : qr t) (hl : p.length < 4000000) {R} (h : ∀ e : Int, e ≠ 0 → R (.tup [.val (.slice none 0 0), vi 0, vi e]) []) :
  ag Tryz.prog 213 [.sl none 1 (ai (p ++ t)), vi (p.length : Int)] [] R := by
 rcases ht with rfl | ⟨s, k, h1, h2, h3, h4, rfl⟩
 ·rw [List.append_nil];exact xI p (by omega) (h 6 (by decide))
 ·exact xJ p s k h1 h2 h3 h4 hl (h 2 (by decide))
end Go.Abs
end
section
namespace Go.Abs
open Go Go.Proofs Go.RowKit
attribute [local go_sem] Oper.semAt_some
theorem rG {G : Gh} {a : AV} {x y : Value} {v : Value} (h : Rep G (.tup [a, .val x, .val y]) v) : ∃ u, v = .tuple #[u, x, y] ∧ Rep G a u := by
 simp only [Rep, aB] at h;obtain ⟨vs, rfl, u, _, rfl, hu, _, _, rfl, rfl, _, _, rfl, rfl, rfl⟩ := h;exact ⟨u, rfl, hu⟩
set_option maxHeartbeats 4000000 in
theorem Cu (h0 : B) (l : List B) (t : B) (ht : qr t) (hok : ∀ p ∈ l, 1 ≤ p.length ∧ p.length ≤ 2048) (hl : h0.length + (ay l).length + t.length < 3500000) :
  GR Tryz.prog 212 [.cptr [.sl none 1 (ai (h0 ++ (ay l ++ t)))] 0, .ptr 0 0] [.cells 3 [vi (h0.length : Int)]] (nZ h0.length l) := by
 refine ⟨fun args w => iB (by kernel_rfl), fun G w lb hW hr lp n' J Jx hY hS hK hJ0 => ?_⟩;simp only [aB, Rep, fC] at hr;obtain ⟨_, _, rfl, ⟨bc, oc, rfl, ⟨⟨vB, hvB, hB⟩, _⟩, _⟩, _, _, rfl, ⟨b, hb, rfl⟩, rfl⟩ := hr;obtain ⟨b', vs, e1, e2, e3, e4⟩ := hW.obj 0 _ rfl;rw [hb] at e1; cases e1;simp only [aB, Rep] at e3;obtain ⟨_, _, rfl, rfl, rfl⟩ := e3;have hO : ∀ c, (∃ k, G.at k c) ↔ c = b := fun c => by
  constructor
  ·rintro ⟨k, hk⟩;have h1 : ∃ o, az (bE 0 [aF.cells 3 [vi (h0.length : Int)]]) k = some o := by
    rcases hk with h4 | ⟨u, t, h4, _⟩ <;> exact hW.dom k _ h4
   obtain ⟨o, ho⟩ := h1;rw [bX] at ho;have : k = 0 := by
    cases k with
    | zero => rfl
    | succ k => simp at ho
   subst this;rcases hk with h4 | ⟨u, t, h4, _⟩
   ·rw [hb] at h4; cases h4; rfl
   ·rw [hb] at h4; cases h4
  ·rintro rfl; exact ⟨0, .inl hb⟩
 obtain ⟨Own, hOwn⟩ : ∃ Own : Nat → Prop, Own = fun c => ∃ k, G.at k c := ⟨_, rfl⟩;rw [← hOwn] at hJ0;have hO : ∀ c, Own c ↔ c = b := by rw [hOwn]; exact hO
 clear hOwn;have hglob := hW.glob;have hlenA := pm h0.length l;rw [show FW none = Fence.wide from rfl] at hY ⊢;refine callsIn_of_wp Tryz.func212 rfl trivial ?_ rfl;simp only [Tryz.ntmps212, List.size_toArray, List.length_cons, List.length_nil, Nat.reduceAdd, Nat.reduceSub, Array.replicate_succ, Array.replicate_zero, List.push_toArray, List.append_toArray, List.nil_append, List.cons_append, Nat.add_zero]
 gi_wp2
 gi_loopw [4] (fun _ wr => ∃ (i : Nat) (K : Nat → Nat → Option Value), i ≤ l.length ∧ J i Own K wr ∧ (∀ o, K b o = none) ∧ (∀ c o v, G.K c o = some v → K c o = some v) ∧ wr.heap[b]? = some (.cells #[.int .i64 ((h0.length + (ay (l.take i)).length : Nat) : Int)] 3 (0, 0)))
  (fun _ wr => match wr.cell? ⟨b, 0, none⟩ with | some (.int _ x) => (4000000 - x).toNat | _ => 0)
 case atStart => exact ⟨0, G.K, by omega, hJ0, e4, fun _ _ _ h => h, by simpa [ay] using e2⟩
 case round =>
  obtain ⟨i, K, hi, hJi, hKb, hKG, hbx⟩ := hrel;obtain ⟨off, hoff⟩ : ∃ off : Nat, off = h0.length + (ay (l.take i)).length := ⟨_, rfl⟩;rw [← hoff] at hbx;obtain ⟨hcell, hfz⟩ := cU hbx;have hcB := hK i Own K wr hJi _ _ _ (hKG _ _ _ hvB);have hOlt : ∀ c, Own c → c < wr.heap.size := fun c hc => by
   rw [(hO c).1 hc]; exact (Array.getElem?_eq_some_iff.1 hbx).1
  have hBK : Rep ⟨K, fun _ => none⟩ (.sl none 1 (ai (h0 ++ (ay l ++ t)))) vB := by
   have h1 : Rep G (.sl none 1 (ai (h0 ++ (ay l ++ t)))) vB := by simp only [Rep]; exact hB
   exact Rep.nameless (G := G) (G' := ⟨K, fun _ => none⟩) hKG _ _ rfl h1
  have hvi : ∀ x : Int, Rep ⟨K, fun _ => none⟩ (vi x) (.int .i64 x) := fun x => by
   show Rep _ (.val (.int .i64 x)) _;simp only [Rep]
  by_cases hlt : i < l.length
  ·have hp := hok _ (List.getElem_mem hlt);have hsp : h0 ++ (ay l ++ t) = (h0 ++ ay (l.take i)) ++ bq l[i] ++ (ay (l.drop (i + 1)) ++ t) := by
    rw [mU hlt]; simp
   have hlen2 : (ay l).length = (ay (l.take i)).length + (bq l[i]).length + (ay (l.drop (i + 1))).length := by
    rw [mU hlt, List.length_append, List.length_append]
   have hget := EW (h0 ++ ay (l.take i)) (ay (l.drop (i + 1)) ++ t) l[i] hp.1 hp.2 (by simp; omega) (R := fun r os => r = .tup [.sl none 1 (ai l[i]), vi (((h0 ++ ay (l.take i)).length + (bq l[i]).length : Nat) : Int), vi 0] ∧ os = []) ⟨rfl, rfl⟩;rw [← hsp, List.length_append, ← hoff] at hget;have hxs : (nZ h0.length l)[i]? = some [.sl none 1 (ai l[i]), vi ((h0.length + (ay (l.take (i + 1))).length : Nat) : Int)] := wt hlt;have hnx : h0.length + (ay (l.take (i + 1))).length = off + (bq l[i]).length := by rw [sb hlt, hoff]; omega
   rw [hnx] at hxs;obtain ⟨nx, hnxe⟩ : ∃ nx : Nat, nx = off + (bq l[i]).length := ⟨_, rfl⟩;rw [← hnxe] at hget hxs hnx;have hcalm := fun m => hget.calm (K := K) (W := wr) (vals := [vB, .int .i64 (off : Int)]) (hK i Own K wr hJi) (hglob.mono hKG) (by simp only [aB]; exact ⟨_, _, rfl, hBK, _, _, rfl, hvi _, rfl⟩) hOlt (A := #[vB, .int .i64 (off : Int)]) rfl m;have hflen : 5 ≤ (bq l[i]).length := by simp [bq, gL, dI, ba]; omega
   have hlt2 : off < nx ∧ nx < 4000000 := by omega
   clear hget hsp hoff hnxe hlen2 hflen hvi hBK hB
   gi_wp2
   refine ⟨trivial, fun h => by simp [Fence.wide] at h, (hcalm _).mono ?_⟩;rintro e W1 ⟨v, r, os', G', rfl, ⟨rfl, rfl⟩, hRep, hKn, hst, hbl⟩;obtain ⟨vp, rfl, hvp⟩ := rG hRep;have hbW : b < wr.heap.size := hOlt b ((hO b).2 rfl);have hJ1 := hS i Own K wr Own G'.K W1 hJi hst;have hbx1 := (hbl b hbW).1.trans hbx;have hKb1 : ∀ o, G'.K b o = none := fun o => ((hbl b hbW).2 o).trans (hKb o);have hKG1 : ∀ c o v, G.K c o = some v → G'.K c o = some v := fun c o v h => hst.more _ _ _ (hKG c o v h);obtain ⟨hcell1, hfz1⟩ := cU hbx1;have hwr := hcell;clear hcalm hRep hcell hfz hcB;obtain ⟨fn, tmps, assign, body, hy, hR⟩ := hY (n' - 1) i _ #[vp, .int .i64 (nx : Int)] Own G'.K W1 hxs
    (by simp only [aB]; exact ⟨_, _, rfl, Rep.nameless (G := G') (G' := ⟨G'.K, fun _ => none⟩) (fun _ _ _ h => h) _ _ rfl hvp, _, _, rfl, (by show Rep _ (.val (.int .i64 (nx : Int))) _; simp only [Rep]), rfl⟩) hJ1
   clear hY hJi
   gi_wp2
   refine ⟨fun h => by simp [Fence.wide] at h, hR.mono ?_⟩;rintro e W3 (⟨rfl, K', hJ3, hKK, hO3, hos3, htape3, hout3, hsz3⟩ | ⟨rfl, hJx3⟩)
   ·clear hR hy;have hbx3 := (hO3 b ((hO b).2 rfl)).1.trans hbx1;obtain ⟨hcell3, hfz3⟩ := cU hbx3;have hKb3 : ∀ o, K' b o = none := fun o => by rw [(hO3 b ((hO b).2 rfl)).2 o]; exact hKb1 o
    have hst3 := ya (v' := .int .i64 (nx : Int)) hO hbx3 hKb3 (hK (i + 1) Own K' W3 hJ3);have hJ4 := hS (i + 1) Own K' W3 Own K' _ hJ3 hst3;have hbx4 := iM (.int .i64 (nx : Int)) hbx3;have hc4 := (cU hbx4).1;have hKG3 : ∀ c o v, G.K c o = some v → K' c o = some v := fun c o v h => hKK _ _ _ (hKG1 c o v h);clear hS hK hst hO3 hcell1 hfz1
    gi_wp2
    refine ⟨⟨i + 1, K', hlt, hJ4, hKb3, hKG3, by rw [hnx]; exact hbx4⟩, ?_⟩;rw [hc4, hwr];show (4000000 - (nx : Int)).toNat < (4000000 - (off : Int)).toNat;omega
   ·clear hR hy
    gi_wp2
    refine bodyPost_ret (results_none rfl _ _ _) rfl ?_;exact ⟨⟨_, rfl⟩, .inr hJx3⟩
  ·have hfin : i = l.length := by omega
   subst hfin;have hsp : h0.length + (ay l).length = off := by rw [hoff, List.take_length]
   have hget := wC (h0 ++ ay l) ht (by simp; omega) (R := fun r os => ∃ e : Int, e ≠ 0 ∧ r = .tup [.val (.slice none 0 0), vi 0, vi e] ∧ os = []) fun e he => ⟨e, he, rfl, rfl⟩;rw [List.append_assoc, List.length_append, hsp] at hget;have hcalm := fun m => hget.calm (K := K) (W := wr) (vals := [vB, .int .i64 (off : Int)]) (hK l.length Own K wr hJi) (hglob.mono hKG) (by simp only [aB]; exact ⟨_, _, rfl, hBK, _, _, rfl, hvi _, rfl⟩) hOlt (A := #[vB, .int .i64 (off : Int)]) rfl m;clear hget hsp hoff hvi hBK hB
   gi_wp2
   refine ⟨trivial, fun h => by simp [Fence.wide] at h, (hcalm _).mono ?_⟩;rintro e W1 ⟨v, r, os', G', rfl, ⟨er, her, rfl, rfl⟩, hRep, hKn, hst, hbl⟩;obtain ⟨vp, rfl, hvp⟩ := rG hRep;have hJ1 := hS l.length Own K wr Own G'.K W1 hJi hst;rw [← hlenA] at hJ1
   gi_wp2
   refine ⟨fun f h => (nomatch h), ?_⟩
   gi_wp2
   refine bodyPost_ret (results_none rfl _ _ _) rfl ?_;exact ⟨⟨_, rfl⟩, .inl ⟨Own, G'.K, hJ1⟩⟩
end Go.Abs
end
section
namespace Go.Abs
open Go Go.Proofs Go.RowKit Go.Lib Dig
attribute [local irreducible] aH aE aO firstIdx
theorem vx {K : Nat → Nat → Option Value} {ob : Nm → Option GO} {g : Nat} : ∀ (ss : B) (i : Nat), (∀ j c, ss[j]? = some c → K g (i + j) = some (.int .u8 (c.toNat : Int))) → eh ⟨K, ob⟩ 1 (some ⟨g, 0, none⟩) i (ai ss)
 | [], _, _ => trivial
 | s :: ss, i, h => by
  refine ⟨⟨g, 0, rfl, rfl, rfl, ⟨_, by have := h 0 s rfl; simpa using this, rfl⟩, trivial⟩, vx ss (i + 1) fun j s' hs => ?_⟩;have := h (j + 1) s' (by simpa using hs);rw [show i + 1 + j = i + (j + 1) by omega];exact this
structure NO (w w' : World) (c : UInt8) (b cap : Nat) : Prop where
 os : w'.os = w.os
 tape : w'.tape = w.tape
 output : w'.output = w.output
 size : w.heap.size ≤ b
 lt : b < w'.heap.size
 old : ∀ k, k < w.heap.size → w'.heap[k]? = w.heap[k]?
 cells : ∀ (j : Nat) (x : UInt8), [84, 80, 72, c][j]? = some x → w'.cell? ⟨b, j, none⟩ = some (.int .u8 (x.toNat : Int))
 cap : 4 ≤ cap
theorem th (w : World) (c : UInt8) (x : Int) (hx : x = (c.toNat : Int)) (i0 : TypeInfo) (hi : Tryz.prog.info? 5 = some i0) (hz0 : i0.zero = some (.int .u8 0)) (hz1 : i0.size = 1) (hz2 : i0.bytes = 1) :
  ∃ w2 w4 cap, (convert 77 77 (.slice (some ⟨w.heap.size, 0, none⟩) 3 3)).run Tryz.prog (w.alloc (.cells #[.int .u8 84, .int .u8 80, .int .u8 72] 5)) = .ok (.slice (some ⟨w.heap.size, 0, none⟩) 3 3) w2 ∧ w2.heap.size = w.heap.size + 1 ∧
   (∀ ty, (Builtin.append_ #[77, 77] ty #[.slice (some ⟨w.heap.size, 0, none⟩) 3 3, .slice (some ⟨w.heap.size + 1, 0, none⟩) 1 1]).run Tryz.prog (w2.alloc (.cells #[.int .u8 x] 5)) = .ok (.slice (some ⟨w.heap.size + 2, 0, none⟩) 4 cap) w4) ∧ NO w w4 c (w.heap.size + 2) cap := by
 subst hx;have hsh : (w.alloc (.cells #[.int .u8 84, .int .u8 80, .int .u8 72] 5)).shape? w.heap.size = some (5, 3) := by
  unfold World.shape?;rw [heap_alloc_new];rfl
 have hc : (convert 77 77 (.slice (some ⟨w.heap.size, 0, none⟩) 3 3)).run Tryz.prog (w.alloc (.cells #[.int .u8 84, .int .u8 80, .int .u8 72] 5)) = .ok (.slice (some ⟨w.heap.size, 0, none⟩) 3 3) ((w.alloc (.cells #[.int .u8 84, .int .u8 80, .int .u8 72] 5)).freeze ⟨w.heap.size, 3, none⟩ 1) := by
  simp [convert, run_underlying (Tryz.underlying77), run_underlying (Tryz.underlying5), markStringish, hsh]
 generalize hw1 : w.alloc (.cells #[.int .u8 84, .int .u8 80, .int .u8 72] 5) = w1 at hc;have hs1 : w1.heap.size = w.heap.size + 1 := by rw [← hw1]; simp
 have h1b : w1.heap[w.heap.size]? = some (.cells #[.int .u8 84, .int .u8 80, .int .u8 72] 5 (0, 0)) := by rw [← hw1]; exact heap_alloc_new w _
 have h1o : ∀ k, k < w.heap.size → w1.heap[k]? = w.heap[k]? := fun k hk => by rw [← hw1]; exact heap_alloc_old w _ hk
 have e1 : w1.os = w.os ∧ w1.tape = w.tape ∧ w1.output = w.output := by rw [← hw1]; exact ⟨rfl, rfl, rfl⟩
 generalize hw2 : w1.freeze ⟨w.heap.size, 3, none⟩ 1 = w2 at hc;have hs2 : w2.heap.size = w.heap.size + 1 := by rw [← hw2, ← hs1]; unfold World.freeze; split <;> simp
 have h2o : ∀ b, b ≠ w.heap.size → w2.heap[b]? = w1.heap[b]? := fun b hb => by
  rw [← hw2];unfold World.freeze;split
  ·rfl
  ·simp [Array.getElem?_modify, Ne.symm hb]
 have h2b : ∃ fz, w2.heap[w.heap.size]? = some (.cells #[.int .u8 84, .int .u8 80, .int .u8 72] 5 fz) := by
  rw [← hw2];unfold World.freeze;split
  ·exact ⟨_, h1b⟩
  ·exact ⟨_, by simp [Array.getElem?_modify, h1b]; rfl⟩
 have e2 : w2.os = w1.os ∧ w2.tape = w1.tape ∧ w2.output = w1.output := by
  rw [← hw2];refine ⟨?_, ?_, ?_⟩ <;> (unfold World.freeze; split <;> rfl)
 obtain ⟨fz, h2b⟩ := h2b;generalize hw3 : w2.alloc (.cells #[.int .u8 (c.toNat : Int)] 5) = w3;have hs3 : w3.heap.size = w.heap.size + 2 := by rw [← hw3]; simp; omega
 have h3b : w3.heap[w2.heap.size]? = some (.cells #[.int .u8 (c.toNat : Int)] 5 (0, 0)) := by rw [← hw3]; exact heap_alloc_new w2 _
 have h3o : ∀ k, k < w2.heap.size → w3.heap[k]? = w2.heap[k]? := fun k hk => by rw [← hw3]; exact heap_alloc_old w2 _ hk
 have e3 : w3.os = w2.os ∧ w3.tape = w2.tape ∧ w3.output = w2.output := by rw [← hw3]; exact ⟨rfl, rfl, rfl⟩
 have h3a : w3.heap[w.heap.size]? = some (.cells #[.int .u8 84, .int .u8 80, .int .u8 72] 5 fz) := (h3o _ (by omega)).trans h2b;have hap := fun ty => run_append_grow (P := Tryz.prog) w3 77 ty 5 i0 (.int .u8 0) Tryz.underlying77 hi hz0 ⟨w.heap.size, 0, none⟩ 3 3 [.int .u8 84, .int .u8 80, .int .u8 72] (by rw [hz1]; rfl)
  (fun j v hj => by
   rw [c7, Nat.zero_add];rw [Lib.cell_of_heap h3a];simpa using hj) ⟨w2.heap.size, 0, none⟩ 1 1 [.int .u8 (c.toNat : Int)] (by rw [hz1]; rfl)
  (fun j v hj => by
   rw [c7, Nat.zero_add];rw [Lib.cell_of_heap h3b];simpa using hj) (by omega) (by decide) (by rw [hz2]; decide)
 have hb2 : w.heap.size + 2 = w3.heap.size := by omega
 rw [hs2] at hap;refine ⟨w2, _, _, hc, hs2, fun ty => by rw [hw3, hb2]; exact hap ty, ?_⟩;have hge := grownCap_ge w3 (3 + 1) 3 5;rw [hb2];refine ⟨e3.1.trans (e2.1.trans e1.1), e3.2.1.trans (e2.2.1.trans e1.2.1), e3.2.2.trans (e2.2.2.trans e1.2.2), by omega, by simp, fun k hk => ?_, fun j x hj => ?_, hge⟩
 ·rw [heap_alloc_old w3.drew _ (show k < w3.drew.heap.size from by show k < w3.heap.size; omega)];show w3.heap[k]? = _;rw [h3o k (by omega), h2o k (by omega), h1o k hk]
 ·have hn := heap_alloc_new w3.drew (.cells ([Value.int .u8 84, .int .u8 80, .int .u8 72].toArray ++ [Value.int .u8 (c.toNat : Int)].toArray ++ Builtin.zeroCells (Value.int .u8 0).cells (grownCap w3 (3 + 1) 3 5 - (3 + 1))) 5);rw [show w3.heap.size = w3.drew.heap.size from rfl, Lib.cell_of_heap hn];have hj4 : j < 4 := by
   have := (List.getElem?_eq_some_iff.1 hj).1;simpa using this
  rw [Array.getElem?_append_left (by simp; omega)];rcases j with _ | _ | _ | _ | j
  ·simp at hj; subst hj; rfl
  ·simp at hj; subst hj; rfl
  ·simp at hj; subst hj; rfl
  ·simp at hj; subst hj; rfl
  ·omega
theorem wn (G : Gh) (w w4 : World) (v : UInt8) (cap : Nat) (hW : WR G (bE 0 []) w) (hH : NO w w4 v (w.heap.size + 2) cap) :
  Calls Tryz.prog 155 #[.slice (some ⟨w.heap.size + 2, 0, none⟩) 4 cap] w4 fun e w' => ∃ (u : Value) (G' : Gh), e = .returned u ∧ Rep G' (.sl none 1 (ai (gL [84, 80, 72, v]))) u ∧ Inv (Ax G w) ⟨[], bE 0 []⟩ G' { tmps := #[], defers := [] } w' := by
 have hI := JX hW;obtain ⟨K', hK'⟩ : ∃ K' : Nat → Nat → Option Value, K' = fun b o => if b = w.heap.size + 2 then ([84, 80, 72, v][o]?).map (fun c : UInt8 => Value.int .u8 (c.toNat : Int)) else G.K b o := ⟨_, rfl⟩
 obtain ⟨hI2, hle⟩ := hI.grow (w' := w4) (K' := K') hH.os hH.tape hH.output (by have := hH.size; have := hH.lt; omega) hH.old (fun b o hb => by rw [hK']; simp only; rw [if_neg (by omega)])
  (fun b o u hb e => by
   rw [hK'] at e;simp only at e;split at e
   ·rename_i hb2;subst hb2
    cases hc : ([84, 80, 72, v] : List UInt8)[o]? with
    | none => rw [hc] at e; cases e
    | some c =>
     rw [hc] at e;have := hH.cells o c hc;rw [this];simpa using e
   ·have := hI.wr.kltb e;omega)
 have hRep : Rep ⟨K', fun _ => none⟩ (.sl none 1 (ai [84, 80, 72, v])) (.slice (some ⟨w.heap.size + 2, 0, none⟩) 4 cap) := by
  simp only [Rep];exact ⟨⟨_, _, rfl, hH.cap, vx [84, 80, 72, v] 0 fun j c hj => by rw [hK']; simp [hj]⟩, trivial⟩
 have hs := (rD [84, 80, 72, v] (by simp) (R := fun r os => r = .sl none 1 (ai (gL [84, 80, 72, v])) ∧ os = []) ⟨rfl, rfl⟩).calm (K := K') (W := w4) (vals := [.slice (some ⟨w.heap.size + 2, 0, none⟩) 4 cap]) hI2.wr.know hI2.wr.glob (by simp only [aB]; exact ⟨_, _, rfl, hRep, rfl⟩) (Own := fun _ => False) (fun b h => h.elim) (A := #[.slice (some ⟨w.heap.size + 2, 0, none⟩) 4 cap]) rfl 1;refine (callsIn_wide.1 hs).mono ?_;rintro e W' ⟨u, r, os', G', rfl, ⟨rfl, rfl⟩, hu, hKn, hst, hbl⟩;obtain ⟨hI3, hle3⟩ := hI2.grow (w' := W') (K' := G'.K) hst.os hst.tape hst.output hst.size (fun b hb => (hbl b hb).1) (fun b o hb => (hbl b hb).2 o) (fun b o u _ e => hKn b o u e);exact ⟨u, ⟨G'.K, G.ob⟩, rfl, Rep.nameless (G := G') (fun _ _ _ h => h) _ _ rfl hu, hI3⟩
theorem Ib (G : Gh) (w : World) (v : Nat) (hv : v = 1 ∨ v = 2 ∨ v = 3) (hW : WR G (bE 0 []) w) :
  Calls Tryz.prog 115 #[.int .i64 (v : Int)] w fun e w' => ∃ (u : Value) (G' : Gh), e = .returned (.tuple #[u, .int .i64 0]) ∧ Rep G' (.sl none 1 (ai (dL v))) u ∧ Inv (Ax G w) ⟨[], bE 0 []⟩ G' { tmps := #[], defers := [] } w' := by
 have mixed := rS;obtain ⟨i0, hi, hz0, hz1, hz2⟩ := info_parts FY;rcases hv with rfl | rfl | rfl
 ·obtain ⟨w2, w4, cap, hcv, hs2, hap, hH⟩ := th w 1 1 rfl i0 hi hz0 hz1 hz2;have hseal := wn G w w4 1 cap hW hH
  go_enter Tryz.func115, Tryz.ntmps115
  go_wp2_with (first | (go_at_call 155; refine hseal.mono ?_; rintro e W' ⟨u, G', rfl, hu, hI⟩) | (at_builtin; refine Lib.wpList_append_run _ rfl _ _ _ _ rfl _ _ rfl rfl _ _ (hap _) ?_) | go_in)
  go_ret2
  exact ⟨u, G', rfl, hu, hI⟩
 ·obtain ⟨w2, w4, cap, hcv, hs2, hap, hH⟩ := th w 2 2 rfl i0 hi hz0 hz1 hz2;have hseal := wn G w w4 2 cap hW hH
  go_enter Tryz.func115, Tryz.ntmps115
  go_wp2_with (first | (go_at_call 155; refine hseal.mono ?_; rintro e W' ⟨u, G', rfl, hu, hI⟩) | (at_builtin; refine Lib.wpList_append_run _ rfl _ _ _ _ rfl _ _ rfl rfl _ _ (hap _) ?_) | go_in)
  go_ret2
  exact ⟨u, G', rfl, hu, hI⟩
 ·obtain ⟨w2, w4, cap, hcv, hs2, hap, hH⟩ := th w 3 3 rfl i0 hi hz0 hz1 hz2;have hseal := wn G w w4 3 cap hW hH
  go_enter Tryz.func115, Tryz.ntmps115
  go_wp2_with (first | (go_at_call 155; refine hseal.mono ?_; rintro e W' ⟨u, G', rfl, hu, hI⟩) | (at_builtin; refine Lib.wpList_append_run _ rfl _ _ _ _ rfl _ _ rfl rfl _ _ (hap _) ?_) | go_in)
  go_ret2
  exact ⟨u, G', rfl, hu, hI⟩
theorem rj (v : Nat) (hv : v = 1 ∨ v = 2 ∨ v = 3) {R} (h : R (.tup [.sl none 1 (ai (dL v)), vi 0]) []) : ag Tryz.prog 115 [vi (v : Int)] [] R := by
 refine B1 fun G w vals hW hA => ?_;have hA : ∃ a l, vals = a :: l ∧ a = .int .i64 (v : Int) ∧ l = [] := by simpa only [aB, Rep, vi] using hA
 obtain ⟨_, _, rfl, rfl, rfl⟩ := hA;refine (Ib G w v hv hW).mono ?_;rintro e w' ⟨u, G', rfl, hu, hI⟩;exact ⟨_, _, [], G', rfl, h, (by simp only [Rep, aB]; exact ⟨[u, .int .i64 0], rfl, u, _, rfl, (by simpa only [Rep] using hu), _, _, rfl, rfl, rfl⟩), hI, (by intro i o ho; cases ho), by simp [AV.names, cL, vi]⟩
theorem n0 (v : Int) {R} (h : ∀ p, p = (decide (1 ≤ v) && decide (v ≤ 3)) → R (.val (.bool p)) []) : ag Tryz.prog 154 [vi v] [] R := by
 refine ab (an := Sq) tab_ok Tryz.func154 ?_;conv=>whnf
 refine ae (fun g => ?_) (fun g => ?_)
 ·have g : 1 ≤ v := by have g := of_decide_eq_true g; omega
  conv=>whnf
  exact h _ (by rw [decide_eq_true g, Bool.true_and])
 ·have g : ¬ 1 ≤ v := by have g := of_decide_eq_false g; omega
  conv=>whnf
  exact h _ (by rw [decide_eq_false g, Bool.false_and])
end Go.Abs
end
section
namespace Go.Abs
open Go Go.Proofs Dig
attribute [local irreducible] aH aE aO firstIdx
theorem eV (v : Int) : (dL v).length = 8 := rfl
theorem IX (q : B) (hq : q.length < 3500000) {R} (h : R (.tup [vi 1, vi 0]) []) : ag Tryz.prog 122 [.sl none 1 (ai (dL 1 ++ q))] [] R := by
 have hbl : (ai (dL 1 ++ q)).length = 8 + q.length := by rw [aM, List.length_append, eV]
 refine ab (an := La) tab_ok Tryz.func122 ?_;obtain ⟨ns, n1, n2⟩ := gV [84, 80, 72];conv=>whnf
 refine ac (decide_eq_true (by rw [hbl]; omega)) ?_;conv=>whnf
 refine ⟨ns, n1, ?_⟩;rw [n2];conv=>whnf
 refine mh _ q (by simp [iX]; omega) ?_;conv=>whnf
 refine n0 _ fun p hp => ?_;have hp : p = true := hp;subst hp;conv=>whnf
 exact h
theorem IW (q : B) (hq : q.length < 3500000) {R} (h : R (.tup [vi 2, vi 0]) []) : ag Tryz.prog 122 [.sl none 1 (ai (dL 2 ++ q))] [] R := by
 have hbl : (ai (dL 2 ++ q)).length = 8 + q.length := by rw [aM, List.length_append, eV]
 refine ab (an := La) tab_ok Tryz.func122 ?_;obtain ⟨ns, n1, n2⟩ := gV [84, 80, 72];conv=>whnf
 refine ac (decide_eq_true (by rw [hbl]; omega)) ?_;conv=>whnf
 refine ⟨ns, n1, ?_⟩;rw [n2];conv=>whnf
 refine mh _ q (by simp [iX]; omega) ?_;conv=>whnf
 refine n0 _ fun p hp => ?_;have hp : p = true := hp;subst hp;conv=>whnf
 exact h
theorem IV (q : B) (hq : q.length < 3500000) {R} (h : R (.tup [vi 3, vi 0]) []) : ag Tryz.prog 122 [.sl none 1 (ai (dL 3 ++ q))] [] R := by
 have hbl : (ai (dL 3 ++ q)).length = 8 + q.length := by rw [aM, List.length_append, eV]
 refine ab (an := La) tab_ok Tryz.func122 ?_;obtain ⟨ns, n1, n2⟩ := gV [84, 80, 72];conv=>whnf
 refine ac (decide_eq_true (by rw [hbl]; omega)) ?_;conv=>whnf
 refine ⟨ns, n1, ?_⟩;rw [n2];conv=>whnf
 refine mh _ q (by simp [iX]; omega) ?_;conv=>whnf
 refine n0 _ fun p hp => ?_;have hp : p = true := hp;subst hp;conv=>whnf
 exact h
theorem Ar (b : B) (n : Nat) {R} (h : R (.fn (.func 212) [] [.cptr [.sl none 1 (ai b)] 0, .ptr 0 0]) [.cells 3 [vi (n : Int)]]) : ag Tryz.prog 164 [.sl none 1 (ai b), vi (n : Int)] [] R := by
 refine ab (an := Sk) tab_ok Tryz.func164 ?_;conv=>whnf
 exact h
theorem aZ : (tab.ti 3).bytes = 8 := rfl
theorem vt {l : List B} {i : Nat} (hi : i < l.length) : ce (l.take (i + 1)) = ce (l.take i) ++ [[.sl none 1 (ai l[i])]] := by
 rw [List.take_succ_eq_append_getElem hi, b8];rfl
theorem td {l : List Nat} {i : Nat} (hi : i < l.length) : c6 (l.take (i + 1)) = c6 (l.take i) ++ [[vi (l[i] : Int)]] := by
 rw [List.take_succ_eq_append_getElem hi];unfold c6;rw [List.map_append];rfl
def rnS : List AV := [.junk, .junk, .junk, .junk, .ptr (ak 4) 0, .ptr (ak 5) 0, .junk, .junk, .junk, .junk, .junk, .junk, .junk, .junk, .junk, .junk, .junk, .junk, .junk, .junk, .junk, .junk, .junk]
theorem IZ (h0 : B) (l : List B) (t : B) (ht : qr t) (hok : ∀ p ∈ l, 1 ≤ p.length ∧ p.length ≤ 2048) (hl : h0.length + (ay l).length + t.length < 3500000) (hll : l.length < 100000) {R} (h : R (.tup [.sl none 1 (ce l), .sl none 1 (c6 (fw h0.length l))]) []) :
  ag Tryz.prog 123 [.sl none 1 (ai (h0 ++ (ay l ++ t))), vi (h0.length : Int)] [] R := by
 refine ag.res ?_;refine ab (an := SQ) tab_ok Tryz.func123 ?_;conv=>whnf
 refine Ar (h0 ++ (ay l ++ t)) h0.length ?_;conv=>whnf
 refine .inr ?_;conv=>whnf
 have hlA := pm h0.length l;have hel := eX l h0.length;refine ⟨nZ h0.length l, Cu h0 l t ht hok hl, ?_, ?_⟩
 ·intro x hx;obtain ⟨q, _, rfl⟩ := List.mem_map.1 hx;rfl
 refine ⟨fun i s => (i = 0 ∧ s = ⟨rnS, [(ak 4, .cells 183 [.val (.slice none 0 0)]), (ak 5, .cells 54 [.val (.slice none 0 0)])]⟩) ∨
  (0 < i ∧ i ≤ l.length ∧ s = ⟨rnS, [(ak 4, .cells 183 [.sl (some (ak 16)) 1 (ce (l.take i))]), (ak 5, .cells 54 [.sl (some (ak 20)) 1 (c6 ((fw h0.length l).take i))]), (ak 16, .row 77 1 i), (ak 20, .row 3 1 i)]⟩), .inl ⟨rfl, rfl⟩, ?_, ?_⟩
 ·rintro i x s hx hs;have hi : i < l.length := by
   have := (List.getElem?_eq_some_iff.1 hx).1;omega
  have hx2 := wt (o := h0.length) hi;rw [hx] at hx2
  cases hx2;have hee := pu l h0.length i hi;have hi2 : i < (fw h0.length l).length := by omega
  have hei : (fw h0.length l)[i] = h0.length + (ay (l.take (i + 1))).length := by
   rw [List.getElem?_eq_getElem hi2] at hee;exact Option.some.inj hee
  generalize h0.length + (ay (l.take (i + 1))).length = e at hei hx hee ⊢;rcases hs with ⟨rfl, rfl⟩ | ⟨h1, h2, rfl⟩
  ·have e1 : ce (l.take (0 + 1)) = [[.sl none 1 (ai l[0])]] := by rw [vt hi]; rfl
   have e2 : c6 ((fw h0.length l).take (0 + 1)) = [[vi (e : Int)]] := by rw [td hi2, hei]; rfl
   conv=>whnf
   refine ⟨?_, ?_, trivial⟩
   ·conv=>whnf
    refine ⟨?_, ?_, trivial⟩
    ·conv=>whnf
     refine ⟨by rw [cC]; simp, ?_⟩;conv=>whnf
     refine ⟨?_, trivial⟩;conv=>whnf
     refine ⟨?_, trivial⟩;conv=>whnf
     refine ⟨by rw [aZ]; simp, ?_⟩;conv=>whnf
     refine ⟨?_, trivial⟩;conv=>whnf
     refine ⟨?_, trivial⟩;conv=>whnf
     refine .inr ⟨by omega, by omega, ?_⟩;rw [e1, e2];rfl
    ·conv=>whnf
     refine ⟨?_, trivial⟩;conv=>whnf
     refine ⟨by rw [cC]; simp, ?_⟩;conv=>whnf
     refine ⟨?_, trivial⟩;conv=>whnf
     refine ⟨by rw [aZ]; simp, ?_⟩;conv=>whnf
     refine ⟨?_, trivial⟩;conv=>whnf
     refine ⟨?_, trivial⟩;conv=>whnf
     refine .inr ⟨by omega, by omega, ?_⟩;rw [e1, e2];rfl
   ·conv=>whnf
    refine ⟨?_, trivial⟩;conv=>whnf
    refine ⟨?_, trivial⟩;conv=>whnf
    refine ⟨by rw [cC]; simp, ?_⟩;conv=>whnf
    refine ⟨?_, trivial⟩;conv=>whnf
    refine ⟨by rw [aZ]; simp, ?_⟩;conv=>whnf
    refine ⟨?_, trivial⟩;conv=>whnf
    refine ⟨?_, trivial⟩;conv=>whnf
    refine .inr ⟨by omega, by omega, ?_⟩;rw [e1, e2];rfl
  ·have e1 := vt hi;have e2 := td hi2;rw [hei] at e2;have l1 : (ce (l.take i)).length = i := by rw [aP, List.length_take]; omega
   have l2 : (c6 ((fw h0.length l).take i)).length = i := by rw [cb, List.length_take]; omega
   conv=>whnf
   refine ⟨?_, ?_, trivial⟩
   ·conv=>whnf
    refine ⟨?_, ?_, trivial⟩
    ·conv=>whnf
     refine ⟨l1.symm, by rw [l1, cC]; simp; omega, ?_⟩;conv=>whnf
     refine ⟨?_, trivial⟩;conv=>whnf
     refine ⟨?_, trivial⟩;conv=>whnf
     refine ⟨l2.symm, by rw [l2, aZ]; simp; omega, ?_⟩;conv=>whnf
     refine ⟨?_, trivial⟩;conv=>whnf
     refine ⟨?_, trivial⟩;conv=>whnf
     refine .inr ⟨by omega, by omega, ?_⟩;rw [e1, e2, l1, l2];rfl
    ·conv=>whnf
     refine ⟨?_, trivial⟩;conv=>whnf
     refine ⟨l1.symm, by rw [l1, cC]; simp; omega, ?_⟩;conv=>whnf
     refine ⟨?_, trivial⟩;conv=>whnf
     refine ⟨l2.symm, by rw [l2, aZ]; simp; omega, ?_⟩;conv=>whnf
     refine ⟨?_, trivial⟩;conv=>whnf
     refine ⟨?_, trivial⟩;conv=>whnf
     refine .inr ⟨by omega, by omega, ?_⟩;rw [e1, e2, l1, l2];rfl
   ·conv=>whnf
    refine ⟨?_, trivial⟩;conv=>whnf
    refine ⟨?_, trivial⟩;conv=>whnf
    refine ⟨l1.symm, by rw [l1, cC]; simp; omega, ?_⟩;conv=>whnf
    refine ⟨?_, trivial⟩;conv=>whnf
    refine ⟨l2.symm, by rw [l2, aZ]; simp; omega, ?_⟩;conv=>whnf
    refine ⟨?_, trivial⟩;conv=>whnf
    refine ⟨?_, trivial⟩;conv=>whnf
    refine .inr ⟨by omega, by omega, ?_⟩;rw [e1, e2, l1, l2];rfl
 ·rintro s (⟨h1, rfl⟩ | ⟨h1, h2, rfl⟩)
  ·have hl0 : l = [] := List.length_eq_zero_iff.1 (by omega);subst hl0;conv=>whnf
   refine ⟨?_, ?_, trivial⟩
   ·conv=>whnf
    refine ⟨?_, ?_, trivial⟩
    ·conv=>whnf
     refine ⟨?_, trivial⟩;conv=>whnf
     refine ⟨?_, trivial⟩;conv=>whnf
     exact cf (gg (.cons (cy 1) (.cons (cy 1) .nil))) rfl h
    ·conv=>whnf
     refine ⟨?_, trivial⟩;conv=>whnf
     refine ⟨?_, trivial⟩;conv=>whnf
     exact cf (gg (.cons (cy 1) (.cons (cy 1) .nil))) rfl h
   ·conv=>whnf
    refine ⟨?_, trivial⟩;conv=>whnf
    refine ⟨?_, trivial⟩;conv=>whnf
    refine ⟨?_, trivial⟩;conv=>whnf
    exact cf (gg (.cons (cy 1) (.cons (cy 1) .nil))) rfl h
  ·rw [hlA, List.take_length, ← hel, List.take_length];conv=>whnf
   refine ⟨?_, ?_, trivial⟩
   ·conv=>whnf
    refine ⟨?_, ?_, trivial⟩
    ·conv=>whnf
     refine ⟨?_, trivial⟩;conv=>whnf
     refine ⟨?_, trivial⟩;conv=>whnf
     exact bB h
    ·conv=>whnf
     refine ⟨?_, trivial⟩;conv=>whnf
     refine ⟨?_, trivial⟩;conv=>whnf
     exact bB h
   ·conv=>whnf
    refine ⟨?_, trivial⟩;conv=>whnf
    refine ⟨?_, trivial⟩;conv=>whnf
    refine ⟨?_, trivial⟩;conv=>whnf
    exact bB h
end Go.Abs
end
section
namespace Go.Abs
open Go Go.Proofs Go.RowKit Dig
attribute [local irreducible] aH aE aO firstIdx
attribute [local go_sem] Oper.semAt_some
theorem ix {t : List B} (h : t ≠ []) : qw t = [bN 1 2 t, bM t, bL t] := by
 cases t with
 | nil => exact absurd rfl h
 | cons a l => rfl
theorem Jy (v : Int) (hv : v = 1 ∨ v = 2 ∨ v = 3) (r : Rc) (hm : aR v r = true) (t : List B) (ht1 : v = 1 → t = []) (htn : t.Nodup) (htl : t.length < 80000) (A Q : List B) (hA : A.length < 100000) (hQ : Q.length < 100000) {R} (h : R (.tup [.agg r.enc, vi ((A.length + (bw v t r).length : Nat) : Int), vi 0]) (qw (bz v t r))) :
  ag Tryz.prog 166 [vi v, .ptr 0 0, .sl none 1 (ce (A ++ bw v t r ++ Q)), vi (A.length : Int)] (qw t) R := by
 rcases hv with rfl | rfl | rfl
 ·have := ht1 rfl;subst this;rw [nC] at h;exact LS r hm A Q hA hQ h
 ·rw [ix (lm (by decide) t r)] at h;by_cases ht : t = []
  ·subst ht;exact LR r hm A Q hA hQ h
  ·rw [ix ht];exact LQ r hm t ht htn htl A Q hA hQ h
 ·rw [ix (lm (by decide) t r)] at h;by_cases ht : t = []
  ·subst ht;exact LP r hm A Q hA hQ h
  ·rw [ix ht];exact LO r hm t ht htn htl A Q hA hQ h
theorem BH (v : Int) (hv : v = 1 ∨ v = 2 ∨ v = 3) (t : List B) (ht1 : v = 1 → t = []) (htn : t.Nodup) (htl : t.length < 80000) (A ms : List B) (hms : v = 1 → ms = []) (hA : A.length < 100000) (hml : ms.length < 5000) {R} (h : R (.tup [Dv, vi 0, vi 6]) (qw t)) :
  ag Tryz.prog 166 [vi v, .ptr 0 0, .sl none 1 (ce (A ++ ms.map bu)), vi (A.length : Int)] (qw t) R := by
 rcases hv with rfl | rfl | rfl
 ·have := ht1 rfl;subst this;have := hms rfl;subst this;rw [List.map_nil, List.append_nil];exact D9 A hA h
 ·by_cases ht : t = []
  ·subst ht;exact D8 A ms hA hml h
  ·rw [ix ht] at h ⊢;exact D7 t ht htn htl A ms hA hml h
 ·by_cases ht : t = []
  ·subst ht;exact D6 A ms hA hml h
  ·rw [ix ht] at h ⊢;exact D5 t ht htn htl A ms hA hml h
def qa (v : Int) : List B → Nat → List Rc → List (List AV)
 | _, _, [] => []
 | t, o, r :: l => [.agg r.enc, vi ((o + (bw v t r).length : Nat) : Int)] :: qa v (bz v t r) (o + (bw v t r).length) l
theorem rJ (v : Int) : ∀ (l : List Rc) (t : List B) (o : Nat), (qa v t o l).length = l.length := by
 intro l
 induction l with
 | nil => intro t o; rfl
 | cons r l ih => intro t o; simp [qa, ih]
theorem vC (v : Int) : ∀ (l : List Rc) (t : List B) (o i : Nat) (h : i < l.length), (qa v t o l)[i]? = some [.agg (l[i]).enc, vi ((o + (aW v t (l.take (i + 1))).length : Nat) : Int)] := by
 intro l
 induction l with
 | nil => intro t o i h; simp at h
 | cons r l ih =>
  intro t o i h
  cases i with
  | zero => simp [qa, aW]
  | succ i =>
   simp only [qa, List.getElem?_cons_succ];rw [ih _ _ i (by simpa using h)];simp [aW, Nat.add_assoc]
def plP (v : Int) (l : List Rc) (i : Nat) : Nat := (aW v [] (l.take i)).length
def tbP (v : Int) (l : List Rc) (i : Nat) : List B := lI v [] (l.take i)
theorem ib {v : Int} {l : List Rc} {i : Nat} (h : i < l.length) : tbP v l (i + 1) = bz v (tbP v l i) l[i] := by
 unfold tbP lI;rw [List.take_succ_eq_append_getElem h, List.foldl_append];rfl
theorem nh {v : Int} {l : List Rc} {i : Nat} (h : i < l.length) : plP v l (i + 1) = plP v l i + (bw v (tbP v l i) l[i]).length := by
 unfold plP tbP;rw [List.take_succ_eq_append_getElem h, eR, List.length_append];simp [aW]
theorem mu {v : Int} {l : List Rc} {i : Nat} (h : i < l.length) : aW v [] l = aW v [] (l.take i) ++ bw v (tbP v l i) l[i] ++ aW v (tbP v l (i + 1)) (l.drop (i + 1)) := by
 have e : l.take i ++ (l[i] :: l.drop (i + 1)) = l := by rw [← List.drop_eq_getElem_cons h, List.take_append_drop]
 have e2 : aW v [] (l.take i ++ (l[i] :: l.drop (i + 1))) = aW v [] (l.take i) ++ bw v (tbP v l i) l[i] ++ aW v (tbP v l (i + 1)) (l.drop (i + 1)) := by
  rw [eR, aW, ib h, List.append_assoc];rfl
 rw [e] at e2;exact e2
theorem gc {v : Int} {t : List B} {r : Rc} (h : r.deps.length ≤ 16) : 1 ≤ (bw v t r).length ∧ (bw v t r).length ≤ 19 := by
 unfold bw;have h1 : (fY v t r).length ≤ 18 := by
  unfold fY;split
  ·simp
  ·have := lQ (bg r) t;have := dw r;rw [List.length_map]; omega
 rw [List.length_append];simp;omega
theorem ko {v : Int} : ∀ {l : List Rc} {t : List B}, (∀ r ∈ l, r.deps.length ≤ 16) → l.length ≤ (aW v t l).length ∧ (aW v t l).length ≤ 19 * l.length := by
 intro l
 induction l with
 | nil => intro t h; simp [aW]
 | cons r l ih =>
  intro t h;have h1 := gc (v := v) (t := t) (h r List.mem_cons_self);have h2 := ih (t := bz v t r) fun x hx => h x (List.mem_cons_of_mem _ hx);rw [aW, List.length_append, List.length_cons];omega
theorem WR.move {G : Gh} {objs : List (Nm × aF)} {w : World} (h : WR G objs w) {K' : Nat → Nat → Option Value} {w' : World} (hle : ∀ b o v, G.K b o = some v → K' b o = some v)
  (hw : ∀ b, (∃ n, G.at n b) → w'.heap[b]? = w.heap[b]? ∧ ∀ o, K' b o = G.K b o) (hk : ∀ b o v, K' b o = some v → w'.cell? ⟨b, o, none⟩ = some v) : WR ⟨K', G.ob⟩ objs w' :=
 ⟨hk, fun n o ho => (h.obj n o ho).keep ⟨hle, fun _ _ e => e, fun n u t e => ⟨u, t, e, .inr ⟨rfl, rfl⟩⟩⟩ rfl fun b hb => hw b ⟨n, hb⟩, h.dom, fun n m b h1 h2 => h.apart n m b h1 h2, h.glob.mono hle⟩
theorem ag.ownCall {P : Program} {f : FuncId} {args : List AV} {os : List aF} {R : AV → List aF → Prop} (h : ag P f args os R) {G : Gh} {W : World} {vals : List Value} (hW : WR G (bE 0 os) W) (hv : aB G args vals) {A : Array Value} (hA : A = vals.toArray) (m : Nat) :
  CallsIn Fence.wide m P f A W fun e W' => ∃ (v : Value) (r : AV) (os' : List aF) (G' : Gh), e = .returned v ∧ R r os' ∧ Rep G' r v ∧ WR G' (bE 0 os') W' ∧ G.le G' ∧ xe (fun b => ∃ n, G.at n b) G.K W (fun b => ∃ n, G'.at n b) G'.K W' := by
 subst hA;refine (callsIn_wide.2 (h.run G W vals hW hv)).mono ?_;rintro e W' ⟨v, r, os', G', rfl, hR, hRep, hWR, hle, hext, hnb, _, _⟩;refine ⟨v, r, os', G', rfl, hR, hRep, hWR, hle, ⟨hext.os, hext.tape, hext.output, hext.size, hext.block, ?_, hle.K, hext.knew, hWR.know, ?_⟩⟩
 ·rintro b ⟨n, hn⟩;exact hnb n b hn
 ·rintro b ⟨n, hn⟩;obtain ⟨g, hg⟩ : ∃ g, G'.ob n = some g := by rcases hn with hn | ⟨u, t, hn, _⟩ <;> exact ⟨_, hn⟩
  obtain ⟨o, ho⟩ := hWR.dom n g hg;exact (hWR.obj n o ho).lt hn
theorem Gf {G : Gh} {r : Rc} {v : Value} (h : Rep G (.agg r.enc) v) : ∃ d, v = .agg #[.int .i64 r.kind, .string (ofB r.target), .int .u64 (r.rule.toNat : Int), d, .int .u64 (r.out.toNat : Int), .int .u64 (r.wen.toNat : Int), .string (ofB r.tag)] ∧ Rep G (.sl none 3 (dV r.deps)) d := by
 have hx : ∃ vs : List Value, v = .agg vs.toArray ∧ aB G r.enc vs := h;clear h;obtain ⟨vs, rfl, hy⟩ := hx;obtain ⟨a1, _, rfl, h1, a2, _, rfl, h2, a3, _, rfl, h3, a4, _, rfl, h4, a5, _, rfl, h5, a6, _, rfl, h6, a7, _, rfl, h7, rfl⟩ := hy;refine ⟨a4, ?_, h4⟩;have h1 : a1 = .int .i64 r.kind := h1;have h2 : a2 = .string (ofB r.target) := h2;have h3 : a3 = .int .u64 (r.rule.toNat : Int) := h3;have h5 : a5 = .int .u64 (r.out.toNat : Int) := h5;have h6 : a6 = .int .u64 (r.wen.toNat : Int) := h6;have h7 : a7 = .string (ofB r.tag) := h7;subst h1 h2 h3 h5 h6 h7;rfl
attribute [local go_sem] Oper.semAt_some
theorem z7 {objs : List aF} {G : Gh} {W : World} (h : WR G (bE 0 objs) W) {b : Nat} (hb : ∃ n, G.at n b) : b < W.heap.size := by
 obtain ⟨n, hn⟩ := hb;obtain ⟨g, hg⟩ : ∃ g, G.ob n = some g := by rcases hn with hn | ⟨u, t, hn, _⟩ <;> exact ⟨_, hn⟩
 obtain ⟨o, ho⟩ := h.dom n g hg;exact (h.obj n o ho).lt hn
set_option maxHeartbeats 4000000 in
theorem zR (v : Int) (hv : v = 1 ∨ v = 2 ∨ v = 3) (l : List Rc) (hm : ∀ r ∈ l, aR v r = true) (hl : l.length ≤ 1100) (ms : List B) (hms : v = 1 → ms = []) (hml : ms.length < 5000) :
  GR Tryz.prog 165 [.cptr [vi v] 0, .cptr [.sl none 1 (ce (aW v [] l ++ ms.map bu))] 0] [] (qa v [] 0 l) := by
 refine ⟨fun args w => iB (by kernel_rfl), fun G w lb hW hr lp n' J Jx hY hS hK hJ0 => ?_⟩;have hd16 : ∀ r ∈ l, r.deps.length ≤ 16 := fun r hr => (aQ (hm r hr)).deps;have hpl := ko (v := v) (l := l) (t := []) hd16;have hlenA := rJ v l [] 0;generalize hPs : aW v [] l ++ ms.map bu = Ps at hr;simp only [aB, Rep, fC] at hr;obtain ⟨_, _, rfl, ⟨bv, ov, rfl, ⟨⟨vV, hvV, hV⟩, _⟩, _⟩, _, _, rfl, ⟨bp, op, rfl, ⟨⟨vP, hvP, hP⟩, _⟩, _⟩, rfl⟩ := hr;have hV : vV = .int .i64 v := hV;subst hV;have hGob : ∀ n g, G.ob n ≠ some g := fun n g e => by
  obtain ⟨o, ho⟩ := hW.dom n g e
  cases ho
 have hglob := hW.glob
 -- intern.New
 have hnew := (oy (R := fun r os => r = .ptr 0 0 ∧ os = [dq]) ⟨rfl, rfl⟩).ownCall (G := G) (W := w) (vals := [.slice none 0 0]) hW (by simp only [aB, Rep]; exact ⟨_, _, rfl, rfl, rfl⟩) (A := #[.slice none 0 0]) rfl;rw [show FW none = Fence.wide from rfl] at hY ⊢;refine callsIn_of_wp Tryz.func165 rfl trivial ?_ rfl;simp only [Tryz.ntmps165, List.size_toArray, List.length_cons, List.length_nil, Nat.reduceAdd, Nat.reduceSub, Array.replicate_succ, Array.replicate_zero, List.push_toArray, List.append_toArray, List.nil_append, List.cons_append, Nat.add_zero]
 gi_wp2
 refine ⟨trivial, fun h => by simp [Fence.wide] at h, (hnew _).mono ?_⟩;rintro e W0 ⟨v0, r0, os0, G0, rfl, ⟨rfl, rfl⟩, hRep0, hWR0, hle0, hst0⟩;obtain ⟨bt, hbt, rfl⟩ : ∃ b, G0.ob 0 = some (.blk b) ∧ v0 = .pointer (some ⟨b, 0, none⟩) := hRep0;have hJ1 := hS 0 _ _ _ _ _ _ hJ0 hst0
 gi_wp2
 gi_loopw [5] (fun x wr => ∃ (i : Nat) (Gi : Gh), i ≤ l.length ∧ x = .int .i64 ((plP v l i : Nat) : Int) ∧ WR Gi (bE 0 (qw (tbP v l i))) wr ∧ Gi.ob 0 = some (.blk bt) ∧ (∀ b o u, G.K b o = some u → Gi.K b o = some u) ∧ J i (fun b => ∃ n, Gi.at n b) Gi.K wr)
  (fun x wr => match x with | .int _ x => (4000000 - x).toNat | _ => 0)
 case atStart => exact ⟨0, G0, by omega, rfl, hWR0, hbt, hle0.K, hJ1⟩
 case round =>
  obtain ⟨i, Gi, hi, rfl, hWi, hbi, hGK, hJi⟩ := hrel;have hcV := hWi.know _ _ _ (hGK _ _ _ hvV);have hcP := hWi.know _ _ _ (hGK _ _ _ hvP);have hPi : Rep Gi (.sl none 1 (ce Ps)) vP := by
   have h1 : Rep G (.sl none 1 (ce Ps)) vP := by simp only [Rep]; exact hP
   exact Rep.nameless (G := G) (G' := Gi) hGK _ _ rfl h1
  have hvi : ∀ x : Int, Rep Gi (vi x) (.int .i64 x) := fun x => by
   show Rep _ (.val (.int .i64 x)) _;simp only [Rep]
  have hargs : aB Gi [vi v, .ptr 0 0, .sl none 1 (ce Ps), vi ((plP v l i : Nat) : Int)] [.int .i64 v, .pointer (some ⟨bt, 0, none⟩), vP, .int .i64 ((plP v l i : Nat) : Int)] := by
   simp only [aB];exact ⟨_, _, rfl, hvi _, _, _, rfl, (by simp only [Rep]; exact ⟨bt, hbi, rfl⟩), _, _, rfl, hPi, _, _, rfl, hvi _, rfl⟩
  have hmt : ∀ r ∈ l.take i, aR v r = true := fun r hr => hm r (List.mem_of_mem_take hr);have htl := lH (v := v) (l := l.take i) (t := []) fun r hr => aQ (hmt r hr);have hnd : (tbP v l i).Nodup := DP v (l.take i) List.nodup_nil;have hT1 : v = 1 → tbP v l i = [] := fun e => by subst e; exact vb _ _
  have htl : (tbP v l i).length ≤ 20000 := by
   unfold tbP;rw [List.length_take] at htl;simp at htl;omega
  have hpt := ko (v := v) (l := l.take i) (t := []) fun r hr => hd16 r (List.mem_of_mem_take hr);have hpt : plP v l i ≤ 21000 := by
   unfold plP;rw [List.length_take] at hpt;omega
  by_cases hlt : i < l.length
  ·have hmi := hm _ (List.getElem_mem hlt);have hsp := mu (v := v) hlt;have hPs2 : Ps = aW v [] (l.take i) ++ bw v (tbP v l i) l[i] ++ (aW v (tbP v l (i + 1)) (l.drop (i + 1)) ++ ms.map bu) := by rw [← hPs, hsp, List.append_assoc]
   have hdl := ko (v := v) (l := l.drop (i + 1)) (t := tbP v l (i + 1)) fun r hr => hd16 r (List.mem_of_mem_drop hr);have hget := Jy v hv l[i] hmi (tbP v l i) hT1 hnd (by omega) (aW v [] (l.take i)) (aW v (tbP v l (i + 1)) (l.drop (i + 1)) ++ ms.map bu) (by show plP v l i < _; omega) (by rw [List.length_append, List.length_map]; simp at hdl ⊢; omega)
    (R := fun r os => r = .tup [.agg l[i].enc, vi ((plP v l (i + 1) : Nat) : Int), vi 0] ∧ os = qw (tbP v l (i + 1))) ⟨by rw [nh hlt]; rfl, by rw [ib hlt]⟩
   rw [← hPs2] at hget;have hcall := hget.ownCall hWi hargs (A := #[.int .i64 v, .pointer (some ⟨bt, 0, none⟩), vP, .int .i64 ((plP v l i : Nat) : Int)]) rfl;have hxs := vC v l [] 0 i hlt;rw [Nat.zero_add] at hxs;have hxs : (qa v [] 0 l)[i]? = some [.agg (l[i]).enc, vi ((plP v l (i + 1) : Nat) : Int)] := hxs;have hinc : plP v l i < plP v l (i + 1) ∧ plP v l (i + 1) < 4000000 := by
    have h1 := gc (v := v) (t := tbP v l i) (r := l[i]) (hd16 _ (List.getElem_mem hlt));have h2 := nh (v := v) hlt;omega
   clear hget hsp hPs2 hdl hmt htl hpt hT1 hnd hargs hPi hvi hmi
   gi_wp2
   refine ⟨trivial, fun h => by simp [Fence.wide] at h, (hcall _).mono ?_⟩;rintro e W1 ⟨v1, r1, os1, G1, rfl, ⟨rfl, rfl⟩, hRep1, hWR1, hle1, hst1⟩;obtain ⟨u1, rfl, hu1⟩ := rG hRep1;obtain ⟨d1, rfl, hd1⟩ := Gf hu1;obtain ⟨A1, c1, rfl⟩ : ∃ A1 c1, d1 = .slice A1 (dV l[i].deps).length c1 := by
    simp only [Rep] at hd1;obtain ⟨⟨A1, c1, e, _⟩, _⟩ := hd1;exact ⟨A1, c1, e⟩
   have hJ2 := hS i _ _ _ _ _ _ hJi hst1;clear hcall
   gi_wp2
   have hstep2 : ∀ o, xe (fun b => ∃ n, G1.at n b) G1.K W1 (fun b => ∃ n, G1.at n b) G1.K (W1.alloc o) := fun o =>
    ⟨rfl, rfl, rfl, by simp, fun b hb _ => heap_alloc_old W1 o hb, fun b h => .inl h, fun _ _ _ h => h, fun _ _ _ _ => rfl, fun b o2 v2 e2 => by
     have hk := hWR1.know _ _ _ e2;rw [cell_of_heap (heap_alloc_old W1 o (AK hk))];exact hk, fun b h => by have := z7 hWR1 h; simp; omega⟩
   have hmove2 : ∀ o, WR G1 (bE 0 (qw (tbP v l (i + 1)))) (W1.alloc o) := fun o =>
    hWR1.move (K' := G1.K) (fun _ _ _ h => h) (fun b hb => ⟨heap_alloc_old W1 o (z7 hWR1 hb), fun _ => rfl⟩) (hstep2 o).know
   have hJ3 := fun o => hS i _ _ _ _ _ _ hJ2 (hstep2 o);have hRec : aB ⟨G1.K, fun _ => none⟩ [.agg (l[i]).enc, vi ((plP v l (i + 1) : Nat) : Int)] [.agg #[.int .i64 l[i].kind, .string (ofB l[i].target), .int .u64 (l[i].rule.toNat : Int), .slice A1 (dV l[i].deps).length c1, .int .u64 (l[i].out.toNat : Int), .int .u64 (l[i].wen.toNat : Int), .string (ofB l[i].tag)], .int .i64 ((plP v l (i + 1) : Nat) : Int)] := by
    simp only [aB];exact ⟨_, _, rfl, Rep.nameless (G := G1) (G' := ⟨G1.K, fun _ => none⟩) (fun _ _ _ h => h) _ _ rfl hu1, _, _, rfl, (by show Rep _ (.val (.int .i64 ((plP v l (i + 1) : Nat) : Int))) _; simp only [Rep]), rfl⟩
   generalize hW2 : W1.alloc _ = W2;have hWR2 := hW2 ▸ hmove2 _;have hJ4 := hW2 ▸ hJ3 _;obtain ⟨fn, tmps, assign, body, hy, hR⟩ := hY (n' - 1) i _ #[.agg #[.int .i64 l[i].kind, .string (ofB l[i].target), .int .u64 (l[i].rule.toNat : Int), .slice A1 (dV l[i].deps).length c1, .int .u64 (l[i].out.toNat : Int), .int .u64 (l[i].wen.toNat : Int), .string (ofB l[i].tag)], .int .i64 ((plP v l (i + 1) : Nat) : Int)] _ G1.K W2 hxs hRec hJ4;clear hY hJ3 hmove2 hstep2;rw [hy]
   gi_wp2
   refine ⟨fun h => by simp [Fence.wide] at h, hR.mono ?_⟩;rintro e W3 (⟨rfl, K', hJ5, hKK, hO3, hos3, htape3, hout3, hsz3⟩ | ⟨rfl, hJx3⟩)
   ·clear hR hy;have hWR3 : WR ⟨K', G1.ob⟩ (bE 0 (qw (tbP v l (i + 1)))) W3 := hWR2.move hKK (fun b hb => hO3 b hb) (hK (i + 1) _ K' W3 hJ5)
    gi_wp2
    refine ⟨⟨i + 1, ⟨K', G1.ob⟩, hlt, rfl, hWR3, hle1.blk _ _ hbi, fun b o u h => hKK _ _ _ (hle1.K _ _ _ (hGK _ _ _ h)), hJ5⟩, ?_⟩;show (4000000 - ((plP v l (i + 1) : Nat) : Int)).toNat < (4000000 - ((plP v l i : Nat) : Int)).toNat;omega
   ·clear hR hy
    gi_wp2
    refine bodyPost_ret (results_none rfl _ _ _) rfl ?_;exact ⟨⟨_, rfl⟩, .inr hJx3⟩
  ·have hfin : i = l.length := by omega
   subst hfin;have hPs2 : Ps = aW v [] (l.take l.length) ++ ms.map bu := by rw [← hPs, List.take_length]
   have hget := BH v hv (tbP v l l.length) hT1 hnd (by omega) (aW v [] (l.take l.length)) ms hms (by show plP v l l.length < _; omega) hml (R := fun r os => r = .tup [Dv, vi 0, vi 6] ∧ os = qw (tbP v l l.length)) ⟨rfl, rfl⟩;rw [← hPs2] at hget;have hcall := hget.ownCall hWi hargs (A := #[.int .i64 v, .pointer (some ⟨bt, 0, none⟩), vP, .int .i64 ((plP v l l.length : Nat) : Int)]) rfl;clear hget hPs2 hmt htl hpt hT1 hnd hargs hPi hvi
   gi_wp2
   refine ⟨trivial, fun h => by simp [Fence.wide] at h, (hcall _).mono ?_⟩;rintro e W1 ⟨v1, r1, os1, G1, rfl, ⟨rfl, rfl⟩, hRep1, hWR1, hle1, hst1⟩;obtain ⟨u1, rfl, hu1⟩ := rG hRep1;have hR6 : Rep G1 (.agg (Rc.mk 0 [] 0 [] 0 0 []).enc) u1 := my 0 [] 0 0 0 [] G1 u1 hu1;obtain ⟨d1, rfl, hd1⟩ := Gf hR6;obtain ⟨A1, c1, rfl⟩ : ∃ A1 c1, d1 = .slice A1 0 c1 := by
    simp only [Rep] at hd1;obtain ⟨⟨A1, c1, e, _⟩, _⟩ := hd1;exact ⟨A1, c1, e⟩
   have hJ2 := hS l.length _ _ _ _ _ _ hJi hst1;have hstep2 : ∀ o, xe (fun b => ∃ n, G1.at n b) G1.K W1 (fun b => ∃ n, G1.at n b) G1.K (W1.alloc o) := fun o =>
    ⟨rfl, rfl, rfl, by simp, fun b hb _ => heap_alloc_old W1 o hb, fun b h => .inl h, fun _ _ _ h => h, fun _ _ _ _ => rfl, fun b o2 v2 e2 => by
     have hk := hWR1.know _ _ _ e2;rw [cell_of_heap (heap_alloc_old W1 o (AK hk))];exact hk, fun b h => by have := z7 hWR1 h; simp; omega⟩
   have hJ3 := fun o => hS l.length _ _ _ _ _ _ hJ2 (hstep2 o);rw [← hlenA] at hJ3;clear hcall hstep2
   gi_wp2
   refine ⟨fun f h => (nomatch h), ?_⟩
   gi_wp2
   refine bodyPost_ret (results_none rfl _ _ _) rfl ?_;exact ⟨⟨_, rfl⟩, .inl ⟨_, _, hJ3 _⟩⟩
end Go.Abs
end
section
namespace Go.Abs
open Go Go.Proofs Dig
attribute [local irreducible] aH aE aO firstIdx
theorem Pt {R} (h : R (.tup [.sl none 1 (ai (dL 1)), vi 0]) []) : ag Tryz.prog 115 [vi 1] [] R := rj 1 (by decide) h
theorem Pr {R} (h : R (.tup [.sl none 1 (ai (dL 2)), vi 0]) []) : ag Tryz.prog 115 [vi 2] [] R := rj 2 (by decide) h
theorem Pq {R} (h : R (.tup [.sl none 1 (ai (dL 3)), vi 0]) []) : ag Tryz.prog 115 [vi 3] [] R := rj 3 (by decide) h
theorem Pp {v : Int} (hv : v = 2 ∨ v = 3) {R} (h : R (.tup [.sl none 1 (ai (dL v)), vi 0]) []) : ag Tryz.prog 115 [vi v] [] R := by
 rcases hv with rfl | rfl
 ·exact Pr h
 ·exact Pq h
theorem eW (l : List B) (k : Nat) : (ay (l.take k)).length ≤ (ay l).length := by
 have h : ay l = ay (l.take k) ++ ay (l.drop k) := by rw [← dG, List.take_append_drop]
 rw [h, List.length_append];omega
theorem vK {v : Int} {l : List Rc} {i : Nat} (hi : i < l.length) : dL v ++ ay (aW v [] (l.take i)) ++ ay (bw v (tbP v l i) l[i]) = dL v ++ ay (aW v [] (l.take (i + 1))) := by
 rw [List.take_succ_eq_append_getElem hi, eR, dG, List.append_assoc];simp [aW];rfl
theorem v7 {v : Int} {l : List Rc} {i : Nat} (hi : i < l.length) (h : ∀ r ∈ l.take i, aR v r = true) (h1 : aR v l[i] = true) : ∀ r ∈ l.take (i + 1), aR v r = true := by
 rw [List.take_succ_eq_append_getElem hi];intro r hr;rcases List.mem_append.1 hr with hr | hr
 ·exact h r hr
 ·rw [List.mem_singleton.1 hr]; exact h1
theorem zY {v : Int} {l : List Rc} {i : Nat} (hl : l.length ≤ 1000) (h : ∀ r ∈ l.take i, aR v r = true) : (dL v ++ ay (aW v [] (l.take i))).length ≤ 3000008 := by
 have h1 : (l.take i).length ≤ 1000 := by rw [List.length_take]; omega
 have h2 := jG (v := v) (l := l.take i) (t := []) (fun r hr => aQ (h r hr)) (by simp; omega);rw [List.length_append, eV];omega
theorem rB {v : Int} {l : List Rc} {i : Nat} (hl : l.length ≤ 1100) (h : ∀ r ∈ l.take i, aR v r = true) : (tbP v l i).length ≤ 20000 := by
 have h1 : (l.take i).length ≤ 1100 := by rw [List.length_take]; omega
 have h2 := lH (v := v) (l := l.take i) (t := []) fun r hr => aQ (h r hr);unfold tbP;simp at h2;omega
theorem O0 (l : List Rc) (hl : l.length ≤ 1000) (hd : ∀ r ∈ l, r.deps.length < 100000) {R} (hy : (∀ r ∈ l, aR 1 r = true) → R (.tup [.sl none 1 (ai (aC 1 l)), vi 0]) []) (hn : (¬ ∀ r ∈ l, aR 1 r = true) → R (.tup [.val (.slice none 0 0), vi 1]) []) :
  ag Tryz.prog 81 [vi 1, .sl none 7 (bf l)] [] R := by
 refine ab (an := Pa) tab_ok Tryz.func81 ?_;have hsl := be l;conv=>whnf
 refine Pt ?_;conv=>whnf
 refine oy ?_;conv=>whnf
 refine au.ind2 (fun (i : Nat) (b : B) => [(6, .sl none 1 (ai b)), (26, vi i)]) (fun i b => [(ax 23 0, dq)]) (fun i _ => l.length - i) (fun i b => i ≤ l.length ∧ (∀ r ∈ l.take i, aR 1 r = true) ∧ b = dL 1 ++ ay (aW 1 [] (l.take i))) 0 (dL 1) rfl ⟨by omega, by simp, by simp [aW, ay]⟩ ?_;rintro i b ⟨h0, hm, hb0⟩ IH;have hbl : b.length ≤ 3000008 := by rw [hb0]; exact zY hl hm
 conv=>whnf
 refine ae (fun hc => ?_) (fun hc => ?_)
 ·have hi := ap hsl hc;have hdi := hd _ (List.getElem_mem hi);obtain ⟨TT, hTT⟩ : ∃ TT, tbP 1 l i = TT := ⟨_, rfl⟩;have hT0 : TT = [] := by rw [← hTT]; exact vb _ _
  have hTl : TT.length ≤ 20000 := by rw [hT0]; simp
  (conv=>whnf); (repeat ((with_reducible refine ac ?_ ?_); exact decide_eq_true (by omega); (conv=>whnf)))
  refine idxNat (by simpa using hi) ?_;conv=>whnf
  by_cases hmi : aR 1 l[i] = true
  ·have hmt := v7 hi hm hmi;refine zI l[i] hmi ?_;rw [← hT0];have hpl := iD (t := TT) (aQ hmi) (by omega);have hpf := dK (t := TT) (aQ hmi) (by omega);have hpc := (gc (v := 1) (t := TT) (aQ hmi).deps).2;have hpn := vK (v := 1) hi;rw [hTT] at hpn;generalize hps : bw 1 TT l[i] = ps at hpl hpf hpn hpc;have hrl := aP ps;conv=>whnf
   refine au.ind2 (fun (k : Nat) (c : B) => [(6, .sl none 1 (ai c)), (42, vi k)]) (fun k c => [(ax 23 0, dq)]) (fun k _ => ps.length - k) (fun k c => k ≤ ps.length ∧ c = b ++ ay (ps.take k)) 0 b rfl ⟨by omega, by simp [ay]⟩ ?_;rintro k c ⟨hk0, hc0⟩ IH2;have hcl : c.length ≤ 3003008 := by have := eW ps k; rw [hc0, List.length_append]; omega
   conv=>whnf
   refine ae (fun hk => ?_) (fun hk => ?_)
   ·have hk := ap hrl hk;have hp := hpl _ (List.getElem_mem hk);have hS : c ++ bq ps[k] = b ++ ay (ps.take (k + 1)) := by
     rw [hc0, List.take_succ_eq_append_getElem hk, dF, List.append_assoc]
    have IH2 := IH2 (k + 1) _ ⟨hk, hS⟩ (by omega)
    (conv=>whnf); (repeat ((with_reducible refine ac ?_ ?_); exact decide_eq_true (by omega); (conv=>whnf)))
    refine idxNat (by simpa using hk) ?_;conv=>whnf
    refine d8 c ps[k] (by omega) hp.1 hp.2 ?_;conv=>whnf
    rw [al (by omega)];exact IH2
   ·have hk := aw hrl hk;have hke : k = ps.length := by omega
    subst hke;rw [List.take_length, hb0, hpn] at hc0;conv=>whnf
    rw [al (by omega)];exact IH (i + 1) c ⟨hi, hmt, hc0⟩ (by omega)
  ·have hmi : aR 1 l[i] = false := by simpa using hmi
   refine Og l[i] hdi hmi ?_;conv=>whnf
   exact hn fun h => by rw [h _ (List.getElem_mem hi)] at hmi; cases hmi
 ·have hi := aw hsl hc;rw [List.take_of_length_le hi] at hm hb0;conv=>whnf
  rw [hb0];exact hy hm
theorem KF {v : Int} (hv : v = 2 ∨ v = 3) (l : List Rc) (hl : l.length ≤ 1000) (hd : ∀ r ∈ l, r.deps.length < 100000) {R} (hy : (∀ r ∈ l, aR v r = true) → R (.tup [.sl none 1 (ai (aC v l)), vi 0]) []) (hn : (¬ ∀ r ∈ l, aR v r = true) → R (.tup [.val (.slice none 0 0), vi 1]) []) :
  ag Tryz.prog 81 [vi v, .sl none 7 (bf l)] [] R := by
 refine ab (an := Pa) tab_ok Tryz.func81 ?_;have hsl := be l;conv=>whnf
 refine Pp hv ?_;conv=>whnf
 refine oy ?_;conv=>whnf
 by_cases hl0 : l = []
 ·subst hl0;refine au.step ?_;conv=>whnf
  have e := hy (fun r hr => by cases hr);rw [show aC v [] = dL v from by simp [aC, aW, ay]] at e;exact e
 have hi : 0 < l.length := List.length_pos_iff.2 hl0;refine au.step ?_;conv=>whnf
 refine aI (by rw [hsl]; exact decide_eq_true (by omega)) ?_
 (conv=>whnf); (repeat ((with_reducible refine ac ?_ ?_); exact decide_eq_true (by omega); (conv=>whnf)))
 refine aa (show (0 : Int).toNat < l.length by simpa using hi) ?_;rw [show l[(0 : Int).toNat]'(by simpa using hi) = l[0] from rfl];have hdi := hd _ (List.getElem_mem hi);by_cases hmi : aR v l[0] = true
 ·obtain ⟨TT, hTT⟩ : ∃ TT, tbP v l 0 = TT := ⟨_, rfl⟩;have hT0 : TT = [] := by rw [← hTT]; rfl
  have hTl : TT.length ≤ 20000 := by rw [hT0]; simp
  have hm : ∀ r ∈ l.take 0, aR v r = true := by simp
  have hmt := v7 hi hm hmi;obtain ⟨i, hi0⟩ : ∃ i : Nat, i = 0 := ⟨0, rfl⟩;obtain ⟨b, hb0⟩ : ∃ b, b = dL v ++ ay (aW v [] (l.take 0)) := ⟨_, rfl⟩;have hbh : dL v = b := by rw [hb0]; simp [aW, ay]
  have hbl : b.length ≤ 3000008 := by rw [hb0]; exact zY hl hm
  rw [hbh];conv=>whnf
  refine zH hv l[0] hmi ?_;rw [← hT0];have hpl := iD (t := TT) (aQ hmi) (by omega);have hpf := dK (t := TT) (aQ hmi) (by omega);have hpc := (gc (v := v) (t := TT) (aQ hmi).deps).2;have hpn := vK (v := v) hi;rw [hTT] at hpn;generalize hps : bw v TT l[0] = ps at hpl hpf hpn hpc;have hrl := aP ps;conv=>whnf
  refine au.ind2 (fun (k : Nat) (c : B) => [(6, .sl none 1 (ai c)), (42, vi k)]) (fun k c => [(ax 23 0, bN (ax 34 0) (ax 34 1) (bz v TT l[0])), (ax 34 0, bM (bz v TT l[0])), (ax 34 1, bL (bz v TT l[0]))]) (fun k _ => ps.length - k) (fun k c => k ≤ ps.length ∧ c = b ++ ay (ps.take k)) 0 b rfl ⟨by omega, by simp [ay]⟩ ?_;rintro k c ⟨hk0, hc0⟩ IH2;have hcl : c.length ≤ 3003008 := by have := eW ps k; rw [hc0, List.length_append]; omega
  conv=>whnf
  refine ae (fun hk => ?_) (fun hk => ?_)
  ·have hk := ap hrl hk;have hp := hpl _ (List.getElem_mem hk);have hS : c ++ bq ps[k] = b ++ ay (ps.take (k + 1)) := by
    rw [hc0, List.take_succ_eq_append_getElem hk, dF, List.append_assoc]
   have IH2 := IH2 (k + 1) _ ⟨hk, hS⟩ (by omega)
   (conv=>whnf); (repeat ((with_reducible refine ac ?_ ?_); exact decide_eq_true (by omega); (conv=>whnf)))
   refine idxNat (by simpa using hk) ?_;conv=>whnf
   refine d8 c ps[k] (by omega) hp.1 hp.2 ?_;conv=>whnf
   rw [al (by omega)];exact IH2
  ·have hk := aw hrl hk;have hke : k = ps.length := by omega
   subst hke;rw [List.take_length, hb0, hpn] at hc0;conv=>whnf
   rw [show IntKind.i64.wrap ((0 : Int) + 1) = ((1 : Nat) : Int) from rfl];have hT1 : bz v TT l[0] = tbP v l 1 := by rw [← hTT]; exact (ib hi).symm
   rw [hT1];refine au.ind3 (fun (i : Nat) (b : B) (T : List B) => [(6, .sl none 1 (ai b)), (26, vi i)]) (fun i b T => [(ax 23 0, bN (ax 34 0) (ax 34 1) T), (ax 34 0, bM T), (ax 34 1, bL T)]) (fun i _ _ => l.length - i) (fun i b T => 1 ≤ i ∧ i ≤ l.length ∧ (∀ r ∈ l.take i, aR v r = true) ∧ b = dL v ++ ay (aW v [] (l.take i)) ∧ T = tbP v l i) 1 c _ rfl ⟨by omega, hi, hmt, hc0, rfl⟩ ?_;clear hc0 hcl hbl hb0 hbh hmi hdi hm hmt hTT hT0 hTl hT1 hpl hpf hpn hps hrl hk IH2 hk0
   skip
   rintro i b T ⟨h00, h0, hm, hb0, hT⟩ IH;have hbl : b.length ≤ 3000008 := by rw [hb0]; exact zY hl hm
   conv=>whnf
   refine ae (fun hc => ?_) (fun hc => ?_)
   ·have hi := ap hsl hc;have hdi := hd _ (List.getElem_mem hi);have hTne : T ≠ [] := by
     obtain ⟨j, rfl⟩ : ∃ j, i = j + 1 := ⟨i - 1, by omega⟩;rw [hT, ib (by omega)];exact lm (ne1 hv) _ _
    obtain ⟨TT, hTT⟩ : ∃ TT, tbP v l i = TT := ⟨_, rfl⟩;have hTeq : T = TT := hT.trans hTT;have hTl : TT.length ≤ 20000 := by rw [← hTT]; exact rB (by omega) hm
    subst hTeq
    (conv=>whnf); (repeat ((with_reducible refine ac ?_ ?_); exact decide_eq_true (by omega); (conv=>whnf)))
    refine idxNat (by simpa using hi) ?_;conv=>whnf
    by_cases hmi : aR v l[i] = true
    ·have hmt := v7 hi hm hmi;refine zG hv l[i] T (by omega) hmi ?_;have hT1 : bz v T l[i] = tbP v l (i + 1) := by rw [← hTT]; exact (ib hi).symm
     rw [hT1];have hpl := iD (t := T) (aQ hmi) (by omega);have hpf := dK (t := T) (aQ hmi) (by omega);have hpc := (gc (v := v) (t := T) (aQ hmi).deps).2;have hpn := vK (v := v) hi;rw [hTT] at hpn;generalize hps : bw v T l[i] = ps at hpl hpf hpn hpc;have hrl := aP ps;conv=>whnf
     refine au.ind2 (fun (k : Nat) (c : B) => [(6, .sl none 1 (ai c)), (42, vi k)]) (fun k c => [(ax 23 0, bN (ax 34 0) (ax 34 1) (tbP v l (i + 1))), (ax 34 0, bM (tbP v l (i + 1))), (ax 34 1, bL (tbP v l (i + 1)))]) (fun k _ => ps.length - k) (fun k c => k ≤ ps.length ∧ c = b ++ ay (ps.take k)) 0 b rfl ⟨by omega, by simp [ay]⟩ ?_;rintro k c ⟨hk0, hc0⟩ IH2;have hcl : c.length ≤ 3003008 := by have := eW ps k; rw [hc0, List.length_append]; omega
     conv=>whnf
     refine ae (fun hk => ?_) (fun hk => ?_)
     ·have hk := ap hrl hk;have hp := hpl _ (List.getElem_mem hk);have hS : c ++ bq ps[k] = b ++ ay (ps.take (k + 1)) := by
       rw [hc0, List.take_succ_eq_append_getElem hk, dF, List.append_assoc]
      have IH2 := IH2 (k + 1) _ ⟨hk, hS⟩ (by omega)
      (conv=>whnf); (repeat ((with_reducible refine ac ?_ ?_); exact decide_eq_true (by omega); (conv=>whnf)))
      refine idxNat (by simpa using hk) ?_;conv=>whnf
      refine d8 c ps[k] (by omega) hp.1 hp.2 ?_;conv=>whnf
      rw [al (by omega)];exact IH2
     ·have hk := aw hrl hk;have hke : k = ps.length := by omega
      subst hke;rw [List.take_length, hb0, hpn] at hc0;conv=>whnf
      rw [al (by omega)];exact IH (i + 1) c _ ⟨by omega, hi, hmt, hc0, rfl⟩ (by omega)
    ·have hmi : aR v l[i] = false := by simpa using hmi
     refine Oa hv l[i] T hdi hmi ?_;conv=>whnf
     exact hn fun h => by rw [h _ (List.getElem_mem hi)] at hmi; cases hmi
   ·have hi := aw hsl hc;rw [List.take_of_length_le hi] at hm hb0;conv=>whnf
    rw [hb0];exact hy hm
 ·have hmi : aR v l[0] = false := by simpa using hmi
  conv=>whnf
  refine Ob hv l[0] hdi hmi ?_;conv=>whnf
  exact hn fun h => by rw [h _ (List.getElem_mem hi)] at hmi; cases hmi
def cN (v : Int) (l : List Rc) : List Nat := (List.range l.length).map fun i => (aC v (l.take (i + 1))).length
theorem gD (v : Int) (l : List Rc) : (cN v l).length = l.length := by simp [cN]
theorem Km {v : Int} {l : List Rc} {i : Nat} (h : i < l.length) : (cN v l)[i]'(by rw [gD]; exact h) = (aC v (l.take (i + 1))).length := by simp [cN]
theorem cr (v : Int) (l : List Rc) : (aC v l).length = 8 + (ay (aW v [] l)).length := by
 unfold aC;rw [List.length_append, eV]
def ct (v : Int) (l : List Rc) : List AV := [vi v, .sl none 7 (bf l), .sl none 1 (c6 (cN v l)), vi (((aC v l).length : Nat) : Int)]
theorem wQ (v : Int) (P : List B) {R} (h : R (.fn (.func 165) [] [.cptr [vi v] 0, .cptr [.sl none 1 (ce P)] 0]) []) : ag Tryz.prog 124 [vi v, .sl none 1 (ce P)] [] R := by
 refine ab (an := SP) tab_ok Tryz.func124 ?_;conv=>whnf
 exact h
theorem bH : (tab.ti 67).bytes = 88 := rfl
theorem yv {l : List Rc} {i : Nat} (h : i < l.length) : bf (l.take (i + 1)) = bf (l.take i) ++ [l[i].enc] := by
 rw [List.take_succ_eq_append_getElem h];unfold bf;rw [List.map_append];rfl
theorem Ij (l : List B) (o i : Nat) (h : i < l.length) : (fw o l)[i]'(by rw [eX]; exact h) = o + (ay (l.take (i + 1))).length := by
 have h1 := pu l o i h;rw [List.getElem?_eq_getElem (by rw [eX]; exact h)] at h1;exact Option.some.inj h1
def cgS (E : List Nat) : List AV := [.junk, .junk, .ptr (ak 2) 0, .junk, .junk, .junk, .ptr (ak 6) 0, .junk, .cptr [.sl none 1 (c6 E)] 0, .junk, .junk, .junk, .junk, .junk, .junk, .junk, .junk, .junk, .junk, .junk, .junk, .junk, .junk, .junk, .junk, .junk, .junk, .junk, .junk, .junk, .junk, .junk, .junk, .junk, .junk, .junk, .junk, .junk, .junk, .junk, .junk, .junk, .junk, .junk, .junk, .junk, .junk, .junk, .junk, .junk, .junk, .junk]
def flO (v : Int) (a b : AV) (n : Nat) : aF := .cells 90 [vi v, a, b, vi (n : Int)]
abbrev nlA : AV := .val (.slice none 0 0)
theorem IU {v : Int} (hv : v = 1 ∨ v = 2 ∨ v = 3) (q : B) (hq : q.length < 3500000) {R} (h : R (.tup [vi v, vi 0]) []) : ag Tryz.prog 122 [.sl none 1 (ai (dL v ++ q))] [] R := by
 rcases hv with rfl | rfl | rfl
 ·exact IX q hq h
 ·exact IW q hq h
 ·exact IV q hq h
theorem AO {v : Int} (hv : v = 1 ∨ v = 2 ∨ v = 3) (l : List Rc) (hm : ∀ r ∈ l, aR v r = true) (hl : l.length ≤ 1100) (ms : List B) (hms : (v : Int) = 1 → ms = []) (hml : ms.length < 100) (hmf : ∀ m ∈ ms, m.length ≤ 64) (t : B) (ht : qr t) (htl : t.length < 3000) {R} (h : R (.tup [.agg (ct v l), vi 0]) []) : ag Tryz.prog 89 [.sl none 1 (ai (aC v l ++ ay (ms.map bu) ++ t))] [] R := by
 obtain ⟨Ps, hPs⟩ : ∃ Ps, Ps = aW v [] l ++ ms.map bu := ⟨_, rfl⟩;have hbytes : aC v l ++ ay (ms.map bu) ++ t = dL v ++ (ay Ps ++ t) := by rw [hPs, dG]; simp [aC]
 rw [hbytes];clear hbytes;refine ag.res ?_;refine ab (an := Un) tab_ok Tryz.func89 ?_;have hM : ∀ r ∈ l, kW v r := fun r hr => aQ (hm r hr);have hfl := jG (v := v) (l := l) (t := []) hM (by simp; omega);have hpl := ko (v := v) (l := l) (t := []) fun r hr => (hM r hr).deps;have hlens := nS (v := v) (l := l) (t := []) hM (by simp; omega);have hh8 := eV v;have hit := zR v hv l hm (by omega) ms hms (by omega);rw [← hPs] at hit;have hfm := mD (l := ms.map bu) (k := 65) (fun p hp => by
  obtain ⟨m, hm1, rfl⟩ := List.mem_map.1 hp;have := hmf m hm1;simp [bu]; omega) (by omega)
 rw [List.length_map] at hfm;have hPl : Ps.length = (aW v [] l).length + ms.length := by rw [hPs]; simp
 have hPf : (ay Ps).length = (ay (aW v [] l)).length + (ay (ms.map bu)).length := by rw [hPs, dG, List.length_append]
 have hlensP : ∀ p ∈ Ps, 1 ≤ p.length ∧ p.length ≤ 2048 := by
  intro p hp;rw [hPs] at hp;rcases List.mem_append.1 hp with hp | hp
  ·exact hlens p hp
  ·obtain ⟨m, hm1, rfl⟩ := List.mem_map.1 hp;have := hmf m hm1;simp [bu]; omega
 have hlA := rJ v l [] 0;have hEl := gD v l;have hEp := eX Ps 8;have hend : ∀ i (hi : i < l.length), (IntKind.i64.wrap (((plP v l (i + 1) : Nat) : Int) - 1)).toNat < (fw 8 Ps).length ∧ ∀ hj, (fw 8 Ps)[(IntKind.i64.wrap (((plP v l (i + 1) : Nat) : Int) - 1)).toNat]'hj = (aC v (l.take (i + 1))).length := by
  intro i hi;have h1 := gc (v := v) (t := tbP v l i) (r := l[i]) (hM _ (List.getElem_mem hi)).deps;have h2 := nh (v := v) hi;have h3 : plP v l (i + 1) ≤ (aW v [] l).length := by
   rw [mu hi, List.length_append, List.length_append, h2];show (aW v [] (l.take i)).length + _ ≤ _;omega
  have h4 : (IntKind.i64.wrap (((plP v l (i + 1) : Nat) : Int) - 1)).toNat = plP v l (i + 1) - 1 := by
   rw [aK (by omega) (by omega)];omega
  have h5 : Ps.take (plP v l (i + 1)) = aW v [] (l.take (i + 1)) := by
   have e : Ps = aW v [] (l.take (i + 1)) ++ (aW v (lI v [] (l.take (i + 1))) (l.drop (i + 1)) ++ ms.map bu) := by rw [hPs, ← List.append_assoc, ← eR, List.take_append_drop]
   rw [e];exact List.take_left
  refine ⟨by rw [h4, hEp]; omega, fun hj => ?_⟩;have h6 := Ij Ps 8 (plP v l (i + 1) - 1) (by omega);rw [show plP v l (i + 1) - 1 + 1 = plP v l (i + 1) by omega, h5] at h6;rw [cr, ← h6];congr 1
 have hnn : ∀ i, 0 ≤ i → i < l.length → 0 ≤ IntKind.i64.wrap (((plP v l (i + 1) : Nat) : Int) - 1) := by
  intro i _ hi;have h1 := gc (v := v) (t := tbP v l i) (r := l[i]) (hM _ (List.getElem_mem hi)).deps;have h2 := nh (v := v) hi;have h3 : plP v l (i + 1) ≤ (aW v [] l).length := by
   rw [mu hi, List.length_append, List.length_append, h2];show (aW v [] (l.take i)).length + _ ≤ _;omega
  rw [aK (by omega) (by omega)];omega
 conv=>whnf
 refine IU hv _ (by rw [List.length_append]; omega) ?_;conv=>whnf
 have hrun := fun R hR => IZ (dL v) Ps t ht hlensP (by omega) (by omega) (R := R) hR;rw [hh8] at hrun;refine hrun _ ?_;conv=>whnf
 refine wQ v Ps ?_;conv=>whnf
 refine .inr ?_;conv=>whnf
 refine ⟨qa v [] 0 l, hit, ?_, ?_⟩
 ·intro x hx;obtain ⟨i, hi, rfl⟩ := List.getElem_of_mem hx;have h1 := vC v l [] 0 i (by omega);rw [List.getElem?_eq_getElem hi] at h1;rw [Option.some.inj h1];rfl
 refine ⟨fun i s => (i = 0 ∧ s = ⟨cgS (fw 8 Ps), [(ak 2, flO 0 nlA nlA 0), (ak 6, flO v nlA nlA 8)]⟩) ∨
  (0 < i ∧ i ≤ l.length ∧ s = ⟨cgS (fw 8 Ps), [(ak 2, flO 0 nlA nlA 0), (ak 6, flO v (.sl (some (ak 42)) 7 (bf (l.take i))) (.sl (some (ak 48)) 1 (c6 ((cN v l).take i))) (aC v (l.take i)).length), (ak 42, .row 67 7 i), (ak 48, .row 3 1 i)]⟩), .inl ⟨rfl, rfl⟩, ?_, ?_⟩
 ·rintro i x s hx hs;have hi : i < l.length := by
   have := (List.getElem?_eq_some_iff.1 hx).1;omega
  have hx2 := vC v l [] 0 i hi;rw [Nat.zero_add] at hx2;rw [hx] at hx2
  cases hx2;obtain ⟨he1, he2⟩ := hend i hi;have hn0 := hnn i (Nat.zero_le i) hi;have hie : i < (cN v l).length := by omega
  have e1 := yv hi;have e2 := td hie;rw [Km hi] at e2;have hpl2 : (aW v [] (l.take (i + 1))).length = plP v l (i + 1) := rfl;rw [hpl2];have l1 : (bf (l.take i)).length = i := by rw [be, List.length_take]; omega
  have l2 : (c6 ((cN v l).take i)).length = i := by rw [cb, List.length_take]; omega
  clear hit hx;rcases hs with ⟨rfl, rfl⟩ | ⟨h1, h2, rfl⟩
  ·conv=>whnf
   refine ac (decide_eq_true hn0) ?_;refine aa he1 ?_;rw [he2 he1];conv=>whnf
   refine ⟨?_, ?_, ?_, trivial⟩
   ·conv=>whnf
    refine ⟨?_, ?_, ?_, trivial⟩
    ·conv=>whnf
     refine ⟨by rw [bH]; simp, ?_⟩;conv=>whnf
     refine ⟨?_, ?_, trivial⟩
     ·conv=>whnf
      refine ⟨?_, trivial⟩;conv=>whnf
      refine ⟨?_, trivial⟩;conv=>whnf
      refine ⟨by rw [aZ]; simp, ?_⟩;conv=>whnf
      refine ⟨?_, trivial⟩;conv=>whnf
      refine ⟨?_, trivial⟩;conv=>whnf
      refine .inr ⟨by omega, by omega, ?_⟩;rw [e1, e2];rfl
     ·conv=>whnf
      refine ⟨?_, trivial⟩;conv=>whnf
      refine ⟨?_, trivial⟩;conv=>whnf
      refine ⟨by rw [aZ]; simp, ?_⟩;conv=>whnf
      refine ⟨?_, trivial⟩;conv=>whnf
      refine ⟨?_, trivial⟩;conv=>whnf
      refine .inr ⟨by omega, by omega, ?_⟩;rw [e1, e2];rfl
    ·conv=>whnf
     refine ⟨?_, ?_, trivial⟩
     ·conv=>whnf
      refine ⟨by rw [bH]; simp, ?_⟩;conv=>whnf
      refine ⟨?_, trivial⟩;conv=>whnf
      refine ⟨?_, trivial⟩;conv=>whnf
      refine ⟨by rw [aZ]; simp, ?_⟩;conv=>whnf
      refine ⟨?_, trivial⟩;conv=>whnf
      refine ⟨?_, trivial⟩;conv=>whnf
      refine .inr ⟨by omega, by omega, ?_⟩;rw [e1, e2];rfl
     ·conv=>whnf
      refine ⟨?_, trivial⟩;conv=>whnf
      refine ⟨by rw [bH]; simp, ?_⟩;conv=>whnf
      refine ⟨?_, trivial⟩;conv=>whnf
      refine ⟨by rw [aZ]; simp, ?_⟩;conv=>whnf
      refine ⟨?_, trivial⟩;conv=>whnf
      refine ⟨?_, trivial⟩;conv=>whnf
      refine .inr ⟨by omega, by omega, ?_⟩;rw [e1, e2];rfl
    ·conv=>whnf
     refine ⟨?_, ?_, trivial⟩
     ·conv=>whnf
      refine ⟨by rw [bH]; simp, ?_⟩;conv=>whnf
      refine ⟨?_, trivial⟩;conv=>whnf
      refine ⟨?_, trivial⟩;conv=>whnf
      refine ⟨by rw [aZ]; simp, ?_⟩;conv=>whnf
      refine ⟨?_, trivial⟩;conv=>whnf
      refine ⟨?_, trivial⟩;conv=>whnf
      refine .inr ⟨by omega, by omega, ?_⟩;rw [e1, e2];rfl
     ·conv=>whnf
      refine ⟨?_, trivial⟩;conv=>whnf
      refine ⟨by rw [bH]; simp, ?_⟩;conv=>whnf
      refine ⟨?_, trivial⟩;conv=>whnf
      refine ⟨by rw [aZ]; simp, ?_⟩;conv=>whnf
      refine ⟨?_, trivial⟩;conv=>whnf
      refine ⟨?_, trivial⟩;conv=>whnf
      refine .inr ⟨by omega, by omega, ?_⟩;rw [e1, e2];rfl
   ·conv=>whnf
    refine ⟨?_, ?_, trivial⟩
    ·conv=>whnf
     refine ⟨?_, ?_, trivial⟩
     ·conv=>whnf
      refine ⟨by rw [bH]; simp, ?_⟩;conv=>whnf
      refine ⟨?_, trivial⟩;conv=>whnf
      refine ⟨?_, trivial⟩;conv=>whnf
      refine ⟨by rw [aZ]; simp, ?_⟩;conv=>whnf
      refine ⟨?_, trivial⟩;conv=>whnf
      refine ⟨?_, trivial⟩;conv=>whnf
      refine .inr ⟨by omega, by omega, ?_⟩;rw [e1, e2];rfl
     ·conv=>whnf
      refine ⟨?_, trivial⟩;conv=>whnf
      refine ⟨by rw [bH]; simp, ?_⟩;conv=>whnf
      refine ⟨?_, trivial⟩;conv=>whnf
      refine ⟨by rw [aZ]; simp, ?_⟩;conv=>whnf
      refine ⟨?_, trivial⟩;conv=>whnf
      refine ⟨?_, trivial⟩;conv=>whnf
      refine .inr ⟨by omega, by omega, ?_⟩;rw [e1, e2];rfl
    ·conv=>whnf
     refine ⟨?_, trivial⟩;conv=>whnf
     refine ⟨?_, trivial⟩;conv=>whnf
     refine ⟨by rw [bH]; simp, ?_⟩;conv=>whnf
     refine ⟨?_, trivial⟩;conv=>whnf
     refine ⟨by rw [aZ]; simp, ?_⟩;conv=>whnf
     refine ⟨?_, trivial⟩;conv=>whnf
     refine ⟨?_, trivial⟩;conv=>whnf
     refine .inr ⟨by omega, by omega, ?_⟩;rw [e1, e2];rfl
   ·conv=>whnf
    refine ⟨?_, ?_, trivial⟩
    ·conv=>whnf
     refine ⟨?_, ?_, trivial⟩
     ·conv=>whnf
      refine ⟨by rw [bH]; simp, ?_⟩;conv=>whnf
      refine ⟨?_, trivial⟩;conv=>whnf
      refine ⟨?_, trivial⟩;conv=>whnf
      refine ⟨by rw [aZ]; simp, ?_⟩;conv=>whnf
      refine ⟨?_, trivial⟩;conv=>whnf
      refine ⟨?_, trivial⟩;conv=>whnf
      refine .inr ⟨by omega, by omega, ?_⟩;rw [e1, e2];rfl
     ·conv=>whnf
      refine ⟨?_, trivial⟩;conv=>whnf
      refine ⟨by rw [bH]; simp, ?_⟩;conv=>whnf
      refine ⟨?_, trivial⟩;conv=>whnf
      refine ⟨by rw [aZ]; simp, ?_⟩;conv=>whnf
      refine ⟨?_, trivial⟩;conv=>whnf
      refine ⟨?_, trivial⟩;conv=>whnf
      refine .inr ⟨by omega, by omega, ?_⟩;rw [e1, e2];rfl
    ·conv=>whnf
     refine ⟨?_, trivial⟩;conv=>whnf
     refine ⟨?_, trivial⟩;conv=>whnf
     refine ⟨by rw [bH]; simp, ?_⟩;conv=>whnf
     refine ⟨?_, trivial⟩;conv=>whnf
     refine ⟨by rw [aZ]; simp, ?_⟩;conv=>whnf
     refine ⟨?_, trivial⟩;conv=>whnf
     refine ⟨?_, trivial⟩;conv=>whnf
     refine .inr ⟨by omega, by omega, ?_⟩;rw [e1, e2];rfl
  ·conv=>whnf
   refine ac (decide_eq_true hn0) ?_;refine aa he1 ?_;rw [he2 he1];conv=>whnf
   refine ⟨?_, ?_, ?_, trivial⟩
   ·conv=>whnf
    refine ⟨?_, ?_, ?_, trivial⟩
    ·conv=>whnf
     refine ⟨l1.symm, by rw [l1, bH]; simp; omega, ?_⟩;conv=>whnf
     refine ⟨?_, ?_, trivial⟩
     ·conv=>whnf
      refine ⟨?_, trivial⟩;conv=>whnf
      refine ⟨?_, trivial⟩;conv=>whnf
      refine ⟨l2.symm, by rw [l2, aZ]; simp; omega, ?_⟩;conv=>whnf
      refine ⟨?_, trivial⟩;conv=>whnf
      refine ⟨?_, trivial⟩;conv=>whnf
      refine .inr ⟨by omega, by omega, ?_⟩;rw [e1, e2, l1, l2];rfl
     ·conv=>whnf
      refine ⟨?_, trivial⟩;conv=>whnf
      refine ⟨?_, trivial⟩;conv=>whnf
      refine ⟨l2.symm, by rw [l2, aZ]; simp; omega, ?_⟩;conv=>whnf
      refine ⟨?_, trivial⟩;conv=>whnf
      refine ⟨?_, trivial⟩;conv=>whnf
      refine .inr ⟨by omega, by omega, ?_⟩;rw [e1, e2, l1, l2];rfl
    ·conv=>whnf
     refine ⟨?_, ?_, trivial⟩
     ·conv=>whnf
      refine ⟨l1.symm, by rw [l1, bH]; simp; omega, ?_⟩;conv=>whnf
      refine ⟨?_, trivial⟩;conv=>whnf
      refine ⟨?_, trivial⟩;conv=>whnf
      refine ⟨l2.symm, by rw [l2, aZ]; simp; omega, ?_⟩;conv=>whnf
      refine ⟨?_, trivial⟩;conv=>whnf
      refine ⟨?_, trivial⟩;conv=>whnf
      refine .inr ⟨by omega, by omega, ?_⟩;rw [e1, e2, l1, l2];rfl
     ·conv=>whnf
      refine ⟨?_, trivial⟩;conv=>whnf
      refine ⟨l1.symm, by rw [l1, bH]; simp; omega, ?_⟩;conv=>whnf
      refine ⟨?_, trivial⟩;conv=>whnf
      refine ⟨l2.symm, by rw [l2, aZ]; simp; omega, ?_⟩;conv=>whnf
      refine ⟨?_, trivial⟩;conv=>whnf
      refine ⟨?_, trivial⟩;conv=>whnf
      refine .inr ⟨by omega, by omega, ?_⟩;rw [e1, e2, l1, l2];rfl
    ·conv=>whnf
     refine ⟨?_, ?_, trivial⟩
     ·conv=>whnf
      refine ⟨l1.symm, by rw [l1, bH]; simp; omega, ?_⟩;conv=>whnf
      refine ⟨?_, trivial⟩;conv=>whnf
      refine ⟨?_, trivial⟩;conv=>whnf
      refine ⟨l2.symm, by rw [l2, aZ]; simp; omega, ?_⟩;conv=>whnf
      refine ⟨?_, trivial⟩;conv=>whnf
      refine ⟨?_, trivial⟩;conv=>whnf
      refine .inr ⟨by omega, by omega, ?_⟩;rw [e1, e2, l1, l2];rfl
     ·conv=>whnf
      refine ⟨?_, trivial⟩;conv=>whnf
      refine ⟨l1.symm, by rw [l1, bH]; simp; omega, ?_⟩;conv=>whnf
      refine ⟨?_, trivial⟩;conv=>whnf
      refine ⟨l2.symm, by rw [l2, aZ]; simp; omega, ?_⟩;conv=>whnf
      refine ⟨?_, trivial⟩;conv=>whnf
      refine ⟨?_, trivial⟩;conv=>whnf
      refine .inr ⟨by omega, by omega, ?_⟩;rw [e1, e2, l1, l2];rfl
   ·conv=>whnf
    refine ⟨?_, ?_, trivial⟩
    ·conv=>whnf
     refine ⟨?_, ?_, trivial⟩
     ·conv=>whnf
      refine ⟨l1.symm, by rw [l1, bH]; simp; omega, ?_⟩;conv=>whnf
      refine ⟨?_, trivial⟩;conv=>whnf
      refine ⟨?_, trivial⟩;conv=>whnf
      refine ⟨l2.symm, by rw [l2, aZ]; simp; omega, ?_⟩;conv=>whnf
      refine ⟨?_, trivial⟩;conv=>whnf
      refine ⟨?_, trivial⟩;conv=>whnf
      refine .inr ⟨by omega, by omega, ?_⟩;rw [e1, e2, l1, l2];rfl
     ·conv=>whnf
      refine ⟨?_, trivial⟩;conv=>whnf
      refine ⟨l1.symm, by rw [l1, bH]; simp; omega, ?_⟩;conv=>whnf
      refine ⟨?_, trivial⟩;conv=>whnf
      refine ⟨l2.symm, by rw [l2, aZ]; simp; omega, ?_⟩;conv=>whnf
      refine ⟨?_, trivial⟩;conv=>whnf
      refine ⟨?_, trivial⟩;conv=>whnf
      refine .inr ⟨by omega, by omega, ?_⟩;rw [e1, e2, l1, l2];rfl
    ·conv=>whnf
     refine ⟨?_, trivial⟩;conv=>whnf
     refine ⟨?_, trivial⟩;conv=>whnf
     refine ⟨l1.symm, by rw [l1, bH]; simp; omega, ?_⟩;conv=>whnf
     refine ⟨?_, trivial⟩;conv=>whnf
     refine ⟨l2.symm, by rw [l2, aZ]; simp; omega, ?_⟩;conv=>whnf
     refine ⟨?_, trivial⟩;conv=>whnf
     refine ⟨?_, trivial⟩;conv=>whnf
     refine .inr ⟨by omega, by omega, ?_⟩;rw [e1, e2, l1, l2];rfl
   ·conv=>whnf
    refine ⟨?_, ?_, trivial⟩
    ·conv=>whnf
     refine ⟨?_, ?_, trivial⟩
     ·conv=>whnf
      refine ⟨l1.symm, by rw [l1, bH]; simp; omega, ?_⟩;conv=>whnf
      refine ⟨?_, trivial⟩;conv=>whnf
      refine ⟨?_, trivial⟩;conv=>whnf
      refine ⟨l2.symm, by rw [l2, aZ]; simp; omega, ?_⟩;conv=>whnf
      refine ⟨?_, trivial⟩;conv=>whnf
      refine ⟨?_, trivial⟩;conv=>whnf
      refine .inr ⟨by omega, by omega, ?_⟩;rw [e1, e2, l1, l2];rfl
     ·conv=>whnf
      refine ⟨?_, trivial⟩;conv=>whnf
      refine ⟨l1.symm, by rw [l1, bH]; simp; omega, ?_⟩;conv=>whnf
      refine ⟨?_, trivial⟩;conv=>whnf
      refine ⟨l2.symm, by rw [l2, aZ]; simp; omega, ?_⟩;conv=>whnf
      refine ⟨?_, trivial⟩;conv=>whnf
      refine ⟨?_, trivial⟩;conv=>whnf
      refine .inr ⟨by omega, by omega, ?_⟩;rw [e1, e2, l1, l2];rfl
    ·conv=>whnf
     refine ⟨?_, trivial⟩;conv=>whnf
     refine ⟨?_, trivial⟩;conv=>whnf
     refine ⟨l1.symm, by rw [l1, bH]; simp; omega, ?_⟩;conv=>whnf
     refine ⟨?_, trivial⟩;conv=>whnf
     refine ⟨l2.symm, by rw [l2, aZ]; simp; omega, ?_⟩;conv=>whnf
     refine ⟨?_, trivial⟩;conv=>whnf
     refine ⟨?_, trivial⟩;conv=>whnf
     refine .inr ⟨by omega, by omega, ?_⟩;rw [e1, e2, l1, l2];rfl
 ·rintro s (⟨h1, rfl⟩ | ⟨h1, h2, rfl⟩)
  ·have hl0 : l = [] := List.length_eq_zero_iff.1 (by omega);subst hl0;conv=>whnf
   exact cf (gg (.cons (iL (.cons (.refl _) (.cons (cy 7) (.cons (cy 1) (leL.refl _))))) (leL.refl _))) rfl h
  ·have hE : (cN v l).take (qa v [] 0 l).length = cN v l := by rw [hlA, ← hEl, List.take_length]
   rw [hE, hlA, List.take_length];conv=>whnf
   exact bB h
theorem AM {v : Int} (hv : v = 1 ∨ v = 2 ∨ v = 3) (l : List Rc) (hm : ∀ r ∈ l, aR v r = true) (hl : l.length ≤ 1100) {R} (h : R (.tup [.agg (ct v l), vi 0]) []) : ag Tryz.prog 89 [.sl none 1 (ai (aC v l))] [] R := by
 have h1 := AO hv l hm hl [] (fun _ => rfl) (by simp) (by simp) [] (.inl rfl) (by simp) h;rw [List.map_nil, show ay [] = [] from rfl, List.append_nil, List.append_nil] at h1;exact h1
end Go.Abs
end
section
namespace Go.Abs
open Go Go.Proofs
attribute [local irreducible] aH aE aO firstIdx
def fsC (s : FSt) (m : Nm) : aF := .cells 96 [.mapv m, vi s.fail, vi s.fall, .val (.bool s.down)]
def fsM (s : FSt) : aF := .map (jC me s.fs)
theorem mC {R} (h : R (.ptr 0 0) [fsC fs0 1, fsM fs0]) : ag Tryz.prog 8 [] [] R := by
 refine ab (an := an8) tab_ok Tryz.func8 ?_;conv=>whnf
 exact h
theorem Kz {a : Int} (ha : okN a) : (if IntKind.i64.wrap (a - 1) < -1 then -1 else IntKind.i64.wrap (a - 1)) = cnt a := by
 unfold okN at ha;rw [aK (by omega) (by omega)];rfl
theorem fh (a : Int) (ha : okN a) {R} (h : R (.tup [vi (cnt a), .val (.bool (a == 0))]) []) : ag Tryz.prog 114 [vi a] [] R := by
 refine ab (an := SW) tab_ok Tryz.func114 ?_;conv=>whnf
 rw [Kz ha];exact h
theorem oB (s : FSt) {R} (h : R (.val (.bool s.down)) [fsC s 1, fsM s]) : ag Tryz.prog 33 [.ptr 0 0] [fsC s 1, fsM s] R := by
 refine ab (an := U6) tab_ok Tryz.func33 ?_;conv=>whnf
 exact h
theorem mc (s : FSt) (n : Int) {R} (h : R (.tup []) [fsC ⟨s.fs, s.fail, kM n, s.down⟩ 1, fsM s]) : ag Tryz.prog 11 [.ptr 0 0, vi n] [fsC s 1, fsM s] R := by
 refine ab (an := Vm) tab_ok Tryz.func11 ?_;conv=>whnf
 exact h
theorem i5 (s : FSt) (hl : s.fs.length < 1000000) (hs : ∀ n ∈ kys s.fs, n.length < 1000000) (hnd : (kys s.fs).Nodup) {R} (h : R (.sl none 1 (bl s.names)) [fsC s 1, fsM s]) : ag Tryz.prog 34 [.ptr 0 0] [fsC s 1, fsM s] R := by
 refine ab (an := U5) tab_ok Tryz.func34 ?_;conv=>whnf
 refine CB (jC me s.fs) ?_;conv=>whnf
 refine xH s.fs (by simpa [kys] using hl) hs hnd ?_;conv=>whnf
 exact h
theorem jP (s : FSt) (name : B) (hb : (gF s.fs name).b.length < 100000000) {R} (h1 : name ∈ kys s.fs → R (.tup [.sl none 1 (ai (gF s.fs name).b), vi 0]) [fsC s 1, fsM s]) (h2 : name ∉ kys s.fs → R (.tup [JQ, vi 6]) [fsC s 1, fsM s]) : ag Tryz.prog 26 [.ptr 0 0, vs name] [fsC s 1, fsM s] R := by
 refine ab (an := Rj) tab_ok Tryz.func26 ?_;conv=>whnf
 rw [iI]
 cases e : lk s.fs name with
 | none =>
  have h2 := h2 (fQ.1 e);conv=>whnf
  exact h2
 | some v =>
  have h1 := h1 (lT e);unfold gF at h1 hb;rw [e] at h1 hb;conv=>whnf
  refine lj v.b hb ?_;conv=>whnf
  exact h1
theorem pR (s : FSt) (name : B) {R} (h : R (vi (s.may name)) [fsC s 1, fsM s]) : ag Tryz.prog 78 [.ptr 0 0, vs name] [fsC s 1, fsM s] R := by
 refine ab (an := Uw) tab_ok Tryz.func78 ?_;conv=>whnf
 refine ae (fun g => ?_) (fun g => ?_)
 ·have g : s.down = true := g;rw [show s.may name = 7 by simp [FSt.may, g]] at h;conv=>whnf
  exact h
 have g : s.down = false := g;conv=>whnf
 rw [iI]
 cases e : lk s.fs name with
 | none =>
  rw [show s.may name = 6 by simp [FSt.may, g, e]] at h;conv=>whnf
  exact h
 | some v =>
  rw [show s.may name = 0 by simp [FSt.may, g, e]] at h;conv=>whnf
  exact h
theorem wX (l : B) (n : Nat) : (ai l).take n = ai (l.take n) := by simp [ai, List.map_take]
theorem Ox {b : B} : leE [[JQ], [AV.sl none 1 (ai b)]] [[AV.sl none 1 (ai [])], [AV.sl none 1 (ai b)]] :=
 leE.cons (leL.cons (cy 1) leL.nil) rfl (leE.cons (leL.refl _) rfl leE.nil)
theorem zb (s : FSt) (name b : B) (hb : b.length < 100000000) (hg : (gF s.fs name).b.length < 100000000) {R} (h : R (.tup []) [.cells 25 [.ptr 1 0], fsC ⟨(ec name b) s.fs, s.fail, s.fall, s.down⟩ 2, fsM ⟨(ec name b) s.fs, s.fail, s.fall, s.down⟩, .cells 77 [.sl none 1 (ai b)]]) :
  ag Tryz.prog 119 [.ptr 0 0, .cptr [vs name] 0, .ptr 3 0] [.cells 25 [.ptr 1 0], fsC s 2, fsM s, .cells 77 [.sl none 1 (ai b)]] R := by
 refine ab (an := ST) tab_ok Tryz.func119 ?_;conv=>whnf
 rw [iI]
 cases e : lk s.fs name with
 | none =>
  have e0 : gF s.fs name = flZ := by simp [gF, e]
  have e1 : ec name b s.fs = pt s.fs name ⟨[] ++ b, 0⟩ := by unfold ec; rw [e0]; rfl
  conv=>whnf
  refine ag.args (leL.cons (Na _ _ Ox) leL.nil) (ln [] b (by simp) hb ?_);conv=>whnf
  rw [show AV.agg (List.map AV.strip [AV.sl none 1 (ai ([] ++ b)), AV.val (Value.int IntKind.i64 0)]) = me ⟨[] ++ b, 0⟩ from rfl, l7, ← e1];conv=>whnf
  exact h
 | some v =>
  have e0 : gF s.fs name = v := by simp [gF, e]
  rw [e0] at hg;have e1 : ec name b s.fs = pt s.fs name ⟨v.b ++ b, v.safe⟩ := by unfold ec; rw [e0]
  conv=>whnf
  refine ln v.b b hg hb ?_;conv=>whnf
  rw [show AV.agg (List.map AV.strip [AV.sl none 1 (ai (v.b ++ b)), AV.val (Value.int IntKind.i64 v.safe)]) = me ⟨v.b ++ b, v.safe⟩ from rfl, l7, ← e1];conv=>whnf
  exact h
theorem FE (s : FSt) (name b : B) (hb : b.length < 100000000) (hg : (gF s.fs name).b.length < 100000000) (late : Bool) (h1 : okN s.fail) (h2 : okN s.fall) {R} (h : R (vi (s.act late (ec name b)).2) (fsC (s.act late (ec name b)).1 1 :: fsM (s.act late (ec name b)).1 :: [.cells 25 [.ptr 0 0], .cells 77 [.sl none 1 (ai b)]])) :
  ag Tryz.prog 79 [.ptr 0 0, .val (.bool late), .fn (.func 119) [] [.ptr 2 0, .cptr [vs name] 0, .ptr 3 0]] (fsC s 1 :: fsM s :: [.cells 25 [.ptr 0 0], .cells 77 [.sl none 1 (ai b)]]) R := by
 refine ab (an := KY) tab_ok Tryz.func79 ?_;conv=>whnf
 refine fh s.fail h1 ?_;conv=>whnf
 refine fh s.fall h2 ?_;conv=>whnf
 refine ae (fun g => ?_) (fun g => ?_)
 ·have g : s.fall = 0 := by simpa using g
  conv=>whnf
  refine ae (fun g2 => ?_) (fun g2 => ?_)
  ·have g2 : late = true := g2;rw [show s.act late (ec name b) = (⟨(ec name b) s.fs, cnt s.fail, cnt s.fall, true⟩, 7) by simp [FSt.act, g, g2]] at h;conv=>whnf
   refine zb ⟨s.fs, cnt s.fail, cnt s.fall, true⟩ name b hb hg ?_;conv=>whnf
   exact h
  ·have g2 : late = false := g2;rw [show s.act late (ec name b) = (⟨s.fs, cnt s.fail, cnt s.fall, true⟩, 7) by simp [FSt.act, g, g2]] at h;conv=>whnf
   exact h
 have g : s.fall ≠ 0 := by simpa using g
 conv=>whnf
 refine ae (fun g2 => ?_) (fun g2 => ?_)
 ·have g2 : s.fail = 0 := by simpa using g2
  rw [show s.act late (ec name b) = (⟨s.fs, cnt s.fail, cnt s.fall, s.down⟩, 8) by simp [FSt.act, g, g2]] at h;conv=>whnf
  exact h
 have g2 : s.fail ≠ 0 := by simpa using g2
 rw [show s.act late (ec name b) = (⟨(ec name b) s.fs, cnt s.fail, cnt s.fall, s.down⟩, 0) by simp [FSt.act, g, g2]] at h;conv=>whnf
 refine zb ⟨s.fs, cnt s.fail, cnt s.fall, s.down⟩ name b hb hg ?_;conv=>whnf
 exact h
theorem y8 (s : FSt) (name : B) (v : Fl) (hv : gF s.fs name = v) {R} (h : R (.tup []) [.cells 116 [.sl none 1 (ai v.b), vi v.safe], .cells 25 [.ptr 2 0], fsC ⟨(cR name) s.fs, s.fail, s.fall, s.down⟩ 3, fsM ⟨(cR name) s.fs, s.fail, s.fall, s.down⟩]) :
  ag Tryz.prog 108 [.ptr 0 0, .ptr 1 0, .cptr [vs name] 0] [.cells 116 [.sl none 1 (ai v.b), vi v.safe], .cells 25 [.ptr 2 0], fsC s 3, fsM s] R := by
 refine ab (an := S0) tab_ok Tryz.func108 ?_;have hl := aM v.b;have e1 : cR name s.fs = pt s.fs name ⟨v.b, v.b.length⟩ := by unfold cR; rw [hv]
 conv=>whnf
 show R (.tup []) [.cells 116 [.sl none 1 (ai v.b), vi v.safe], .cells 25 [.ptr 2 0], fsC s 3, .map (d7 (jC me s.fs) (ofB name) (.agg [.sl none 1 (ai v.b), vi ((ai v.b).length : Nat)]))];rw [hl, show AV.agg [.sl none 1 (ai v.b), vi (v.b.length : Nat)] = me ⟨v.b, v.b.length⟩ from rfl, l7, ← e1];exact h
theorem FB (s : FSt) (name : B) (v : Fl) (hv : gF s.fs name = v) (late : Bool) (h1 : okN s.fail) (h2 : okN s.fall) {R} (h : R (vi (s.act late (cR name)).2) (fsC (s.act late (cR name)).1 1 :: fsM (s.act late (cR name)).1 :: [.cells 116 [.sl none 1 (ai v.b), vi v.safe], .cells 25 [.ptr 0 0]])) :
  ag Tryz.prog 79 [.ptr 0 0, .val (.bool late), .fn (.func 108) [] [.ptr 2 0, .ptr 3 0, .cptr [vs name] 0]] (fsC s 1 :: fsM s :: [.cells 116 [.sl none 1 (ai v.b), vi v.safe], .cells 25 [.ptr 0 0]]) R := by
 refine ab (an := KY) tab_ok Tryz.func79 ?_;conv=>whnf
 refine fh s.fail h1 ?_;conv=>whnf
 refine fh s.fall h2 ?_;conv=>whnf
 refine ae (fun g => ?_) (fun g => ?_)
 ·have g : s.fall = 0 := by simpa using g
  conv=>whnf
  refine ae (fun g2 => ?_) (fun g2 => ?_)
  ·have g2 : late = true := g2;rw [show s.act late (cR name) = (⟨(cR name) s.fs, cnt s.fail, cnt s.fall, true⟩, 7) by simp [FSt.act, g, g2]] at h;conv=>whnf
   refine y8 ⟨s.fs, cnt s.fail, cnt s.fall, true⟩ name v hv ?_;conv=>whnf
   exact h
  ·have g2 : late = false := g2;rw [show s.act late (cR name) = (⟨s.fs, cnt s.fail, cnt s.fall, true⟩, 7) by simp [FSt.act, g, g2]] at h;conv=>whnf
   exact h
 have g : s.fall ≠ 0 := by simpa using g
 conv=>whnf
 refine ae (fun g2 => ?_) (fun g2 => ?_)
 ·have g2 : s.fail = 0 := by simpa using g2
  rw [show s.act late (cR name) = (⟨s.fs, cnt s.fail, cnt s.fall, s.down⟩, 8) by simp [FSt.act, g, g2]] at h;conv=>whnf
  exact h
 have g2 : s.fail ≠ 0 := by simpa using g2
 rw [show s.act late (cR name) = (⟨(cR name) s.fs, cnt s.fail, cnt s.fall, s.down⟩, 0) by simp [FSt.act, g, g2]] at h;conv=>whnf
 refine y8 ⟨s.fs, cnt s.fail, cnt s.fall, s.down⟩ name v hv ?_;conv=>whnf
 exact h
theorem y7 (s : FSt) (name : B) (v : Fl) (size : Nat) (hv : gF s.fs name = v) (hsz : size ≤ v.b.length) (hvb : v.b.length < 100000000) {R} (h : R (.tup []) [.cells 116 [.sl none 1 (ai v.b), vi v.safe], .cells 25 [.ptr 2 0], fsC ⟨(oJ name size) s.fs, s.fail, s.fall, s.down⟩ 3, fsM ⟨(oJ name size) s.fs, s.fail, s.fall, s.down⟩]) :
  ag Tryz.prog 125 [.ptr 0 0, .cptr [vi size] 0, .ptr 1 0, .cptr [vs name] 0] [.cells 116 [.sl none 1 (ai v.b), vi v.safe], .cells 25 [.ptr 2 0], fsC s 3, fsM s] R := by
 refine ab (an := SO) tab_ok Tryz.func125 ?_;have hl := aM v.b;have e1 : oJ name size s.fs = pt s.fs name ⟨v.b.take size, min v.safe size⟩ := by unfold oJ; rw [hv]
 conv=>whnf
 refine ac (decide_eq_true (by omega)) ?_;conv=>whnf
 refine ac (decide_eq_true (by omega)) ?_;conv=>whnf
 show R (.tup []) [.cells 116 [.sl none 1 (ai v.b), vi v.safe], .cells 25 [.ptr 2 0], fsC s 3, .map (d7 (jC me s.fs) (ofB name) (.agg [.sl none 1 ((ai v.b).take size), vi (if (size : Int) < (v.safe : Int) then (size : Int) else (v.safe : Int))]))];rw [show (if (size : Int) < (v.safe : Int) then (size : Int) else (v.safe : Int)) = ((min v.safe size : Nat) : Int) by split <;> omega, wX, show AV.agg [.sl none 1 (ai (v.b.take size)), vi (min v.safe size : Nat)] = me ⟨v.b.take size, min v.safe size⟩ from rfl, l7, ← e1];exact h
theorem FA (s : FSt) (name : B) (v : Fl) (size : Nat) (hv : gF s.fs name = v) (hsz : size ≤ v.b.length) (hvb : v.b.length < 100000000) (late : Bool) (h1 : okN s.fail) (h2 : okN s.fall) {R} (h : R (vi (s.act late (oJ name size)).2) (fsC (s.act late (oJ name size)).1 1 :: fsM (s.act late (oJ name size)).1 :: [.cells 116 [.sl none 1 (ai v.b), vi v.safe], .cells 25 [.ptr 0 0]])) :
  ag Tryz.prog 79 [.ptr 0 0, .val (.bool late), .fn (.func 125) [] [.ptr 2 0, .cptr [vi size] 0, .ptr 3 0, .cptr [vs name] 0]] (fsC s 1 :: fsM s :: [.cells 116 [.sl none 1 (ai v.b), vi v.safe], .cells 25 [.ptr 0 0]]) R := by
 refine ab (an := KY) tab_ok Tryz.func79 ?_;conv=>whnf
 refine fh s.fail h1 ?_;conv=>whnf
 refine fh s.fall h2 ?_;conv=>whnf
 refine ae (fun g => ?_) (fun g => ?_)
 ·have g : s.fall = 0 := by simpa using g
  conv=>whnf
  refine ae (fun g2 => ?_) (fun g2 => ?_)
  ·have g2 : late = true := g2;rw [show s.act late (oJ name size) = (⟨(oJ name size) s.fs, cnt s.fail, cnt s.fall, true⟩, 7) by simp [FSt.act, g, g2]] at h;conv=>whnf
   refine y7 ⟨s.fs, cnt s.fail, cnt s.fall, true⟩ name v size hv hsz hvb ?_;conv=>whnf
   exact h
  ·have g2 : late = false := g2;rw [show s.act late (oJ name size) = (⟨s.fs, cnt s.fail, cnt s.fall, true⟩, 7) by simp [FSt.act, g, g2]] at h;conv=>whnf
   exact h
 have g : s.fall ≠ 0 := by simpa using g
 conv=>whnf
 refine ae (fun g2 => ?_) (fun g2 => ?_)
 ·have g2 : s.fail = 0 := by simpa using g2
  rw [show s.act late (oJ name size) = (⟨s.fs, cnt s.fail, cnt s.fall, s.down⟩, 8) by simp [FSt.act, g, g2]] at h;conv=>whnf
  exact h
 have g2 : s.fail ≠ 0 := by simpa using g2
 rw [show s.act late (oJ name size) = (⟨(oJ name size) s.fs, cnt s.fail, cnt s.fall, s.down⟩, 0) by simp [FSt.act, g, g2]] at h;conv=>whnf
 refine y7 ⟨s.fs, cnt s.fail, cnt s.fall, s.down⟩ name v size hv hsz hvb ?_;conv=>whnf
 exact h
theorem y9 (s : FSt) (a b : B) (hka : a ∈ kys s.fs) {R} (h : R (.tup []) [.cells 25 [.ptr 1 0], fsC ⟨(kc a b) s.fs, s.fail, s.fall, s.down⟩ 2, fsM ⟨(kc a b) s.fs, s.fail, s.fall, s.down⟩]) :
  ag Tryz.prog 121 [.ptr 0 0, .cptr [vs a] 0, .cptr [vs b] 0] [.cells 25 [.ptr 1 0], fsC s 2, fsM s] R := by
 refine ab (an := SR) tab_ok Tryz.func121 ?_;obtain ⟨v, e⟩ := wa hka;have e0 : gF s.fs a = v := by simp [gF, e]
 have e1 : kc a b s.fs = pt (dl s.fs a) b v := by unfold kc; rw [e0]
 conv=>whnf
 rw [iI, e];conv=>whnf
 rw [Dg];conv=>whnf
 rw [show AV.agg (List.map AV.strip [AV.sl none 1 (ai v.b), AV.val (Value.int IntKind.i64 v.safe)]) = me v from rfl, l7, ← e1];conv=>whnf
 exact h
theorem FC (s : FSt) (a b : B) (hka : a ∈ kys s.fs) (late : Bool) (h1 : okN s.fail) (h2 : okN s.fall) {R} (h : R (vi (s.act late (kc a b)).2) (fsC (s.act late (kc a b)).1 1 :: fsM (s.act late (kc a b)).1 :: [.cells 25 [.ptr 0 0]])) :
  ag Tryz.prog 79 [.ptr 0 0, .val (.bool late), .fn (.func 121) [] [.ptr 2 0, .cptr [vs a] 0, .cptr [vs b] 0]] (fsC s 1 :: fsM s :: [.cells 25 [.ptr 0 0]]) R := by
 refine ab (an := KY) tab_ok Tryz.func79 ?_;conv=>whnf
 refine fh s.fail h1 ?_;conv=>whnf
 refine fh s.fall h2 ?_;conv=>whnf
 refine ae (fun g => ?_) (fun g => ?_)
 ·have g : s.fall = 0 := by simpa using g
  conv=>whnf
  refine ae (fun g2 => ?_) (fun g2 => ?_)
  ·have g2 : late = true := g2;rw [show s.act late (kc a b) = (⟨(kc a b) s.fs, cnt s.fail, cnt s.fall, true⟩, 7) by simp [FSt.act, g, g2]] at h;conv=>whnf
   refine y9 ⟨s.fs, cnt s.fail, cnt s.fall, true⟩ a b hka ?_;conv=>whnf
   exact h
  ·have g2 : late = false := g2;rw [show s.act late (kc a b) = (⟨s.fs, cnt s.fail, cnt s.fall, true⟩, 7) by simp [FSt.act, g, g2]] at h;conv=>whnf
   exact h
 have g : s.fall ≠ 0 := by simpa using g
 conv=>whnf
 refine ae (fun g2 => ?_) (fun g2 => ?_)
 ·have g2 : s.fail = 0 := by simpa using g2
  rw [show s.act late (kc a b) = (⟨s.fs, cnt s.fail, cnt s.fall, s.down⟩, 8) by simp [FSt.act, g, g2]] at h;conv=>whnf
  exact h
 have g2 : s.fail ≠ 0 := by simpa using g2
 rw [show s.act late (kc a b) = (⟨(kc a b) s.fs, cnt s.fail, cnt s.fall, s.down⟩, 0) by simp [FSt.act, g, g2]] at h;conv=>whnf
 refine y9 ⟨s.fs, cnt s.fail, cnt s.fall, s.down⟩ a b hka ?_;conv=>whnf
 exact h
theorem za (s : FSt) (name : B) {R} (h : R (.tup []) [.cells 25 [.ptr 1 0], fsC ⟨(fun m => dl m name) s.fs, s.fail, s.fall, s.down⟩ 2, fsM ⟨(fun m => dl m name) s.fs, s.fail, s.fall, s.down⟩]) :
  ag Tryz.prog 80 [.ptr 0 0, .cptr [vs name] 0] [.cells 25 [.ptr 1 0], fsC s 2, fsM s] R := by
 refine ab (an := Uv) tab_ok Tryz.func80 ?_;conv=>whnf
 rw [Dg];conv=>whnf
 exact h
theorem FD (s : FSt) (name : B) (late : Bool) (h1 : okN s.fail) (h2 : okN s.fall) {R} (h : R (vi (s.act late (fun m => dl m name)).2) (fsC (s.act late (fun m => dl m name)).1 1 :: fsM (s.act late (fun m => dl m name)).1 :: [.cells 25 [.ptr 0 0]])) :
  ag Tryz.prog 79 [.ptr 0 0, .val (.bool late), .fn (.func 80) [] [.ptr 2 0, .cptr [vs name] 0]] (fsC s 1 :: fsM s :: [.cells 25 [.ptr 0 0]]) R := by
 refine ab (an := KY) tab_ok Tryz.func79 ?_;conv=>whnf
 refine fh s.fail h1 ?_;conv=>whnf
 refine fh s.fall h2 ?_;conv=>whnf
 refine ae (fun g => ?_) (fun g => ?_)
 ·have g : s.fall = 0 := by simpa using g
  conv=>whnf
  refine ae (fun g2 => ?_) (fun g2 => ?_)
  ·have g2 : late = true := g2;rw [show s.act late (fun m => dl m name) = (⟨(fun m => dl m name) s.fs, cnt s.fail, cnt s.fall, true⟩, 7) by simp [FSt.act, g, g2]] at h;conv=>whnf
   refine za ⟨s.fs, cnt s.fail, cnt s.fall, true⟩ name ?_;conv=>whnf
   exact h
  ·have g2 : late = false := g2;rw [show s.act late (fun m => dl m name) = (⟨s.fs, cnt s.fail, cnt s.fall, true⟩, 7) by simp [FSt.act, g, g2]] at h;conv=>whnf
   exact h
 have g : s.fall ≠ 0 := by simpa using g
 conv=>whnf
 refine ae (fun g2 => ?_) (fun g2 => ?_)
 ·have g2 : s.fail = 0 := by simpa using g2
  rw [show s.act late (fun m => dl m name) = (⟨s.fs, cnt s.fail, cnt s.fall, s.down⟩, 8) by simp [FSt.act, g, g2]] at h;conv=>whnf
  exact h
 have g2 : s.fail ≠ 0 := by simpa using g2
 rw [show s.act late (fun m => dl m name) = (⟨(fun m => dl m name) s.fs, cnt s.fail, cnt s.fall, s.down⟩, 0) by simp [FSt.act, g, g2]] at h;conv=>whnf
 refine za ⟨s.fs, cnt s.fail, cnt s.fall, s.down⟩ name ?_;conv=>whnf
 exact h
theorem ls (s : FSt) (name b : B) (h1 : okN s.fail) (h2 : okN s.fall) (hb : b.length < 1000000) (hg : (gF s.fs name).b.length < 100000000) {R} (h : R (vi (s.append name b).2) [fsC (s.append name b).1 1, fsM (s.append name b).1]) : ag Tryz.prog 84 [.ptr 0 0, vs name, .sl none 1 (ai b)] [fsC s 1, fsM s] R := by
 refine ab (an := Us) tab_ok Tryz.func84 ?_;conv=>whnf
 refine ae (fun g => ?_) (fun g => ?_)
 ·have g : s.down = true := g;rw [show s.append name b = (s, 7) by simp [FSt.append, g]] at h;conv=>whnf
  exact h
 have g : s.down = false := g;rw [show s.append name b = s.act true (ec name b) by simp [FSt.append, g]] at h;conv=>whnf
 refine lj b (by omega) ?_;conv=>whnf
 refine FE s name b (by omega) hg true h1 h2 ?_;conv=>whnf
 exact h
theorem xd (s : FSt) (name : B) (h1 : okN s.fail) (h2 : okN s.fall) {R} (h : R (vi (s.sync name).2) [fsC (s.sync name).1 1, fsM (s.sync name).1]) : ag Tryz.prog 64 [.ptr 0 0, vs name] [fsC s 1, fsM s] R := by
 refine ab (an := UI) tab_ok Tryz.func64 ?_;conv=>whnf
 refine pR s name ?_;conv=>whnf
 refine ae (fun g => ?_) (fun g => ?_)
 ·have g : s.may name ≠ 0 := by simpa using g
  rw [show s.sync name = (s, s.may name) by simp [FSt.sync, g]] at h;conv=>whnf
  exact h
 have g : ¬ s.may name ≠ 0 := by simpa using g
 rw [show s.sync name = s.act false (cR name) by unfold FSt.sync; rw [if_neg g]] at h;obtain ⟨v, e⟩ := wa (mv g).2;conv=>whnf
 rw [iI, e];conv=>whnf
 refine FB s name v (by simp [gF, e]) false h1 h2 ?_;conv=>whnf
 exact h
theorem pE (s : FSt) (name : B) (n : Int) (h1 : okN s.fail) (h2 : okN s.fall) (hg : (gF s.fs name).b.length < 100000000) {R} (h : R (vi (s.truncate name n).2) [fsC (s.truncate name n).1 1, fsM (s.truncate name n).1]) : ag Tryz.prog 90 [.ptr 0 0, vs name, vi n] [fsC s 1, fsM s] R := by
 refine ab (an := Um) tab_ok Tryz.func90 ?_;conv=>whnf
 refine pR s name ?_;conv=>whnf
 refine ae (fun g => ?_) (fun g => ?_)
 ·have g : s.may name ≠ 0 := by simpa using g
  rw [show s.truncate name n = (s, s.may name) by simp [FSt.truncate, g]] at h;conv=>whnf
  exact h
 have g : ¬ s.may name ≠ 0 := by simpa using g
 obtain ⟨v, e⟩ := wa (mv g).2;have ev : gF s.fs name = v := by simp [gF, e]
 have hl := aM v.b;rw [ev] at hg;conv=>whnf
 rw [iI, e];conv=>whnf
 refine ae (fun g1 => ?_) (fun g1 => ?_)
 ·have g1 : n < 0 := by simpa using g1
  rw [show s.truncate name n = (s, 1) by unfold FSt.truncate; rw [if_neg g, if_pos (.inl g1)]] at h;conv=>whnf
  exact h
 have g1 : ¬ n < 0 := by simpa using g1
 conv=>whnf
 refine ae (fun g2 => ?_) (fun g2 => ?_)
 ·have g2 : (v.b.length : Int) < n := by rw [hl] at g2; simpa using g2
  rw [show s.truncate name n = (s, 1) by unfold FSt.truncate; rw [if_neg g, if_pos (.inr (by rw [ev]; exact g2))]] at h;conv=>whnf
  exact h
 have g2 : ¬ (v.b.length : Int) < n := by rw [hl] at g2; simpa using g2
 rw [show s.truncate name n = s.act false (oJ name n.toNat) by unfold FSt.truncate; rw [if_neg g, if_neg (by rw [ev]; omega)]] at h;obtain ⟨k, rfl⟩ := Int.eq_ofNat_of_zero_le (show 0 ≤ n by omega);rw [Int.toNat_natCast] at h;conv=>whnf
 refine FA s name v k ev (by omega) hg false h1 h2 ?_;conv=>whnf
 exact h
theorem A5 (s : FSt) (a b : B) (h1 : okN s.fail) (h2 : okN s.fall) {R} (h : R (vi (s.rename a b).2) [fsC (s.rename a b).1 1, fsM (s.rename a b).1]) : ag Tryz.prog 87 [.ptr 0 0, vs a, vs b] [fsC s 1, fsM s] R := by
 refine ab (an := Uo) tab_ok Tryz.func87 ?_;conv=>whnf
 refine pR s a ?_;conv=>whnf
 refine ae (fun g => ?_) (fun g => ?_)
 ·have g : s.may a ≠ 0 := by simpa using g
  rw [show s.rename a b = (s, s.may a) by simp [FSt.rename, g]] at h;conv=>whnf
  exact h
 have g : ¬ s.may a ≠ 0 := by simpa using g
 rw [show s.rename a b = s.act false (kc a b) by unfold FSt.rename; rw [if_neg g]] at h;conv=>whnf
 refine FC s a b (mv g).2 false h1 h2 ?_;conv=>whnf
 exact h
theorem sJ (s : FSt) (name : B) (h1 : okN s.fail) (h2 : okN s.fall) {R} (h : R (vi (s.remove name).2) [fsC (s.remove name).1 1, fsM (s.remove name).1]) : ag Tryz.prog 36 [.ptr 0 0, vs name] [fsC s 1, fsM s] R := by
 refine ab (an := U3) tab_ok Tryz.func36 ?_;conv=>whnf
 refine pR s name ?_;conv=>whnf
 refine ae (fun g => ?_) (fun g => ?_)
 ·have g : s.may name ≠ 0 := by simpa using g
  rw [show s.remove name = (s, s.may name) by simp [FSt.remove, g]] at h;conv=>whnf
  exact h
 have g : ¬ s.may name ≠ 0 := by simpa using g
 rw [show s.remove name = s.act false (fun m => dl m name) by unfold FSt.remove; rw [if_neg g]] at h;conv=>whnf
 refine FD s name false h1 h2 ?_;conv=>whnf
 exact h
theorem CY {n : B} {l : List B} {keep : List Int} {m : FM} (h : (gF m n).safe = (gF m n).b.length) : eL (n :: l) keep m = eL l keep m := by
 conv => lhs; unfold eL
 rw [if_pos h]
theorem CZ {n : B} {l : List B} {m : FM} (h : ¬ (gF m n).safe = (gF m n).b.length) : eL (n :: l) [] m = eL l [] (pt m n ⟨(gF m n).b.take (gF m n).safe, (gF m n).safe⟩) := by
 conv => lhs; unfold eL
 rw [if_neg h]
theorem C0 {n : B} {l : List B} {k : Int} {keep : List Int} {m : FM} (h : ¬ (gF m n).safe = (gF m n).b.length) (hs : (gF m n).safe ≤ (gF m n).b.length) {z : Nat} (hz : (z : Int) = (gF m n).safe + min (max k 0) ((gF m n).b.length - (gF m n).safe : Int)) :
  eL (n :: l) (k :: keep) m = eL l keep (pt m n ⟨(gF m n).b.take z, z⟩) := by
 conv => lhs; unfold eL
 rw [if_neg h];have : z = (gF m n).safe + (min (max k 0) ((gF m n).b.length - (gF m n).safe : Int)).toNat := by omega
 rw [this]
theorem uw (s : FSt) (keep : List Int) {nb fb : Nat} (ho : FOk s nb fb) (hnb : nb < 1000000) (hfb : fb < 100000000) (hk : keep.length < 1000000) {R} (h : R (.tup []) [fsC (s.crash keep) 1, fsM (s.crash keep)]) : ag Tryz.prog 13 [.ptr 0 0, .sl none 1 (cV keep)] [fsC s 1, fsM s] R := by
 refine ab (an := Vl) tab_ok Tryz.func13 ?_;have hsl := aD s.names;have hnl : s.names.length = s.fs.length := by rw [(dS s).length_eq]; simp [kys]
 have hll := ho.m.len;conv=>whnf
 refine i5 s (by omega) ho.m.names ho.m.nodup ?_;conv=>whnf
 refine au.ind3 (fun (i : Nat) (kp : List Int) (m : FM) => [(1, .sl none 1 (cV kp)), (12, vi i)]) (fun i kp m => [(0, fsC s 1), (1, .map (jC me m))]) (fun i _ _ => s.names.length - i)
  (fun i kp m => i ≤ s.names.length ∧ j9 m nb fb ∧ kys m = kys s.fs ∧ kp.length ≤ keep.length ∧ eL (s.names.drop i) kp m = eL s.names keep s.fs) 0 keep s.fs rfl ⟨by omega, ho.m, rfl, by omega, rfl⟩ ?_
 rintro i kp m ⟨h0, hm, hky, hkl, hcr⟩ IH;have hil := jO kp;conv=>whnf
 refine ae (fun hc => ?_) (fun hc => ?_)
 ·have hc := ap hsl hc;rw [List.drop_eq_getElem_cons hc] at hcr;have hin : s.names[i] ∈ kys m := by rw [hky]; exact (dS s).mem_iff.1 (List.getElem_mem hc)
  obtain ⟨v, e⟩ := wa hin;have ev : gF m s.names[i] = v := by simp [gF, e]
  have hg := hm.get s.names[i];rw [ev] at hg;have hvl := aM v.b
  (conv=>whnf); (repeat ((with_reducible refine ac ?_ ?_); exact decide_eq_true (by omega); (conv=>whnf)))
  refine idxNat (by simpa using hc) ?_;conv=>whnf
  rw [iI, e];conv=>whnf
  rw [hvl];refine ae (fun g => ?_) (fun g => ?_)
  ·have g : (v.safe : Int) = (v.b.length : Int) := by simpa using g
   rw [CY (by rw [ev]; omega)] at hcr;conv=>whnf
   rw [al (by omega)];exact IH (i + 1) kp m ⟨by omega, hm, hky, hkl, hcr⟩ (by omega)
  have g : ¬ (v.safe : Int) = (v.b.length : Int) := by simpa using g
  have g' : ¬ (gF m s.names[i]).safe = (gF m s.names[i]).b.length := by rw [ev]; omega
  have put : ∀ (z : Nat), v.safe ≤ z → z ≤ v.b.length → j9 (pt m s.names[i] ⟨v.b.take z, z⟩) nb fb ∧ kys (pt m s.names[i] ⟨v.b.take z, z⟩) = kys s.fs := fun z z1 z2 =>
   ⟨hm.put_old hin (by simp; omega) (by simp; omega) (by omega), by rw [tb hin, hky]⟩
  cases kp with
  | nil =>
   rw [CZ g', ev] at hcr;have ew : IntKind.i64.wrap ((v.safe : Int) + 0) = v.safe := by rw [aK (by omega) (by omega)]; omega
   have eqm := l7 me m s.names[i] ⟨v.b.take v.safe, v.safe⟩;have hnx := IH (i + 1) [] (pt m s.names[i] ⟨v.b.take v.safe, v.safe⟩) ⟨by omega, (put v.safe (by omega) hg.1).1, (put v.safe (by omega) hg.1).2, by simp, hcr⟩ (by omega);dsimp only at hnx;rw [← eqm] at hnx;conv=>whnf
   refine ac (decide_eq_true (by rw [ew]; omega)) ?_;conv=>whnf
   refine ac (decide_eq_true (by rw [ew]; omega)) ?_;conv=>whnf
   refine ac (decide_eq_true (by rw [ew]; omega)) ?_;rw [ew];conv=>whnf
   rw [al (by omega)];simp only [me, ← wX] at hnx;exact hnx
  | cons k kp =>
   have w1 : IntKind.i64.wrap (((ai v.b).length : Int) - v.safe) = (v.b.length : Int) - v.safe := by rw [hvl, aK (by omega) (by omega)]
   obtain ⟨z, hz⟩ : ∃ z : Nat, (z : Int) = v.safe + min (max k 0) (v.b.length - v.safe : Int) := ⟨((v.safe : Int) + min (max k 0) (v.b.length - v.safe : Int)).toNat, by omega⟩;have hz1 : v.safe ≤ z ∧ z ≤ v.b.length := by omega
   have ew : IntKind.i64.wrap ((v.safe : Int) + if IntKind.i64.wrap (((ai v.b).length : Int) - v.safe) < if k < 0 then 0 else k then IntKind.i64.wrap (((ai v.b).length : Int) - v.safe) else if k < 0 then 0 else k) = z := by
    rw [w1];have : ((v.safe : Int) + if ((v.b.length : Int) - v.safe) < if k < 0 then 0 else k then ((v.b.length : Int) - v.safe) else if k < 0 then 0 else k) = z := by
     rw [hz];split <;> split <;> omega
    rw [this, aK (by omega) (by omega)]
   have et : List.drop (Int.toNat 1) (List.take (((cV (k :: kp)).length : Int)).toNat (cV (k :: kp))) = cV kp := by
    rw [Int.toNat_natCast, List.take_length]; rfl
   rw [C0 g' (by rw [ev]; exact hg.1) (z := z) (by rw [ev]; exact hz), ev] at hcr;have eqm := l7 me m s.names[i] ⟨v.b.take z, z⟩;have hnx := IH (i + 1) kp (pt m s.names[i] ⟨v.b.take z, z⟩) ⟨by omega, (put z hz1.1 hz1.2).1, (put z hz1.1 hz1.2).2, by simp at hkl; omega, hcr⟩ (by omega);dsimp only at hnx;rw [← eqm] at hnx;conv=>whnf
   refine aI (decide_eq_true (by rw [hil]; simp)) ?_;conv=>whnf
   refine ac (decide_eq_true (by rw [hil]; simp; omega)) ?_;conv=>whnf
   refine ac (decide_eq_true (by omega)) ?_;conv=>whnf
   refine ac (decide_eq_true (by rw [ew]; omega)) ?_;conv=>whnf
   refine ac (decide_eq_true (by rw [ew]; omega)) ?_;conv=>whnf
   refine ac (decide_eq_true (by rw [ew]; omega)) ?_;rw [ew, et];conv=>whnf
   rw [al (by omega)];simp only [me, ← wX] at hnx;exact hnx
 ·have hc := aw hsl hc;rw [List.drop_eq_nil_of_le hc] at hcr;have hcr : m = eL s.names keep s.fs := hcr;conv=>whnf
  rw [hcr];exact h
end Go.Abs
end
