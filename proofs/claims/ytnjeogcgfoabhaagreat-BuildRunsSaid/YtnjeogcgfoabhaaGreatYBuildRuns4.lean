/- Several texts of this claim, one behind the other: PE, L6, L7, L8, L9, LA, LB, LC, PF, PG, PH, PI, PJ, PK, PL, PM, MC, PO, SA, SB, SC, SD, SE, TA, TB, TC, ZE, ZF, UD, UF, UG, UH, UA, UB. -/
import Derived.Test.YtnjeogcgfoabhaaGreatYBuildRuns3
import Derived.Test.YtnjeogcgfoabhaaGreatE0C1
import Derived.Test.YtnjeogcgfoabhaaGreatE0BA
set_option maxRecDepth 100000
set_option maxHeartbeats 4000000
set_option linter.unusedVariables false
set_option linter.unusedSimpArgs false
section
namespace Go.Abs
open Go Go.Proofs Dig
attribute [local irreducible] aH aD aO firstIdx
def c6 (v : Int) (l : List Rc) : List Nat := (List.range l.length).map fun i => (aC v (l.take (i + 1))).length
theorem gy (v : Int) (l : List Rc) : (c6 v l).length = l.length := by simp [c6]
theorem Km {v : Int} {l : List Rc} {i : Nat} (h : i < l.length) : (c6 v l)[i]'(by rw [gy]; exact h) = (aC v (l.take (i + 1))).length := by simp [c6]
theorem cp (v : Int) (l : List Rc) : (aC v l).length = 8 + (aw (aW v [] l)).length := by
 unfold aC;rw [aac, eL]
def cq (v : Int) (l : List Rc) : List AV := [vi v, .sl none 7 (be l), .sl none 1 (dh (c6 v l)), vi (((aC v l).length : Nat) : Int)]
theorem wJ (v : Int) (P : List B) {R} (h : R (.fn (.func 165) [] [.cptr [vi v] 0, .cptr [.sl none 1 (cc P)] 0]) []) : ag Tryz.prog 124 [vi v, .sl none 1 (cc P)] [] R := by
 refine aa (an := SO) tab_ok Tryz.func124 ?_;conv=>whnf
 exact h
theorem bF : (tab.ti 67).bytes = 88 := rfl
theorem ym {l : List Rc} {i : Nat} (h : i < l.length) : be (l.take (i + 1)) = be (l.take i) ++ [l[i].enc] := by
 rw [aab h];unfold be;rw [aaG];rfl
theorem Ii (l : List B) (o i : Nat) (h : i < l.length) : (fk o l)[i]'(by rw [eO]; exact h) = o + (aw (l.take (i + 1))).length := by
 have h1 := pm l o i h;rw [aad (by rw [eO]; exact h)] at h1;exact Option.some.inj h1
def cgS (E : List Nat) : List AV := [.junk, .junk, .ptr (al 2) 0, .junk, .junk, .junk, .ptr (al 6) 0, .junk, .cptr [.sl none 1 (dh E)] 0, .junk, .junk, .junk, .junk, .junk, .junk, .junk, .junk, .junk, .junk, .junk, .junk, .junk, .junk, .junk, .junk, .junk, .junk, .junk, .junk, .junk, .junk, .junk, .junk, .junk, .junk, .junk, .junk, .junk, .junk, .junk, .junk, .junk, .junk, .junk, .junk, .junk, .junk, .junk, .junk, .junk, .junk, .junk]
def flO (v : Int) (a b : AV) (n : Nat) : aE := .cells 90 [vi v, a, b, vi (n : Int)]
abbrev nlA : AV := .val (.slice none 0 0)
theorem IT {v : Int} (hv : v = 1 ∨ v = 2 ∨ v = 3) (q : B) (hq : q.length < 3500000) {R} (h : R (.tup [vi v, vi 0]) []) : ag Tryz.prog 122 [.sl none 1 (ai (dG v ++ q))] [] R := by
 rcases hv with rfl | rfl | rfl
 ·exact IW q hq h
 ·exact IV q hq h
 ·exact IU q hq h
theorem AJ {v : Int} (hv : v = 1 ∨ v = 2 ∨ v = 3) (l : List Rc) (hm : ∀ r ∈ l, aR v r = true) (hl : l.length ≤ 1100) (ms : List B) (hms : (v : Int) = 1 → ms = []) (hml : ms.length < 100) (hmf : ∀ m ∈ ms, m.length ≤ 64) (t : B) (ht : qo t) (htl : t.length < 3000) {R} (h : R (.tup [.agg (cq v l), vi 0]) []) : ag Tryz.prog 89 [.sl none 1 (ai (aC v l ++ aw (ms.map bq) ++ t))] [] R := by
 obtain ⟨Ps, hPs⟩ : ∃ Ps, Ps = aW v [] l ++ ms.map bq := ⟨_, rfl⟩;have hbytes : aC v l ++ aw (ms.map bq) ++ t = dG v ++ (aw Ps ++ t) := by rw [hPs, dC]; simp [aC]
 rw [hbytes];clear hbytes;refine ag.res ?_;refine aa (an := Un) tab_ok Tryz.func89 ?_;have hM : ∀ r ∈ l, kF v r := fun r hr => aT (hm r hr);have hfl := jv (v := v) (l := l) (t := []) hM (by simp; omega);have hpl := jX (v := v) (l := l) (t := []) fun r hr => (hM r hr).deps;have hlens := nM (v := v) (l := l) (t := []) hM (by simp; omega);have hh8 := eL v;have hit := zN v hv l hm (by omega) ms hms (by omega);rw [← hPs] at hit;have hfm := mn (l := ms.map bq) (k := 65) (fun p hp => by
  obtain ⟨m, hm1, rfl⟩ := List.mem_map.1 hp;have := hmf m hm1;simp [bq]; omega) (by omega)
 rw [abg] at hfm;have hPl : Ps.length = (aW v [] l).length + ms.length := by rw [hPs]; simp
 have hPf : (aw Ps).length = (aw (aW v [] l)).length + (aw (ms.map bq)).length := by rw [hPs, dC, aac]
 have hlensP : ∀ p ∈ Ps, 1 ≤ p.length ∧ p.length ≤ 2048 := by
  intro p hp;rw [hPs] at hp;rcases List.mem_append.1 hp with hp | hp
  ·exact hlens p hp
  ·obtain ⟨m, hm1, rfl⟩ := List.mem_map.1 hp;have := hmf m hm1;simp [bq]; omega
 have hlA := rF v l [] 0;have hEl := gy v l;have hEp := eO Ps 8;have hend : ∀ i (hi : i < l.length), (IntKind.i64.wrap (((plP v l (i + 1) : Nat) : Int) - 1)).toNat < (fk 8 Ps).length ∧ ∀ hj, (fk 8 Ps)[(IntKind.i64.wrap (((plP v l (i + 1) : Nat) : Int) - 1)).toNat]'hj = (aC v (l.take (i + 1))).length := by
  intro i hi;have h1 := f7 (v := v) (t := tbP v l i) (r := l[i]) (hM _ (aaf hi)).deps;have h2 := mZ (v := v) hi;have h3 : plP v l (i + 1) ≤ (aW v [] l).length := by
   rw [mc hi, aac, aac, h2];show (aW v [] (l.take i)).length + _ ≤ _;omega
  have h4 : (IntKind.i64.wrap (((plP v l (i + 1) : Nat) : Int) - 1)).toNat = plP v l (i + 1) - 1 := by
   rw [aI (by omega) (by omega)];omega
  have h5 : Ps.take (plP v l (i + 1)) = aW v [] (l.take (i + 1)) := by
   have e : Ps = aW v [] (l.take (i + 1)) ++ (aW v (ln v [] (l.take (i + 1))) (l.drop (i + 1)) ++ ms.map bq) := by rw [hPs, ← aak, ← eJ, abm]
   rw [e];exact List.take_left
  refine ⟨by rw [h4, hEp]; omega, fun hj => ?_⟩;have h6 := Ii Ps 8 (plP v l (i + 1) - 1) (by omega);rw [show plP v l (i + 1) - 1 + 1 = plP v l (i + 1) by omega, h5] at h6;rw [cp, ← h6];congr 1
 have hnn : ∀ i, 0 ≤ i → i < l.length → 0 ≤ IntKind.i64.wrap (((plP v l (i + 1) : Nat) : Int) - 1) := by
  intro i _ hi;have h1 := f7 (v := v) (t := tbP v l i) (r := l[i]) (hM _ (aaf hi)).deps;have h2 := mZ (v := v) hi;have h3 : plP v l (i + 1) ≤ (aW v [] l).length := by
   rw [mc hi, aac, aac, h2];show (aW v [] (l.take i)).length + _ ≤ _;omega
  rw [aI (by omega) (by omega)];omega
 conv=>whnf
 refine IT hv _ (by rw [aac]; omega) ?_;conv=>whnf
 have hrun := fun R hR => IY (dG v) Ps t ht hlensP (by omega) (by omega) (R := R) hR;rw [hh8] at hrun;refine hrun _ ?_;conv=>whnf
 refine wJ v Ps ?_;conv=>whnf
 refine .inr ?_;conv=>whnf
 refine ⟨p7 v [] 0 l, hit, ?_, ?_⟩
 ·intro x hx;obtain ⟨i, hi, rfl⟩ := abc hx;have h1 := vw v l [] 0 i (by omega);rw [aad hi] at h1;rw [Option.some.inj h1];rfl
 refine ⟨fun i s => (i = 0 ∧ s = ⟨cgS (fk 8 Ps), [(al 2, flO 0 nlA nlA 0), (al 6, flO v nlA nlA 8)]⟩) ∨
  (0 < i ∧ i ≤ l.length ∧ s = ⟨cgS (fk 8 Ps), [(al 2, flO 0 nlA nlA 0), (al 6, flO v (.sl (some (al 42)) 7 (be (l.take i))) (.sl (some (al 48)) 1 (dh ((c6 v l).take i))) (aC v (l.take i)).length), (al 42, .row 67 7 i), (al 48, .row 3 1 i)]⟩), .inl ⟨rfl, rfl⟩, ?_, ?_⟩
 ·rintro i x s hx hs;have hi : i < l.length := by
   have := (List.getElem?_eq_some_iff.1 hx).1;omega
  have hx2 := vw v l [] 0 i hi;rw [aaS] at hx2;rw [hx] at hx2
  cases hx2;obtain ⟨he1, he2⟩ := hend i hi;have hn0 := hnn i (aby i) hi;have hie : i < (c6 v l).length := by omega
  have e1 := ym hi;have e2 := s7 hie;rw [Km hi] at e2;have hpl2 : (aW v [] (l.take (i + 1))).length = plP v l (i + 1) := rfl;rw [hpl2];have l1 : (be (l.take i)).length = i := by rw [bd, aan]; omega
  have l2 : (dh ((c6 v l).take i)).length = i := by rw [b8, aan]; omega
  clear hit hx;rcases hs with ⟨rfl, rfl⟩ | ⟨h1, h2, rfl⟩
  ·conv=>whnf
   refine ac (aaa hn0) ?_;refine ab he1 ?_;rw [he2 he1];conv=>whnf
   refine ⟨?_, ?_, ?_, trivial⟩
   ·conv=>whnf
    refine ⟨?_, ?_, ?_, trivial⟩
    ·conv=>whnf
     refine ⟨by rw [bF]; simp, ?_⟩;conv=>whnf
     refine ⟨?_, ?_, trivial⟩
     ·conv=>whnf
      refine ⟨?_, trivial⟩;conv=>whnf
      refine ⟨?_, trivial⟩;conv=>whnf
      refine ⟨by rw [aY]; simp, ?_⟩;conv=>whnf
      refine ⟨?_, trivial⟩;conv=>whnf
      refine ⟨?_, trivial⟩;conv=>whnf
      refine .inr ⟨by omega, by omega, ?_⟩;rw [e1, e2];rfl
     ·conv=>whnf
      refine ⟨?_, trivial⟩;conv=>whnf
      refine ⟨?_, trivial⟩;conv=>whnf
      refine ⟨by rw [aY]; simp, ?_⟩;conv=>whnf
      refine ⟨?_, trivial⟩;conv=>whnf
      refine ⟨?_, trivial⟩;conv=>whnf
      refine .inr ⟨by omega, by omega, ?_⟩;rw [e1, e2];rfl
    ·conv=>whnf
     refine ⟨?_, ?_, trivial⟩
     ·conv=>whnf
      refine ⟨by rw [bF]; simp, ?_⟩;conv=>whnf
      refine ⟨?_, trivial⟩;conv=>whnf
      refine ⟨?_, trivial⟩;conv=>whnf
      refine ⟨by rw [aY]; simp, ?_⟩;conv=>whnf
      refine ⟨?_, trivial⟩;conv=>whnf
      refine ⟨?_, trivial⟩;conv=>whnf
      refine .inr ⟨by omega, by omega, ?_⟩;rw [e1, e2];rfl
     ·conv=>whnf
      refine ⟨?_, trivial⟩;conv=>whnf
      refine ⟨by rw [bF]; simp, ?_⟩;conv=>whnf
      refine ⟨?_, trivial⟩;conv=>whnf
      refine ⟨by rw [aY]; simp, ?_⟩;conv=>whnf
      refine ⟨?_, trivial⟩;conv=>whnf
      refine ⟨?_, trivial⟩;conv=>whnf
      refine .inr ⟨by omega, by omega, ?_⟩;rw [e1, e2];rfl
    ·conv=>whnf
     refine ⟨?_, ?_, trivial⟩
     ·conv=>whnf
      refine ⟨by rw [bF]; simp, ?_⟩;conv=>whnf
      refine ⟨?_, trivial⟩;conv=>whnf
      refine ⟨?_, trivial⟩;conv=>whnf
      refine ⟨by rw [aY]; simp, ?_⟩;conv=>whnf
      refine ⟨?_, trivial⟩;conv=>whnf
      refine ⟨?_, trivial⟩;conv=>whnf
      refine .inr ⟨by omega, by omega, ?_⟩;rw [e1, e2];rfl
     ·conv=>whnf
      refine ⟨?_, trivial⟩;conv=>whnf
      refine ⟨by rw [bF]; simp, ?_⟩;conv=>whnf
      refine ⟨?_, trivial⟩;conv=>whnf
      refine ⟨by rw [aY]; simp, ?_⟩;conv=>whnf
      refine ⟨?_, trivial⟩;conv=>whnf
      refine ⟨?_, trivial⟩;conv=>whnf
      refine .inr ⟨by omega, by omega, ?_⟩;rw [e1, e2];rfl
   ·conv=>whnf
    refine ⟨?_, ?_, trivial⟩
    ·conv=>whnf
     refine ⟨?_, ?_, trivial⟩
     ·conv=>whnf
      refine ⟨by rw [bF]; simp, ?_⟩;conv=>whnf
      refine ⟨?_, trivial⟩;conv=>whnf
      refine ⟨?_, trivial⟩;conv=>whnf
      refine ⟨by rw [aY]; simp, ?_⟩;conv=>whnf
      refine ⟨?_, trivial⟩;conv=>whnf
      refine ⟨?_, trivial⟩;conv=>whnf
      refine .inr ⟨by omega, by omega, ?_⟩;rw [e1, e2];rfl
     ·conv=>whnf
      refine ⟨?_, trivial⟩;conv=>whnf
      refine ⟨by rw [bF]; simp, ?_⟩;conv=>whnf
      refine ⟨?_, trivial⟩;conv=>whnf
      refine ⟨by rw [aY]; simp, ?_⟩;conv=>whnf
      refine ⟨?_, trivial⟩;conv=>whnf
      refine ⟨?_, trivial⟩;conv=>whnf
      refine .inr ⟨by omega, by omega, ?_⟩;rw [e1, e2];rfl
    ·conv=>whnf
     refine ⟨?_, trivial⟩;conv=>whnf
     refine ⟨?_, trivial⟩;conv=>whnf
     refine ⟨by rw [bF]; simp, ?_⟩;conv=>whnf
     refine ⟨?_, trivial⟩;conv=>whnf
     refine ⟨by rw [aY]; simp, ?_⟩;conv=>whnf
     refine ⟨?_, trivial⟩;conv=>whnf
     refine ⟨?_, trivial⟩;conv=>whnf
     refine .inr ⟨by omega, by omega, ?_⟩;rw [e1, e2];rfl
   ·conv=>whnf
    refine ⟨?_, ?_, trivial⟩
    ·conv=>whnf
     refine ⟨?_, ?_, trivial⟩
     ·conv=>whnf
      refine ⟨by rw [bF]; simp, ?_⟩;conv=>whnf
      refine ⟨?_, trivial⟩;conv=>whnf
      refine ⟨?_, trivial⟩;conv=>whnf
      refine ⟨by rw [aY]; simp, ?_⟩;conv=>whnf
      refine ⟨?_, trivial⟩;conv=>whnf
      refine ⟨?_, trivial⟩;conv=>whnf
      refine .inr ⟨by omega, by omega, ?_⟩;rw [e1, e2];rfl
     ·conv=>whnf
      refine ⟨?_, trivial⟩;conv=>whnf
      refine ⟨by rw [bF]; simp, ?_⟩;conv=>whnf
      refine ⟨?_, trivial⟩;conv=>whnf
      refine ⟨by rw [aY]; simp, ?_⟩;conv=>whnf
      refine ⟨?_, trivial⟩;conv=>whnf
      refine ⟨?_, trivial⟩;conv=>whnf
      refine .inr ⟨by omega, by omega, ?_⟩;rw [e1, e2];rfl
    ·conv=>whnf
     refine ⟨?_, trivial⟩;conv=>whnf
     refine ⟨?_, trivial⟩;conv=>whnf
     refine ⟨by rw [bF]; simp, ?_⟩;conv=>whnf
     refine ⟨?_, trivial⟩;conv=>whnf
     refine ⟨by rw [aY]; simp, ?_⟩;conv=>whnf
     refine ⟨?_, trivial⟩;conv=>whnf
     refine ⟨?_, trivial⟩;conv=>whnf
     refine .inr ⟨by omega, by omega, ?_⟩;rw [e1, e2];rfl
  ·conv=>whnf
   refine ac (aaa hn0) ?_;refine ab he1 ?_;rw [he2 he1];conv=>whnf
   refine ⟨?_, ?_, ?_, trivial⟩
   ·conv=>whnf
    refine ⟨?_, ?_, ?_, trivial⟩
    ·conv=>whnf
     refine ⟨l1.symm, by rw [l1, bF]; simp; omega, ?_⟩;conv=>whnf
     refine ⟨?_, ?_, trivial⟩
     ·conv=>whnf
      refine ⟨?_, trivial⟩;conv=>whnf
      refine ⟨?_, trivial⟩;conv=>whnf
      refine ⟨l2.symm, by rw [l2, aY]; simp; omega, ?_⟩;conv=>whnf
      refine ⟨?_, trivial⟩;conv=>whnf
      refine ⟨?_, trivial⟩;conv=>whnf
      refine .inr ⟨by omega, by omega, ?_⟩;rw [e1, e2, l1, l2];rfl
     ·conv=>whnf
      refine ⟨?_, trivial⟩;conv=>whnf
      refine ⟨?_, trivial⟩;conv=>whnf
      refine ⟨l2.symm, by rw [l2, aY]; simp; omega, ?_⟩;conv=>whnf
      refine ⟨?_, trivial⟩;conv=>whnf
      refine ⟨?_, trivial⟩;conv=>whnf
      refine .inr ⟨by omega, by omega, ?_⟩;rw [e1, e2, l1, l2];rfl
    ·conv=>whnf
     refine ⟨?_, ?_, trivial⟩
     ·conv=>whnf
      refine ⟨l1.symm, by rw [l1, bF]; simp; omega, ?_⟩;conv=>whnf
      refine ⟨?_, trivial⟩;conv=>whnf
      refine ⟨?_, trivial⟩;conv=>whnf
      refine ⟨l2.symm, by rw [l2, aY]; simp; omega, ?_⟩;conv=>whnf
      refine ⟨?_, trivial⟩;conv=>whnf
      refine ⟨?_, trivial⟩;conv=>whnf
      refine .inr ⟨by omega, by omega, ?_⟩;rw [e1, e2, l1, l2];rfl
     ·conv=>whnf
      refine ⟨?_, trivial⟩;conv=>whnf
      refine ⟨l1.symm, by rw [l1, bF]; simp; omega, ?_⟩;conv=>whnf
      refine ⟨?_, trivial⟩;conv=>whnf
      refine ⟨l2.symm, by rw [l2, aY]; simp; omega, ?_⟩;conv=>whnf
      refine ⟨?_, trivial⟩;conv=>whnf
      refine ⟨?_, trivial⟩;conv=>whnf
      refine .inr ⟨by omega, by omega, ?_⟩;rw [e1, e2, l1, l2];rfl
    ·conv=>whnf
     refine ⟨?_, ?_, trivial⟩
     ·conv=>whnf
      refine ⟨l1.symm, by rw [l1, bF]; simp; omega, ?_⟩;conv=>whnf
      refine ⟨?_, trivial⟩;conv=>whnf
      refine ⟨?_, trivial⟩;conv=>whnf
      refine ⟨l2.symm, by rw [l2, aY]; simp; omega, ?_⟩;conv=>whnf
      refine ⟨?_, trivial⟩;conv=>whnf
      refine ⟨?_, trivial⟩;conv=>whnf
      refine .inr ⟨by omega, by omega, ?_⟩;rw [e1, e2, l1, l2];rfl
     ·conv=>whnf
      refine ⟨?_, trivial⟩;conv=>whnf
      refine ⟨l1.symm, by rw [l1, bF]; simp; omega, ?_⟩;conv=>whnf
      refine ⟨?_, trivial⟩;conv=>whnf
      refine ⟨l2.symm, by rw [l2, aY]; simp; omega, ?_⟩;conv=>whnf
      refine ⟨?_, trivial⟩;conv=>whnf
      refine ⟨?_, trivial⟩;conv=>whnf
      refine .inr ⟨by omega, by omega, ?_⟩;rw [e1, e2, l1, l2];rfl
   ·conv=>whnf
    refine ⟨?_, ?_, trivial⟩
    ·conv=>whnf
     refine ⟨?_, ?_, trivial⟩
     ·conv=>whnf
      refine ⟨l1.symm, by rw [l1, bF]; simp; omega, ?_⟩;conv=>whnf
      refine ⟨?_, trivial⟩;conv=>whnf
      refine ⟨?_, trivial⟩;conv=>whnf
      refine ⟨l2.symm, by rw [l2, aY]; simp; omega, ?_⟩;conv=>whnf
      refine ⟨?_, trivial⟩;conv=>whnf
      refine ⟨?_, trivial⟩;conv=>whnf
      refine .inr ⟨by omega, by omega, ?_⟩;rw [e1, e2, l1, l2];rfl
     ·conv=>whnf
      refine ⟨?_, trivial⟩;conv=>whnf
      refine ⟨l1.symm, by rw [l1, bF]; simp; omega, ?_⟩;conv=>whnf
      refine ⟨?_, trivial⟩;conv=>whnf
      refine ⟨l2.symm, by rw [l2, aY]; simp; omega, ?_⟩;conv=>whnf
      refine ⟨?_, trivial⟩;conv=>whnf
      refine ⟨?_, trivial⟩;conv=>whnf
      refine .inr ⟨by omega, by omega, ?_⟩;rw [e1, e2, l1, l2];rfl
    ·conv=>whnf
     refine ⟨?_, trivial⟩;conv=>whnf
     refine ⟨?_, trivial⟩;conv=>whnf
     refine ⟨l1.symm, by rw [l1, bF]; simp; omega, ?_⟩;conv=>whnf
     refine ⟨?_, trivial⟩;conv=>whnf
     refine ⟨l2.symm, by rw [l2, aY]; simp; omega, ?_⟩;conv=>whnf
     refine ⟨?_, trivial⟩;conv=>whnf
     refine ⟨?_, trivial⟩;conv=>whnf
     refine .inr ⟨by omega, by omega, ?_⟩;rw [e1, e2, l1, l2];rfl
   ·conv=>whnf
    refine ⟨?_, ?_, trivial⟩
    ·conv=>whnf
     refine ⟨?_, ?_, trivial⟩
     ·conv=>whnf
      refine ⟨l1.symm, by rw [l1, bF]; simp; omega, ?_⟩;conv=>whnf
      refine ⟨?_, trivial⟩;conv=>whnf
      refine ⟨?_, trivial⟩;conv=>whnf
      refine ⟨l2.symm, by rw [l2, aY]; simp; omega, ?_⟩;conv=>whnf
      refine ⟨?_, trivial⟩;conv=>whnf
      refine ⟨?_, trivial⟩;conv=>whnf
      refine .inr ⟨by omega, by omega, ?_⟩;rw [e1, e2, l1, l2];rfl
     ·conv=>whnf
      refine ⟨?_, trivial⟩;conv=>whnf
      refine ⟨l1.symm, by rw [l1, bF]; simp; omega, ?_⟩;conv=>whnf
      refine ⟨?_, trivial⟩;conv=>whnf
      refine ⟨l2.symm, by rw [l2, aY]; simp; omega, ?_⟩;conv=>whnf
      refine ⟨?_, trivial⟩;conv=>whnf
      refine ⟨?_, trivial⟩;conv=>whnf
      refine .inr ⟨by omega, by omega, ?_⟩;rw [e1, e2, l1, l2];rfl
    ·conv=>whnf
     refine ⟨?_, trivial⟩;conv=>whnf
     refine ⟨?_, trivial⟩;conv=>whnf
     refine ⟨l1.symm, by rw [l1, bF]; simp; omega, ?_⟩;conv=>whnf
     refine ⟨?_, trivial⟩;conv=>whnf
     refine ⟨l2.symm, by rw [l2, aY]; simp; omega, ?_⟩;conv=>whnf
     refine ⟨?_, trivial⟩;conv=>whnf
     refine ⟨?_, trivial⟩;conv=>whnf
     refine .inr ⟨by omega, by omega, ?_⟩;rw [e1, e2, l1, l2];rfl
 ·rintro s (⟨h1, rfl⟩ | ⟨h1, h2, rfl⟩)
  ·have hl0 : l = [] := List.length_eq_zero_iff.1 (by omega);subst hl0;conv=>whnf
   exact cw (f9 (.cons (iJ (.cons (.refl _) (.cons (cy 7) (.cons (cy 1) (leL.refl _))))) (leL.refl _))) rfl h
  ·have hE : (c6 v l).take (p7 v [] 0 l).length = c6 v l := by rw [hlA, ← hEl, aax]
   rw [hE, hlA, aax];conv=>whnf
   exact bB h
theorem AI {v : Int} (hv : v = 1 ∨ v = 2 ∨ v = 3) (l : List Rc) (hm : ∀ r ∈ l, aR v r = true) (hl : l.length ≤ 1100) {R} (h : R (.tup [.agg (cq v l), vi 0]) []) : ag Tryz.prog 89 [.sl none 1 (ai (aC v l))] [] R := by
 have h1 := AJ hv l hm hl [] (fun _ => rfl) (by simp) (by simp) [] (.inl rfl) (by simp) h;rw [abi, show aw [] = [] from rfl, aaR, aaR] at h1;exact h1
end Go.Abs
end
section
namespace Go.Abs
open Go Go.Proofs
attribute [local irreducible] aH aD aO firstIdx
def fsC (s : FSt) (m : Nm) : aE := .cells 96 [.mapv m, vi s.fail, vi s.fall, .val (.bool s.down)]
def fsM (s : FSt) : aE := .map (js lR s.fs)
theorem ml {R} (h : R (.ptr 0 0) [fsC fs0 1, fsM fs0]) : ag Tryz.prog 8 [] [] R := by
 refine aa (an := an8) tab_ok Tryz.func8 ?_;conv=>whnf
 exact h
theorem Kz {a : Int} (ha : okN a) : (if IntKind.i64.wrap (a - 1) < -1 then -1 else IntKind.i64.wrap (a - 1)) = cnt a := by
 unfold okN at ha;rw [aI (by omega) (by omega)];rfl
theorem eY (a : Int) (ha : okN a) {R} (h : R (.tup [vi (cnt a), .val (.bool (a == 0))]) []) : ag Tryz.prog 114 [vi a] [] R := by
 refine aa (an := SV) tab_ok Tryz.func114 ?_;conv=>whnf
 rw [Kz ha];exact h
theorem ot (s : FSt) {R} (h : R (.val (.bool s.down)) [fsC s 1, fsM s]) : ag Tryz.prog 33 [.ptr 0 0] [fsC s 1, fsM s] R := by
 refine aa (an := U6) tab_ok Tryz.func33 ?_;conv=>whnf
 exact h
theorem FP (s : FSt) (n : Int) {R} (h : R (.tup []) [fsC ⟨s.fs, kr n, s.fall, s.down⟩ 1, fsM s]) : ag Tryz.prog 29 [.ptr 0 0, vi n] [fsC s 1, fsM s] R := by
 refine aa (an := Va) tab_ok Tryz.func29 ?_;conv=>whnf
 exact h
theorem lP (s : FSt) (n : Int) {R} (h : R (.tup []) [fsC ⟨s.fs, s.fail, kr n, s.down⟩ 1, fsM s]) : ag Tryz.prog 11 [.ptr 0 0, vi n] [fsC s 1, fsM s] R := by
 refine aa (an := Vm) tab_ok Tryz.func11 ?_;conv=>whnf
 exact h
theorem iX (s : FSt) (hl : s.fs.length < 1000000) (hs : ∀ n ∈ kys s.fs, n.length < 1000000) (hnd : (kys s.fs).Nodup) {R} (h : R (.sl none 1 (bj s.names)) [fsC s 1, fsM s]) : ag Tryz.prog 34 [.ptr 0 0] [fsC s 1, fsM s] R := by
 refine aa (an := U5) tab_ok Tryz.func34 ?_;conv=>whnf
 refine Cz (js lR s.fs) ?_;conv=>whnf
 refine xC s.fs (by simpa [kys] using hl) hs hnd ?_;conv=>whnf
 exact h
theorem FH (s : FSt) (name : B) {R} (h : R (vi (gF s.fs name).safe) [fsC s 1, fsM s]) : ag Tryz.prog 74 [.ptr 0 0, vs name] [fsC s 1, fsM s] R := by
 refine aa (an := Uz) tab_ok Tryz.func74 ?_;conv=>whnf
 rw [iG];unfold gF at h
 cases e : lk s.fs name with
 | none =>
  rw [e] at h;conv=>whnf
  exact h
 | some v =>
  rw [e] at h;conv=>whnf
  exact h
theorem jD (s : FSt) (name : B) (hb : (gF s.fs name).b.length < 100000000) {R} (h1 : name ∈ kys s.fs → R (.tup [.sl none 1 (ai (gF s.fs name).b), vi 0]) [fsC s 1, fsM s]) (h2 : name ∉ kys s.fs → R (.tup [JQ, vi 6]) [fsC s 1, fsM s]) : ag Tryz.prog 26 [.ptr 0 0, vs name] [fsC s 1, fsM s] R := by
 refine aa (an := Ri) tab_ok Tryz.func26 ?_;conv=>whnf
 rw [iG]
 cases e : lk s.fs name with
 | none =>
  have h2 := h2 (fL.1 e);conv=>whnf
  exact h2
 | some v =>
  have h1 := h1 (lD e);unfold gF at h1 hb;rw [e] at h1 hb;conv=>whnf
  refine kS v.b hb ?_;conv=>whnf
  exact h1
theorem pO (s : FSt) (name : B) {R} (h : R (vi (s.may name)) [fsC s 1, fsM s]) : ag Tryz.prog 78 [.ptr 0 0, vs name] [fsC s 1, fsM s] R := by
 refine aa (an := Uw) tab_ok Tryz.func78 ?_;conv=>whnf
 refine ae (fun g => ?_) (fun g => ?_)
 ·have g : s.down = true := g;rw [show s.may name = 7 by simp [FSt.may, g]] at h;conv=>whnf
  exact h
 have g : s.down = false := g;conv=>whnf
 rw [iG]
 cases e : lk s.fs name with
 | none =>
  rw [show s.may name = 6 by simp [FSt.may, g, e]] at h;conv=>whnf
  exact h
 | some v =>
  rw [show s.may name = 0 by simp [FSt.may, g, e]] at h;conv=>whnf
  exact h
theorem Ox {b : B} : leE [[JQ], [AV.sl none 1 (ai b)]] [[AV.sl none 1 (ai [])], [AV.sl none 1 (ai b)]] :=
 leE.cons (leL.cons (cy 1) leL.nil) rfl (leE.cons (leL.refl _) rfl leE.nil)
theorem y6 (s : FSt) (name b : B) (hb : b.length < 100000000) (hg : (gF s.fs name).b.length < 100000000) {R} (h : R (.tup []) [.cells 25 [.ptr 1 0], fsC ⟨(dZ name b) s.fs, s.fail, s.fall, s.down⟩ 2, fsM ⟨(dZ name b) s.fs, s.fail, s.fall, s.down⟩, .cells 77 [.sl none 1 (ai b)]]) : ag Tryz.prog 119 [.ptr 0 0, .cptr [vs name] 0, .ptr 3 0] [.cells 25 [.ptr 1 0], fsC s 2, fsM s, .cells 77 [.sl none 1 (ai b)]] R := by
 refine aa (an := SS) tab_ok Tryz.func119 ?_;conv=>whnf
 rw [iG]
 cases e : lk s.fs name with
 | none =>
  have e0 : gF s.fs name = flZ := by simp [gF, e]
  have e1 : dZ name b s.fs = pt s.fs name ⟨[] ++ b, 0⟩ := by unfold dZ; rw [e0]; rfl
  conv=>whnf
  refine ag.args (leL.cons (Na _ _ Ox) leL.nil) (kV [] b (by simp) hb ?_);conv=>whnf
  rw [show AV.agg (List.map AV.strip [AV.sl none 1 (ai ([] ++ b)), AV.val (Value.int IntKind.i64 0)]) = lR ⟨[] ++ b, 0⟩ from rfl, lL, ← e1];conv=>whnf
  exact h
 | some v =>
  have e0 : gF s.fs name = v := by simp [gF, e]
  rw [e0] at hg;have e1 : dZ name b s.fs = pt s.fs name ⟨v.b ++ b, v.safe⟩ := by unfold dZ; rw [e0]
  conv=>whnf
  refine kV v.b b hg hb ?_;conv=>whnf
  rw [show AV.agg (List.map AV.strip [AV.sl none 1 (ai (v.b ++ b)), AV.val (Value.int IntKind.i64 v.safe)]) = lR ⟨v.b ++ b, v.safe⟩ from rfl, lL, ← e1];conv=>whnf
  exact h
theorem FC (s : FSt) (name b : B) (hb : b.length < 100000000) (hg : (gF s.fs name).b.length < 100000000) (late : Bool) (h1 : okN s.fail) (h2 : okN s.fall) {R} (h : R (vi (s.act late (dZ name b)).2) (fsC (s.act late (dZ name b)).1 1 :: fsM (s.act late (dZ name b)).1 :: [.cells 25 [.ptr 0 0], .cells 77 [.sl none 1 (ai b)]])) : ag Tryz.prog 79 [.ptr 0 0, .val (.bool late), .fn (.func 119) [] [.ptr 2 0, .cptr [vs name] 0, .ptr 3 0]] (fsC s 1 :: fsM s :: [.cells 25 [.ptr 0 0], .cells 77 [.sl none 1 (ai b)]]) R := by
 refine aa (an := KY) tab_ok Tryz.func79 ?_;conv=>whnf
 refine eY s.fail h1 ?_;conv=>whnf
 refine eY s.fall h2 ?_;conv=>whnf
 refine ae (fun g => ?_) (fun g => ?_)
 ·have g : s.fall = 0 := by simpa using g
  conv=>whnf
  refine ae (fun g2 => ?_) (fun g2 => ?_)
  ·have g2 : late = true := g2;rw [show s.act late (dZ name b) = (⟨(dZ name b) s.fs, cnt s.fail, cnt s.fall, true⟩, 7) by simp [FSt.act, g, g2]] at h;conv=>whnf
   refine y6 ⟨s.fs, cnt s.fail, cnt s.fall, true⟩ name b hb hg ?_;conv=>whnf
   exact h
  ·have g2 : late = false := g2;rw [show s.act late (dZ name b) = (⟨s.fs, cnt s.fail, cnt s.fall, true⟩, 7) by simp [FSt.act, g, g2]] at h;conv=>whnf
   exact h
 have g : s.fall ≠ 0 := by simpa using g
 conv=>whnf
 refine ae (fun g2 => ?_) (fun g2 => ?_)
 ·have g2 : s.fail = 0 := by simpa using g2
  rw [show s.act late (dZ name b) = (⟨s.fs, cnt s.fail, cnt s.fall, s.down⟩, 8) by simp [FSt.act, g, g2]] at h;conv=>whnf
  exact h
 have g2 : s.fail ≠ 0 := by simpa using g2
 rw [show s.act late (dZ name b) = (⟨(dZ name b) s.fs, cnt s.fail, cnt s.fall, s.down⟩, 0) by simp [FSt.act, g, g2]] at h;conv=>whnf
 refine y6 ⟨s.fs, cnt s.fail, cnt s.fall, s.down⟩ name b hb hg ?_;conv=>whnf
 exact h
theorem y3 (s : FSt) (name : B) (v : Fl) (hv : gF s.fs name = v) {R} (h : R (.tup []) [.cells 116 [.sl none 1 (ai v.b), vi v.safe], .cells 25 [.ptr 2 0], fsC ⟨(cM name) s.fs, s.fail, s.fall, s.down⟩ 3, fsM ⟨(cM name) s.fs, s.fail, s.fall, s.down⟩]) : ag Tryz.prog 108 [.ptr 0 0, .ptr 1 0, .cptr [vs name] 0] [.cells 116 [.sl none 1 (ai v.b), vi v.safe], .cells 25 [.ptr 2 0], fsC s 3, fsM s] R := by
 refine aa (an := SZ) tab_ok Tryz.func108 ?_;have hl := aL v.b;have e1 : cM name s.fs = pt s.fs name ⟨v.b, v.b.length⟩ := by unfold cM; rw [hv]
 conv=>whnf
 show R (.tup []) [.cells 116 [.sl none 1 (ai v.b), vi v.safe], .cells 25 [.ptr 2 0], fsC s 3, .map (dU (js lR s.fs) (ofB name) (.agg [.sl none 1 (ai v.b), vi ((ai v.b).length : Nat)]))];rw [hl, show AV.agg [.sl none 1 (ai v.b), vi (v.b.length : Nat)] = lR ⟨v.b, v.b.length⟩ from rfl, lL, ← e1];exact h
theorem Fz (s : FSt) (name : B) (v : Fl) (hv : gF s.fs name = v) (late : Bool) (h1 : okN s.fail) (h2 : okN s.fall) {R} (h : R (vi (s.act late (cM name)).2) (fsC (s.act late (cM name)).1 1 :: fsM (s.act late (cM name)).1 :: [.cells 116 [.sl none 1 (ai v.b), vi v.safe], .cells 25 [.ptr 0 0]])) : ag Tryz.prog 79 [.ptr 0 0, .val (.bool late), .fn (.func 108) [] [.ptr 2 0, .ptr 3 0, .cptr [vs name] 0]] (fsC s 1 :: fsM s :: [.cells 116 [.sl none 1 (ai v.b), vi v.safe], .cells 25 [.ptr 0 0]]) R := by
 refine aa (an := KY) tab_ok Tryz.func79 ?_;conv=>whnf
 refine eY s.fail h1 ?_;conv=>whnf
 refine eY s.fall h2 ?_;conv=>whnf
 refine ae (fun g => ?_) (fun g => ?_)
 ·have g : s.fall = 0 := by simpa using g
  conv=>whnf
  refine ae (fun g2 => ?_) (fun g2 => ?_)
  ·have g2 : late = true := g2;rw [show s.act late (cM name) = (⟨(cM name) s.fs, cnt s.fail, cnt s.fall, true⟩, 7) by simp [FSt.act, g, g2]] at h;conv=>whnf
   refine y3 ⟨s.fs, cnt s.fail, cnt s.fall, true⟩ name v hv ?_;conv=>whnf
   exact h
  ·have g2 : late = false := g2;rw [show s.act late (cM name) = (⟨s.fs, cnt s.fail, cnt s.fall, true⟩, 7) by simp [FSt.act, g, g2]] at h;conv=>whnf
   exact h
 have g : s.fall ≠ 0 := by simpa using g
 conv=>whnf
 refine ae (fun g2 => ?_) (fun g2 => ?_)
 ·have g2 : s.fail = 0 := by simpa using g2
  rw [show s.act late (cM name) = (⟨s.fs, cnt s.fail, cnt s.fall, s.down⟩, 8) by simp [FSt.act, g, g2]] at h;conv=>whnf
  exact h
 have g2 : s.fail ≠ 0 := by simpa using g2
 rw [show s.act late (cM name) = (⟨(cM name) s.fs, cnt s.fail, cnt s.fall, s.down⟩, 0) by simp [FSt.act, g, g2]] at h;conv=>whnf
 refine y3 ⟨s.fs, cnt s.fail, cnt s.fall, s.down⟩ name v hv ?_;conv=>whnf
 exact h
theorem y4 (s : FSt) (a b : B) (hka : a ∈ kys s.fs) {R} (h : R (.tup []) [.cells 25 [.ptr 1 0], fsC ⟨(jP a b) s.fs, s.fail, s.fall, s.down⟩ 2, fsM ⟨(jP a b) s.fs, s.fail, s.fall, s.down⟩]) : ag Tryz.prog 121 [.ptr 0 0, .cptr [vs a] 0, .cptr [vs b] 0] [.cells 25 [.ptr 1 0], fsC s 2, fsM s] R := by
 refine aa (an := SQ) tab_ok Tryz.func121 ?_;obtain ⟨v, e⟩ := vX hka;have e0 : gF s.fs a = v := by simp [gF, e]
 have e1 : jP a b s.fs = pt (dl s.fs a) b v := by unfold jP; rw [e0]
 conv=>whnf
 rw [iG, e];conv=>whnf
 rw [De];conv=>whnf
 rw [show AV.agg (List.map AV.strip [AV.sl none 1 (ai v.b), AV.val (Value.int IntKind.i64 v.safe)]) = lR v from rfl, lL, ← e1];conv=>whnf
 exact h
theorem FA (s : FSt) (a b : B) (hka : a ∈ kys s.fs) (late : Bool) (h1 : okN s.fail) (h2 : okN s.fall) {R} (h : R (vi (s.act late (jP a b)).2) (fsC (s.act late (jP a b)).1 1 :: fsM (s.act late (jP a b)).1 :: [.cells 25 [.ptr 0 0]])) : ag Tryz.prog 79 [.ptr 0 0, .val (.bool late), .fn (.func 121) [] [.ptr 2 0, .cptr [vs a] 0, .cptr [vs b] 0]] (fsC s 1 :: fsM s :: [.cells 25 [.ptr 0 0]]) R := by
 refine aa (an := KY) tab_ok Tryz.func79 ?_;conv=>whnf
 refine eY s.fail h1 ?_;conv=>whnf
 refine eY s.fall h2 ?_;conv=>whnf
 refine ae (fun g => ?_) (fun g => ?_)
 ·have g : s.fall = 0 := by simpa using g
  conv=>whnf
  refine ae (fun g2 => ?_) (fun g2 => ?_)
  ·have g2 : late = true := g2;rw [show s.act late (jP a b) = (⟨(jP a b) s.fs, cnt s.fail, cnt s.fall, true⟩, 7) by simp [FSt.act, g, g2]] at h;conv=>whnf
   refine y4 ⟨s.fs, cnt s.fail, cnt s.fall, true⟩ a b hka ?_;conv=>whnf
   exact h
  ·have g2 : late = false := g2;rw [show s.act late (jP a b) = (⟨s.fs, cnt s.fail, cnt s.fall, true⟩, 7) by simp [FSt.act, g, g2]] at h;conv=>whnf
   exact h
 have g : s.fall ≠ 0 := by simpa using g
 conv=>whnf
 refine ae (fun g2 => ?_) (fun g2 => ?_)
 ·have g2 : s.fail = 0 := by simpa using g2
  rw [show s.act late (jP a b) = (⟨s.fs, cnt s.fail, cnt s.fall, s.down⟩, 8) by simp [FSt.act, g, g2]] at h;conv=>whnf
  exact h
 have g2 : s.fail ≠ 0 := by simpa using g2
 rw [show s.act late (jP a b) = (⟨(jP a b) s.fs, cnt s.fail, cnt s.fall, s.down⟩, 0) by simp [FSt.act, g, g2]] at h;conv=>whnf
 refine y4 ⟨s.fs, cnt s.fail, cnt s.fall, s.down⟩ a b hka ?_;conv=>whnf
 exact h
theorem y5 (s : FSt) (name : B) {R} (h : R (.tup []) [.cells 25 [.ptr 1 0], fsC ⟨(fun m => dl m name) s.fs, s.fail, s.fall, s.down⟩ 2, fsM ⟨(fun m => dl m name) s.fs, s.fail, s.fall, s.down⟩]) : ag Tryz.prog 80 [.ptr 0 0, .cptr [vs name] 0] [.cells 25 [.ptr 1 0], fsC s 2, fsM s] R := by
 refine aa (an := Uv) tab_ok Tryz.func80 ?_;conv=>whnf
 rw [De];conv=>whnf
 exact h
theorem FB (s : FSt) (name : B) (late : Bool) (h1 : okN s.fail) (h2 : okN s.fall) {R} (h : R (vi (s.act late (fun m => dl m name)).2) (fsC (s.act late (fun m => dl m name)).1 1 :: fsM (s.act late (fun m => dl m name)).1 :: [.cells 25 [.ptr 0 0]])) : ag Tryz.prog 79 [.ptr 0 0, .val (.bool late), .fn (.func 80) [] [.ptr 2 0, .cptr [vs name] 0]] (fsC s 1 :: fsM s :: [.cells 25 [.ptr 0 0]]) R := by
 refine aa (an := KY) tab_ok Tryz.func79 ?_;conv=>whnf
 refine eY s.fail h1 ?_;conv=>whnf
 refine eY s.fall h2 ?_;conv=>whnf
 refine ae (fun g => ?_) (fun g => ?_)
 ·have g : s.fall = 0 := by simpa using g
  conv=>whnf
  refine ae (fun g2 => ?_) (fun g2 => ?_)
  ·have g2 : late = true := g2;rw [show s.act late (fun m => dl m name) = (⟨(fun m => dl m name) s.fs, cnt s.fail, cnt s.fall, true⟩, 7) by simp [FSt.act, g, g2]] at h;conv=>whnf
   refine y5 ⟨s.fs, cnt s.fail, cnt s.fall, true⟩ name ?_;conv=>whnf
   exact h
  ·have g2 : late = false := g2;rw [show s.act late (fun m => dl m name) = (⟨s.fs, cnt s.fail, cnt s.fall, true⟩, 7) by simp [FSt.act, g, g2]] at h;conv=>whnf
   exact h
 have g : s.fall ≠ 0 := by simpa using g
 conv=>whnf
 refine ae (fun g2 => ?_) (fun g2 => ?_)
 ·have g2 : s.fail = 0 := by simpa using g2
  rw [show s.act late (fun m => dl m name) = (⟨s.fs, cnt s.fail, cnt s.fall, s.down⟩, 8) by simp [FSt.act, g, g2]] at h;conv=>whnf
  exact h
 have g2 : s.fail ≠ 0 := by simpa using g2
 rw [show s.act late (fun m => dl m name) = (⟨(fun m => dl m name) s.fs, cnt s.fail, cnt s.fall, s.down⟩, 0) by simp [FSt.act, g, g2]] at h;conv=>whnf
 refine y5 ⟨s.fs, cnt s.fail, cnt s.fall, s.down⟩ name ?_;conv=>whnf
 exact h
theorem kX (s : FSt) (name b : B) (h1 : okN s.fail) (h2 : okN s.fall) (hb : b.length < 1000000) (hg : (gF s.fs name).b.length < 100000000) {R} (h : R (vi (s.append name b).2) [fsC (s.append name b).1 1, fsM (s.append name b).1]) : ag Tryz.prog 84 [.ptr 0 0, vs name, .sl none 1 (ai b)] [fsC s 1, fsM s] R := by
 refine aa (an := Us) tab_ok Tryz.func84 ?_;conv=>whnf
 refine ae (fun g => ?_) (fun g => ?_)
 ·have g : s.down = true := g;rw [show s.append name b = (s, 7) by simp [FSt.append, g]] at h;conv=>whnf
  exact h
 have g : s.down = false := g;rw [show s.append name b = s.act true (dZ name b) by simp [FSt.append, g]] at h;conv=>whnf
 refine kS b (by omega) ?_;conv=>whnf
 refine FC s name b (by omega) hg true h1 h2 ?_;conv=>whnf
 exact h
theorem w7 (s : FSt) (name : B) (h1 : okN s.fail) (h2 : okN s.fall) {R} (h : R (vi (s.sync name).2) [fsC (s.sync name).1 1, fsM (s.sync name).1]) : ag Tryz.prog 64 [.ptr 0 0, vs name] [fsC s 1, fsM s] R := by
 refine aa (an := UI) tab_ok Tryz.func64 ?_;conv=>whnf
 refine pO s name ?_;conv=>whnf
 refine ae (fun g => ?_) (fun g => ?_)
 ·have g : s.may name ≠ 0 := by simpa using g
  rw [show s.sync name = (s, s.may name) by simp [FSt.sync, g]] at h;conv=>whnf
  exact h
 have g : ¬ s.may name ≠ 0 := by simpa using g
 rw [show s.sync name = s.act false (cM name) by unfold FSt.sync; rw [aap g]] at h;obtain ⟨v, e⟩ := vX (me g).2;conv=>whnf
 rw [iG, e];conv=>whnf
 refine Fz s name v (by simp [gF, e]) false h1 h2 ?_;conv=>whnf
 exact h
theorem AZ (s : FSt) (a b : B) (h1 : okN s.fail) (h2 : okN s.fall) {R} (h : R (vi (s.rename a b).2) [fsC (s.rename a b).1 1, fsM (s.rename a b).1]) : ag Tryz.prog 87 [.ptr 0 0, vs a, vs b] [fsC s 1, fsM s] R := by
 refine aa (an := Uo) tab_ok Tryz.func87 ?_;conv=>whnf
 refine pO s a ?_;conv=>whnf
 refine ae (fun g => ?_) (fun g => ?_)
 ·have g : s.may a ≠ 0 := by simpa using g
  rw [show s.rename a b = (s, s.may a) by simp [FSt.rename, g]] at h;conv=>whnf
  exact h
 have g : ¬ s.may a ≠ 0 := by simpa using g
 rw [show s.rename a b = s.act false (jP a b) by unfold FSt.rename; rw [aap g]] at h;conv=>whnf
 refine FA s a b (me g).2 false h1 h2 ?_;conv=>whnf
 exact h
theorem sE (s : FSt) (name : B) (h1 : okN s.fail) (h2 : okN s.fall) {R} (h : R (vi (s.remove name).2) [fsC (s.remove name).1 1, fsM (s.remove name).1]) : ag Tryz.prog 36 [.ptr 0 0, vs name] [fsC s 1, fsM s] R := by
 refine aa (an := U3) tab_ok Tryz.func36 ?_;conv=>whnf
 refine pO s name ?_;conv=>whnf
 refine ae (fun g => ?_) (fun g => ?_)
 ·have g : s.may name ≠ 0 := by simpa using g
  rw [show s.remove name = (s, s.may name) by simp [FSt.remove, g]] at h;conv=>whnf
  exact h
 have g : ¬ s.may name ≠ 0 := by simpa using g
 rw [show s.remove name = s.act false (fun m => dl m name) by unfold FSt.remove; rw [aap g]] at h;conv=>whnf
 refine FB s name false h1 h2 ?_;conv=>whnf
 exact h
theorem BC (a b : List B) (ha : a.length < 1000000) {R} (h : ∀ p, p = decide (a = b) → R (.val (.bool p)) []) : ag Tryz.prog 71 [.sl none 1 (bj a), .sl none 1 (bj b)] [] R := by
 refine aa (an := Pb) tab_ok Tryz.func71 ?_;have hsa := aF a;have hsb := aF b;conv=>whnf
 rw [hsa, hsb];refine ae (fun hc => ?_) (fun hc => ?_)
 ·conv=>whnf
  refine h false (aai ?_).symm;rintro rfl;simp at hc
 have hlen : a.length = b.length := by simp at hc; omega
 conv=>whnf
 refine aq.ind1 (fun (i : Nat) => [(5, vi i)]) (fun _ => []) (fun i => a.length - i) (fun i => i ≤ a.length ∧ a.take i = b.take i) 0 rfl ⟨by omega, by simp⟩ ?_;rintro i ⟨h0, h1⟩ IH;conv=>whnf
 refine ae (fun hc => ?_) (fun hc => ?_)
 ·have hc := ap hsa hc;have hcb : i < b.length := by omega
  (conv=>whnf); (repeat ((with_reducible refine ac ?_ ?_); exact aaa (by omega); (conv=>whnf)))
  refine idxNat (by simpa using hc) ?_
  (conv=>whnf); (repeat ((with_reducible refine ac ?_ ?_); exact aaa (by omega); (conv=>whnf)))
  refine idxNat (by simpa using hcb) ?_;conv=>whnf
  refine ae (fun he => ?_) (fun he => ?_)
  ·have he : a[i] ≠ b[i] := by simpa [bG] using he
   conv=>whnf
   refine h false (aai ?_).symm;rintro rfl;exact he rfl
  ·have he : a[i] = b[i] := by simpa [bG] using he
   conv=>whnf
   rw [am (by omega)];refine IH (i + 1) ⟨by omega, ?_⟩ (by omega);rw [aab hc, aab hcb, h1, he]
 ·have hc := au hsa hc;rw [aae hc, aae (by omega)] at h1;conv=>whnf
  exact h true (aaa h1).symm
end Go.Abs
end
section
namespace Go.Abs
open Go Go.Proofs Dig
attribute [local irreducible] aH aD aO firstIdx
theorem zD (l : List B) (s : B) (hl : l.length < 1000000) {R} (h : ∀ p, p = gp l s → R (vi p) []) : ag Tryz.prog 77 [.sl none 1 (bj l), vs s] [] R := by
 refine aa (an := Ux) tab_ok Tryz.func77 ?_;have hsl := aF l;conv=>whnf
 refine aq.ind1 (fun (i : Nat) => [(8, vi i)]) (fun i => []) (fun i => l.length - i) (fun i => i ≤ l.length ∧ ∀ j, j < i → l[j]? ≠ some s) 0 rfl ⟨by omega, fun j hj => by omega⟩ ?_;rintro i ⟨h0, h1⟩ IH;conv=>whnf
 refine ae (fun hc => ?_) (fun hc => ?_)
 ·have hc := ap hsl hc
  (conv=>whnf); (repeat ((with_reducible refine ac ?_ ?_); exact aaa (by omega); (conv=>whnf)))
  refine idxNat (by simpa using hc) ?_;conv=>whnf
  refine ae (fun g => ?_) (fun g => ?_)
  ·have g : s = l[i] := by
    have g : ofB s = ofB l[i] := aal g;exact bZ g
   conv=>whnf
   refine h _ ?_;rw [gp, ly (by rw [aad hc, g]) h1]
  ·have g : s ≠ l[i] := by
    have g : ¬ ofB s = ofB l[i] := aat g;exact fun e => g (by rw [e])
   conv=>whnf
   rw [am (by omega)];refine IH (i + 1) ⟨hc, fun j hj => ?_⟩ (by omega);rcases Nat.lt_succ_iff_lt_or_eq.1 hj with hj | rfl
   ·exact h1 j hj
   ·rw [aad hc];exact fun e => g (Option.some.inj e).symm
 ·have hc := au hsl hc;conv=>whnf
  refine h _ ?_;rw [gp, iy.2];intro hm;obtain ⟨j, hj, e⟩ := abc hm;exact h1 j (by omega) (by rw [aad hj, e])
theorem fB (l : List B) (s : B) (hl : l.length < 1000000) {R} (h : R (.val (.bool (decide (s ∈ l)))) []) : ag Tryz.prog 35 [.sl none 1 (bj l), vs s] [] R := by
 refine aa (an := U4) tab_ok Tryz.func35 ?_;conv=>whnf
 refine zD l s hl fun p hp => ?_;have e : decide (p ≥ 0) = decide (s ∈ l) := by
  have := cG (l := l) (s := s);rw [← hp] at this;by_cases hm : s ∈ l
  ·rw [aaa hm, aaa];refine Classical.byContradiction fun hn => this.1 (by omega) hm
  ·rw [aai hm, aai];have := this.2 hm;omega
 conv=>whnf
 rw [e];exact h
def bxO : aE := .cells 25 [.ptr 1 0]
def byO (b : B) : aE := .cells 77 [.sl none 1 (ai b)]
theorem He (s : FSt) (aside : B) (h1 : okN s.fail) (h2 : okN s.fall) {R} (h : R (vi (s.remove aside).2) [bxO, fsC (s.remove aside).1 2, fsM (s.remove aside).1]) : ag Tryz.prog 82 [.ptr 0 0, .cptr [vs aside] 0] [bxO, fsC s 2, fsM s] R := by
 refine aa (an := Uu) tab_ok Tryz.func82 ?_;conv=>whnf
 refine sE s aside h1 h2 ?_;conv=>whnf
 exact h
theorem x9 (s : FSt) (aside b : B) (h1 : okN s.fail) (h2 : okN s.fall) (hb : b.length < 1000000) (hg : (gF s.fs aside).b.length < 100000000) {R} (h : R (vi (s.append aside b).2) [bxO, fsC (s.append aside b).1 2, fsM (s.append aside b).1, byO b]) : ag Tryz.prog 83 [.ptr 0 0, .cptr [vs aside] 0, .ptr 3 0] [bxO, fsC s 2, fsM s, byO b] R := by
 refine aa (an := Ut) tab_ok Tryz.func83 ?_;conv=>whnf
 refine kX s aside b h1 h2 hb hg ?_;conv=>whnf
 exact h
theorem x7 (s : FSt) (aside : B) (h1 : okN s.fail) (h2 : okN s.fall) {R} (h : R (vi (s.sync aside).2) [bxO, fsC (s.sync aside).1 2, fsM (s.sync aside).1]) : ag Tryz.prog 85 [.ptr 0 0, .cptr [vs aside] 0] [bxO, fsC s 2, fsM s] R := by
 refine aa (an := Ur) tab_ok Tryz.func85 ?_;conv=>whnf
 refine w7 s aside h1 h2 ?_;conv=>whnf
 exact h
theorem x6 (s : FSt) (aside name : B) (h1 : okN s.fail) (h2 : okN s.fall) {R} (h : R (vi (s.rename aside name).2) [bxO, fsC (s.rename aside name).1 2, fsM (s.rename aside name).1]) : ag Tryz.prog 86 [.ptr 0 0, .cptr [vs aside] 0, .cptr [vs name] 0] [bxO, fsC s 2, fsM s] R := by
 refine aa (an := Uq) tab_ok Tryz.func86 ?_;conv=>whnf
 refine AZ s aside name h1 h2 ?_;conv=>whnf
 exact h
def hU (s : FSt) (name aside b : B) : FSt × Int :=
 if (s.append aside b).2 ≠ 0 then s.append aside b
 else if ((s.append aside b).1.sync aside).2 ≠ 0 then (s.append aside b).1.sync aside
 else ((s.append aside b).1.sync aside).1.rename aside name
def cN (s : FSt) (name aside b : B) : FSt × Int :=
 if aside ∈ s.names then (if (s.remove aside).2 ≠ 0 then s.remove aside else hU (s.remove aside).1 name aside b) else hU s name aside b
def fn1 (aside : B) : AV := .fn (.func 82) [] [.ptr 1 0, .cptr [vs aside] 0]
def fn2 (aside : B) : AV := .fn (.func 83) [] [.ptr 1 0, .cptr [vs aside] 0, .ptr 4 0]
def fn3 (aside : B) : AV := .fn (.func 85) [] [.ptr 1 0, .cptr [vs aside] 0]
def fn4 (aside name : B) : AV := .fn (.func 86) [] [.ptr 1 0, .cptr [vs aside] 0, .cptr [vs name] 0]
def bx1 : aE := .cells 25 [.ptr 2 0]
theorem Ea (s : FSt) (name aside b : B) {nb fb : Nat} (hk : FOk s nb fb) (hfb : fb ≤ 90000000) (hna : aside.length < 1000000) (hb : b.length < 1000000) {R}
  (h : R (vi (hU s name aside b).2) [.fns 80 [fn2 aside, fn3 aside, fn4 aside name] 0, bx1, fsC (hU s name aside b).1 3, fsM (hU s name aside b).1, byO b]) : ag Tryz.prog 88 [.slv 0 0 0 0 3] [.fns 80 [fn2 aside, fn3 aside, fn4 aside name] 0, bx1, fsC s 3, fsM s, byO b] R := by
 refine aa (an := Q2) tab_ok Tryz.func88 ?_;conv=>whnf
 refine aq.step ?_;conv=>whnf
 refine ⟨rfl, ?_⟩;conv=>whnf
 refine x9 s aside b hk.fail hk.fall hb (by have := (hk.m.get aside).2; omega) ?_;have hk2 := iF hk (name := aside) (b := b) hna;conv=>whnf
 refine ae (fun g => ?_) (fun g => ?_)
 ·have g : (s.append aside b).2 ≠ 0 := by simpa using g
  rw [hU, aaz g] at h;conv=>whnf
  exact h
 have g : ¬ (s.append aside b).2 ≠ 0 := by simpa using g
 rw [hU, aap g] at h;generalize (s.append aside b).1 = s1 at h hk2 ⊢;conv=>whnf
 refine aq.step ?_;conv=>whnf
 refine ⟨rfl, ?_⟩;conv=>whnf
 refine x7 s1 aside hk2.fail hk2.fall ?_;have hk3 := lY hk2 (name := aside);conv=>whnf
 refine ae (fun g2 => ?_) (fun g2 => ?_)
 ·have g2 : (s1.sync aside).2 ≠ 0 := by simpa using g2
  rw [aaz g2] at h;conv=>whnf
  exact h
 have g2 : ¬ (s1.sync aside).2 ≠ 0 := by simpa using g2
 rw [aap g2] at h;generalize (s1.sync aside).1 = s2 at h hk3 ⊢;conv=>whnf
 refine aq.step ?_;conv=>whnf
 refine ⟨rfl, ?_⟩;conv=>whnf
 refine x6 s2 aside name hk3.fail hk3.fall ?_;conv=>whnf
 refine ae (fun g3 => ?_) (fun g3 => ?_)
 ·conv=>whnf
  exact h
 have g3 : (s2.rename aside name).2 = 0 := by simpa using g3
 rw [g3] at h;conv=>whnf
 refine aq.step ?_;conv=>whnf
 exact h
theorem D9 (s : FSt) (name aside b : B) {nb fb : Nat} (hk : FOk s nb fb) (hfb : fb ≤ 90000000) (hna : aside.length < 1000000) (hb : b.length < 1000000) {R}
  (h : R (vi (if (s.remove aside).2 ≠ 0 then s.remove aside else hU (s.remove aside).1 name aside b).2) [.fns 80 [fn1 aside, fn2 aside, fn3 aside, fn4 aside name] 1, bx1, fsC (if (s.remove aside).2 ≠ 0 then s.remove aside else hU (s.remove aside).1 name aside b).1 3, fsM (if (s.remove aside).2 ≠ 0 then s.remove aside else hU (s.remove aside).1 name aside b).1, byO b]) : ag Tryz.prog 88 [.slv 0 0 1 0 4] [.fns 80 [fn1 aside, fn2 aside, fn3 aside, fn4 aside name] 1, bx1, fsC s 3, fsM s, byO b] R := by
 refine aa (an := Q2) tab_ok Tryz.func88 ?_;conv=>whnf
 refine aq.step ?_;conv=>whnf
 refine ⟨rfl, ?_⟩;conv=>whnf
 refine He s aside hk.fail hk.fall ?_;have hk0 := kZ hk (name := aside);conv=>whnf
 refine ae (fun g => ?_) (fun g => ?_)
 ·have g : (s.remove aside).2 ≠ 0 := by simpa using g
  rw [aaz g] at h;conv=>whnf
  exact h
 have g : ¬ (s.remove aside).2 ≠ 0 := by simpa using g
 rw [aap g] at h;clear hk;generalize (s.remove aside).1 = s at h hk0 ⊢;have hk := hk0;clear hk0;conv=>whnf
 refine aq.step ?_;conv=>whnf
 refine ⟨rfl, ?_⟩;conv=>whnf
 refine x9 s aside b hk.fail hk.fall hb (by have := (hk.m.get aside).2; omega) ?_;have hk2 := iF hk (name := aside) (b := b) hna;conv=>whnf
 refine ae (fun g => ?_) (fun g => ?_)
 ·have g : (s.append aside b).2 ≠ 0 := by simpa using g
  rw [hU, aaz g] at h;conv=>whnf
  exact h
 have g : ¬ (s.append aside b).2 ≠ 0 := by simpa using g
 rw [hU, aap g] at h;generalize (s.append aside b).1 = s1 at h hk2 ⊢;conv=>whnf
 refine aq.step ?_;conv=>whnf
 refine ⟨rfl, ?_⟩;conv=>whnf
 refine x7 s1 aside hk2.fail hk2.fall ?_;have hk3 := lY hk2 (name := aside);conv=>whnf
 refine ae (fun g2 => ?_) (fun g2 => ?_)
 ·have g2 : (s1.sync aside).2 ≠ 0 := by simpa using g2
  rw [aaz g2] at h;conv=>whnf
  exact h
 have g2 : ¬ (s1.sync aside).2 ≠ 0 := by simpa using g2
 rw [aap g2] at h;generalize (s1.sync aside).1 = s2 at h hk3 ⊢;conv=>whnf
 refine aq.step ?_;conv=>whnf
 refine ⟨rfl, ?_⟩;conv=>whnf
 refine x6 s2 aside name hk3.fail hk3.fall ?_;conv=>whnf
 refine ae (fun g3 => ?_) (fun g3 => ?_)
 ·conv=>whnf
  exact h
 have g3 : (s2.rename aside name).2 = 0 := by simpa using g3
 rw [g3] at h;conv=>whnf
 refine aq.step ?_;conv=>whnf
 exact h
theorem Dk (s : FSt) (name aside b : B) (hne : name ≠ aside) (v : Int) (l : List Rc) {nb fb : Nat} (hk : FOk s nb fb) (hnb : nb ≤ 900000) (hfb : fb ≤ 80000000) (hna : aside.length < 1000000) (hb : b.length < 1000000)
  (hput : ∀ {R : AV → List aE → Prop}, R (.tup [.sl none 1 (ai b), vi 0]) [] → ag Tryz.prog 81 [vi v, .sl none 7 (be l)] [] R) {R} (h : R (vi (cN s name aside b).2) [fsC (cN s name aside b).1 1, fsM (cN s name aside b).1]) : ag Tryz.prog 37 [.ptr 0 0, vs name, vs aside, vi v, .sl none 7 (be l)] [fsC s 1, fsM s] R := by
 refine aa (an := Ph) tab_ok Tryz.func37 ?_;have hlen := hk.m.len;have hnl : s.names.length ≤ nb := by
  rw [(dL s).length_eq];simpa [kys] using hlen
 conv=>whnf
 refine hput ?_;conv=>whnf
 refine ak (aai (fun e => hne (bZ e))) ?_;conv=>whnf
 refine iX s (by omega) hk.m.names hk.m.nodup ?_;conv=>whnf
 refine fB s.names aside (by omega) ?_;conv=>whnf
 refine ae (fun g => ?_) (fun g => ?_)
 ·have g := aal g;unfold cN at h;rw [aaz g] at h;conv=>whnf
  refine ⟨by simp only [aag, aaj]; decide, ?_⟩;conv=>whnf
  refine ⟨⟨rfl, rfl⟩, by simp only [aag, aaj]; decide, ?_⟩;conv=>whnf
  refine D9 s name aside b hk (by omega) hna hb ?_;conv=>whnf
  exact h
 ·have g := aat g;unfold cN at h;rw [aap g] at h;conv=>whnf
  refine ⟨by simp only [aag, aaj]; decide, ?_⟩;conv=>whnf
  refine Ea s name aside b hk (by omega) hna hb ?_;conv=>whnf
  exact h
def zF : AV := .agg [vi 0, nlA, nlA, vi 0]
theorem MQ (s : FSt) (name : B) (v : Int) (l : List Rc) (hin : name ∈ kys s.fs) (hb : (gF s.fs name).b = aC v l) (hlen : (aC v l).length < 1000000)
  (hget : ∀ {R : AV → List aE → Prop}, R (.tup [.agg (cq v l), vi 0]) [] → ag Tryz.prog 89 [.sl none 1 (ai (aC v l))] [] R) {R} (h : R (.tup [.agg (cq v l), vi 0]) [fsC s 1, fsM s]) : ag Tryz.prog 38 [.ptr 0 0, vs name] [fsC s 1, fsM s] R := by
 refine aa (an := MM) tab_ok Tryz.func38 ?_;have hbl := aL (aC v l);conv=>whnf
 refine jD s name (by rw [hb]; omega) (fun _ => ?_) (fun hno => absurd hin hno);rw [hb];conv=>whnf
 refine hget ?_;conv=>whnf
 refine ak (aai (by rw [hbl]; omega)) ?_;conv=>whnf
 exact h
theorem Mn : FOk fs0 0 0 := ⟨⟨by decide, by simp [fs0], by simp [fs0], by simp [fs0], by simp [fs0, kys]⟩, (by decide : -1 ≤ (-1 : Int) ∧ (-1 : Int) < 9223372036854775808), (by decide : -1 ≤ (-1 : Int) ∧ (-1 : Int) < 9223372036854775808)⟩
theorem Hd (name aside b : B) (hne : name ≠ aside) : cN fs0 name aside b = (⟨[(name, ⟨b, b.length⟩)], -1, -1, false⟩, 0) := by
 have h1 : fs0.append aside b = (⟨[(aside, ⟨b, 0⟩)], -1, -1, false⟩, 0) := rfl;have h2 : (FSt.mk [(aside, ⟨b, 0⟩)] (-1) (-1) false).sync aside = (⟨[(aside, ⟨b, b.length⟩)], -1, -1, false⟩, 0) := by
  simp [FSt.sync, FSt.may, FSt.act, lk, cM, pt, gF, cnt]
 have h3 : (FSt.mk [(aside, ⟨b, b.length⟩)] (-1) (-1) false).rename aside name = (⟨[(name, ⟨b, b.length⟩)], -1, -1, false⟩, 0) := by
  simp [FSt.rename, FSt.may, FSt.act, lk, jP, pt, dl, gF, cnt]
 have hn : aside ∉ fs0.names := by simp [FSt.names, fe, fs0, kys]
 unfold cN hU;rw [aap hn, h1];simp only [h2, h3, ne_eq, not_true_eq_false, aaW]
end Go.Abs
end
section
namespace Go.Abs
open Go Go.Proofs Dig
theorem fd (s : FSt) (late : Bool) (g : FM → FM) : ((s.act late g).2 = 0 ∧ (s.act late g).1.fs = g s.fs) ∨ ((s.act late g).2 ≠ 0 ∧ ((s.act late g).1.fs = s.fs ∨ (late = true ∧ (s.act late g).1.fs = g s.fs))) := by
 unfold FSt.act;split
 ·refine .inr ⟨(by decide : (7 : Int) ≠ 0), ?_⟩
  cases late
  ·exact .inl rfl
  ·exact .inr ⟨rfl, rfl⟩
 ·split
  ·exact .inr ⟨(by decide : (8 : Int) ≠ 0), .inl rfl⟩
  ·exact .inl ⟨rfl, rfl⟩
def cr (s : FSt) (name : B) (b : B) : Prop := lk s.fs name = some ⟨b, b.length⟩
end Go.Abs
end
section
namespace Go.Abs
open Go Go.Proofs Dig
attribute [local irreducible] aH aD aO firstIdx
def aS : B := [108, 111, 103]
def cz : B := [110, 101, 119]
def is3 (v : Int) : Prop := v = 1 ∨ v = 2 ∨ v = 3
theorem wK {v : Int} (hv : is3 v) (l : List Rc) (hl : l.length ≤ 1000) (hd : ∀ r ∈ l, r.deps.length < 100000) {R} (hy : (∀ r ∈ l, aR v r = true) → R (.tup [.sl none 1 (ai (aC v l)), vi 0]) []) (hn : (¬ ∀ r ∈ l, aR v r = true) → R (.tup [.val (.slice none 0 0), vi 1]) []) : ag Tryz.prog 81 [vi v, .sl none 7 (be l)] [] R := by
 rcases hv with rfl | rfl | rfl
 ·exact O0 l hl hd hy hn
 ·exact KF (.inl rfl) l hl hd hy hn
 ·exact KF (.inr rfl) l hl hd hy hn
theorem KH {v : Int} (hv : is3 v) (l : List Rc) (hm : ∀ r ∈ l, aR v r = true) (hl : l.length ≤ 1100) {R} (h : R (.tup [.agg (cq v l), vi 0]) []) : ag Tryz.prog 89 [.sl none 1 (ai (aC v l))] [] R := by
 exact AI hv l hm hl h
theorem eX {v : Int} {l : List Rc} (hm : ∀ r ∈ l, aR v r = true) (hl : l.length ≤ 300) : (aC v l).length < 1000000 := by
 have h := jv (v := v) (l := l) (t := []) (fun r hr => aT (hm r hr)) (by simp; omega);rw [cp];omega
theorem ni {v : Int} {l : List Rc} (hm : ∀ r ∈ l, aR v r = true) (hl : l.length ≤ 1100) : (aC v l).length < 4000000 := by
 have h := jv (v := v) (l := l) (t := []) (fun r hr => aT (hm r hr)) (by simp; omega);rw [cp];omega
theorem mf : aS ≠ cz := by decide
def fsL (F : B) : FSt := ⟨[(aS, ⟨F, F.length⟩)], -1, -1, false⟩
theorem Ie (F : B) : cr (fsL F) aS F := by simp [cr, fsL, lk]
theorem GH {s : FSt} {nb fb : Nat} (h : FOk s nb fb) {n : Int} (hn : -9223372036854775808 ≤ n ∧ n < 9223372036854775808) : FOk ⟨s.fs, kr n, s.fall, s.down⟩ nb fb := ⟨h.m, uO hn, h.fall⟩
theorem GG {s : FSt} {nb fb : Nat} (h : FOk s nb fb) {n : Int} (hn : -9223372036854775808 ≤ n ∧ n < 9223372036854775808) : FOk ⟨s.fs, s.fail, kr n, s.down⟩ nb fb := ⟨h.m, h.fail, uO hn⟩
theorem LF {v : Int} (hv : v = 2 ∨ v = 3) (l : List Rc) (hl : l.length ≤ 1100) (hm : ∀ r ∈ l, aR v r = true) (x : AV) (hx : x = .sl none 1 (dh (c6 v l))) (n : Int) {R} (h : R (.tup [.ptr 0 0, vi 0]) (qt (ln v [] l))) : ag Tryz.prog 180 [.agg [vi v, .sl none 7 (be l), x, vi n]] [] R := by
 subst hx;refine aa (an := NH) tab_ok Tryz.func180 ?_;have hsl := bd l;conv=>whnf
 refine ol ?_;conv=>whnf
 by_cases hl0 : l = []
 ·subst hl0;refine aq.step ?_;conv=>whnf
  exact h
 have hi : 0 < l.length := List.length_pos_iff.2 hl0;rw [iu (show ln v [] l ≠ [] from by
  obtain ⟨j, hj⟩ : ∃ j, l.length = j + 1 := ⟨l.length - 1, by omega⟩;have e : ln v [] l = tbP v l (j + 1) := by unfold tbP; rw [← hj, aax]
  rw [e, g9 (by omega)];exact kU (ne1 hv) _ _)] at h
 refine aq.step ?_;conv=>whnf
 refine aK (by rw [hsl]; exact aaa (by omega)) ?_
 (conv=>whnf); (repeat ((with_reducible refine ac ?_ ?_); exact aaa (by omega); (conv=>whnf)))
 refine ab (show (0 : Int).toNat < l.length by simpa using hi) ?_;rw [show l[(0 : Int).toNat]'(by simpa using hi) = l[0] from rfl];conv=>whnf
 refine zB hv l[0] (hm _ (aaf hi)) ?_;conv=>whnf
 rw [show IntKind.i64.wrap ((0 : Int) + 1) = ((1 : Nat) : Int) from rfl];have hT1 : bw v [] l[0] = tbP v l 1 := (g9 hi).symm;rw [hT1];refine aq.ind2 (fun (i : Nat) (T : List B) => [(13, vi i)]) (fun i T => [(ar 9 0, bL (ar 22 0) (ar 22 1) T), (ar 22 0, bK T), (ar 22 1, bJ T)]) (fun i _ => l.length - i) (fun i T => 1 ≤ i ∧ i ≤ l.length ∧ T = tbP v l i) 1 _ rfl ⟨by omega, hi, rfl⟩ ?_;rintro i T ⟨h00, h0, hT⟩ IH;conv=>whnf
 refine ae (fun hc => ?_) (fun hc => ?_)
 ·have hi := ap hsl hc;have hmt : ∀ r ∈ l.take i, aR v r = true := fun r hr => hm r (aaU hr);have hTl : T.length ≤ 20000 := by rw [hT]; exact rv (by omega) hmt
  have IH := IH (i + 1) _ ⟨by omega, hi, rfl⟩ (by omega);rw [g9 hi, ← hT] at IH
  (conv=>whnf); (repeat ((with_reducible refine ac ?_ ?_); exact aaa (by omega); (conv=>whnf)))
  refine idxNat (by simpa using hi) ?_;conv=>whnf
  refine zA hv l[i] T (by omega) (hm _ (aaf hi)) ?_;conv=>whnf
  rw [am (by omega)];exact IH
 ·have hi := au hsl hc;rw [show tbP v l i = ln v [] l from by unfold tbP; rw [aae hi]] at hT;subst hT;conv=>whnf
  exact h
theorem yI {v : Int} (hv : v = 2 ∨ v = 3) (r : Rc) (hm : aR v r = true) (t : List B) (ht : t.length < 80000) {R} (h : R (.tup [.sl none 1 (ai (aw (bu v t r))), vi 0]) (qt (bw v t r))) : ag Tryz.prog 181 [vi v, .ptr 0 0, .agg r.enc] (qt t) R := by
 refine aa (an := { NG with keep := [(4, [1, 9, 10, 20, 21, 22])] }) tab_ok Tryz.func181 ?_;rw [iu (kU (ne1 hv) t r)] at h;by_cases h0 : t = []
 ·subst h0;obtain ⟨t, ht0⟩ : ∃ t : List B, t = [] := ⟨_, rfl⟩;rw [show qt [] = [dg] from rfl];conv=>whnf
  refine zB hv r hm ?_;rw [← ht0] at h ⊢;have ht : t.length < 80000 := by rw [ht0]; simp
  have hpl := iA (t := t) (aT hm) (by omega);have hpf := dF (t := t) (aT hm) (by omega);have hpc := f7 (v := v) (t := t) (aT hm).deps;generalize hps : bu v t r = ps at hpl hpf hpc h ⊢;have hrl := aP ps;conv=>whnf
  refine aq.step ?_;conv=>whnf
  refine aK (by rw [hrl]; exact aaa (by omega)) ?_
  (conv=>whnf); (repeat ((with_reducible refine ac ?_ ?_); exact aaa (by omega); (conv=>whnf)))
  refine ab (show (0 : Int).toNat < ps.length from by show 0 < ps.length; omega) ?_;rw [show ps[(0 : Int).toNat]'(by show 0 < ps.length; omega) = ps[0] from rfl];conv=>whnf
  refine ag.args (leL.cons (cy 1) (leL.refl _)) (dX [] ps[0] (by simp) (hpl _ (aaf _)).1 (hpl _ (aaf _)).2 ?_);have h1 : bl ps[0] = aw (ps.take 1) := by
   rw [show ps.take 1 = [] ++ [ps[0]] from by cases ps with | nil => simp at hpc | cons a l => rfl, dB];rfl
  rw [aam, h1];conv=>whnf
  rw [show IntKind.i64.wrap ((0 : Int) + 1) = ((1 : Nat) : Int) from rfl];refine aq.ind2 (fun (k : Nat) (c : B) => [(10, .sl none 1 (ai c)), (22, vi k)]) (fun k c => [(0, bL (ar 17 0) (ar 17 1) (bw v t r)), (ar 17 0, bK (bw v t r)), (ar 17 1, bJ (bw v t r))]) (fun k _ => ps.length - k) (fun k c => k ≤ ps.length ∧ c = aw (ps.take k)) 1 _ rfl ⟨by omega, rfl⟩ ?_;rintro k c ⟨hk0, hc0⟩ IH2;have hcl : c.length ≤ 3008 := by have := eM ps k; rw [hc0]; omega
  conv=>whnf
  refine ae (fun hk => ?_) (fun hk => ?_)
  ·have hk := ap hrl hk;have hp := hpl _ (aaf hk);have hS : c ++ bl ps[k] = aw (ps.take (k + 1)) := by
    rw [hc0, aab hk, dB]
   have IH2 := IH2 (k + 1) _ ⟨hk, hS⟩ (by omega)
   (conv=>whnf); (repeat ((with_reducible refine ac ?_ ?_); exact aaa (by omega); (conv=>whnf)))
   refine idxNat (by simpa using hk) ?_;conv=>whnf
   refine dX c ps[k] (by omega) hp.1 hp.2 ?_;conv=>whnf
   rw [am (by omega)];exact IH2
  ·have hk := au hrl hk;rw [aae hk] at hc0;subst hc0;conv=>whnf
   exact h
 ·rw [iu h0];conv=>whnf
  refine zA hv r t (by omega) hm ?_;have hpl := iA (t := t) (aT hm) (by omega);have hpf := dF (t := t) (aT hm) (by omega);have hpc := f7 (v := v) (t := t) (aT hm).deps;generalize hps : bu v t r = ps at hpl hpf hpc h ⊢;have hrl := aP ps;conv=>whnf
  refine aq.step ?_;conv=>whnf
  refine aK (by rw [hrl]; exact aaa (by omega)) ?_
  (conv=>whnf); (repeat ((with_reducible refine ac ?_ ?_); exact aaa (by omega); (conv=>whnf)))
  refine ab (show (0 : Int).toNat < ps.length from by show 0 < ps.length; omega) ?_;rw [show ps[(0 : Int).toNat]'(by show 0 < ps.length; omega) = ps[0] from rfl];conv=>whnf
  refine ag.args (leL.cons (cy 1) (leL.refl _)) (dX [] ps[0] (by simp) (hpl _ (aaf _)).1 (hpl _ (aaf _)).2 ?_);have h1 : bl ps[0] = aw (ps.take 1) := by
   rw [show ps.take 1 = [] ++ [ps[0]] from by cases ps with | nil => simp at hpc | cons a l => rfl, dB];rfl
  rw [aam, h1];conv=>whnf
  rw [show IntKind.i64.wrap ((0 : Int) + 1) = ((1 : Nat) : Int) from rfl];refine aq.ind2 (fun (k : Nat) (c : B) => [(10, .sl none 1 (ai c)), (22, vi k)]) (fun k c => [(0, bL 1 2 (bw v t r)), (1, bK (bw v t r)), (2, bJ (bw v t r))]) (fun k _ => ps.length - k) (fun k c => k ≤ ps.length ∧ c = aw (ps.take k)) 1 _ rfl ⟨by omega, rfl⟩ ?_;rintro k c ⟨hk0, hc0⟩ IH2;have hcl : c.length ≤ 3008 := by have := eM ps k; rw [hc0]; omega
  conv=>whnf
  refine ae (fun hk => ?_) (fun hk => ?_)
  ·have hk := ap hrl hk;have hp := hpl _ (aaf hk);have hS : c ++ bl ps[k] = aw (ps.take (k + 1)) := by
    rw [hc0, aab hk, dB]
   have IH2 := IH2 (k + 1) _ ⟨hk, hS⟩ (by omega)
   (conv=>whnf); (repeat ((with_reducible refine ac ?_ ?_); exact aaa (by omega); (conv=>whnf)))
   refine idxNat (by simpa using hk) ?_;conv=>whnf
   refine dX c ps[k] (by omega) hp.1 hp.2 ?_;conv=>whnf
   rw [am (by omega)];exact IH2
  ·have hk := au hrl hk;rw [aae hk] at hc0;subst hc0;conv=>whnf
   exact h
theorem mB (l : List Rc) (hl : l.length < 1000000) {R} (h1 : l = [] → R (.val (.slice none 0 0)) []) (h2 : R (.sl (some 0) 7 (be l)) [.row 67 7 (be l).length]) : ag Tryz.prog 182 [.sl none 7 (be l)] [] R := by
 refine aa (an := NF) tab_ok Tryz.func182 ?_;have hsl := bd l;conv=>whnf
 intro b hb;refine ae (fun g => ?_) (fun g => ?_)
 ·have e := hb g;have e : l = [] := by
   cases l with
   | nil => rfl
   | cons r l => simp [be] at e
  conv=>whnf
  exact h1 e
 ·conv=>whnf
  refine ⟨rfl, (by show (0 + (be l).length) * (88 + 1) ≤ _; omega), ?_⟩;conv=>whnf
  rw [show [].length + (be l).length = (be l).length by simp, show [] ++ be l = be l from rfl];exact h2
theorem gO (b : List Nat) (hb : b.length < 1000000) {R} (h1 : b = [] → R (.val (.slice none 0 0)) []) (h : R (.sl (some 0) 1 (dh b)) [.row 3 1 b.length]) : ag Tryz.prog 183 [.sl none 1 (dh b)] [] R := by
 refine aa (an := { R4 with keepRes := true }) tab_ok Tryz.func183 ?_;have hsl := b8 b;conv=>whnf
 intro p hp;refine ae (fun g => ?_) (fun g => ?_)
 ·have e := hp g;have e : b = [] := by cases b with | nil => rfl | cons a b => cases e
  conv=>whnf
  exact h1 e
 ·conv=>whnf
  refine ⟨rfl, (by show (0 + (dh b).length) * (8 + 1) ≤ _; omega), ?_⟩;conv=>whnf
  rw [show [] ++ dh b = dh b from rfl, hsl, show [].length + b.length = b.length by simp];exact h
def cb (v : Int) (l : List Rc) (r : Rc) : B := aw (bu v (ln v [] l) r)
theorem il (v : Int) (l : List Rc) (r : Rc) : aC v (l ++ [r]) = aC v l ++ cb v l r := by
 unfold aC cb;rw [eJ, dC, aak];simp [aW]
theorem dq (v : Int) (l : List Rc) (r : Rc) : c6 v (l ++ [r]) = c6 v l ++ [(aC v (l ++ [r])).length] := by
 unfold c6;rw [aac, List.length_singleton, List.range_succ, aaG];congr 1
 ·refine List.map_congr_left fun i hi => ?_;have hi := List.mem_range.1 hi;rw [aaB (by omega)]
 ·rw [List.map_singleton, show l.length + 1 = (l ++ [r]).length by simp, aax]
theorem jk (l : List Rc) (r : Rc) : be (l ++ [r]) = be l ++ [r.enc] := by simp [be]
theorem gN (l : List Nat) (n : Nat) : dh (l ++ [n]) = dh l ++ [[vi (n : Int)]] := by simp [dh]
theorem EG {v : Int} (hv : v = 2 ∨ v = 3) (r : Rc) (hm : aR v r = true) (t : List B) (ht : t = []) {R} (h : R (.tup [.sl none 1 (ai (aw (bu v t r))), vi 0]) [bL 1 2 (bw v t r), bK (bw v t r), bJ (bw v t r)]) : ag Tryz.prog 181 [vi v, .ptr 0 0, .agg r.enc] [dg] R := by
 have h1 := yI hv r hm t (by rw [ht]; simp) (R := R);rw [iu (kU (ne1 hv) t r)] at h1;have h2 := h1 h;rw [ht] at h2;exact h2
theorem EF {v : Int} (hv : v = 2 ∨ v = 3) (r : Rc) (hm : aR v r = true) (t : List B) (ht : t ≠ []) (hl : t.length < 80000) {R} (h : R (.tup [.sl none 1 (ai (aw (bu v t r))), vi 0]) [bL 1 2 (bw v t r), bK (bw v t r), bJ (bw v t r)]) : ag Tryz.prog 181 [vi v, .ptr 0 0, .agg r.enc] [bL 1 2 t, bK t, bJ t] R := by
 have h1 := yI hv r hm t hl (R := R);rw [iu (kU (ne1 hv) t r)] at h1;have h2 := h1 h;rw [iu ht] at h2;exact h2
theorem pQ {v : Int} (hv : v = 2 ∨ v = 3) (s : FSt) (name : B) (hn : name.length < 1000000) {nb fb : Nat} (hk : FOk s nb fb) (hfb : fb ≤ 80000000) (l : List Rc) (hl : l.length ≤ 1100) (hm : ∀ r ∈ l, aR v r = true) (r : Rc) (hr : aR v r = true) {R}
  (h1 : (s.append name (cb v l r)).2 ≠ 0 → R (.tup [zF, vi (s.append name (cb v l r)).2]) [fsC (s.append name (cb v l r)).1 1, fsM (s.append name (cb v l r)).1])
  (h2 : (s.append name (cb v l r)).2 = 0 → R (.tup [.agg (cq v (l ++ [r])), vi 0]) [fsC (s.append name (cb v l r)).1 1, fsM (s.append name (cb v l r)).1]) : ag Tryz.prog 139 [.ptr 0 0, vs name, .agg (cq v l), .agg r.enc] [fsC s 1, fsM s] R := by
 have hv13 : 1 ≤ v ∧ v ≤ 3 := by omega
 refine ag.res ?_;refine aa (an := K9) tab_ok Tryz.func139 ?_;have hM : ∀ x ∈ l, kF v x := fun x hx => aT (hm x hx);have hMr := aT hr;have hfl := ni hm hl;have htl := lm (v := v) (l := l) (t := []) hM;simp at htl;have hpf := dF (v := v) (t := ln v [] l) hMr (by omega);have hsl := bd l;have hel := gy v l;have hil := b8 (c6 v l);have hml : (cb v l r).length ≤ 3000 := hpf;conv=>whnf
 refine ak (aai (by omega)) ?_;conv=>whnf
 refine ak (aai (by omega)) ?_;conv=>whnf
 refine LF hv l (by omega) hm _ rfl _ ?_;obtain ⟨T, hT⟩ : ∃ T, T = ln v [] l := ⟨_, rfl⟩;have hmo : cb v l r = aw (bu v T r) := by rw [hT]; rfl
 rw [← hT] at htl ⊢;rw [hmo] at h1 h2 hml;have hend : IntKind.i64.wrap (((aC v l).length : Int) + ((ai (aw (bu v T r))).length : Int)) = ((aC v (l ++ [r])).length : Int) := by
  rw [il, hmo, aac, aL, aI (by omega) (by omega)];omega
 by_cases hl0 : T = []
 ·rw [show qt T = [dg] from by rw [hl0]; rfl];conv=>whnf
  refine EG hv r hr T hl0 ?_;conv=>whnf
  refine kX s name (aw (bu v T r)) hk.fail hk.fall (by omega) (by have := (hk.m.get name).2; omega) ?_;conv=>whnf
  refine ae (fun g => ?_) (fun g => ?_)
  ·conv=>whnf
   exact bB (h1 (by simpa using g))
  have h2 := h2 (by simpa using g);generalize aw (bu v T r) = F at hml hend h2 ⊢;conv=>whnf
  rw [hend];refine mB l (by omega) (fun e => ?_) ?_
  ·conv=>whnf
   refine fN r (by have := hMr.deps; omega) ?_;conv=>whnf
   refine ⟨by rw [bF]; simp only [aag, aaj]; decide, ?_⟩;conv=>whnf
   obtain ⟨X, hXX⟩ : ∃ X, X = [r.enc] := ⟨_, rfl⟩;have hX : be (l ++ [r]) = X := by rw [jk, e, hXX]; rfl
   refine gO (c6 v l) (by omega) (fun e2 => ?_) ?_
   ·conv=>whnf
    refine ⟨by rw [aY]; simp only [aag, aaj]; decide, ?_⟩;conv=>whnf
    have er : cq v (l ++ [r]) = [vi v, .sl none 7 X, .sl none 1 [[vi ((aC v (l ++ [r])).length : Int)]], vi ((aC v (l ++ [r])).length : Int)] := by
     unfold cq;rw [dq, e2, ← hX];rfl
    rw [er, hXX] at h2;exact bB h2
   ·conv=>whnf
    refine ⟨hil.symm, by rw [hil, hel, aY]; simp only [aag, aaj]; omega, ?_⟩;conv=>whnf
    have er : cq v (l ++ [r]) = [vi v, .sl none 7 X, .sl none 1 (dh (c6 v l) ++ [[vi ((aC v (l ++ [r])).length : Int)]]), vi ((aC v (l ++ [r])).length : Int)] := by
     unfold cq;rw [← hX, dq, gN]
    rw [er, hXX] at h2;exact bB h2
  ·conv=>whnf
   refine fN r (by have := hMr.deps; omega) ?_;conv=>whnf
   refine ⟨rfl, by rw [bF, hsl]; simp only [aag, aaj]; omega, ?_⟩;conv=>whnf
   obtain ⟨X, hXX⟩ : ∃ X, X = be l ++ [r.enc] := ⟨_, rfl⟩;have hX : be (l ++ [r]) = X := by rw [jk, hXX]
   refine gO (c6 v l) (by omega) (fun e2 => ?_) ?_
   ·conv=>whnf
    refine ⟨by rw [aY]; simp only [aag, aaj]; decide, ?_⟩;conv=>whnf
    have er : cq v (l ++ [r]) = [vi v, .sl none 7 X, .sl none 1 [[vi ((aC v (l ++ [r])).length : Int)]], vi ((aC v (l ++ [r])).length : Int)] := by
     unfold cq;rw [dq, e2, ← hX];rfl
    rw [er, hXX] at h2;exact bB h2
   ·conv=>whnf
    refine ⟨hil.symm, by rw [hil, hel, aY]; simp only [aag, aaj]; omega, ?_⟩;conv=>whnf
    have er : cq v (l ++ [r]) = [vi v, .sl none 7 X, .sl none 1 (dh (c6 v l) ++ [[vi ((aC v (l ++ [r])).length : Int)]]), vi ((aC v (l ++ [r])).length : Int)] := by
     unfold cq;rw [← hX, dq, gN]
    rw [er, hXX] at h2;exact bB h2
 ·rw [iu hl0];conv=>whnf
  refine EF hv r hr T hl0 (by omega) ?_;conv=>whnf
  refine kX s name (aw (bu v T r)) hk.fail hk.fall (by omega) (by have := (hk.m.get name).2; omega) ?_;conv=>whnf
  refine ae (fun g => ?_) (fun g => ?_)
  ·conv=>whnf
   exact bB (h1 (by simpa using g))
  have h2 := h2 (by simpa using g);generalize aw (bu v T r) = F at hml hend h2 ⊢;conv=>whnf
  rw [hend];refine mB l (by omega) (fun e => ?_) ?_
  ·conv=>whnf
   refine fN r (by have := hMr.deps; omega) ?_;conv=>whnf
   refine ⟨by rw [bF]; simp only [aag, aaj]; decide, ?_⟩;conv=>whnf
   obtain ⟨X, hXX⟩ : ∃ X, X = [r.enc] := ⟨_, rfl⟩;have hX : be (l ++ [r]) = X := by rw [jk, e, hXX]; rfl
   refine gO (c6 v l) (by omega) (fun e2 => ?_) ?_
   ·conv=>whnf
    refine ⟨by rw [aY]; simp only [aag, aaj]; decide, ?_⟩;conv=>whnf
    have er : cq v (l ++ [r]) = [vi v, .sl none 7 X, .sl none 1 [[vi ((aC v (l ++ [r])).length : Int)]], vi ((aC v (l ++ [r])).length : Int)] := by
     unfold cq;rw [dq, e2, ← hX];rfl
    rw [er, hXX] at h2;exact bB h2
   ·conv=>whnf
    refine ⟨hil.symm, by rw [hil, hel, aY]; simp only [aag, aaj]; omega, ?_⟩;conv=>whnf
    have er : cq v (l ++ [r]) = [vi v, .sl none 7 X, .sl none 1 (dh (c6 v l) ++ [[vi ((aC v (l ++ [r])).length : Int)]]), vi ((aC v (l ++ [r])).length : Int)] := by
     unfold cq;rw [← hX, dq, gN]
    rw [er, hXX] at h2;exact bB h2
  ·conv=>whnf
   refine fN r (by have := hMr.deps; omega) ?_;conv=>whnf
   refine ⟨rfl, by rw [bF, hsl]; simp only [aag, aaj]; omega, ?_⟩;conv=>whnf
   obtain ⟨X, hXX⟩ : ∃ X, X = be l ++ [r.enc] := ⟨_, rfl⟩;have hX : be (l ++ [r]) = X := by rw [jk, hXX]
   refine gO (c6 v l) (by omega) (fun e2 => ?_) ?_
   ·conv=>whnf
    refine ⟨by rw [aY]; simp only [aag, aaj]; decide, ?_⟩;conv=>whnf
    have er : cq v (l ++ [r]) = [vi v, .sl none 7 X, .sl none 1 [[vi ((aC v (l ++ [r])).length : Int)]], vi ((aC v (l ++ [r])).length : Int)] := by
     unfold cq;rw [dq, e2, ← hX];rfl
    rw [er, hXX] at h2;exact bB h2
   ·conv=>whnf
    refine ⟨hil.symm, by rw [hil, hel, aY]; simp only [aag, aaj]; omega, ?_⟩;conv=>whnf
    have er : cq v (l ++ [r]) = [vi v, .sl none 7 X, .sl none 1 (dh (c6 v l) ++ [[vi ((aC v (l ++ [r])).length : Int)]]), vi ((aC v (l ++ [r])).length : Int)] := by
     unfold cq;rw [← hX, dq, gN]
    rw [er, hXX] at h2;exact bB h2
theorem kO (p : B) (P : List B) : aw (p :: P) = bl p ++ aw P := rfl
theorem wH : ∀ (P : List B) (m : Nat), (∀ p ∈ P, 1 ≤ p.length ∧ p.length ≤ 2048) → m ≤ (aw P).length →
  ∃ (c : Nat) (t : B), c ≤ P.length ∧ (aw P).take m = aw (P.take c) ++ t ∧ qo t ∧ t.length < 3000 ∧ (c < P.length → m < (aw (P.take (c + 1))).length) := by
 intro P
 induction P with
 | nil =>
  intro m _ hm;exact ⟨0, [], by simp, by simp [aw], .inl rfl, by simp, fun h => by simp at h⟩
 | cons p P ih =>
  intro m hP hm;have hp := hP p aa1;have hfl := lE hp.2;rw [kO] at hm ⊢;by_cases hlt : m < (bl p).length
  ·refine ⟨0, (bl p).take m, by simp, ?_, ?_, by rw [aan]; omega, fun _ => ?_⟩
   ·rw [aaB (by omega)];simp [aw]
   ·by_cases h0 : m = 0
    ·exact .inl (by rw [h0]; rfl)
    ·exact .inr ⟨p, m, hp.1, hp.2, by omega, hlt, rfl⟩
   ·rw [abA, List.take_zero, kO, aac];omega
  ·obtain ⟨m', rfl⟩ : ∃ m', m = (bl p).length + m' := ⟨m - (bl p).length, by omega⟩;rw [aac] at hm;obtain ⟨c, t, h1, h2, h3, h4, h5⟩ := ih m' (fun q hq => hP q (aaw _ hq)) (by omega);refine ⟨c + 1, t, by simpa using h1, ?_, h3, h4, fun h => ?_⟩
   ·rw [abf, h2, abA, kO, aak]
   ·rw [abA, kO, aac];have := h5 (by simpa using h);omega
theorem CU {v : Int} (hv : v ≠ 1) : ∀ (l : List Rc) (T : List B) (c : Nat), (∀ r ∈ l, kF v r) → c ≤ (aW v T l).length →
  ∃ (j : Nat) (ms : List B), j ≤ l.length ∧ (aW v T l).take c = aW v T (l.take j) ++ ms.map bq ∧ ms.length < 100 ∧ (∀ m ∈ ms, m.length ≤ 64) ∧ ∀ i, i ≤ l.length → (aW v T (l.take i)).length ≤ c → i ≤ j := by
 intro l
 induction l with
 | nil =>
  intro T c _ hc;exact ⟨0, [], by simp, by simp [aW], by simp, by simp, fun i hi _ => by simpa using hi⟩
 | cons r l ih =>
  intro T c hM hc;have hMr := hM r aa1;have hd := hMr.deps;rw [aW] at hc ⊢;by_cases hlt : c < (bu v T r).length
  ·have hnl := lA (bf r) T;have hnr := dm r;have hpp : bu v T r = (cF T (bf r)).map bq ++ [bO v (bw v T r) r] := by
    unfold bu fU;rw [aap hv]
   have hcl : c ≤ (cF T (bf r)).length := by
    rw [hpp] at hlt;simp at hlt;omega
   refine ⟨0, (cF T (bf r)).take c, by simp, ?_, by rw [aan]; omega, ?_, fun i hi hle => ?_⟩
   ·rw [aaB (by omega), hpp, aaB (by simpa using hcl)];simp [aW, abR]
   ·intro m hm;have h1 := vR (bf r) T m (aaU hm);have h2 : m ∈ bI r := gZ.1 h1;exact (fH hMr m h2).2
   ·cases i with
    | zero => omega
    | succ i =>
     exfalso;rw [abA, aW, aac] at hle;omega
  ·obtain ⟨c', rfl⟩ : ∃ c', c = (bu v T r).length + c' := ⟨c - (bu v T r).length, by omega⟩;rw [aac] at hc;obtain ⟨j, ms, h1, h2, h3, h4, h5⟩ := ih (bw v T r) c' (fun q hq => hM q (aaw _ hq)) (by omega);refine ⟨j + 1, ms, by simpa using h1, ?_, h3, h4, fun i hi hle => ?_⟩
   ·rw [abf, h2, abA, aW, aak]
   ·cases i with
    | zero => omega
    | succ i =>
     rw [abA, aW, aac] at hle;have := h5 i (by simpa using hi) (by omega);omega
theorem Ky {v : Int} (hv : v ≠ 1) {l : List Rc} (hm : ∀ r ∈ l, aR v r = true) (hl : l.length ≤ 1100) {m : Nat} (h8 : 8 ≤ m) (hle : m ≤ (aC v l).length) : ∃ (j : Nat) (ms : List B) (t : B), j ≤ l.length ∧ (aC v l).take m = aC v (l.take j) ++ aw (ms.map bq) ++ t ∧ ms.length < 100 ∧ (∀ m ∈ ms, m.length ≤ 64) ∧ qo t ∧ t.length < 3000 ∧ ∀ i, i ≤ l.length → (aC v (l.take i)).length ≤ m → i ≤ j := by
 have hM : ∀ r ∈ l, kF v r := fun r hr => aT (hm r hr);have hlens := nM (v := v) (l := l) (t := []) hM (by simp; omega);obtain ⟨m', rfl⟩ : ∃ m', m = 8 + m' := ⟨m - 8, by omega⟩;rw [cp] at hle;obtain ⟨c, t, c1, c2, c3, c4, c5⟩ := wH (aW v [] l) m' hlens (by omega);obtain ⟨j, ms, j1, j2, j3, j4, j5⟩ := CU hv l [] c hM c1;refine ⟨j, ms, t, j1, ?_, j3, j4, c3, c4, fun i hi hil => j5 i hi ?_⟩
 ·unfold aC;rw [show 8 + m' = (dG v).length + m' from by rw [eL], abf, c2, j2, dC];simp only [aak]
 ·refine Nat.le_of_not_lt fun hlt => ?_;have e : aW v [] l = aW v [] (l.take i) ++ aW v (ln v [] (l.take i)) (l.drop i) := by rw [← eJ, abm]
  have hlen : (aW v [] (l.take i)).length ≤ (aW v [] l).length := by rw [e, aac]; omega
  have h1 := c5 (by omega);have h2 : (aW v [] l).take (c + 1) = (aW v [] (l.take i)).take (c + 1) := by
   rw [e, aaB (by omega)]
  rw [h2] at h1;have h3 := eM (aW v [] (l.take i)) (c + 1);rw [cp] at hil;omega
theorem cr.key {s : FSt} {name b : B} (h : cr s name b) : name ∈ kys s.fs := lD h
theorem cr.get {s : FSt} {name b : B} (h : cr s name b) : gF s.fs name = ⟨b, b.length⟩ := by unfold gF; rw [show lk s.fs name = _ from h]; rfl
theorem wz0 (n : U) : ((n.toNat : Int) == 0) = decide (n = 0) := by
 by_cases e : n = 0
 ·simp [e]
 ·have : n.toNat ≠ 0 := fun x => e (aaZ (by simpa using x));rw [aai e]; simp; omega
theorem wz1 (n : U) : ((n.toNat : Int) != 0) = decide (n ≠ 0) := by
 show (!((n.toNat : Int) == 0)) = _;rw [wz0]; by_cases e : n = 0 <;> simp [e]
theorem dz0 (l : List Dp) : ((((dO l).length : Nat) : Int) == 0) = decide (l = []) := by
 rw [bD]
 cases l with
 | nil => rfl
 | cons a l => simp; omega
def lw (r : Rc) (i : Nat) : List B := r.target :: (r.deps.take i).map (·.name)
theorem vK (r : Rc) {i : Nat} (hi : i ≤ r.deps.length) (s : B) : s ∉ lw r i ↔ s ≠ r.target ∧ ∀ (j : Nat) (hj : j < r.deps.length), j < i → r.deps[j].name ≠ s := by
 unfold lw;simp only [aaY, List.mem_map, not_or, not_exists, not_and];refine and_congr Iff.rfl ⟨fun h j hj hji e => h r.deps[j] ?_ e, fun h d hd e => ?_⟩
 ·have : (r.deps.take i)[j]'(by simp; omega) = r.deps[j] := by simp
  rw [← this]; exact aaf _
 ·obtain ⟨j, hj, rfl⟩ := abc hd;simp only [aan] at hj;rw [List.getElem_take] at e;exact h j (by omega) (by omega) e
theorem sV (r : Rc) {i : Nat} (hi : i < r.deps.length) : lw r (i + 1) = lw r i ++ [r.deps[i].name] := by
 unfold lw;rw [aab hi, aaG, aav];rfl
theorem kJ (v : Int) (r : Rc) (hd : r.deps.length < 100000) {R} (h : ∀ p, p = aR v r → R (.val (.bool p)) []) : ag Tryz.prog 103 [vi v, .agg r.enc] [] R := by
 refine aa (an := S4) tab_ok Tryz.func103 ?_;have hst := aG r.tag;have hsl := bD r.deps;conv=>whnf
 refine ae (fun g1 => ?_) (fun g1 => ?_)
 ·conv=>whnf
  exact h false (by rw [aR, aaz (by rw [g1]; rfl)])
 conv=>whnf
 refine ae (fun g2 => ?_) (fun g2 => ?_)
 ·have g2 : 3 < v := by simpa using g2
  conv=>whnf
  exact h false (by rw [aR, aaz (by rw [g1, aaa g2]; rfl)])
 have g2 : ¬ 3 < v := by simpa using g2
 have g1' : ¬ v < 1 := by simpa using g1
 conv=>whnf
 refine iS r.target ?_;conv=>whnf
 refine ae (fun g3 => ?_) (fun g3 => ?_)
 ·conv=>whnf
  exact h false (by rw [aR, aaz (by rw [g3]; simp)])
 have hm : aR v r = if r.kind = 1 then !dN v r && (decide (r.tag.length ≤ 64) && pw v r) else if r.kind = 2 then decide (r = qc r) else false := by
  rw [aR, aap (by rw [g1, aai g2, g3]; simp)]
 conv=>whnf
 refine ae (fun k2 => ?_) (fun k2 => ?_)
 ·have k2 : r.kind = 2 := by simpa using k2
  have hm2 : aR v r = (decide (r.rule = 0) && (decide (r.deps = []) && (decide (r.out = 0) && (decide (r.wen = 0) && decide (r.tag = []))))) := by
   rw [hm, aap (by rw [k2]; decide), aaz k2];have : (r = qc r) ↔ (r.rule = 0 ∧ r.deps = [] ∧ r.out = 0 ∧ r.wen = 0 ∧ r.tag = []) := by
    constructor
    ·intro e;have := congrArg Rc.rule e;have := congrArg Rc.deps e;have := congrArg Rc.out e;have := congrArg Rc.wen e;have := congrArg Rc.tag e;simp only [qc] at *;refine ⟨?_, ?_, ?_, ?_, ?_⟩ <;> assumption
    ·rintro ⟨h1, h2, h3, h4, h5⟩
     cases r;simp only [qc] at *;subst k2 h1 h2 h3 h4 h5;rfl
   by_cases e : r = qc r
   ·obtain ⟨a1, a2, a3, a4, a5⟩ := this.1 e;rw [aaa e, aaa a1, aaa a2, aaa a3, aaa a4, aaa a5]; rfl
   ·rw [aai e];refine (Bool.eq_false_iff.2 fun hx => e (this.2 ?_)).symm;simpa using hx
  clear hm;conv=>whnf
  rw [wz0];refine ae (fun e1 => ?_) (fun e1 => ?_)
  ·rw [e1, aaI] at hm2;conv=>whnf
   rw [dz0];refine ae (fun e2 => ?_) (fun e2 => ?_)
   ·rw [e2, aaI] at hm2;conv=>whnf
    rw [wz0];refine ae (fun e3 => ?_) (fun e3 => ?_)
    ·rw [e3, aaI] at hm2;conv=>whnf
     rw [wz0];refine ae (fun e4 => ?_) (fun e4 => ?_)
     ·rw [e4, aaI] at hm2;conv=>whnf
      refine h _ ?_;rw [hm2];exact decide_eq_decide.2 ⟨fun e => bZ e, fun e => by rw [e]; rfl⟩
     ·conv=>whnf
      exact h false (by rw [hm2, e4]; rfl)
    ·conv=>whnf
     exact h false (by rw [hm2, e3]; rfl)
   ·conv=>whnf
    exact h false (by rw [hm2, e2]; rfl)
  ·conv=>whnf
   exact h false (by rw [hm2, e1]; rfl)
 have k2 : ¬ r.kind = 2 := by simpa using k2
 rw [aap k2] at hm;conv=>whnf
 refine ae (fun k1 => ?_) (fun k1 => ?_)
 ·have k1 : ¬ r.kind = 1 := by simpa using k1
  conv=>whnf
  exact h false (by rw [hm, aap k1])
 have k1 : r.kind = 1 := by simpa using k1
 rw [aaz k1] at hm;conv=>whnf
 rw [hsl];refine ae (fun q1 => ?_) (fun q1 => ?_)
 ·have hbad : decide (r.deps.length ≤ 16) = false := by simp at q1 ⊢; omega
  conv=>whnf
  exact h false (by rw [hm, pw, hbad]; simp)
 have hdl : decide (r.deps.length ≤ 16) = true := by simp at q1 ⊢; omega
 conv=>whnf
 rw [hst];refine ae (fun q2 => ?_) (fun q2 => ?_)
 ·have hbad : decide (r.tag.length ≤ 64) = false := by simp at q2 ⊢; omega
  conv=>whnf
  exact h false (by rw [hm, hbad]; simp)
 have htl : decide (r.tag.length ≤ 64) = true := by simp at q2 ⊢; omega
 rw [htl, aaI, pw, hdl, Bool.and_true] at hm;have hv12 : v = 1 ↔ v < 2 := by omega
 conv=>whnf
 refine ae (fun v1 => ?_) (fun v1 => ?_)
 ·have v1 : v = 1 := by simpa using v1
  have e1 : decide (v < 2) = true := aaa (by omega);have e3 : decide (v < 3) = true := aaa (by omega);conv=>whnf
  rw [wz1];refine ae (fun w1 => ?_) (fun w1 => ?_)
  ·conv=>whnf
   exact h false (by rw [hm, dN, e1, w1]; rfl)
  ·conv=>whnf
   refine aK e3 ?_;conv=>whnf
   refine ae (fun t1 => ?_) (fun t1 => ?_)
   ·have t1 : r.tag ≠ [] := by intro e; rw [e] at t1; simp [ofB] at t1
    have t1 : decide (r.tag ≠ []) = true := aaa t1;conv=>whnf
    exact h false (by rw [hm, dN, e3, t1]; simp)
   ·have t1 : r.tag = [] := by
     have : ofB r.tag = { data := #[] } := by simpa using t1
     exact bZ (this.trans HI.symm)
    have he : dN v r = false := by rw [dN, w1, t1]; simp
    rw [he, abj, aaI] at hm;rw [hm] at h;conv=>whnf
    refine aq.ind1 (fun (i : Nat) => [(5, vi i)]) (fun _ => []) (fun i => r.deps.length - i) (fun i => i ≤ r.deps.length ∧ dH v (r.deps.drop i) (lw r i) = dH v r.deps [r.target]) 0 rfl ⟨by omega, rfl⟩ ?_;rintro i ⟨h0, hD⟩ IH;conv=>whnf
    refine ae (fun hc => ?_) (fun hc => ?_)
    ·have hc := ap hsl hc;have hIH := IH (i + 1);clear IH;rw [aao hc, dH] at hD;rw [sV r hc] at hIH;have hmem := vK r h0 r.deps[i].name
     (conv=>whnf); (repeat ((with_reducible refine ac ?_ ?_); exact aaa (by omega); (conv=>whnf)))
     refine idxNat (by simpa using hc) ?_;generalize r.deps[i] = d at hD hIH hmem ⊢;conv=>whnf
     refine iS d.name ?_;conv=>whnf
     refine ae (fun n1 => ?_) (fun n1 => ?_)
     ·have n1 : db d.name = false := by simpa using n1
      conv=>whnf
      exact h false (by rw [← hD, n1]; rfl)
     have n1 : db d.name = true := by simpa using n1
     rw [n1, aaI] at hD;conv=>whnf
     refine ae (fun n2 => ?_) (fun n2 => ?_)
     ·have n2 : d.name = r.target := by simpa [bG] using n2
      have hb : decide (d.name ∉ lw r i) = false := aai fun hx => (hmem.1 hx).1 n2;conv=>whnf
      exact h false (by rw [← hD, hb]; rfl)
     have n2 : d.name ≠ r.target := by simpa [bG] using n2
     conv=>whnf
     refine ae (fun o1 => ?_) (fun o1 => ?_)
     ·rw [o1, aaI] at hD;conv=>whnf
      refine ae (fun o2 => ?_) (fun o2 => ?_)
      ·rw [o2] at hD;conv=>whnf
       exact h false (by rw [← hD]; simp)
      ·rw [o2, abj, aaI] at hD;conv=>whnf
       refine aq.ind1 (fun (k : Nat) => [(7, vi k)]) (fun _ => []) (fun k => i - k) (fun k => k ≤ i ∧ ∀ (j : Nat) (hj : j < r.deps.length), j < k → r.deps[j].name ≠ d.name) 0 rfl ⟨by omega, fun j hj h => by omega⟩ ?_;rintro k ⟨hk0, hk1⟩ IH2;conv=>whnf
       refine ae (fun hk => ?_) (fun hk => ?_)
       ·have hk : k < i := by simp at hk; omega
        have hkl : k < r.deps.length := by omega
        (conv=>whnf); (repeat ((with_reducible refine ac ?_ ?_); exact aaa (by omega); (conv=>whnf)))
        refine idxNat (by simpa using hkl) ?_;conv=>whnf
        refine ae (fun q => ?_) (fun q => ?_)
        ·have q : r.deps[k].name = d.name := by simpa [bG] using q
         have hb : decide (d.name ∉ lw r i) = false := aai fun hx => (hmem.1 hx).2 k hkl hk q;conv=>whnf
         exact h false (by rw [← hD, hb]; rfl)
        ·have q : r.deps[k].name ≠ d.name := by simpa [bG] using q
         have IH3 := IH2 (k + 1) ⟨by omega, fun j hj hjk => (Nat.lt_succ_iff_lt_or_eq.1 hjk).elim (fun e => hk1 j hj e) (fun e => by subst e; exact q)⟩ (by omega);conv=>whnf
         rw [am (by omega)];exact IH3
       ·have hk : k = i := by simp at hk; omega
        have hb : decide (d.name ∉ lw r i) = true := aaa (hmem.2 ⟨n2, fun j hj hji => hk1 j hj (by omega)⟩);rw [hb, aaI] at hD;conv=>whnf
        rw [am (by omega)];exact hIH ⟨by omega, hD⟩ (by omega)
     ·rw [o1, Bool.false_and, abj, aaI] at hD;conv=>whnf
      refine aq.ind1 (fun (k : Nat) => [(7, vi k)]) (fun _ => []) (fun k => i - k) (fun k => k ≤ i ∧ ∀ (j : Nat) (hj : j < r.deps.length), j < k → r.deps[j].name ≠ d.name) 0 rfl ⟨by omega, fun j hj h => by omega⟩ ?_;rintro k ⟨hk0, hk1⟩ IH2;conv=>whnf
      refine ae (fun hk => ?_) (fun hk => ?_)
      ·have hk : k < i := by simp at hk; omega
       have hkl : k < r.deps.length := by omega
       (conv=>whnf); (repeat ((with_reducible refine ac ?_ ?_); exact aaa (by omega); (conv=>whnf)))
       refine idxNat (by simpa using hkl) ?_;conv=>whnf
       refine ae (fun q => ?_) (fun q => ?_)
       ·have q : r.deps[k].name = d.name := by simpa [bG] using q
        have hb : decide (d.name ∉ lw r i) = false := aai fun hx => (hmem.1 hx).2 k hkl hk q;conv=>whnf
        exact h false (by rw [← hD, hb]; rfl)
       ·have q : r.deps[k].name ≠ d.name := by simpa [bG] using q
        have IH3 := IH2 (k + 1) ⟨by omega, fun j hj hjk => (Nat.lt_succ_iff_lt_or_eq.1 hjk).elim (fun e => hk1 j hj e) (fun e => by subst e; exact q)⟩ (by omega);conv=>whnf
        rw [am (by omega)];exact IH3
      ·have hk : k = i := by simp at hk; omega
       have hb : decide (d.name ∉ lw r i) = true := aaa (hmem.2 ⟨n2, fun j hj hji => hk1 j hj (by omega)⟩);rw [hb, aaI] at hD;conv=>whnf
       rw [am (by omega)];exact hIH ⟨by omega, hD⟩ (by omega)
    ·have hc := au hsl hc;rw [aay hc, dH] at hD;conv=>whnf
     exact h true hD
 ·have v1 : ¬ v = 1 := by simpa using v1
  have e1 : decide (v < 2) = false := aai (by omega);conv=>whnf
  refine ae (fun e3 => ?_) (fun e3 => ?_)
  ·conv=>whnf
   refine ae (fun t1 => ?_) (fun t1 => ?_)
   ·have t1 : r.tag ≠ [] := by intro e; rw [e] at t1; simp [ofB] at t1
    have t1 : decide (r.tag ≠ []) = true := aaa t1;conv=>whnf
    exact h false (by rw [hm, dN, e3, t1]; simp)
   ·have t1 : r.tag = [] := by
     have : ofB r.tag = { data := #[] } := by simpa using t1
     exact bZ (this.trans HI.symm)
    have he : dN v r = false := by rw [dN, e1, t1]; simp
    rw [he, abj, aaI] at hm;rw [hm] at h;conv=>whnf
    refine aq.ind1 (fun (i : Nat) => [(5, vi i)]) (fun _ => []) (fun i => r.deps.length - i) (fun i => i ≤ r.deps.length ∧ dH v (r.deps.drop i) (lw r i) = dH v r.deps [r.target]) 0 rfl ⟨by omega, rfl⟩ ?_;rintro i ⟨h0, hD⟩ IH;conv=>whnf
    refine ae (fun hc => ?_) (fun hc => ?_)
    ·have hc := ap hsl hc;have hIH := IH (i + 1);clear IH;rw [aao hc, dH] at hD;rw [sV r hc] at hIH;have hmem := vK r h0 r.deps[i].name
     (conv=>whnf); (repeat ((with_reducible refine ac ?_ ?_); exact aaa (by omega); (conv=>whnf)))
     refine idxNat (by simpa using hc) ?_;generalize r.deps[i] = d at hD hIH hmem ⊢;conv=>whnf
     refine iS d.name ?_;conv=>whnf
     refine ae (fun n1 => ?_) (fun n1 => ?_)
     ·have n1 : db d.name = false := by simpa using n1
      conv=>whnf
      exact h false (by rw [← hD, n1]; rfl)
     have n1 : db d.name = true := by simpa using n1
     rw [n1, aaI] at hD;conv=>whnf
     refine ae (fun n2 => ?_) (fun n2 => ?_)
     ·have n2 : d.name = r.target := by simpa [bG] using n2
      have hb : decide (d.name ∉ lw r i) = false := aai fun hx => (hmem.1 hx).1 n2;conv=>whnf
      exact h false (by rw [← hD, hb]; rfl)
     have n2 : d.name ≠ r.target := by simpa [bG] using n2
     conv=>whnf
     refine ae (fun o1 => ?_) (fun o1 => ?_)
     ·rw [o1, aaI] at hD;conv=>whnf
      refine ae (fun o2 => ?_) (fun o2 => ?_)
      ·rw [o2] at hD;conv=>whnf
       exact h false (by rw [← hD]; simp)
      ·rw [o2, abj, aaI] at hD;conv=>whnf
       refine aq.ind1 (fun (k : Nat) => [(7, vi k)]) (fun _ => []) (fun k => i - k) (fun k => k ≤ i ∧ ∀ (j : Nat) (hj : j < r.deps.length), j < k → r.deps[j].name ≠ d.name) 0 rfl ⟨by omega, fun j hj h => by omega⟩ ?_;rintro k ⟨hk0, hk1⟩ IH2;conv=>whnf
       refine ae (fun hk => ?_) (fun hk => ?_)
       ·have hk : k < i := by simp at hk; omega
        have hkl : k < r.deps.length := by omega
        (conv=>whnf); (repeat ((with_reducible refine ac ?_ ?_); exact aaa (by omega); (conv=>whnf)))
        refine idxNat (by simpa using hkl) ?_;conv=>whnf
        refine ae (fun q => ?_) (fun q => ?_)
        ·have q : r.deps[k].name = d.name := by simpa [bG] using q
         have hb : decide (d.name ∉ lw r i) = false := aai fun hx => (hmem.1 hx).2 k hkl hk q;conv=>whnf
         exact h false (by rw [← hD, hb]; rfl)
        ·have q : r.deps[k].name ≠ d.name := by simpa [bG] using q
         have IH3 := IH2 (k + 1) ⟨by omega, fun j hj hjk => (Nat.lt_succ_iff_lt_or_eq.1 hjk).elim (fun e => hk1 j hj e) (fun e => by subst e; exact q)⟩ (by omega);conv=>whnf
         rw [am (by omega)];exact IH3
       ·have hk : k = i := by simp at hk; omega
        have hb : decide (d.name ∉ lw r i) = true := aaa (hmem.2 ⟨n2, fun j hj hji => hk1 j hj (by omega)⟩);rw [hb, aaI] at hD;conv=>whnf
        rw [am (by omega)];exact hIH ⟨by omega, hD⟩ (by omega)
     ·rw [o1, Bool.false_and, abj, aaI] at hD;conv=>whnf
      refine aq.ind1 (fun (k : Nat) => [(7, vi k)]) (fun _ => []) (fun k => i - k) (fun k => k ≤ i ∧ ∀ (j : Nat) (hj : j < r.deps.length), j < k → r.deps[j].name ≠ d.name) 0 rfl ⟨by omega, fun j hj h => by omega⟩ ?_;rintro k ⟨hk0, hk1⟩ IH2;conv=>whnf
      refine ae (fun hk => ?_) (fun hk => ?_)
      ·have hk : k < i := by simp at hk; omega
       have hkl : k < r.deps.length := by omega
       (conv=>whnf); (repeat ((with_reducible refine ac ?_ ?_); exact aaa (by omega); (conv=>whnf)))
       refine idxNat (by simpa using hkl) ?_;conv=>whnf
       refine ae (fun q => ?_) (fun q => ?_)
       ·have q : r.deps[k].name = d.name := by simpa [bG] using q
        have hb : decide (d.name ∉ lw r i) = false := aai fun hx => (hmem.1 hx).2 k hkl hk q;conv=>whnf
        exact h false (by rw [← hD, hb]; rfl)
       ·have q : r.deps[k].name ≠ d.name := by simpa [bG] using q
        have IH3 := IH2 (k + 1) ⟨by omega, fun j hj hjk => (Nat.lt_succ_iff_lt_or_eq.1 hjk).elim (fun e => hk1 j hj e) (fun e => by subst e; exact q)⟩ (by omega);conv=>whnf
        rw [am (by omega)];exact IH3
      ·have hk : k = i := by simp at hk; omega
       have hb : decide (d.name ∉ lw r i) = true := aaa (hmem.2 ⟨n2, fun j hj hji => hk1 j hj (by omega)⟩);rw [hb, aaI] at hD;conv=>whnf
       rw [am (by omega)];exact hIH ⟨by omega, hD⟩ (by omega)
    ·have hc := au hsl hc;rw [aay hc, dH] at hD;conv=>whnf
     exact h true hD
  ·have he : dN v r = false := by rw [dN, e1, e3]; simp
   rw [he, abj, aaI] at hm;rw [hm] at h;conv=>whnf
   refine aq.ind1 (fun (i : Nat) => [(5, vi i)]) (fun _ => []) (fun i => r.deps.length - i) (fun i => i ≤ r.deps.length ∧ dH v (r.deps.drop i) (lw r i) = dH v r.deps [r.target]) 0 rfl ⟨by omega, rfl⟩ ?_;rintro i ⟨h0, hD⟩ IH;conv=>whnf
   refine ae (fun hc => ?_) (fun hc => ?_)
   ·have hc := ap hsl hc;have hIH := IH (i + 1);clear IH;rw [aao hc, dH] at hD;rw [sV r hc] at hIH;have hmem := vK r h0 r.deps[i].name
    (conv=>whnf); (repeat ((with_reducible refine ac ?_ ?_); exact aaa (by omega); (conv=>whnf)))
    refine idxNat (by simpa using hc) ?_;generalize r.deps[i] = d at hD hIH hmem ⊢;conv=>whnf
    refine iS d.name ?_;conv=>whnf
    refine ae (fun n1 => ?_) (fun n1 => ?_)
    ·have n1 : db d.name = false := by simpa using n1
     conv=>whnf
     exact h false (by rw [← hD, n1]; rfl)
    have n1 : db d.name = true := by simpa using n1
    rw [n1, aaI] at hD;conv=>whnf
    refine ae (fun n2 => ?_) (fun n2 => ?_)
    ·have n2 : d.name = r.target := by simpa [bG] using n2
     have hb : decide (d.name ∉ lw r i) = false := aai fun hx => (hmem.1 hx).1 n2;conv=>whnf
     exact h false (by rw [← hD, hb]; rfl)
    have n2 : d.name ≠ r.target := by simpa [bG] using n2
    conv=>whnf
    refine ae (fun o1 => ?_) (fun o1 => ?_)
    ·rw [o1, aaI] at hD;conv=>whnf
     refine ae (fun o2 => ?_) (fun o2 => ?_)
     ·rw [o2] at hD;conv=>whnf
      exact h false (by rw [← hD]; simp)
     ·rw [o2, abj, aaI] at hD;conv=>whnf
      refine aq.ind1 (fun (k : Nat) => [(7, vi k)]) (fun _ => []) (fun k => i - k) (fun k => k ≤ i ∧ ∀ (j : Nat) (hj : j < r.deps.length), j < k → r.deps[j].name ≠ d.name) 0 rfl ⟨by omega, fun j hj h => by omega⟩ ?_;rintro k ⟨hk0, hk1⟩ IH2;conv=>whnf
      refine ae (fun hk => ?_) (fun hk => ?_)
      ·have hk : k < i := by simp at hk; omega
       have hkl : k < r.deps.length := by omega
       (conv=>whnf); (repeat ((with_reducible refine ac ?_ ?_); exact aaa (by omega); (conv=>whnf)))
       refine idxNat (by simpa using hkl) ?_;conv=>whnf
       refine ae (fun q => ?_) (fun q => ?_)
       ·have q : r.deps[k].name = d.name := by simpa [bG] using q
        have hb : decide (d.name ∉ lw r i) = false := aai fun hx => (hmem.1 hx).2 k hkl hk q;conv=>whnf
        exact h false (by rw [← hD, hb]; rfl)
       ·have q : r.deps[k].name ≠ d.name := by simpa [bG] using q
        have IH3 := IH2 (k + 1) ⟨by omega, fun j hj hjk => (Nat.lt_succ_iff_lt_or_eq.1 hjk).elim (fun e => hk1 j hj e) (fun e => by subst e; exact q)⟩ (by omega);conv=>whnf
        rw [am (by omega)];exact IH3
      ·have hk : k = i := by simp at hk; omega
       have hb : decide (d.name ∉ lw r i) = true := aaa (hmem.2 ⟨n2, fun j hj hji => hk1 j hj (by omega)⟩);rw [hb, aaI] at hD;conv=>whnf
       rw [am (by omega)];exact hIH ⟨by omega, hD⟩ (by omega)
    ·rw [o1, Bool.false_and, abj, aaI] at hD;conv=>whnf
     refine aq.ind1 (fun (k : Nat) => [(7, vi k)]) (fun _ => []) (fun k => i - k) (fun k => k ≤ i ∧ ∀ (j : Nat) (hj : j < r.deps.length), j < k → r.deps[j].name ≠ d.name) 0 rfl ⟨by omega, fun j hj h => by omega⟩ ?_;rintro k ⟨hk0, hk1⟩ IH2;conv=>whnf
     refine ae (fun hk => ?_) (fun hk => ?_)
     ·have hk : k < i := by simp at hk; omega
      have hkl : k < r.deps.length := by omega
      (conv=>whnf); (repeat ((with_reducible refine ac ?_ ?_); exact aaa (by omega); (conv=>whnf)))
      refine idxNat (by simpa using hkl) ?_;conv=>whnf
      refine ae (fun q => ?_) (fun q => ?_)
      ·have q : r.deps[k].name = d.name := by simpa [bG] using q
       have hb : decide (d.name ∉ lw r i) = false := aai fun hx => (hmem.1 hx).2 k hkl hk q;conv=>whnf
       exact h false (by rw [← hD, hb]; rfl)
      ·have q : r.deps[k].name ≠ d.name := by simpa [bG] using q
       have IH3 := IH2 (k + 1) ⟨by omega, fun j hj hjk => (Nat.lt_succ_iff_lt_or_eq.1 hjk).elim (fun e => hk1 j hj e) (fun e => by subst e; exact q)⟩ (by omega);conv=>whnf
       rw [am (by omega)];exact IH3
     ·have hk : k = i := by simp at hk; omega
      have hb : decide (d.name ∉ lw r i) = true := aaa (hmem.2 ⟨n2, fun j hj hji => hk1 j hj (by omega)⟩);rw [hb, aaI] at hD;conv=>whnf
      rw [am (by omega)];exact hIH ⟨by omega, hD⟩ (by omega)
   ·have hc := au hsl hc;rw [aay hc, dH] at hD;conv=>whnf
    exact h true hD
structure Td (x : List Rc) (s : FSt) (j w sy : Nat) : Prop where
 hok : FOk s 100 2000000
 hsy : sy ≤ j
 hj : j ≤ w
 hw : w ≤ x.length
 hmay : ∀ r ∈ x.take j, aR 3 r = true
 hlog : ∃ k, lk s.fs aS = some ⟨aC 3 (x.take j), k⟩ ∧ (aC 3 (x.take sy)).length ≤ k
theorem Td.crash {x : List Rc} {s : FSt} {j w sy : Nat} (h : Td x s j w sy) (hx : x.length ≤ 30) (keep : List Int) : ∃ (m : Nat) (ms : List B) (t : B), sy ≤ m ∧ m ≤ w ∧ (∀ r ∈ x.take m, aR 3 r = true) ∧ ms.length < 100 ∧ (∀ m ∈ ms, m.length ≤ 64) ∧ qo t ∧ t.length < 3000 ∧ cr (s.crash keep) aS (aC 3 (x.take m) ++ aw (ms.map bq) ++ t) ∧ FOk (s.crash keep) 100 2000000 := by
 obtain ⟨k, hk, hsy⟩ := h.hlog;obtain ⟨c1, c2, c3⟩ := n6 h.hok keep;obtain ⟨m, m1, m2, m3⟩ := c3 aS (lD hk);have hg : gF s.fs aS = ⟨aC 3 (x.take j), k⟩ := by unfold gF; rw [hk]; rfl
 rw [hg] at m1 m2 m3;have hjl : (x.take j).length = j := by rw [aan]; have := h.hj; have := h.hw; omega
 have h8 : 8 ≤ m := by
  have := cp 3 (x.take sy);have m1 : k ≤ m := m1;omega
 obtain ⟨m', ms, t, e1, e2, e3, e4, e5, e6, e7⟩ := Ky (v := 3) (by decide) h.hmay (by rw [hjl]; have := h.hj; have := h.hw; omega) h8 m2;have htt : ∀ i, i ≤ j → (x.take j).take i = x.take i := fun i hi => by rw [List.take_take, Nat.min_eq_left hi]
 rw [hjl] at e1 e7;rw [htt m' e1] at e2;refine ⟨m', ms, t, ?_, aba e1 h.hj, ?_, e3, e4, e5, e6, ?_, c1⟩
 ·refine e7 sy h.hsy ?_;rw [htt sy h.hsy];have m1 : k ≤ m := m1;omega
 ·intro r hr;rw [← htt m' e1] at hr;exact h.hmay r (aaU hr)
 ·have hin : aS ∈ kys (s.crash keep).fs := by rw [c2]; exact lD hk
  unfold cr;rw [← e2]
  cases e : lk (s.crash keep).fs aS with
  | none => exact absurd hin (fL.1 e)
  | some f =>
   have : gF (s.crash keep).fs aS = f := by unfold gF; rw [e]; rfl
   rw [this] at m3;rw [m3];have m2 : m ≤ (aC 3 (x.take j)).length := m2;simp only [aan, Option.some.injEq, Fl.mk.injEq, true_and];omega
def stO (over : Bool) (n : Nat) (v : Int) (l : List Rc) : aE := .cells 92 [.val (.bool over), .ptr n 0, vi v, .sl none 7 (be l), .sl none 1 (dh (c6 v l)), vi (((aC v l).length : Nat) : Int)]
theorem j6 (e : Int) (v : Int) (l : List Rc) (s : FSt) {R} (h : R (vi e) [stO (e == 7) 1 v l, fsC s 2, fsM s]) : ag Tryz.prog 63 [.ptr 0 0, vi e] [stO false 1 v l, fsC s 2, fsM s] R := by
 refine aa (an := UJ) tab_ok Tryz.func63 ?_;conv=>whnf
 exact h
theorem oh (o : Bool) (v : Int) (l : List Rc) (s : FSt) {R} (h : R (.val (.bool o)) [stO o 1 v l, fsC s 2, fsM s]) : ag Tryz.prog 31 [.ptr 0 0] [stO o 1 v l, fsC s 2, fsM s] R := by
 refine aa (an := U8) tab_ok Tryz.func31 ?_;conv=>whnf
 exact h
theorem um (o : Bool) (v : Int) (l : List Rc) (s : FSt) {R} (h : R (vi v) [stO o 1 v l, fsC s 2, fsM s]) : ag Tryz.prog 42 [.ptr 0 0] [stO o 1 v l, fsC s 2, fsM s] R := by
 refine aa (an := U1) tab_ok Tryz.func42 ?_;conv=>whnf
 exact h
theorem kj (o : Bool) (v : Int) (l : List Rc) (hl : l.length < 100000) (hd : ∀ r ∈ l, r.deps.length < 1000000) (s : FSt) {R} (h : R (.sl none 7 (be (ay l))) [stO o 1 v l, fsC s 2, fsM s]) : ag Tryz.prog 44 [.ptr 0 0] [stO o 1 v l, fsC s 2, fsM s] R := by
 refine aa (an := U0) tab_ok Tryz.func44 ?_;conv=>whnf
 refine FI l (by omega) hd ?_;conv=>whnf
 exact h
theorem kW (v : Int) (l : List Rc) (s : FSt) (h1 : okN s.fail) (h2 : okN s.fall) {R} (h : R (vi (s.sync aS).2) [stO ((s.sync aS).2 == 7) 1 v l, fsC (s.sync aS).1 2, fsM (s.sync aS).1]) : ag Tryz.prog 27 [.ptr 0 0] [stO false 1 v l, fsC s 2, fsM s] R := by
 refine aa (an := Q8) tab_ok Tryz.func27 ?_;conv=>whnf
 refine w7 s aS h1 h2 ?_;generalize s.sync aS = se at h ⊢;obtain ⟨s2, e⟩ := se;conv=>whnf
 refine j6 e v l s2 ?_;conv=>whnf
 exact h
theorem bV (o : Bool) (v : Int) (l : List Rc) (hl : l.length < 100000) (hd : ∀ r ∈ l, r.deps.length < 1000000) (s : FSt) {R} (h : R (.sl none 7 (be l)) [stO o 1 v l, fsC s 2, fsM s]) : ag Tryz.prog 15 [.ptr 0 0] [stO o 1 v l, fsC s 2, fsM s] R := by
 refine aa (an := Vj) tab_ok Tryz.func15 ?_;have hsl := bd l;conv=>whnf
 refine aq.ind1 (fun (i : Nat) => [(3, .sl (some (al 3)) 7 (be (l.take i))), (12, vi i)]) (fun i => [(0, stO o 1 v l), (1, fsC s 2), (2, fsM s), (al 3, .row 67 7 i)]) (fun i => l.length - i) (fun i => i ≤ l.length) 0 rfl (by omega) ?_;intro i hi0 IH;conv=>whnf
 refine ae (fun hc => ?_) (fun hc => ?_)
 ·have hi := ap hsl hc;have IH := IH (i + 1) hi (by omega);rw [ym hi] at IH;have hst : (be (l.take i)).length = i := by rw [bd, aan]; omega
  (conv=>whnf); (repeat ((with_reducible refine ac ?_ ?_); exact aaa (by omega); (conv=>whnf)))
  refine idxNat (by simpa using hi) ?_;conv=>whnf
  refine fN l[i] (hd _ (aaf hi)) ?_;conv=>whnf
  refine ⟨hst.symm, by rw [hst, bF]; simp only [aag, aaj]; omega, ?_⟩;conv=>whnf
  rw [am (by omega), hst];exact IH
 ·have hi := au hsl hc;rw [aae hi];conv=>whnf
  exact h
def bT (v : Int) (s : FSt) (l : List Rc) (r : Rc) : FSt × Int := s.append aS (cb v l r)
theorem LN (o : Bool) (s : FSt) (v : Int) (l : List Rc) (r : Rc) (hd : r.deps.length < 100000) (hr : o = false → r.kind ≠ 1 ∨ aR v r = false) {R} (h1 : o = true → R (vi 7) [stO true 1 v l, fsC s 2, fsM s]) (h2 : o = false → R (vi 1) [stO false 1 v l, fsC s 2, fsM s]) : ag Tryz.prog 46 [.ptr 0 0, .agg r.enc] [stO o 1 v l, fsC s 2, fsM s] R := by
 refine aa (an := ML) tab_ok Tryz.func46 ?_
 cases o with
 | true =>
  conv=>whnf
  exact h1 rfl
 | false =>
  conv=>whnf
  refine ae (fun g => ?_) (fun g => ?_)
  ·conv=>whnf
   exact h2 rfl
  have g : r.kind = 1 := by simpa using g
  have hm : aR v r = false := (hr rfl).resolve_left fun hx => hx g;conv=>whnf
  refine eu v r hd fun p hp => ?_;rw [hm] at hp;subst hp;conv=>whnf
  exact h2 rfl
theorem nD (v : Int) (hv : is3 v) {R} (h : R (.tup [.ptr 2 0, vi 0]) [fsC (fsL (aC v [])) 1, fsM (fsL (aC v [])), stO false 0 v []]) : ag Tryz.prog 9 [.ptr 0 0, vi v] [fsC fs0 1, fsM fs0] R := by
 refine aa (an := { an9 with cst := [] }) tab_ok Tryz.func9 ?_;have hm0 : ∀ r ∈ ([] : List Rc), aR v r = true := by simp
 have hs := eX (v := v) (l := []) hm0 (by simp);have hst := Hd aS cz (aC v []) mf;have hg1 : ¬ v < 1 := by unfold is3 at hv; omega
 have hg2 : ¬ 3 < v := by unfold is3 at hv; omega
 conv=>whnf
 refine ak (aai hg1) ?_;conv=>whnf
 refine ak (aai hg2) ?_;conv=>whnf
 refine ot fs0 ?_;conv=>whnf
 refine iX fs0 (by simp [fs0]) (by simp [fs0, kys]) (by simp [fs0, kys]) ?_;rw [show fs0.names = [] from by simp [FSt.names, fe, fs0, kys]];conv=>whnf
 refine fB [] cz (by simp) ?_;conv=>whnf
 refine fB [] aS (by simp) ?_;conv=>whnf
 refine ag.args ?_ (Dk fs0 aS cz (aC v []) mf v [] Mn (by omega) (by omega) (by decide) hs (fun hR => wK hv [] (by simp) (by simp) (fun _ => hR) (fun hno => absurd hm0 hno)) ?_)
 ·exact leL.cons (.refl _) (leL.cons (.refl _) (leL.cons (.refl _) (leL.cons (.refl _) (leL.cons (cy 7) leL.nil))))
 rw [hst];have hw := Ie (aC v []);have hh : R (.tup [.ptr 2 0, vi 0]) [fsC ⟨[(aS, ⟨aC v [], (aC v []).length⟩)], -1, -1, false⟩ 1, fsM ⟨[(aS, ⟨aC v [], (aC v []).length⟩)], -1, -1, false⟩, stO false 0 v []] := h;have hw : cr ⟨[(aS, ⟨aC v [], (aC v []).length⟩)], -1, -1, false⟩ aS (aC v []) := hw;generalize (FSt.mk [(aS, ⟨aC v [], (aC v []).length⟩)] (-1) (-1) false) = s at hh hw ⊢;conv=>whnf
 refine MQ s aS v [] hw.key (by rw [hw.get]) hs (fun hR => KH hv [] hm0 (by simp) hR) ?_;conv=>whnf
 exact hh
structure Opr where
 kind : Int
 r : Rc
 name : B
 l : List Rc
 version : Int
 n : Int
def Opr.enc (o : Opr) : List AV := [vi o.kind, vi o.r.kind, vs o.r.target, uv o.r.rule, .sl none 3 (dO o.r.deps), uv o.r.out, uv o.r.wen, vs o.r.tag, vs o.name, .sl none 7 (be o.l), vi o.version, vi o.n]
theorem LG (l : List Rc) (hl : l.length ≤ 1100) (hm : ∀ r ∈ l, aR 1 r = true) (x : AV) (hx : x = .sl none 1 (dh (c6 1 l))) (n : Int) {R} (h : R (.tup [.ptr 0 0, vi 0]) [dg]) : ag Tryz.prog 180 [.agg [vi 1, .sl none 7 (be l), x, vi n]] [] R := by
 subst hx;refine aa (an := NH) tab_ok Tryz.func180 ?_;have hsl := bd l;conv=>whnf
 refine ol ?_;conv=>whnf
 refine aq.ind1 (fun (i : Nat) => [(13, vi i)]) (fun i => [(ar 9 0, dg)]) (fun i => l.length - i) (fun i => i ≤ l.length) 0 rfl (by omega) ?_;intro i h0 IH;conv=>whnf
 refine ae (fun hc => ?_) (fun hc => ?_)
 ·have hi := ap hsl hc;have IH := IH (i + 1) hi (by omega)
  (conv=>whnf); (repeat ((with_reducible refine ac ?_ ?_); exact aaa (by omega); (conv=>whnf)))
  refine idxNat (by simpa using hi) ?_;conv=>whnf
  refine zC l[i] (hm _ (aaf hi)) ?_;conv=>whnf
  rw [am (by omega)];exact IH
 ·conv=>whnf
  exact h
theorem BW (t : List B) (r : Rc) : bu 1 t r = [bO 1 t r] := by simp [bu, fU, bw]
theorem HW (r : Rc) (hm : aR 1 r = true) (t : List B) (ht0 : t = []) {R} (h : R (.tup [.sl none 1 (ai (aw (bu 1 t r))), vi 0]) [dg]) : ag Tryz.prog 181 [vi 1, .ptr 0 0, .agg r.enc] [dg] R := by
 subst ht0;refine aa (an := NG) tab_ok Tryz.func181 ?_;have hpl := iA (t := []) (aT hm) (by simp);rw [BW] at hpl h;have hpl := hpl _ (List.mem_singleton.2 rfl);have hfr : aw [bO 1 [] r] = [] ++ bl (bO 1 [] r) := by simp [aw]
 rw [hfr] at h;conv=>whnf
 refine zC r hm ?_;rw [BW];generalize bO 1 [] r = p at hpl h ⊢;have hrl := aP [p];conv=>whnf
 refine aq.step ?_;conv=>whnf
 refine ag.args (leL.cons (cy 1) (leL.refl _)) (dX [] p (by simp) hpl.1 hpl.2 ?_);conv=>whnf
 refine aq.step ?_;conv=>whnf
 exact h
theorem HZ (s : FSt) (name : B) (hn : name.length < 1000000) {nb fb : Nat} (hk : FOk s nb fb) (hfb : fb ≤ 80000000) (l : List Rc) (hl : l.length ≤ 1100) (hm : ∀ r ∈ l, aR 1 r = true) (r : Rc) (hr : aR 1 r = true) {R}
  (h1 : (s.append name (cb 1 l r)).2 ≠ 0 → R (.tup [zF, vi (s.append name (cb 1 l r)).2]) [fsC (s.append name (cb 1 l r)).1 1, fsM (s.append name (cb 1 l r)).1])
  (h2 : (s.append name (cb 1 l r)).2 = 0 → R (.tup [.agg (cq 1 (l ++ [r])), vi 0]) [fsC (s.append name (cb 1 l r)).1 1, fsM (s.append name (cb 1 l r)).1]) : ag Tryz.prog 139 [.ptr 0 0, vs name, .agg (cq 1 l), .agg r.enc] [fsC s 1, fsM s] R := by
 refine ag.res ?_;refine aa (an := K9) tab_ok Tryz.func139 ?_;have hM : ∀ x ∈ l, kF 1 x := fun x hx => aT (hm x hx);have hMr := aT hr;have hfl := ni hm hl;have htl := lm (v := 1) (l := l) (t := []) hM;simp at htl;have hpf := dF (v := 1) (t := ln 1 [] l) hMr (by omega);have hsl := bd l;have hel := gy 1 l;have hil := b8 (c6 1 l);have hml : (cb 1 l r).length ≤ 3000 := hpf;conv=>whnf
 refine LG l (by omega) hm _ rfl _ ?_;obtain ⟨T, hT⟩ : ∃ T, T = ln 1 [] l := ⟨_, rfl⟩;have hmo : cb 1 l r = aw (bu 1 T r) := by rw [hT]; rfl
 rw [← hT] at htl;rw [hmo] at h1 h2 hml;have hl0 : T = [] := by rw [hT]; exact u4 _ _
 have hend : IntKind.i64.wrap (((aC 1 l).length : Int) + ((ai (aw (bu 1 T r))).length : Int)) = ((aC 1 (l ++ [r])).length : Int) := by
  rw [il, hmo, aac, aL, aI (by omega) (by omega)];omega
 conv=>whnf
 refine HW r hr T hl0 ?_;conv=>whnf
 refine kX s name (aw (bu 1 T r)) hk.fail hk.fall (by omega) (by have := (hk.m.get name).2; omega) ?_;conv=>whnf
 refine ae (fun g => ?_) (fun g => ?_)
 ·conv=>whnf
  exact bB (h1 (by simpa using g))
 have h2 := h2 (by simpa using g);generalize aw (bu 1 T r) = F at hml hend h2 ⊢;conv=>whnf
 rw [hend];refine mB l (by omega) (fun e => ?_) ?_
 ·conv=>whnf
  refine fN r (by have := hMr.deps; omega) ?_;conv=>whnf
  refine ⟨by rw [bF]; simp only [aag, aaj]; decide, ?_⟩;conv=>whnf
  obtain ⟨X, hXX⟩ : ∃ X, X = [r.enc] := ⟨_, rfl⟩;have hX : be (l ++ [r]) = X := by rw [jk, e, hXX]; rfl
  refine gO (c6 1 l) (by omega) (fun e2 => ?_) ?_
  ·conv=>whnf
   refine ⟨by rw [aY]; simp only [aag, aaj]; decide, ?_⟩;conv=>whnf
   have er : cq 1 (l ++ [r]) = [vi 1, .sl none 7 X, .sl none 1 [[vi ((aC 1 (l ++ [r])).length : Int)]], vi ((aC 1 (l ++ [r])).length : Int)] := by
    unfold cq;rw [dq, e2, ← hX];rfl
   rw [er, hXX] at h2;exact bB h2
  ·conv=>whnf
   refine ⟨hil.symm, by rw [hil, hel, aY]; simp only [aag, aaj]; omega, ?_⟩;conv=>whnf
   have er : cq 1 (l ++ [r]) = [vi 1, .sl none 7 X, .sl none 1 (dh (c6 1 l) ++ [[vi ((aC 1 (l ++ [r])).length : Int)]]), vi ((aC 1 (l ++ [r])).length : Int)] := by
    unfold cq;rw [← hX, dq, gN]
   rw [er, hXX] at h2;exact bB h2
 ·conv=>whnf
  refine fN r (by have := hMr.deps; omega) ?_;conv=>whnf
  refine ⟨rfl, by rw [bF, hsl]; simp only [aag, aaj]; omega, ?_⟩;conv=>whnf
  obtain ⟨X, hXX⟩ : ∃ X, X = be l ++ [r.enc] := ⟨_, rfl⟩;have hX : be (l ++ [r]) = X := by rw [jk, hXX]
  refine gO (c6 1 l) (by omega) (fun e2 => ?_) ?_
  ·conv=>whnf
   refine ⟨by rw [aY]; simp only [aag, aaj]; decide, ?_⟩;conv=>whnf
   have er : cq 1 (l ++ [r]) = [vi 1, .sl none 7 X, .sl none 1 [[vi ((aC 1 (l ++ [r])).length : Int)]], vi ((aC 1 (l ++ [r])).length : Int)] := by
    unfold cq;rw [dq, e2, ← hX];rfl
   rw [er, hXX] at h2;exact bB h2
  ·conv=>whnf
   refine ⟨hil.symm, by rw [hil, hel, aY]; simp only [aag, aaj]; omega, ?_⟩;conv=>whnf
   have er : cq 1 (l ++ [r]) = [vi 1, .sl none 7 X, .sl none 1 (dh (c6 1 l) ++ [[vi ((aC 1 (l ++ [r])).length : Int)]]), vi ((aC 1 (l ++ [r])).length : Int)] := by
    unfold cq;rw [← hX, dq, gN]
   rw [er, hXX] at h2;exact bB h2
theorem Cg {v : Int} (hv : is3 v) (s : FSt) (name : B) (hn : name.length < 1000000) {nb fb : Nat} (hk : FOk s nb fb) (hfb : fb ≤ 80000000) (l : List Rc) (hl : l.length ≤ 1100) (hm : ∀ r ∈ l, aR v r = true) (r : Rc) (hr : aR v r = true) {R}
  (h1 : (s.append name (cb v l r)).2 ≠ 0 → R (.tup [zF, vi (s.append name (cb v l r)).2]) [fsC (s.append name (cb v l r)).1 1, fsM (s.append name (cb v l r)).1])
  (h2 : (s.append name (cb v l r)).2 = 0 → R (.tup [.agg (cq v (l ++ [r])), vi 0]) [fsC (s.append name (cb v l r)).1 1, fsM (s.append name (cb v l r)).1]) : ag Tryz.prog 139 [.ptr 0 0, vs name, .agg (cq v l), .agg r.enc] [fsC s 1, fsM s] R := by
 rcases hv with rfl | rfl | rfl
 ·exact HZ s name hn hk hfb l hl hm r hr h1 h2
 ·exact pQ (.inl rfl) s name hn hk hfb l hl hm r hr h1 h2
 ·exact pQ (.inr rfl) s name hn hk hfb l hl hm r hr h1 h2
theorem sW : ∀ (l : List Rc) (T : List B), aW 1 T l = l.map (bO 1 T) := by
 intro l
 induction l with
 | nil => intro T; rfl
 | cons r l ih =>
  intro T;rw [aW, aaF, nt, ih];simp [bu, fU, bw]
theorem AE {v : Int} (l : List Rc) (T : List B) (c : Nat) (hM : ∀ r ∈ l, kF v r) (hc : c ≤ (aW v T l).length) : ∃ (j : Nat) (ms : List B), j ≤ l.length ∧ (aW v T l).take c = aW v T (l.take j) ++ ms.map bq ∧ (v = 1 → ms = []) ∧ ms.length < 100 ∧ (∀ m ∈ ms, m.length ≤ 64) ∧ ∀ i, i ≤ l.length → (aW v T (l.take i)).length ≤ c → i ≤ j := by
 by_cases hv : v = 1
 ·subst hv;rw [sW] at hc ⊢;simp only [abg] at hc;refine ⟨c, [], hc, ?_, fun _ => rfl, by simp, by simp, fun i hi hle => ?_⟩
  ·rw [sW, abR]; simp
  ·rw [sW] at hle;simp at hle;omega
 ·obtain ⟨j, ms, h1, h2, h3, h4, h5⟩ := CU hv l T c hM hc;exact ⟨j, ms, h1, h2, fun e => absurd e hv, h3, h4, h5⟩
theorem MD {v : Int} {l : List Rc} (hm : ∀ r ∈ l, aR v r = true) (hl : l.length ≤ 1100) {m : Nat} (h8 : 8 ≤ m) (hle : m ≤ (aC v l).length) : ∃ (j : Nat) (ms : List B) (t : B), j ≤ l.length ∧ (aC v l).take m = aC v (l.take j) ++ aw (ms.map bq) ++ t ∧ (v = 1 → ms = []) ∧ ms.length < 100 ∧ (∀ m ∈ ms, m.length ≤ 64) ∧ qo t ∧ t.length < 3000 ∧ ∀ i, i ≤ l.length → (aC v (l.take i)).length ≤ m → i ≤ j := by
 have hM : ∀ r ∈ l, kF v r := fun r hr => aT (hm r hr);have hlens := nM (v := v) (l := l) (t := []) hM (by simp; omega);obtain ⟨m', rfl⟩ : ∃ m', m = 8 + m' := ⟨m - 8, by omega⟩;rw [cp] at hle;obtain ⟨c, t, c1, c2, c3, c4, c5⟩ := wH (aW v [] l) m' hlens (by omega);obtain ⟨j, ms, j1, j2, j0, j3, j4, j5⟩ := AE l [] c hM c1;refine ⟨j, ms, t, j1, ?_, j0, j3, j4, c3, c4, fun i hi hil => j5 i hi ?_⟩
 ·unfold aC;rw [show 8 + m' = (dG v).length + m' from by rw [eL], abf, c2, j2, dC];simp only [aak]
 ·refine Nat.le_of_not_lt fun hlt => ?_;have e : aW v [] l = aW v [] (l.take i) ++ aW v (ln v [] (l.take i)) (l.drop i) := by rw [← eJ, abm]
  have hlen : (aW v [] (l.take i)).length ≤ (aW v [] l).length := by rw [e, aac]; omega
  have h1 := c5 (by omega);have h2 : (aW v [] l).take (c + 1) = (aW v [] (l.take i)).take (c + 1) := by
   rw [e, aaB (by omega)]
  rw [h2] at h1;have h3 := eM (aW v [] (l.take i)) (c + 1);rw [cp] at hil;omega
structure I1 (v : Int) (l : List Rc) (b : B) : Prop where
 hm : ∀ r ∈ l, aR v r = true
 hl : l.length ≤ 1100
 cut : ∃ (ms : List B) (t : B), b = aC v l ++ aw (ms.map bq) ++ t ∧ (v = 1 → ms = []) ∧ ms.length < 100 ∧ (∀ m ∈ ms, m.length ≤ 64) ∧ qo t ∧ t.length < 3000
theorem I1.len {v : Int} {l : List Rc} {b : B} (h : I1 v l b) : b.length < 5000000 ∧ (aC v l).length < 4000000 ∧ (aC v l).length ≤ b.length := by
 obtain ⟨hm, hl, ms, t, hb, _, hml, hmf, _, htl⟩ := h;have hs := ni hm hl;have hfm := mn (l := ms.map bq) (k := 65) (fun p hp => by
  obtain ⟨m, hm1, rfl⟩ := List.mem_map.1 hp;have := hmf m hm1;simp [bq]; omega) (by omega)
 rw [abg] at hfm;rw [hb, aac, aac];omega
theorem Jt {v : Int} (hv : is3 v) (s : FSt) {nb fb : Nat} (hk : FOk s nb fb) (hfb : fb ≤ 80000000) (l : List Rc) (hl : l.length ≤ 1100) (hm : ∀ r ∈ l, aR v r = true) (r : Rc) (hr : aR v r = true) {R}
  (h1 : (bT v s l r).2 ≠ 0 → R (vi (bT v s l r).2) [stO ((bT v s l r).2 == 7) 1 v l, fsC (bT v s l r).1 2, fsM (bT v s l r).1])
  (h2 : (bT v s l r).2 = 0 → R (vi 0) [stO false 1 v (l ++ [r]), fsC (bT v s l r).1 2, fsM (bT v s l r).1]) : ag Tryz.prog 95 [.ptr 0 0, .agg r.enc] [stO false 1 v l, fsC s 2, fsM s] R := by
 refine aa (an := { O9 with anyo := [1] }) tab_ok Tryz.func95 ?_;unfold bT at h1 h2;conv=>whnf
 repeat' first | exact trivial | apply And.intro | ((fail_if_success (refine (show ag _ _ _ _ _ from ?_))); (fail_if_success (refine aK ?_ ?_)); (conv=>whnf))
 all_goals refine Cg hv s aS (by decide) hk hfb l hl hm r hr ?_ ?_
 all_goals generalize s.append aS (cb v l r) = se at h1 h2 ⊢
 all_goals obtain ⟨s2, e⟩ := se
 all_goals intro he
 all_goals first | (have he : e ≠ 0 := he) | (have he : e = 0 := he; subst he)
 all_goals (repeat' first | exact trivial | apply And.intro | ((fail_if_success (refine (show ag _ _ _ _ _ from ?_))); (fail_if_success (refine aK ?_ ?_)); (conv=>whnf)))
 all_goals first | refine ak (by simpa using he) ?_ | skip
 all_goals (repeat' first | exact trivial | apply And.intro | ((fail_if_success (refine (show ag _ _ _ _ _ from ?_))); (fail_if_success (refine aK ?_ ?_)); (conv=>whnf)))
 all_goals first | refine j6 0 v (l ++ [r]) s2 ?_ | refine j6 e v l s2 ?_
 all_goals (conv=>whnf)
 all_goals first | exact h2 rfl | exact h1 he
theorem BD {v : Int} (hv : is3 v) (s : FSt) {nb fb : Nat} (hk : FOk s nb fb) (hfb : fb ≤ 80000000) (l : List Rc) (hl : l.length ≤ 1100) (hm : ∀ r ∈ l, aR v r = true) (r : Rc) (hkd : r.kind = 1) (hr : aR v r = true) {R}
  (h1 : (bT v s l r).2 ≠ 0 → R (vi (bT v s l r).2) [stO ((bT v s l r).2 == 7) 1 v l, fsC (bT v s l r).1 2, fsM (bT v s l r).1])
  (h2 : (bT v s l r).2 = 0 → R (vi 0) [stO false 1 v (l ++ [r]), fsC (bT v s l r).1 2, fsM (bT v s l r).1]) : ag Tryz.prog 46 [.ptr 0 0, .agg r.enc] [stO false 1 v l, fsC s 2, fsM s] R := by
 refine aa (an := ML) tab_ok Tryz.func46 ?_;have hd := (aT hr).deps;conv=>whnf
 refine ak (by simpa using hkd) ?_;conv=>whnf
 refine eu v r (by omega) fun p hp => ?_;rw [hr] at hp;subst hp;conv=>whnf
 refine Jt hv s hk hfb l hl hm r hr (fun he => ?_) (fun he => ?_)
 ·have h1 := h1 he;generalize bT v s l r = se at h1 he ⊢;obtain ⟨s2, e⟩ := se;conv=>whnf
  exact h1
 ·have h2 := h2 he;generalize bT v s l r = se at h2 he ⊢;obtain ⟨s2, e⟩ := se;conv=>whnf
  exact h2
def rcO (out : List Sp) (o : Bool) (v : Int) (L : List Rc) (s : FSt) : List aE := [.cells 32 [.sl (some 1) 3 (sps out)], .row 45 3 out.length, .cells 27 [.ptr 3 0], stO o 4 v L, fsC s 5, fsM s]
theorem D8 {v : Int} (hv : is3 v) (s : FSt) {nb fb : Nat} (hk : FOk s nb fb) (hfb : fb ≤ 80000000) (L : List Rc) (hl : L.length ≤ 1100) (hm : ∀ r ∈ L, aR v r = true) (out : List Sp) (ho : out.length < 100000) (d : Dn) (hd : d.step.ran = true → d.trace.kind = 1 ∧ aR v d.trace = true) {R}
  (h0 : d.step.ran = false → R (vi 0) (rcO (out ++ [d.step]) false v L s))
  (h1 : d.step.ran = true → (bT v s L d.trace).2 ≠ 0 → R (vi (bT v s L d.trace).2) (rcO (out ++ [d.step]) ((bT v s L d.trace).2 == 7) v L (bT v s L d.trace).1))
  (h2 : d.step.ran = true → (bT v s L d.trace).2 = 0 → R (vi 0) (rcO (out ++ [d.step]) false v (L ++ [d.trace]) (bT v s L d.trace).1)) : ag Tryz.prog 45 [.agg (CE d), .ptr 0 0, .ptr 2 0] (rcO out false v L s) R := by
 refine aa (an := UZ) tab_ok Tryz.func45 ?_;have hsl := bA out;have e1 : sps out ++ [[AV.val (.string (ofB d.step.name)), .val (.bool d.step.ran), .val (.int .u64 (d.step.con.toNat : Int))]] = sps (out ++ [d.step]) := (gK out d.step).symm;have e2 : (sps out).length + [[AV.val (.string (ofB d.step.name)), .val (.bool d.step.ran), .val (.int .u64 (d.step.con.toNat : Int))]].length = (out ++ [d.step]).length := by simp [hsl]
 conv=>whnf
 refine ⟨hsl.symm, (by rw [hsl]; show (out.length + 1) * (32 + 1) ≤ _; omega), ?_⟩;conv=>whnf
 rw [e1, e2];refine ae (fun g => ?_) (fun g => ?_)
 ·have h1 := h1 g;have h2 := h2 g;obtain ⟨hkd, hr⟩ := hd g;conv=>whnf
  refine BD hv s hk hfb L hl hm d.trace hkd hr (fun he => ?_) (fun he => ?_)
  ·have h1 := h1 he;generalize bT v s L d.trace = se at h1 ⊢;obtain ⟨s2, e⟩ := se;conv=>whnf
   exact h1
  ·have h2 := h2 he;generalize bT v s L d.trace = se at h2 ⊢;obtain ⟨s2, e⟩ := se;conv=>whnf
   exact h2
 ·conv=>whnf
  exact h0 g
theorem BV (out : List Sp) (ho : out.length < 100000) (d : Dn) {R} (h : R (vi 0) [.cells 32 [.sl (some 1) 3 (sps (out ++ [d.step]))], .row 45 3 (out ++ [d.step]).length]) : ag Tryz.prog 58 [.agg (CE d), .ptr 0 0] [.cells 32 [.sl (some 1) 3 (sps out)], .row 45 3 out.length] R := by
 refine aa (an := UN) tab_ok Tryz.func58 ?_;have hsl := bA out;have e1 : sps out ++ [[AV.val (.string (ofB d.step.name)), .val (.bool d.step.ran), .val (.int .u64 (d.step.con.toNat : Int))]] = sps (out ++ [d.step]) := (gK out d.step).symm;have e2 : (sps out).length + [[AV.val (.string (ofB d.step.name)), .val (.bool d.step.ran), .val (.int .u64 (d.step.con.toNat : Int))]].length = (out ++ [d.step]).length := by simp [hsl]
 conv=>whnf
 refine ⟨hsl.symm, (by rw [hsl]; show (out.length + 1) * (32 + 1) ≤ _; omega), ?_⟩;conv=>whnf
 rw [e1, e2];exact h
def qp (name : B) (a : Int × Int) (d : Dn) : Int × Int := if d.step.name = name then (d.why, 0) else a
theorem Dw (name : B) (a : Int × Int) (d : Dn) {R} (h : R (vi 0) [.cells 3 [vi (qp name a d).1], .cells 28 [vi (qp name a d).2]]) : ag Tryz.prog 59 [.agg (CE d), .cptr [vs name] 0, .ptr 0 0, .ptr 1 0] [.cells 3 [vi a.1], .cells 28 [vi a.2]] R := by
 refine aa (an := UM) tab_ok Tryz.func59 ?_;unfold qp at h;conv=>whnf
 refine ae (fun g => ?_) (fun g => ?_)
 ·have g : d.step.name = name := bZ (by simpa using g);rw [aaz g] at h;conv=>whnf
  exact h
 ·have g : d.step.name ≠ name := fun e => by rw [e] at g; simp at g
  rw [aap g] at h;conv=>whnf
  exact h
def dy (v : Int) : List Dn → FSt → List Rc → FSt × List Rc × Int
 | [], s, L => (s, L, 0)
 | d :: ds, s, L => if d.step.ran = true then (if (bT v s L d.trace).2 = 0 then dy v ds (bT v s L d.trace).1 (L ++ [d.trace]) else ((bT v s L d.trace).1, L, (bT v s L d.trace).2)) else dy v ds s L
theorem uK {v : Int} {s : FSt} {nb fb : Nat} (hk : FOk s nb fb) {L : List Rc} (hl : L.length ≤ 1100) (hm : ∀ r ∈ L, aR v r = true) {r : Rc} (hr : aR v r = true) : FOk (bT v s L r).1 (nb + 1) (fb + 3000) := by
 have htl := lm (v := v) (l := L) (t := []) (fun y hy => aT (hm y hy));simp at htl;have hml : (cb v L r).length ≤ 3000 := dF (aT hr) (by omega);exact (iF hk (name := aS) (b := cb v L r) (by decide)).mono (by omega) (by omega)
def wkO (out : List Sp) (ov : Bool) (v : Int) (L : List Rc) (s : FSt) : List aE := [.cells 32 [.sl (some 5) 3 (sps out)], .cells 27 [.ptr 2 0], stO ov 3 v L, fsC s 4, fsM s, .row 45 3 out.length]
theorem tD {v : Int} (hv : is3 v) (l : List Nd) (hl : fI l) (o : List Nat) (hb : ∀ b ∈ o, b < l.length) (hol64 : o.length ≤ 100) (S : List Rc) (hS : S.length < 1000000) (hSd : ∀ r ∈ S, r.deps.length < 1000000) (given : List Sp) (hg : given.length < 1000000) (w : U)
  (s0 : FSt) {nb fb : Nat} (hk0 : FOk s0 nb fb) (hfb : fb + 3000 * o.length ≤ 80000000) (L0 : List Rc) (hL0 : L0.length + o.length ≤ 1100) (hm0 : ∀ r ∈ L0, aR v r = true) (hmay : ∀ d ∈ aM l S given w o, d.step.ran = true → d.trace.kind = 1 ∧ aR v d.trace = true) {R}
  (h1 : ∀ out : List Sp, (dy v (aM l S given w o) s0 L0).2.2 ≠ 0 → R (vi (dy v (aM l S given w o) s0 L0).2.2) (wkO out ((dy v (aM l S given w o) s0 L0).2.2 == 7) v (dy v (aM l S given w o) s0 L0).2.1 (dy v (aM l S given w o) s0 L0).1))
  (h2 : (dy v (aM l S given w o) s0 L0).2.2 = 0 → R (vi 0) (wkO (aA (aM l S given w o)) false v (dy v (aM l S given w o) s0 L0).2.1 (dy v (aM l S given w o) s0 L0).1)) : ag Tryz.prog 43 [.sl none 4 (nds l), .sl none 1 (dh o), .sl none 7 (be S), .sl none 3 (sps given), uv w, .fn (.func 45) [] [.ptr 0 0, .ptr 1 0]] (wkO [] false v L0 s0) R := by
 refine aa (an := Pd) tab_ok Tryz.func43 ?_;have hol := b8 o;obtain ⟨hlen, hsm⟩ := hl;generalize hres : dy v (aM l S given w o) s0 L0 = res at h1 h2;conv=>whnf
 refine aq.ind4 (fun (i : Nat) (dn : List Dn) (s : FSt) (L : List Rc) => [(13, .sl (some (al 13)) 3 (sps (aA dn))), (20, vi i)])
  (fun i dn s L => [(0, .cells 32 [.sl (some 5) 3 (sps (aA dn))]), (1, .cells 27 [.ptr 2 0]), (2, stO false 3 v L), (3, fsC s 4), (4, fsM s), (5, .row 45 3 (aA dn).length), (al 13, .row 45 3 (aA dn).length)])
  (fun i _ _ _ => o.length - i) (fun i dn s L => i ≤ o.length ∧ dn = aM l S given w (o.take i) ∧ dy v ((aM l S given w o).drop i) s L = res ∧ FOk s (nb + i) (fb + 3000 * i) ∧ L.length ≤ L0.length + i ∧ ∀ r ∈ L, aR v r = true) 0 [] s0 L0 rfl ⟨by omega, rfl, hres, hk0, by omega, hm0⟩ ?_
 rintro i dn s L ⟨h0, ho, hrn, hk, hL, hm⟩ IH;have hdl : dn.length = i := by rw [ho]; exact kQ S given w hb i h0
 conv=>whnf
 refine ae (fun hc => ?_) (fun hc => ?_)
 ·have hc := ap hol hc;have hbi := hb _ (aaf hc);have hsn := im (l := l) S given w hc hbi;rw [← ho] at hsn;have hdi := mr (l := l) S given w hb hc;rw [kP S given w hb (abw hc), ← ho] at hdi;have hdr : (aM l S given w o).drop i = cf l[o[i]] S (aA dn) given w :: (aM l S given w o).drop (i + 1) := by
   obtain ⟨q1, q2⟩ := List.getElem?_eq_some_iff.1 hdi;rw [aao q1, q2]
  have hmem := aaO hdi
  (conv=>whnf); (repeat ((with_reducible refine ac ?_ ?_); exact aaa (by omega); (conv=>whnf)))
  refine idxNat (by simpa using hc) ?_
  (conv=>whnf); (repeat ((with_reducible refine ac ?_ ?_); exact aaa (by omega); (conv=>whnf)))
  refine ab (show ((o[i] : Nat) : Int).toNat < l.length by simpa using hbi) ?_;rw [show l[((o[i] : Nat) : Int).toNat]'(by simpa using hbi) = l[o[i]] from by congr 1];have hnd : l[o[i]].deps.length < 10000 := (hsm _ (aaf hbi)).1;generalize l[o[i]] = n at hsn hdi hdr hmem hnd ⊢;conv=>whnf
  refine o8 n hnd S hS hSd (aA dn) given (by simp [aA]; omega) hg w fun d hd => ?_;rw [← hd] at hsn hdi hdr hmem;clear hd;rw [hdr] at hrn;have hdm := hmay d hmem;have hsd : aA dn ++ [d.step] = aA (dn ++ [d]) := (bW dn d).symm;have hnext := IH (i + 1) (dn ++ [d]);have hpl : (sps (aA dn)).length = (aA dn).length := bA _;have hsl : (aA dn).length = i := by simpa [aA] using hdl
  generalize hout : aA dn = out at hsd hnext hpl hsl ⊢;conv=>whnf
  refine D8 hv s hk (by omega) L (by omega) hm out (by omega) d hdm (fun g => ?_) (fun g he => ?_) (fun g he => ?_)
  ·conv=>whnf
   refine ⟨hpl.symm, (by rw [hpl]; show (out.length + 1) * (32 + 1) ≤ _; omega), ?_⟩;conv=>whnf
   rw [show sps out ++ [[AV.val (.string (ofB d.step.name)), .val (.bool d.step.ran), .val (.int .u64 (d.step.con.toNat : Int))]] = sps (out ++ [d.step]) from (gK out d.step).symm,
    show (sps out).length + [[AV.val (.string (ofB d.step.name)), .val (.bool d.step.ran), .val (.int .u64 (d.step.con.toNat : Int))]].length = (out ++ [d.step]).length from by simp [hpl], am (by omega)]
   rw [hsd];refine hnext s L ⟨by omega, hsn.symm, ?_, hk.mono (by omega) (by omega), by omega, hm⟩ (by omega);rw [← hrn, dy, aap (by simp [g])]
  ·rw [dy, aaz g, aap he] at hrn;have h1 := h1 (out ++ [d.step]);rw [← hrn] at h1;have h1 := h1 he;generalize bT v s L d.trace = se at h1 he ⊢;obtain ⟨s2, e⟩ := se;conv=>whnf
   refine aK (by simpa using he) ?_;conv=>whnf
   exact h1
  ·rw [dy, aaz g, aaz he] at hrn;have hk2 := uK hk (show L.length ≤ 1100 by omega) hm (hdm g).2;generalize bT v s L d.trace = se at hrn he hk2 ⊢;obtain ⟨s2, e⟩ := se;conv=>whnf
   refine ⟨hpl.symm, (by rw [hpl]; show (out.length + 1) * (32 + 1) ≤ _; omega), ?_⟩;conv=>whnf
   rw [show sps out ++ [[AV.val (.string (ofB d.step.name)), .val (.bool d.step.ran), .val (.int .u64 (d.step.con.toNat : Int))]] = sps (out ++ [d.step]) from (gK out d.step).symm,
    show (sps out).length + [[AV.val (.string (ofB d.step.name)), .val (.bool d.step.ran), .val (.int .u64 (d.step.con.toNat : Int))]].length = (out ++ [d.step]).length from by simp [hpl], am (by omega)]
   rw [hsd];refine hnext s2 (L ++ [d.trace]) ⟨by omega, hsn.symm, hrn, hk2.mono (by omega) (by omega), by simp; omega, fun r hr => ?_⟩ (by omega);rcases List.mem_append.1 hr with hr | hr
   ·exact hm r hr
   ·rw [List.mem_singleton.1 hr]; exact (hdm g).2
 ·have hc := au hol hc;rw [aae hc] at ho;rw [aay (by rw [fS S given w hb]; exact hc)] at hrn;rw [← ho, ← hrn] at h2;have h2 := h2 rfl;conv=>whnf
  exact h2
theorem Bc (l : List Nd) (hl : fI l) (o : List Nat) (hb : ∀ b ∈ o, b < l.length) (hol64 : o.length ≤ 100) (S : List Rc) (hS : S.length < 1000000) (hSd : ∀ r ∈ S, r.deps.length < 1000000) (given : List Sp) (hg : given.length < 1000000) (w : U) {R}
  (h : R (vi 0) [.cells 32 [.sl (some 1) 3 (sps (aA (aM l S given w o)))], .row 45 3 (aA (aM l S given w o)).length]) : ag Tryz.prog 43 [.sl none 4 (nds l), .sl none 1 (dh o), .sl none 7 (be S), .sl none 3 (sps given), uv w, .fn (.func 58) [] [.ptr 0 0]] [.cells 32 [.sl (some 1) 3 []], .row 45 3 0] R := by
 refine aa (an := Pd) tab_ok Tryz.func43 ?_;have hol := b8 o;obtain ⟨hlen, hsm⟩ := hl;conv=>whnf
 refine aq.ind2 (fun (i : Nat) (dn : List Dn) => [(13, .sl (some (al 13)) 3 (sps (aA dn))), (20, vi i)])
  (fun i dn => [(0, .cells 32 [.sl (some 1) 3 (sps (aA dn))]), (1, .row 45 3 (aA dn).length), (al 13, .row 45 3 (aA dn).length)])
  (fun i _ => o.length - i) (fun i dn => i ≤ o.length ∧ dn = aM l S given w (o.take i)) 0 [] rfl ⟨by omega, rfl⟩ ?_
 rintro i dn ⟨h0, ho⟩ IH;have hdl : dn.length = i := by rw [ho]; exact kQ S given w hb i h0
 conv=>whnf
 refine ae (fun hc => ?_) (fun hc => ?_)
 ·have hc := ap hol hc;have hbi := hb _ (aaf hc);have hsn := im (l := l) S given w hc hbi;rw [← ho] at hsn;have hdi := mr (l := l) S given w hb hc;rw [kP S given w hb (abw hc), ← ho] at hdi;have hdr : (aM l S given w o).drop i = cf l[o[i]] S (aA dn) given w :: (aM l S given w o).drop (i + 1) := by
   obtain ⟨q1, q2⟩ := List.getElem?_eq_some_iff.1 hdi;rw [aao q1, q2]
  have hmem := aaO hdi
  (conv=>whnf); (repeat ((with_reducible refine ac ?_ ?_); exact aaa (by omega); (conv=>whnf)))
  refine idxNat (by simpa using hc) ?_
  (conv=>whnf); (repeat ((with_reducible refine ac ?_ ?_); exact aaa (by omega); (conv=>whnf)))
  refine ab (show ((o[i] : Nat) : Int).toNat < l.length by simpa using hbi) ?_;rw [show l[((o[i] : Nat) : Int).toNat]'(by simpa using hbi) = l[o[i]] from by congr 1];have hnd : l[o[i]].deps.length < 10000 := (hsm _ (aaf hbi)).1;generalize l[o[i]] = n at hsn hdi hdr hmem hnd ⊢;conv=>whnf
  refine o8 n hnd S hS hSd (aA dn) given (by simp [aA]; omega) hg w fun d hd => ?_;rw [← hd] at hsn hdi hdr hmem;clear hd;have hsd : aA dn ++ [d.step] = aA (dn ++ [d]) := (bW dn d).symm;have hnext := IH (i + 1) (dn ++ [d]);have hpl : (sps (aA dn)).length = (aA dn).length := bA _;have hsl : (aA dn).length = i := by simpa [aA] using hdl
  generalize hout : aA dn = out at hsd hnext hpl hsl ⊢;conv=>whnf
  refine BV out (by omega) d ?_;conv=>whnf
  refine ⟨hpl.symm, (by rw [hpl]; show (out.length + 1) * (32 + 1) ≤ _; omega), ?_⟩;conv=>whnf
  rw [show sps out ++ [[AV.val (.string (ofB d.step.name)), .val (.bool d.step.ran), .val (.int .u64 (d.step.con.toNat : Int))]] = sps (out ++ [d.step]) from (gK out d.step).symm,
   show (sps out).length + [[AV.val (.string (ofB d.step.name)), .val (.bool d.step.ran), .val (.int .u64 (d.step.con.toNat : Int))]].length = (out ++ [d.step]).length from by simp [hpl], am (by omega)]
  rw [hsd];exact hnext ⟨by omega, hsn.symm⟩ (by omega)
 ·have hc := au hol hc;rw [aae hc] at ho;rw [← ho] at h;conv=>whnf
  exact h
theorem Bb (l : List Nd) (hl : fI l) (o : List Nat) (hb : ∀ b ∈ o, b < l.length) (hol64 : o.length ≤ 100) (S : List Rc) (hS : S.length < 1000000) (hSd : ∀ r ∈ S, r.deps.length < 1000000) (given : List Sp) (hg : given.length < 1000000) (w : U) (name : B) (a0 : Int × Int) {R}
  (h : ∀ a, a = (aM l S given w o).foldl (qp name) a0 → R (vi 0) [.cells 3 [vi a.1], .cells 28 [vi a.2]]) : ag Tryz.prog 43 [.sl none 4 (nds l), .sl none 1 (dh o), .sl none 7 (be S), .sl none 3 (sps given), uv w, .fn (.func 59) [] [.cptr [vs name] 0, .ptr 0 0, .ptr 1 0]] [.cells 3 [vi a0.1], .cells 28 [vi a0.2]] R := by
 refine aa (an := Pd) tab_ok Tryz.func43 ?_;have hol := b8 o;obtain ⟨hlen, hsm⟩ := hl;conv=>whnf
 refine aq.ind3 (fun (i : Nat) (dn : List Dn) (a : Int × Int) => [(13, .sl (some (al 13)) 3 (sps (aA dn))), (20, vi i)])
  (fun i dn a => [(0, .cells 3 [vi a.1]), (1, .cells 28 [vi a.2]), (al 13, .row 45 3 (aA dn).length)])
  (fun i _ _ => o.length - i) (fun i dn a => i ≤ o.length ∧ dn = aM l S given w (o.take i) ∧ a = dn.foldl (qp name) a0) 0 [] a0 rfl ⟨by omega, rfl, rfl⟩ ?_
 rintro i dn a ⟨h0, ho, ha⟩ IH;have hdl : dn.length = i := by rw [ho]; exact kQ S given w hb i h0
 conv=>whnf
 refine ae (fun hc => ?_) (fun hc => ?_)
 ·have hc := ap hol hc;have hbi := hb _ (aaf hc);have hsn := im (l := l) S given w hc hbi;rw [← ho] at hsn;have hdi := mr (l := l) S given w hb hc;rw [kP S given w hb (abw hc), ← ho] at hdi;have hdr : (aM l S given w o).drop i = cf l[o[i]] S (aA dn) given w :: (aM l S given w o).drop (i + 1) := by
   obtain ⟨q1, q2⟩ := List.getElem?_eq_some_iff.1 hdi;rw [aao q1, q2]
  have hmem := aaO hdi
  (conv=>whnf); (repeat ((with_reducible refine ac ?_ ?_); exact aaa (by omega); (conv=>whnf)))
  refine idxNat (by simpa using hc) ?_
  (conv=>whnf); (repeat ((with_reducible refine ac ?_ ?_); exact aaa (by omega); (conv=>whnf)))
  refine ab (show ((o[i] : Nat) : Int).toNat < l.length by simpa using hbi) ?_;rw [show l[((o[i] : Nat) : Int).toNat]'(by simpa using hbi) = l[o[i]] from by congr 1];have hnd : l[o[i]].deps.length < 10000 := (hsm _ (aaf hbi)).1;generalize l[o[i]] = n at hsn hdi hdr hmem hnd ⊢;conv=>whnf
  refine o8 n hnd S hS hSd (aA dn) given (by simp [aA]; omega) hg w fun d hd => ?_;rw [← hd] at hsn hdi hdr hmem;clear hd;have hsd : aA dn ++ [d.step] = aA (dn ++ [d]) := (bW dn d).symm;have hnext := IH (i + 1) (dn ++ [d]);have hpl : (sps (aA dn)).length = (aA dn).length := bA _;have hsl : (aA dn).length = i := by simpa [aA] using hdl
  generalize hout : aA dn = out at hsd hnext hpl hsl ⊢;conv=>whnf
  refine Dw name a d ?_;generalize ha2 : qp name a d = a2;conv=>whnf
  refine ⟨hpl.symm, (by rw [hpl]; show (out.length + 1) * (32 + 1) ≤ _; omega), ?_⟩;conv=>whnf
  rw [show sps out ++ [[AV.val (.string (ofB d.step.name)), .val (.bool d.step.ran), .val (.int .u64 (d.step.con.toNat : Int))]] = sps (out ++ [d.step]) from (gK out d.step).symm,
   show (sps out).length + [[AV.val (.string (ofB d.step.name)), .val (.bool d.step.ran), .val (.int .u64 (d.step.con.toNat : Int))]].length = (out ++ [d.step]).length from by simp [hpl], am (by omega)]
  rw [hsd];exact hnext a2 ⟨by omega, hsn.symm, by rw [abn, ← ha, ← ha2]; rfl⟩ (by omega)
 ·have hc := au hol hc;rw [aae hc] at ho;rw [ho] at ha;have h := h a ha;conv=>whnf
  exact h
theorem oZ (l : List Nd) (hl : fI l) (v : Int) (L : List Rc) (s : FSt) {R} (h : ∀ o e, o = cn l → e = aV l → R (.tup [.sl none 1 (dh o), vi e]) [stO false 1 v L, fsC s 2, fsM s]) : ag Tryz.prog 41 [.ptr 0 0, .sl none 4 (nds l)] [stO false 1 v L, fsC s 2, fsM s] R := by
 refine aa (an := Pe) tab_ok Tryz.func41 ?_;conv=>whnf
 refine oh false v L s ?_;conv=>whnf
 refine Do l hl fun o e ho he => ?_;have h := h o e ho he;conv=>whnf
 exact h
theorem Hs (s : Sp) {R} (h : R (.val (.bool s.ran)) []) : ag Tryz.prog 48 [.agg s.enc] [] R := by
 refine aa (an := UX) tab_ok Tryz.func48 ?_;conv=>whnf
 exact h
theorem zQ (l : List Sp) (hl : l.length < 1000000) {R} (h : ∀ p : Int, (0 ≤ p ↔ ∃ s ∈ l, s.ran = true) → R (vi p) []) : ag Tryz.prog 96 [.sl none 3 (sps l), .fn (.func 48) [] []] [] R := by
 refine aa (an := Uh) tab_ok Tryz.func96 ?_;have hsl := bA l;rw [eH] at hsl ⊢;conv=>whnf
 refine aq.ind1 (fun (i : Nat) => [(8, vi i)]) (fun _ => []) (fun i => l.length - i) (fun i => i ≤ l.length ∧ ∀ d ∈ l.take i, d.ran = false) 0 rfl ⟨by omega, by simp⟩ ?_;rintro i ⟨h0, h1⟩ IH;conv=>whnf
 refine ae (fun hc => ?_) (fun hc => ?_)
 ·have hc := ap hsl hc
  (conv=>whnf); (repeat ((with_reducible refine ac ?_ ?_); exact aaa (by omega); (conv=>whnf)))
  refine idxNat (by simpa using hc) ?_;generalize hx : l[i] = x;conv=>whnf
  refine Hs x ?_;conv=>whnf
  refine ae (fun he => ?_) (fun he => ?_)
  ·conv=>whnf
   exact h _ ⟨fun _ => ⟨_, aaf hc, by rw [hx]; exact he⟩, fun _ => by omega⟩
  ·conv=>whnf
   rw [am (by omega)];refine IH (i + 1) ⟨by omega, fun d hd => ?_⟩ (by omega);rw [aab hc, aaJ, aaA] at hd;rcases hd with hd | rfl
   ·exact h1 d hd
   ·rw [hx]; exact he
 ·have hc := au hsl hc;rw [aae hc] at h1;conv=>whnf
  exact h (-1) ⟨fun hh => by omega, fun ⟨d, hd, hn⟩ => by rw [h1 d hd] at hn; cases hn⟩
theorem rH (l : List Sp) (hl : l.length < 1000000) {R} (h : R (.val (.bool (l.any (·.ran)))) []) : ag Tryz.prog 47 [.sl none 3 (sps l), .fn (.func 48) [] []] [] R := by
 refine aa (an := UY) tab_ok Tryz.func47 ?_;conv=>whnf
 refine zQ l hl fun p hp => ?_;have e : decide (0 ≤ p) = l.any (·.ran) := by
  rw [Bool.eq_iff_iff, aa0, hp, List.any_eq_true]
 rw [← e] at h;conv=>whnf
 exact h
theorem F7 {v : Int} : ∀ (ds : List Dn) (s : FSt) (L : List Rc) {nb fb : Nat}, FOk s nb fb → L.length + ds.length ≤ 1100 → (∀ r ∈ L, aR v r = true) → (∀ d ∈ ds, d.step.ran = true → aR v d.trace = true) →
  FOk (dy v ds s L).1 (nb + ds.length) (fb + 3000 * ds.length) ∧ (dy v ds s L).2.1.length ≤ L.length + ds.length ∧ ∀ r ∈ (dy v ds s L).2.1, aR v r = true := by
 intro ds
 induction ds with
 | nil => intro s L nb fb hk _ hm _; exact ⟨hk, aar _, hm⟩
 | cons d ds ih =>
  intro s L nb fb hk hl hm hmay;simp only [aag] at hl ⊢;have hr := hmay d (by simp);have hmay2 := fun d hd => hmay d (aaw _ hd);unfold dy;split
  ·rename_i g;have hk2 := uK hk (show L.length ≤ 1100 by omega) hm (hr g);split
   ·obtain ⟨h1, h2, h3⟩ := ih (bT v s L d.trace).1 (L ++ [d.trace]) hk2 (by simp; omega) (fun r hr2 => by
     rcases List.mem_append.1 hr2 with hr2 | hr2
     ·exact hm r hr2
     ·rw [List.mem_singleton.1 hr2]; exact hr g) hmay2
    exact ⟨h1.mono (by omega) (by omega), by simp at h2; omega, h3⟩
   ·exact ⟨hk2.mono (by omega) (by omega), by simp, hm⟩
  ·obtain ⟨h1, h2, h3⟩ := ih s L hk (by omega) hm hmay2;exact ⟨h1.mono (by omega) (by omega), by omega, h3⟩
def gS (v : Int) (ds : List Dn) (s : FSt) (L : List Rc) : FSt × List Rc × Int :=
 if (dy v ds s L).2.2 = 0 ∧ (aA ds).any (·.ran) = true then (((dy v ds s L).1.sync aS).1, (dy v ds s L).2.1, ((dy v ds s L).1.sync aS).2) else dy v ds s L
def wen (v : Int) (w : U) : U := if v = 1 then 0 else w
theorem nY {v : Int} {L : List Rc} (hm : ∀ r ∈ L, aR v r = true) : ∀ r ∈ ay L, r.deps.length < 1000000 := fun r hr => by
 have := (aT (hm r (jn hr).1)).deps;omega
theorem C9 {v : Int} (l : List Nd) (hl : fI l) (hl2 : l.length ≤ 100) (given : List Sp) (hg : given.length < 1000000) (L : List Rc) (hL : L.length ≤ 1100) (hm : ∀ r ∈ L, aR v r = true) (s : FSt) {R}
  (h1 : aV l ≠ 0 → R (.tup [.val (.slice none 0 0), vi (aV l)]) [stO false 1 v L, fsC s 2, fsM s])
  (h2 : aV l = 0 → R (.tup [.sl none 3 (sps (aA (bE l (ay L) given 0))), vi 0]) [stO false 1 v L, fsC s 2, fsM s]) : ag Tryz.prog 19 [.ptr 0 0, .sl none 4 (nds l), .sl none 3 (sps given)] [stO false 1 v L, fsC s 2, fsM s] R := by
 refine aa (an := R1) tab_ok Tryz.func19 ?_;have hdl := iC L;conv=>whnf
 refine oZ l hl v L s fun o e ho he => ?_;conv=>whnf
 refine ae (fun g => ?_) (fun g => ?_)
 ·have g : e ≠ 0 := by simpa using g
  have h1 := h1 (by rw [← he]; exact g);rw [← he] at h1;conv=>whnf
  exact h1
 ·have g : e = 0 := by simpa using g
  have h2 := h2 (by rw [← he]; exact g);rw [bE, ← ho] at h2;conv=>whnf
  refine kj false v L (by omega) (fun r hr => by have := (aT (hm r hr)).deps; omega) s ?_;conv=>whnf
  refine ag.nilbox 0 _ 45 3 rfl ?_;refine Bc l hl o (fun b hb => iB (by rw [← ho]; exact hb)) (by rw [ho]; have := qF l; omega) (ay L) (by omega) (nY hm) given hg 0 ?_;conv=>whnf
  exact h2
theorem qY {v : Int} (l : List Nd) (hl : fI l) (hl2 : l.length ≤ 100) (given : List Sp) (hg : given.length < 1000000) (L : List Rc) (hL : L.length ≤ 1100) (hm : ∀ r ∈ L, aR v r = true) (s : FSt) (name : B) {R}
  (h1 : aV l ≠ 0 → R (.tup [vi 0, vi (aV l)]) [stO false 1 v L, fsC s 2, fsM s])
  (h2 : aV l = 0 → ∀ a, a = (bE l (ay L) given 0).foldl (qp name) (0, 6) → R (.tup [vi a.1, vi a.2]) [stO false 1 v L, fsC s 2, fsM s]) : ag Tryz.prog 20 [.ptr 0 0, .sl none 4 (nds l), .sl none 3 (sps given), vs name] [stO false 1 v L, fsC s 2, fsM s] R := by
 refine aa (an := RZ) tab_ok Tryz.func20 ?_;have hdl := iC L;conv=>whnf
 refine oZ l hl v L s fun o e ho he => ?_;conv=>whnf
 refine ae (fun g => ?_) (fun g => ?_)
 ·have g : e ≠ 0 := by simpa using g
  have h1 := h1 (by rw [← he]; exact g);rw [← he] at h1;conv=>whnf
  exact h1
 ·have g : e = 0 := by simpa using g
  have h2 := h2 (by rw [← he]; exact g);rw [bE, ← ho] at h2;conv=>whnf
  refine kj false v L (by omega) (fun r hr => by have := (aT (hm r hr)).deps; omega) s ?_;conv=>whnf
  refine Bb l hl o (fun b hb => iB (by rw [← ho]; exact hb)) (by rw [ho]; have := qF l; omega) (ay L) (by omega) (nY hm) given hg 0 name (0, 6) fun a ha => ?_;have h2 := h2 a ha;conv=>whnf
  exact h2
theorem jf {v : Int} (hv : is3 v) (l : List Nd) (hl : fI l) (hl2 : l.length ≤ 100) (given : List Sp) (hg : given.length < 1000000) (w : U) (s : FSt) {nb fb : Nat} (hk : FOk s nb fb) (hfb : fb ≤ 70000000) (L : List Rc) (hL : L.length ≤ 1030) (hm : ∀ r ∈ L, aR v r = true) {R}
  (h1 : aV l ≠ 0 → R (.tup [.val (.slice none 0 0), vi (aV l)]) [stO false 1 v L, fsC s 2, fsM s])
  (h2 : aV l = 0 → ∀ f, f = gS v (bE l (ay L) given (wen v w)) s L → f.2.2 ≠ 0 → R (.tup [.val (.slice none 0 0), vi f.2.2]) [stO (f.2.2 == 7) 1 v f.2.1, fsC f.1 2, fsM f.1])
  (h3 : aV l = 0 → ∀ f, f = gS v (bE l (ay L) given (wen v w)) s L → f.2.2 = 0 → R (.tup [.sl none 3 (sps (aA (bE l (ay L) given (wen v w)))), vi 0]) [stO false 1 v f.2.1, fsC f.1 2, fsM f.1]) : ag Tryz.prog 12 [.ptr 0 0, .sl none 4 (nds l), .sl none 3 (sps given), uv w] [stO false 1 v L, fsC s 2, fsM s] R := by
 refine aa (an := { Pi with cst := [] }) tab_ok Tryz.func12 ?_;have hdl := iC L;have hLd : ∀ r ∈ L, r.deps.length < 1000000 := fun r hr => by have := (aT (hm r hr)).deps; omega
 conv=>whnf
 refine oZ l hl v L s fun o e ho he => ?_;conv=>whnf
 refine ae (fun g => ?_) (fun g => ?_)
 ·have g : e ≠ 0 := by simpa using g
  have h1 := h1 (by rw [← he]; exact g);rw [← he] at h1;conv=>whnf
  exact h1
 have g : e = 0 := by simpa using g
 have hck : aV l = 0 := by rw [← he]; exact g
 have h2 := h2 hck _ rfl;have h3 := h3 hck _ rfl;have hv3 : v = 1 ∨ v = 2 ∨ v = 3 := hv;have hwen : v = 1 → wen v w = 0 := fun e => by rw [wen, aaz e]
 have hmay : ∀ d ∈ bE l (ay L) given (wen v w), d.step.ran = true → d.trace.kind = 1 ∧ aR v d.trace = true := fun d hd hr => ⟨(gj (o0 hck) hd hr).1, nB hv3 hck hwen d hd hr⟩;have hdn : (bE l (ay L) given (wen v w)).length ≤ 64 := by rw [bE, fS _ _ _ (fun b hb => iB hb), jw hck]; exact (fp hck).2.2.2
 have hbo : ∀ b ∈ o, b < l.length := fun b hb => iB (by rw [← ho]; exact hb);have hol : o.length ≤ 64 := by rw [ho, jw hck]; exact (fp hck).2.2.2
 obtain ⟨hk2, hL2, hm2⟩ := F7 (bE l (ay L) given (wen v w)) s L hk (by omega) hm (fun d hd hr => (hmay d hd hr).2);unfold gS at h2 h3;rw [bE, ← ho] at h2 h3 hmay hk2 hL2 hm2;clear he h1;conv=>whnf
 refine um false v L s ?_;conv=>whnf
 refine ae (fun q => ?_) (fun q => ?_)
 ·have q : v = 1 := by simpa using q
  have hw0 : wen v w = 0 := hwen q;rw [hw0] at h2 h3 hmay hk2 hL2 hm2;conv=>whnf
  refine kj false v L (by omega) hLd s ?_;conv=>whnf
  refine ag.nilbox 0 _ 45 3 rfl ?_;refine tD hv l hl o hbo (by omega) (ay L) (by omega) (nY hm) given hg 0 s hk (by omega) L (by omega) hm hmay (fun out he => ?_) (fun he => ?_)
  ·rw [aap (fun hx => he hx.1)] at h2;have h2 := h2 he;generalize dy v (aM l (ay L) given 0 o) s L = res at he h2 ⊢;obtain ⟨s2, L2, x⟩ := res;have he : x ≠ 0 := he;conv=>whnf
   refine ak (by simpa using he) ?_;conv=>whnf
   refine aK (by simpa using he) ?_;conv=>whnf
   exact h2
  ·generalize hst : aA (aM l (ay L) given 0 o) = out at h2 h3 ⊢;have hou : out.length < 1000000 := by rw [← hst, aA, abg, fS _ _ _ hbo]; omega
   generalize dy v (aM l (ay L) given 0 o) s L = res at he h2 h3 hk2 hL2 hm2 ⊢;obtain ⟨s2, L2, x⟩ := res;have he : x = 0 := he;subst he;conv=>whnf
   refine rH out hou ?_;generalize hra : out.any (·.ran) = ra at h2 h3
   cases ra with
   | false =>
    rw [aap (by simp)] at h3;have h3 := h3 rfl;conv=>whnf
    exact h3
   | true =>
    rw [aaz ⟨rfl, rfl⟩] at h2 h3;conv=>whnf
    refine kW v L2 s2 hk2.fail hk2.fall ?_;have h2 : (s2.sync aS).2 ≠ 0 → R (.tup [.val (.slice none 0 0), vi (s2.sync aS).2]) [stO ((s2.sync aS).2 == 7) 1 v L2, fsC (s2.sync aS).1 2, fsM (s2.sync aS).1] := h2;have h3 : (s2.sync aS).2 = 0 → R (.tup [.sl none 3 (sps out), vi 0]) [stO false 1 v L2, fsC (s2.sync aS).1 2, fsM (s2.sync aS).1] := h3;generalize s2.sync aS = se at h2 h3 ⊢;obtain ⟨s3, y⟩ := se;by_cases hy : y = 0
    ·subst hy;have h3 := h3 rfl;conv=>whnf
     exact h3
    ·have h2 := h2 hy;conv=>whnf
     refine aK (by simpa using hy) ?_;conv=>whnf
     exact h2
 ·have q : v ≠ 1 := by simpa using q
  have hw0 : wen v w = w := by rw [wen, aap q]
  rw [hw0] at h2 h3 hmay hk2 hL2 hm2;conv=>whnf
  refine kj false v L (by omega) hLd s ?_;conv=>whnf
  refine ag.nilbox 0 _ 45 3 rfl ?_;refine tD hv l hl o hbo (by omega) (ay L) (by omega) (nY hm) given hg w s hk (by omega) L (by omega) hm hmay (fun out he => ?_) (fun he => ?_)
  ·rw [aap (fun hx => he hx.1)] at h2;have h2 := h2 he;generalize dy v (aM l (ay L) given w o) s L = res at he h2 ⊢;obtain ⟨s2, L2, x⟩ := res;have he : x ≠ 0 := he;conv=>whnf
   refine ak (by simpa using he) ?_;conv=>whnf
   refine aK (by simpa using he) ?_;conv=>whnf
   exact h2
  ·generalize hst : aA (aM l (ay L) given w o) = out at h2 h3 ⊢;have hou : out.length < 1000000 := by rw [← hst, aA, abg, fS _ _ _ hbo]; omega
   generalize dy v (aM l (ay L) given w o) s L = res at he h2 h3 hk2 hL2 hm2 ⊢;obtain ⟨s2, L2, x⟩ := res;have he : x = 0 := he;subst he;conv=>whnf
   refine rH out hou ?_;generalize hra : out.any (·.ran) = ra at h2 h3
   cases ra with
   | false =>
    rw [aap (by simp)] at h3;have h3 := h3 rfl;conv=>whnf
    exact h3
   | true =>
    rw [aaz ⟨rfl, rfl⟩] at h2 h3;conv=>whnf
    refine kW v L2 s2 hk2.fail hk2.fall ?_;have h2 : (s2.sync aS).2 ≠ 0 → R (.tup [.val (.slice none 0 0), vi (s2.sync aS).2]) [stO ((s2.sync aS).2 == 7) 1 v L2, fsC (s2.sync aS).1 2, fsM (s2.sync aS).1] := h2;have h3 : (s2.sync aS).2 = 0 → R (.tup [.sl none 3 (sps out), vi 0]) [stO false 1 v L2, fsC (s2.sync aS).1 2, fsM (s2.sync aS).1] := h3;generalize s2.sync aS = se at h2 h3 ⊢;obtain ⟨s3, y⟩ := se;by_cases hy : y = 0
    ·subst hy;have h3 := h3 rfl;conv=>whnf
     exact h3
    ·have h2 := h2 hy;conv=>whnf
     refine aK (by simpa using hy) ?_;conv=>whnf
     exact h2
end Go.Abs
end
section
namespace Go.Abs
open Go Go.Proofs
attribute [local irreducible] aH aD aO firstIdx
def flE (p : B × Fl) : List AV := [vs p.1, vs p.2.b, vi (p.2.safe : Int)]
def dS (m : FM) : List (List AV) := m.map flE
theorem dw (m : FM) : (dS m).length = m.length := by simp [dS]
def fsR (s : FSt) : List AV := [.sl none 3 (dS s.fs), vi s.fail, vi s.fall, .val (.bool s.down)]
theorem vD {R} (h : R (.agg (fsR fs0)) []) : ag Tryz.prog 56 [] [] R := by
 refine ag.res ?_;refine aa (an := UP) tab_ok Tryz.func56 ?_;conv=>whnf
 exact cw (iJ (leL.cons (cy 3) (leL.refl _))) rfl h
theorem Mg {m : FM} {n : B} : ∀ i, (∀ p ∈ m.take i, p.1 ≠ n) → lk m n = lk (m.drop i) n := by
 induction m with
 | nil => intro i h; simp
 | cons a m ih =>
  intro i h
  cases i with
  | zero => rfl
  | succ i =>
   obtain ⟨x, f⟩ := a;have h1 : x ≠ n := h (x, f) (by simp);rw [List.drop_succ_cons, ← ih i fun p hp => h p (by simp [hp])];simp [lk, h1]
theorem Ow {m : FM} {n : B} {i : Nat} (hi : i < m.length) (h : ∀ p ∈ m.take i, p.1 ≠ n) (he : m[i].1 = n) : lk m n = some m[i].2 := by
 rw [Mg i h, aao hi];simp [lk, he]
theorem zp {m : FM} {n : B} {i : Nat} (hi : i < m.length) (h : ∀ p ∈ m.take i, p.1 ≠ n) (he : m[i].1 ≠ n) : ∀ p ∈ m.take (i + 1), p.1 ≠ n := by
 intro p hp;rw [aab hi] at hp;rcases List.mem_append.1 hp with hp | hp
 ·exact h p hp
 ·rw [List.mem_singleton.1 hp]; exact he
theorem fR (s : FSt) (hl : s.fs.length < 1000000) (n : B) {R} (h : R (.tup [.agg (flE (n, gF s.fs n)), .val (.bool (decide (n ∈ kys s.fs)))]) []) : ag Tryz.prog 73 [.agg (fsR s), vs n] [] R := by
 refine aa (an := UA) tab_ok Tryz.func73 ?_;have hsl := dw s.fs;generalize hm : s.fs = m at hl hsl h;conv=>whnf
 rw [hm];refine aq.ind1 (fun (i : Nat) => [(6, vi i)]) (fun _ => [(al 4, .cells 140 [vs [], vs [], vi 0])]) (fun i => m.length - i) (fun i => i ≤ m.length ∧ ∀ p ∈ m.take i, p.1 ≠ n) 0 rfl ⟨by omega, by simp⟩ ?_;rintro i ⟨h0, h1⟩ IH;conv=>whnf
 refine ae (fun hc => ?_) (fun hc => ?_)
 ·have hi := ap hsl hc
  (conv=>whnf); (repeat ((with_reducible refine ac ?_ ?_); exact aaa (by omega); (conv=>whnf)))
  refine idxNat (by simpa using hi) ?_;have hit := Ow hi h1;have hne := zp hi h1;have hmi : m[i] ∈ m := aaf hi;generalize hp : m[i] = p at hit hne hmi;obtain ⟨x, f⟩ := p;conv=>whnf
  refine ae (fun g => ?_) (fun g => ?_)
  ·have g : x = n := bZ (aal g);subst g;have e1 : gF m x = f := by unfold gF; rw [hit rfl]; rfl
   have e2 : decide (x ∈ kys m) = true := aaa (lD (hit rfl));rw [e1, e2] at h
   (conv=>whnf); (repeat ((with_reducible refine ac ?_ ?_); exact aaa (by omega); (conv=>whnf)))
   refine idxNat (by simpa using hi) ?_;rw [hp];conv=>whnf
   exact h
  ·have g : x ≠ n := fun e => by subst e; exact aat g rfl
   have IH := IH (i + 1) ⟨hi, hne g⟩ (by omega);conv=>whnf
   rw [am (by omega)];exact IH
 ·have hi := au hsl hc;rw [aae hi] at h1;have hn : n ∉ kys m := fun hx => by
   obtain ⟨p, hp, e⟩ := List.mem_map.1 hx;exact h1 p hp e
  rw [aai hn, show gF m n = flZ from by unfold gF; rw [fL.2 hn]; rfl] at h;conv=>whnf
  exact h
theorem oW (s : FSt) (hl : s.fs.length < 1000000) {R} (h : R (.sl none 1 (bj (kys s.fs))) []) : ag Tryz.prog 72 [.agg (fsR s)] [] R := by
 refine aa (an := UB) tab_ok Tryz.func72 ?_;have hsl := dw s.fs;generalize hm : s.fs = m at hl hsl h;conv=>whnf
 rw [hm];refine aq.ind1 (fun (i : Nat) => [(3, .sl (some (al 5)) 1 (bj (kys (m.take i)))), (4, vi i)]) (fun i => [(al 5, .row 9 1 i)]) (fun i => m.length - i) (fun i => i ≤ m.length) 0 rfl (by omega) ?_;rintro i h0 IH;have hst : (bj (kys (m.take i))).length = i := by rw [aF]; simp [kys]; omega
 conv=>whnf
 refine ae (fun hc => ?_) (fun hc => ?_)
 ·have hi := ap hsl hc;have IH := IH (i + 1) hi (by omega);rw [show kys (m.take (i + 1)) = kys (m.take i) ++ [m[i].1] from by unfold kys; rw [aab hi, aaG]; rfl, dv] at IH
  (conv=>whnf); (repeat ((with_reducible refine ac ?_ ?_); exact aaa (by omega); (conv=>whnf)))
  refine idxNat (by simpa using hi) ?_;generalize m[i] = p at IH ⊢;obtain ⟨x, f⟩ := p;conv=>whnf
  refine ⟨hst.symm, by rw [hst, cg]; simp; omega, ?_⟩;conv=>whnf
  rw [am (by omega), hst];exact IH
 ·have hi := au hsl hc;rw [aae hi];conv=>whnf
  exact h
end Go.Abs
end
section
namespace Go.Abs
open Go Go.Proofs
theorem ag.freeze {P : Program} {f : FuncId} {args : List AV} {R : AV → List aE → Prop} {t : TypeId} {sz ver : Nat} {l : List (List AV)} {cs : List AV} (hcs : cC.go cs = true) (hnm : cH cs = [])
  (hc : ag P f args [] fun r os => r = .agg (.slv 0 sz ver 0 l.length :: cs) ∧ os = [.vec t sz l ver]) (h : R (.agg (.sl none sz l :: cs)) []) : ag P f args [] R := by
 refine ⟨fun G w vals hW hA => (hc.run G w vals hW hA).mono ?_⟩;rintro e w' ⟨v, r, os', G', h1, ⟨rfl, rfl⟩, h3, h4, h5, h6, h7, _, _⟩;have hno : ∀ n b, ¬ G.at n b := fun n b hb => by
  rcases hb with hb | ⟨u, t', hb, _⟩ <;> (obtain ⟨o, ho⟩ := hW.dom _ _ hb; cases ho)
 obtain ⟨u, xs, o1, o2, o3, o4, o5⟩ := h4.obj 0 (.vec t sz l ver) rfl;have hK0 : ∀ b o v, G'.K b o = some v → hZ G'.K u xs b o = some v := fun b o v e => by
  by_cases hb : some b = u.ownBlock
  ·rw [o5 b hb.symm o] at e; cases e
  ·simp [hZ, hb, e]
 simp only [Rep, aB] at h3;obtain ⟨vs, rfl, x, us, rfl, ⟨⟨A, c, rfl, _, hlc⟩, u', top, e1, e2, e3⟩, hus⟩ := h3;rw [o1] at e1;injection e1 with e1
 injection e1 with e1 e1'
 subst e1 e1';obtain ⟨A0, L, c0, A', hu, hL, hLc, hv, hA0, hgg⟩ := e3 rfl;refine ⟨_, .agg (.sl none sz l :: cs), [], ⟨hZ G'.K u xs, fun _ => none⟩, h1, h, ?_, ⟨?_, ?_, ?_, ?_, h4.glob.mono hK0⟩, ⟨fun b o v e => hK0 _ _ _ (h5.K _ _ _ e), fun n b e => ?_, fun n u t e => ?_⟩, ⟨h6.os, h6.tape, h6.output, h6.size, h6.block, fun b o hb hT => ?_⟩, ?_, ?_, ?_⟩
 ·simp only [Rep];refine ⟨_, rfl, ?_⟩;simp only [aB];refine ⟨_, _, rfl, ?_, aB.nameless (G := G') hK0 _ _ hcs hus⟩;simp only [Rep];refine ⟨⟨A, c, rfl, hlc, ?_⟩, trivial⟩;by_cases hl0 : l = []
  ·subst hl0; simp [d7]
  ·obtain ⟨g, hg1, hg2⟩ := hgg (fun e => hl0 (aau e));injection hv with hv1 hv2 hv3
   rw [hv1, hg2, Nat.zero_mul];refine d7.of_flat (aB.nameless (G := G') hK0 _ _ (qO o4) o3) o4 fun j v hj => ?_;have : some g = u.ownBlock := by rw [hu, hg1]; rfl
   simp only [hZ, this, abq];simpa using hj
 ·intro b o v e;have e : hZ G'.K u xs b o = some v := e;by_cases hb : some b = u.ownBlock
  ·simp only [hZ, hb, abq] at e;exact rB (K := G'.K) o2 hb e
  ·simp only [hZ, hb, aaW] at e;exact h4.know _ _ _ e
 ·intro n o e; cases e
 ·intro n g e; cases e
 ·intro n m b e;rcases e with e | ⟨u, t', e, _⟩ <;> cases e
 ·exact absurd (.inl e) (hno n b)
 ·obtain ⟨o, ho⟩ := hW.dom _ _ e; cases ho
 ·show hZ G'.K u xs b o = _;have hne : some b ≠ u.ownBlock := fun e => by
   rcases h7 0 b (.inr ⟨u, ver, o1, e.symm⟩) with ⟨m, hm⟩ | hm
   ·exact hno m b hm
   ·omega
  simp only [hZ, hne, aaW];exact h6.knew b o hb hT
 ·intro n b e;rcases e with e | ⟨u, t', e, _⟩ <;> cases e
 ·intro i o e; cases e
 ·intro m hm;exfalso;simp only [AV.names, cH, hnm] at hm
  cases hm
end Go.Abs
end
section
namespace Go.Abs
open Go Go.Proofs
attribute [local irreducible] aH aD aO firstIdx
theorem ku : (tab.ti 140).bytes = 40 := rfl
def wF (m : FM) (n : B) : FM := m.filter fun p => decide (p.1 ≠ n)
theorem FU {m : FM} {n : B} {i : Nat} (hi : i < m.length) : wF (m.take (i + 1)) n = wF (m.take i) n ++ if m[i].1 = n then [] else [m[i]] := by
 unfold wF;rw [aab hi, List.filter_append];congr 1;by_cases h : m[i].1 = n
 ·simp [h]
 ·simp [h]
theorem I9 (m : FM) (n : B) (i : Nat) : (wF (m.take i) n).length ≤ i := by
 unfold wF;have := abF (fun p : B × Fl => decide (p.1 ≠ n)) (m.take i);rw [aan] at this;omega
theorem mo (l m : FM) : dS (l ++ m) = dS l ++ dS m := by simp [dS]
theorem oI (s : FSt) (hl : s.fs.length < 1000000) (n : B) {R} (h : R (.agg (fsR ⟨wF s.fs n, s.fail, s.fall, s.down⟩)) []) : ag Tryz.prog 141 [.agg (fsR s), vs n] [] R := by
 refine aa (an := NJ) tab_ok Tryz.func141 ?_;have hsl := dw s.fs;generalize hm : s.fs = m at hl hsl h;conv=>whnf
 rw [hm];refine aq.ind2 (fun (i : Nat) (o : FM) => [(5, .sl (some (al 7)) 3 (dS o)), (6, vi i)]) (fun i o => [(al 2, .cells 53 [.sl none 3 (dS m), vi s.fail, vi s.fall, .val (.bool s.down)]), (al 4, .cells 53 [.val (.slice none 0 0), vi 0, vi 0, .val (.bool false)]), (al 7, .row 140 3 o.length)]) (fun i _ => m.length - i) (fun i o => i ≤ m.length ∧ o = wF (m.take i) n) 0 [] rfl ⟨by omega, rfl⟩ ?_;rintro i o ⟨h0, ho⟩ IH;have hst := dw o;have hol := I9 m n i;rw [← ho] at hol;conv=>whnf
 refine ae (fun hc => ?_) (fun hc => ?_)
 ·have hi := ap hsl hc;have hsn := FU (n := n) hi;rw [← ho] at hsn
  (conv=>whnf); (repeat ((with_reducible refine ac ?_ ?_); exact aaa (by omega); (conv=>whnf)))
  refine idxNat (by simpa using hi) ?_;generalize hp : m[i] = p at hsn;obtain ⟨x, f⟩ := p;conv=>whnf
  refine ae (fun g => ?_) (fun g => ?_)
  ·have g : x ≠ n := fun e => by
    have g : (!decide (ofB x = ofB n)) = true := g;rw [e] at g;simp at g
   rw [aap g] at hsn;have IH := IH (i + 1) _ ⟨hi, hsn.symm⟩ (by omega);rw [mo, aac] at IH
   (conv=>whnf); (repeat ((with_reducible refine ac ?_ ?_); exact aaa (by omega); (conv=>whnf)))
   refine idxNat (by simpa using hi) ?_;rw [hp];conv=>whnf
   refine ⟨hst.symm, by rw [hst, ku]; simp only [aag, aaj]; omega, ?_⟩;conv=>whnf
   rw [am (by omega)];rw [hst];exact IH
  ·have g : x = n := by
    have g : (!decide (ofB x = ofB n)) = false := g;refine bZ ?_;simpa using g
   rw [aaz g, aaR] at hsn;have IH := IH (i + 1) o ⟨hi, hsn.symm⟩ (by omega);conv=>whnf
   rw [am (by omega)];exact IH
 ·have hi := au hsl hc;rw [aae hi] at ho;subst ho;conv=>whnf
  exact h
theorem uT (s : FSt) (hl : s.fs.length < 1000000) (n : B) {R} (h : R (.agg [.slv 0 3 (wF s.fs n).length 0 (wF s.fs n).length, vi s.fail, vi s.fall, .val (.bool s.down)]) [.vec 140 3 (dS (wF s.fs n)) (wF s.fs n).length]) : ag Tryz.prog 141 [.agg (fsR s), vs n] [] R := by
 refine aa (an := { NJ with keepRes := true, frv := [(5, 7)] }) tab_ok Tryz.func141 ?_;have hsl := dw s.fs;generalize hm : s.fs = m at hl hsl h;conv=>whnf
 rw [hm];refine aq.ind2 (fun (i : Nat) (o : FM) => [(5, .slv (al 7) 3 o.length 0 o.length), (6, vi i)]) (fun i o => [(al 2, .cells 53 [.sl none 3 (dS m), vi s.fail, vi s.fall, .val (.bool s.down)]), (al 4, .cells 53 [.val (.slice none 0 0), vi 0, vi 0, .val (.bool false)]), (al 7, .vec 140 3 (dS o) o.length)]) (fun i _ => m.length - i) (fun i o => i ≤ m.length ∧ o = wF (m.take i) n) 0 [] rfl ⟨by omega, rfl⟩ ?_;rintro i o ⟨h0, ho⟩ IH;have hst := dw o;have hol := I9 m n i;rw [← ho] at hol;conv=>whnf
 refine ae (fun hc => ?_) (fun hc => ?_)
 ·have hi := ap hsl hc;have hsn := FU (n := n) hi;rw [← ho] at hsn
  (conv=>whnf); (repeat ((with_reducible refine ac ?_ ?_); exact aaa (by omega); (conv=>whnf)))
  refine idxNat (by simpa using hi) ?_;generalize hp : m[i] = p at hsn;obtain ⟨x, f⟩ := p;conv=>whnf
  refine ae (fun g => ?_) (fun g => ?_)
  ·have g : x ≠ n := fun e => by
    have g : (!decide (ofB x = ofB n)) = true := g;rw [e] at g;simp at g
   rw [aap g] at hsn;have IH := IH (i + 1) _ ⟨hi, hsn.symm⟩ (by omega);rw [mo, aac] at IH
   (conv=>whnf); (repeat ((with_reducible refine ac ?_ ?_); exact aaa (by omega); (conv=>whnf)))
   refine idxNat (by simpa using hi) ?_;rw [hp];conv=>whnf
   refine ⟨⟨rfl, rfl, by omega⟩, by rw [ku]; simp only [aag, aaj]; omega, ?_⟩;rw [aae (show (dS o).length ≤ o.length by omega)];conv=>whnf
   rw [am (by omega)];exact IH
  ·have g : x = n := by
    have g : (!decide (ofB x = ofB n)) = false := g;refine bZ ?_;simpa using g
   rw [aaz g, aaR] at hsn;have IH := IH (i + 1) o ⟨hi, hsn.symm⟩ (by omega);conv=>whnf
   rw [am (by omega)];exact IH
 ·have hi := au hsl hc;rw [aae hi] at ho;subst ho;conv=>whnf
  exact h
def jQ (n : B) (w : FM) : Nat → Nat
 | 0 => 0
 | k + 1 => match w[k]? with
  | some p => if ltB n p.1 = true then jQ n w k else k + 1
  | none => k + 1
theorem ME (n : B) (w : FM) : ∀ k, jQ n w k ≤ k := by
 intro k
 induction k with
 | zero => exact aar _
 | succ k ih =>
  unfold jQ;split
  ·split
   ·omega
   ·omega
  ·omega
def rpt (m : FM) (n : B) (f : Fl) : FM := let w := wF m n; w.take (jQ n w w.length) ++ (n, f) :: w.drop (jQ n w w.length)
theorem qz (s : FSt) (hl : s.fs.length < 1000000) (hn : ∀ x ∈ kys s.fs, x.length < 1000000) (n : B) (f : Fl) (hnl : n.length < 1000000) {R} (h : R (.agg (fsR ⟨rpt s.fs n f, s.fail, s.fall, s.down⟩)) []) : ag Tryz.prog 150 [.agg (fsR s), .agg (flE (n, f))] [] R := by
 refine ag.freeze (t := 140) (sz := 3) (ver := (wF s.fs n).length + 2) (l := dS (rpt s.fs n f)) (cs := [vi s.fail, vi s.fall, .val (.bool s.down)]) rfl rfl ?_ h;clear h R;refine aa (an := { Ss with anyo := [6] }) tab_ok Tryz.func150 ?_;conv=>whnf
 refine uT s hl n ?_;have hwn : ∀ p ∈ wF s.fs n, p.1.length < 1000000 := fun p hp => hn p.1 (aaD (List.mem_filter.1 hp).1);have hwl : (wF s.fs n).length < 1000000 := Nat.lt_of_le_of_lt (abF _ _) hl;unfold rpt;generalize wF s.fs n = W at hwn hwl ⊢;have hsl := dw W;conv=>whnf
 refine aq.ind1 (fun (k : Nat) => [(5, vi k)]) (fun k => [(al 2, .cells 53 [.slv (ar 10 0) 3 W.length 0 W.length, vi s.fail, vi s.fall, .val (.bool s.down)]), (al 4, .cells 53 [.val (.slice none 0 0), vi 0, vi 0, .val (.bool false)]), (ar 10 0, .vec 140 3 (dS W) W.length)]) (fun k => k) (fun k => k ≤ W.length ∧ jQ n W k = jQ n W W.length) W.length rfl ⟨aar _, rfl⟩ ?_;rintro k ⟨h0, hk⟩ IH;show _;conv=>whnf
 refine ae (fun g => ?_) (fun g => ?_)
 ·have g : 0 < k := by have := aal g; omega
  obtain ⟨j, rfl⟩ : ∃ j, k = j + 1 := ⟨k - 1, by omega⟩;have ej : IntKind.i64.wrap (((j + 1 : Nat) : Int) - 1) = (j : Int) := by rw [aI (by omega) (by omega)]; omega
  have hj : j < W.length := by omega
  conv=>whnf
  rw [ej];refine ac (aaa (by omega)) ?_;conv=>whnf
  refine ⟨rfl, ab (show 0 + (j : Int).toNat < W.length by simpa using hj) ?_⟩;rw [show W[0 + (j : Int).toNat]'(by simpa using hj) = W[j] from by congr 1; omega];have hwj := hwn _ (aaf hj);have hcut : jQ n W (j + 1) = if ltB n W[j].1 = true then jQ n W j else j + 1 := by
   conv => lhs; unfold jQ
   rw [aad hj]
  generalize W[j] = p at hwj hcut;obtain ⟨x, fx⟩ := p;conv=>whnf
  refine oo n x hnl hwj fun q hq => ?_
  cases q with
  | true =>
   rw [show ltB n x = true from hq.symm, aaz rfl] at hcut;have IH := IH j ⟨by omega, by rw [← hcut]; exact hk⟩ (by omega);conv=>whnf
   rw [ej];exact IH
  | false =>
   rw [show ltB n x = false from hq.symm, aap (by simp)] at hcut;have hkk : jQ n W W.length = j + 1 := by rw [← hk, hcut]
   clear IH hcut hk hq hwj;generalize j + 1 = k at hkk h0 ⊢;clear ej;conv=>whnf
   refine ac (aaa (by omega)) ?_;conv=>whnf
   refine ac (aaa (Int.le_refl _)) ?_;conv=>whnf
   refine ⟨⟨rfl, rfl⟩, by rw [ku]; simp only [aaj]; omega, ?_⟩;have hrest : [] ++ List.take (((W.length : Nat) : Int).toNat - ((k : Nat) : Int).toNat) (List.drop (0 + ((k : Nat) : Int).toNat) (dS W)) = dS (W.drop k) := by
    rw [aam, aaS, aaC, aaC, aae (by rw [abk, hsl]; exact aar _)];simp [dS, List.map_drop]
   rw [hrest];conv=>whnf
   refine ⟨?_, trivial⟩;conv=>whnf
   refine ac (aaa (by omega)) ?_;conv=>whnf
   refine ⟨?_, trivial⟩;conv=>whnf
   refine ⟨⟨rfl, rfl, by rw [hsl, aaC]; omega⟩, by rw [ku, aaC]; simp only [aag, aaj]; omega, ?_⟩;conv=>whnf
   have htk : List.take (((k : Nat) : Int).toNat - ((0 : Nat) : Int).toNat) (dS W) = dS (W.take k) := by
    rw [aaC, aaC, Nat.sub_zero];simp [dS, abR]
   have hr2 := dw (W.drop k);have hr3 := dw (W.take k);rw [abk] at hr2;rw [aan] at hr3;refine ⟨?_, trivial⟩;conv=>whnf
   rw [htk];refine ⟨⟨rfl, rfl, by simp only [aac, aag, aaj, hr3, aaC]; omega⟩, by rw [ku, aaC]; simp only [aag, aaj, hr2]; omega, ?_⟩;conv=>whnf
   refine ⟨?_, trivial⟩;conv=>whnf
   have e1 : ((k : Nat) : Int).toNat - ((0 : Nat) : Int).toNat + 1 + (dS (W.drop k)).length = (dS (W.take k ++ (n, f) :: W.drop k)).length := by
    rw [hr2, dw, aac, aan, aag, abk, aaC, aaC]; omega
   have e2 : List.take (((k : Nat) : Int).toNat - ((0 : Nat) : Int).toNat + 1) (dS (W.take k) ++ [flE (n, f)]) ++ dS (W.drop k) = dS (W.take k ++ (n, f) :: W.drop k) := by
    rw [aae (by rw [aac, hr3, List.length_singleton, aaC, aaC]; omega), mo, aak];rfl
   show AV.agg [.slv 0 3 (W.length + 2) 0 (((k : Nat) : Int).toNat - ((0 : Nat) : Int).toNat + 1 + (dS (W.drop k)).length), vi s.fail, vi s.fall, .val (.bool s.down)] = .agg [.slv 0 3 (W.length + 2) 0 (dS (W.take (jQ n W W.length) ++ (n, f) :: W.drop (jQ n W W.length))).length, vi s.fail, vi s.fall, .val (.bool s.down)] ∧
    [aE.vec 140 3 (List.take (((k : Nat) : Int).toNat - ((0 : Nat) : Int).toNat + 1) (dS (W.take k) ++ [flE (n, f)]) ++ dS (W.drop k)) (W.length + 2)] = [aE.vec 140 3 (dS (W.take (jQ n W W.length) ++ (n, f) :: W.drop (jQ n W W.length))) (W.length + 2)]
   rw [hkk, e1, e2];exact ⟨rfl, rfl⟩
 ·have g : k = 0 := by have := aat g; omega
  have hkk : jQ n W W.length = k := by rw [← hk, g]; rfl
  clear IH hk g;conv=>whnf
  refine ac (aaa (by omega)) ?_;conv=>whnf
  refine ac (aaa (Int.le_refl _)) ?_;conv=>whnf
  refine ⟨⟨rfl, rfl⟩, by rw [ku]; simp only [aaj]; omega, ?_⟩;have hrest : [] ++ List.take (((W.length : Nat) : Int).toNat - ((k : Nat) : Int).toNat) (List.drop (0 + ((k : Nat) : Int).toNat) (dS W)) = dS (W.drop k) := by
   rw [aam, aaS, aaC, aaC, aae (by rw [abk, hsl]; exact aar _)];simp [dS, List.map_drop]
  rw [hrest];conv=>whnf
  refine ⟨?_, trivial⟩;conv=>whnf
  refine ac (aaa (by omega)) ?_;conv=>whnf
  refine ⟨?_, trivial⟩;conv=>whnf
  refine ⟨⟨rfl, rfl, by rw [hsl, aaC]; omega⟩, by rw [ku, aaC]; simp only [aag, aaj]; omega, ?_⟩;conv=>whnf
  have htk : List.take (((k : Nat) : Int).toNat - ((0 : Nat) : Int).toNat) (dS W) = dS (W.take k) := by
   rw [aaC, aaC, Nat.sub_zero];simp [dS, abR]
  have hr2 := dw (W.drop k);have hr3 := dw (W.take k);rw [abk] at hr2;rw [aan] at hr3;refine ⟨?_, trivial⟩;conv=>whnf
  rw [htk];refine ⟨⟨rfl, rfl, by simp only [aac, aag, aaj, hr3, aaC]; omega⟩, by rw [ku, aaC]; simp only [aag, aaj, hr2]; omega, ?_⟩;conv=>whnf
  refine ⟨?_, trivial⟩;conv=>whnf
  have e1 : ((k : Nat) : Int).toNat - ((0 : Nat) : Int).toNat + 1 + (dS (W.drop k)).length = (dS (W.take k ++ (n, f) :: W.drop k)).length := by
   rw [hr2, dw, aac, aan, aag, abk, aaC, aaC]; omega
  have e2 : List.take (((k : Nat) : Int).toNat - ((0 : Nat) : Int).toNat + 1) (dS (W.take k) ++ [flE (n, f)]) ++ dS (W.drop k) = dS (W.take k ++ (n, f) :: W.drop k) := by
   rw [aae (by rw [aac, hr3, List.length_singleton, aaC, aaC]; omega), mo, aak];rfl
  show AV.agg [.slv 0 3 (W.length + 2) 0 (((k : Nat) : Int).toNat - ((0 : Nat) : Int).toNat + 1 + (dS (W.drop k)).length), vi s.fail, vi s.fall, .val (.bool s.down)] = .agg [.slv 0 3 (W.length + 2) 0 (dS (W.take (jQ n W W.length) ++ (n, f) :: W.drop (jQ n W W.length))).length, vi s.fail, vi s.fall, .val (.bool s.down)] ∧
   [aE.vec 140 3 (List.take (((k : Nat) : Int).toNat - ((0 : Nat) : Int).toNat + 1) (dS (W.take k) ++ [flE (n, f)]) ++ dS (W.drop k)) (W.length + 2)] = [aE.vec 140 3 (dS (W.take (jQ n W W.length) ++ (n, f) :: W.drop (jQ n W W.length))) (W.length + 2)]
  rw [hkk, e1, e2];exact ⟨rfl, rfl⟩
theorem tn {a : Int} (ha : okN a) (h : 0 ≤ a) : IntKind.i64.wrap (a - 1) = cnt a := by
 unfold okN at ha;rw [aI (by omega) (by omega)];unfold cnt;rw [aap (by omega)]
theorem tm {a : Int} (ha : okN a) (h : ¬ 0 ≤ a) : a = cnt a := by
 unfold okN at ha;unfold cnt;rw [aaz (by omega)];omega
theorem nK (s : FSt) (m : FM) (late : Bool) (h1 : okN s.fail) (h2 : okN s.fall) {R} (h : R (.tup [.agg (fsR (s.act late fun _ => m).1), vi (s.act late fun _ => m).2]) []) : ag Tryz.prog 140 [.agg (fsR s), .agg (fsR ⟨m, s.fail, s.fall, s.down⟩), .val (.bool late)] [] R := by
 refine aa (an := { Sz with anyo := [5] }) tab_ok Tryz.func140 ?_;unfold FSt.act at h;obtain ⟨fs, fail, fall, down⟩ := s;have h1 : okN fail := h1;have h2 : okN fall := h2;by_cases hfall : fall = 0
 ·subst hfall;rw [aaz rfl] at h;have h : R (.tup [.agg (fsR ⟨if late then m else fs, cnt fail, -1, true⟩), vi 7]) [] := h
  cases late with
  | true =>
   have h : R (.tup [.agg (fsR ⟨m, cnt fail, -1, true⟩), vi 7]) [] := h;conv=>whnf
   repeat' first | exact trivial | apply And.intro | ((fail_if_success (refine aK ?_ ?_)); (conv=>whnf))
   all_goals
    refine ae (fun q2 => ?_) (fun q2 => ?_)
    ·have q2 : 0 ≤ fail := aal q2;rw [← tn h1 q2] at h;conv=>whnf
     exact h
    ·have q2 : ¬ 0 ≤ fail := aat q2;rw [← tm h1 q2] at h;conv=>whnf
     exact h
  | false =>
   have h : R (.tup [.agg (fsR ⟨fs, cnt fail, -1, true⟩), vi 7]) [] := h;conv=>whnf
   repeat' first | exact trivial | apply And.intro | ((fail_if_success (refine aK ?_ ?_)); (conv=>whnf))
   all_goals
    refine ae (fun q2 => ?_) (fun q2 => ?_)
    ·have q2 : 0 ≤ fail := aal q2;rw [← tn h1 q2] at h;conv=>whnf
     exact h
    ·have q2 : ¬ 0 ≤ fail := aat q2;rw [← tm h1 q2] at h;conv=>whnf
     exact h
 ·rw [aap hfall] at h;have e8 : (fall == 0) = false := by simpa using hfall
  by_cases hfail : fail = 0
  ·subst hfail;rw [aaz rfl] at h;have h : R (.tup [.agg (fsR ⟨fs, -1, cnt fall, down⟩), vi 8]) [] := h;conv=>whnf
   rw [e8];conv=>whnf
   repeat' first | exact trivial | apply And.intro | ((fail_if_success (refine aK ?_ ?_)); (conv=>whnf))
   all_goals
    refine ae (fun q1 => ?_) (fun q1 => ?_)
    ·have q1 : 0 ≤ fall := aal q1;rw [← tn h2 q1] at h;conv=>whnf
     exact h
    ·have q1 : ¬ 0 ≤ fall := aat q1;rw [← tm h2 q1] at h;conv=>whnf
     exact h
  ·rw [aap hfail] at h;have e9 : (fail == 0) = false := by simpa using hfail
   have h : R (.tup [.agg (fsR ⟨m, cnt fail, cnt fall, down⟩), vi 0]) [] := h;conv=>whnf
   rw [e8];conv=>whnf
   rw [e9];conv=>whnf
   repeat' first | exact trivial | apply And.intro | ((fail_if_success (refine aK ?_ ?_)); (conv=>whnf))
   all_goals
    refine ae (fun q1 => ?_) (fun q1 => ?_)
    ·have q1 : 0 ≤ fall := aal q1;rw [← tn h2 q1] at h;conv=>whnf
     refine ae (fun q2 => ?_) (fun q2 => ?_)
     ·have q2 : 0 ≤ fail := aal q2;rw [← tn h1 q2] at h;conv=>whnf
      exact h
     ·have q2 : ¬ 0 ≤ fail := aat q2;rw [← tm h1 q2] at h;conv=>whnf
      exact h
    ·have q1 : ¬ 0 ≤ fall := aat q1;rw [← tm h2 q1] at h;conv=>whnf
     refine ae (fun q2 => ?_) (fun q2 => ?_)
     ·have q2 : 0 ≤ fail := aal q2;rw [← tn h1 q2] at h;conv=>whnf
      exact h
     ·have q2 : ¬ 0 ≤ fail := aat q2;rw [← tm h1 q2] at h;conv=>whnf
      exact h
def vE (n b : B) (m : FM) : FM := rpt m n ⟨(gF m n).b ++ b, (gF m n).safe⟩
def vC (n : B) (m : FM) : FM := rpt m n ⟨(gF m n).b, (gF m n).b.length⟩
def zS (a b : B) (m : FM) : FM := rpt (wF m a) b (gF m a)
def FSt.rappend (s : FSt) (n b : B) : FSt × Int := if s.down then (s, 7) else s.act true (vE n b)
def FSt.rsync (s : FSt) (n : B) : FSt × Int := if s.may n ≠ 0 then (s, s.may n) else s.act false (vC n)
def FSt.rrename (s : FSt) (a b : B) : FSt × Int := if s.may a ≠ 0 then (s, s.may a) else s.act false (zS a b)
def FSt.rremove (s : FSt) (n : B) : FSt × Int := if s.may n ≠ 0 then (s, s.may n) else s.act false fun m => wF m n
theorem m8 {s : FSt} {n : B} (h : s.down = true) : s.may n = 7 := by unfold FSt.may; rw [aaz h]
theorem m7 {s : FSt} {n : B} (h : s.down = false) (hn : n ∉ kys s.fs) : s.may n = 6 := by
 unfold FSt.may; rw [h, fL.2 hn]; rfl
theorem vW {s : FSt} {n : B} (h : s.down = false) (hn : n ∈ kys s.fs) : s.may n = 0 := by
 unfold FSt.may;obtain ⟨v, hv⟩ := vX hn;rw [h, hv]; rfl
structure ROk (s : FSt) : Prop where
 len : s.fs.length < 900000
 names : ∀ x ∈ kys s.fs, x.length < 1000000
 fail : okN s.fail
 fall : okN s.fall
theorem mC (s : FSt) (hs : ROk s) (n b : B) (hn : n.length < 1000000) (hb : (gF s.fs n).b.length + b.length < 1000000000) {R} (h : R (.tup [.agg (fsR (s.rappend n b).1), vi (s.rappend n b).2]) []) : ag Tryz.prog 143 [.agg (fsR s), vs n, vs b] [] R := by
 refine aa (an := Sx) tab_ok Tryz.func143 ?_;obtain ⟨h1, h2, h3, h4⟩ := hs;obtain ⟨m, fail, fall, down⟩ := s
 cases down with
 | true =>
  conv=>whnf
  exact h
 | false =>
  have h : R (.tup [.agg (fsR ((FSt.mk m fail fall false).act true fun _ => vE n b m).1), vi ((FSt.mk m fail fall false).act true fun _ => vE n b m).2]) [] := h;conv=>whnf
  refine fR ⟨m, fail, fall, false⟩ (by show m.length < _; have h1 : m.length < 900000 := h1; omega) n ?_;conv=>whnf
  have hb : (gF m n).b.length + b.length < 1000000000 := hb;refine ac (aaa (by rw [aG, aG]; show (gF m n).b.length + b.length ≤ _; omega)) ?_;rw [bi];conv=>whnf
  refine qz ⟨m, fail, fall, false⟩ (by show m.length < _; have h1 : m.length < 900000 := h1; omega) h2 n ⟨(gF m n).b ++ b, (gF m n).safe⟩ hn ?_;conv=>whnf
  refine nK ⟨m, fail, fall, false⟩ (vE n b m) true h3 h4 ?_;generalize (FSt.mk m fail fall false).act true (fun _ => vE n b m) = se at h ⊢;obtain ⟨s2, e⟩ := se;conv=>whnf
  exact h
theorem oV (s : FSt) (hs : ROk s) (n : B) (hn : n.length < 1000000) {R} (h : R (.tup [.agg (fsR (s.rsync n).1), vi (s.rsync n).2]) []) : ag Tryz.prog 110 [.agg (fsR s), vs n] [] R := by
 refine aa (an := SX) tab_ok Tryz.func110 ?_;obtain ⟨h1, h2, h3, h4⟩ := hs;obtain ⟨m, fail, fall, down⟩ := s;conv=>whnf
 refine fR ⟨m, fail, fall, down⟩ (by show m.length < _; have h1 : m.length < 900000 := h1; omega) n ?_
 cases down with
 | true =>
  unfold FSt.rsync at h;rw [aaz (by rw [m8 rfl]; decide), m8 rfl] at h;conv=>whnf
  exact h
 | false =>
  by_cases hin : n ∈ kys m
  ·unfold FSt.rsync at h;rw [aap (by rw [vW rfl hin]; decide)] at h;have h : R (.tup [.agg (fsR ((FSt.mk m fail fall false).act false fun _ => vC n m).1), vi ((FSt.mk m fail fall false).act false fun _ => vC n m).2]) [] := h;rw [show decide (n ∈ kys (FSt.mk m fail fall false).fs) = true from aaa hin];conv=>whnf
   rw [aG];refine qz ⟨m, fail, fall, false⟩ (by show m.length < _; have h1 : m.length < 900000 := h1; omega) h2 n ⟨(gF m n).b, (gF m n).b.length⟩ hn ?_;conv=>whnf
   refine nK ⟨m, fail, fall, false⟩ (vC n m) false h3 h4 ?_;generalize (FSt.mk m fail fall false).act false (fun _ => vC n m) = se at h ⊢;obtain ⟨s2, e⟩ := se;conv=>whnf
   exact h
  ·unfold FSt.rsync at h;rw [aaz (by rw [m7 rfl hin]; decide), m7 rfl hin] at h;rw [show decide (n ∈ kys (FSt.mk m fail fall false).fs) = false from aai hin];conv=>whnf
   exact h
theorem p8 (s : FSt) (hs : ROk s) (n b : B) (hn : n.length < 1000000) (hb : b.length < 1000000) {R} (h : R (.tup [.agg (fsR (s.rrename n b).1), vi (s.rrename n b).2]) []) : ag Tryz.prog 144 [.agg (fsR s), vs n, vs b] [] R := by
 refine aa (an := Sw) tab_ok Tryz.func144 ?_;obtain ⟨h1, h2, h3, h4⟩ := hs;obtain ⟨m, fail, fall, down⟩ := s;have h1 : m.length < 900000 := h1;have hwl : (wF m n).length < 1000000 := Nat.lt_of_le_of_lt (abF _ _) (by omega);have hwn : ∀ x ∈ kys (wF m n), x.length < 1000000 := fun x hx => by
  obtain ⟨p, hp, rfl⟩ := List.mem_map.1 hx;exact h2 p.1 (aaD (List.mem_filter.1 hp).1)
 conv=>whnf
 refine fR ⟨m, fail, fall, down⟩ (by show m.length < _; omega) n ?_
 cases down with
 | true =>
  unfold FSt.rrename at h;rw [aaz (by rw [m8 rfl]; decide), m8 rfl] at h;conv=>whnf
  exact h
 | false =>
  by_cases hin : n ∈ kys m
  ·unfold FSt.rrename at h;rw [aap (by rw [vW rfl hin]; decide)] at h;have h : R (.tup [.agg (fsR ((FSt.mk m fail fall false).act false fun _ => zS n b m).1), vi ((FSt.mk m fail fall false).act false fun _ => zS n b m).2]) [] := h;rw [show decide (n ∈ kys (FSt.mk m fail fall false).fs) = true from aaa hin];conv=>whnf
   refine oI ⟨m, fail, fall, false⟩ (by show m.length < _; omega) n ?_;conv=>whnf
   refine qz ⟨wF m n, fail, fall, false⟩ hwl hwn b (gF m n) hb ?_;conv=>whnf
   refine nK ⟨m, fail, fall, false⟩ (zS n b m) false h3 h4 ?_;generalize (FSt.mk m fail fall false).act false (fun _ => zS n b m) = se at h ⊢;obtain ⟨s2, e⟩ := se;conv=>whnf
   exact h
  ·unfold FSt.rrename at h;rw [aaz (by rw [m7 rfl hin]; decide), m7 rfl hin] at h;rw [show decide (n ∈ kys (FSt.mk m fail fall false).fs) = false from aai hin];conv=>whnf
   exact h
theorem xq (s : FSt) (hs : ROk s) (n : B) {R} (h : R (.tup [.agg (fsR (s.rremove n).1), vi (s.rremove n).2]) []) : ag Tryz.prog 100 [.agg (fsR s), vs n] [] R := by
 refine aa (an := S7) tab_ok Tryz.func100 ?_;obtain ⟨h1, h2, h3, h4⟩ := hs;obtain ⟨m, fail, fall, down⟩ := s;have h1 : m.length < 900000 := h1;conv=>whnf
 refine fR ⟨m, fail, fall, down⟩ (by show m.length < _; omega) n ?_
 cases down with
 | true =>
  unfold FSt.rremove at h;rw [aaz (by rw [m8 rfl]; decide), m8 rfl] at h;conv=>whnf
  exact h
 | false =>
  by_cases hin : n ∈ kys m
  ·unfold FSt.rremove at h;rw [aap (by rw [vW rfl hin]; decide)] at h;have h : R (.tup [.agg (fsR ((FSt.mk m fail fall false).act false fun _ => wF m n).1), vi ((FSt.mk m fail fall false).act false fun _ => wF m n).2]) [] := h;rw [show decide (n ∈ kys (FSt.mk m fail fall false).fs) = true from aaa hin];conv=>whnf
   refine oI ⟨m, fail, fall, false⟩ (by show m.length < _; omega) n ?_;conv=>whnf
   refine nK ⟨m, fail, fall, false⟩ (wF m n) false h3 h4 ?_;generalize (FSt.mk m fail fall false).act false (fun _ => wF m n) = se at h ⊢;obtain ⟨s2, e⟩ := se;conv=>whnf
   exact h
  ·unfold FSt.rremove at h;rw [aaz (by rw [m7 rfl hin]; decide), m7 rfl hin] at h;rw [show decide (n ∈ kys (FSt.mk m fail fall false).fs) = false from aai hin];conv=>whnf
   exact h
end Go.Abs
end
section
namespace Go.Abs
open Go Go.Proofs Dig
attribute [local irreducible] aH aD aO firstIdx
theorem nC (n k : Nat) : ((n : Nat) : Int).tmod (k : Int) = ((n % k : Nat) : Int) := by
 rw [Int.tmod_eq_emod_of_nonneg (abe _)];exact (Int.natCast_emod n k).symm
theorem u2 (n k : Nat) : ((n : Nat) : Int).tdiv (k : Int) = ((n / k : Nat) : Int) := by
 rw [Int.tdiv_eq_ediv_of_nonneg (abe _)];exact (Int.natCast_ediv n k).symm
theorem iQ {n : Nat} (h : n < 18446744073709551616) : IntKind.u64.wrap ((n : Nat) : Int) = (n : Int) := by
 show (n : Int) % 18446744073709551616 = _;omega
theorem Je {n : Nat} (h : n < 4294967296) : IntKind.u32.wrap ((n : Nat) : Int) = (n : Int) := by
 show (n : Int) % 4294967296 = _;omega
theorem bg : ∀ (n : Nat), n < 18446744073709551616 → ∀ {R : AV → List aE → Prop}, R (vs (vrn n)) [] → ag Tryz.prog 232 [.val (.int .u64 (n : Int))] [] R := by
 intro n
 induction n using Nat.strongRecOn with
 | ind n ih =>
 intro hn R h;refine aa (an := RA) tab_ok Tryz.func232 ?_;conv=>whnf
 refine ae (fun g => ?_) (fun g => ?_)
 ·have g : n < 128 := by have := aal g; omega
  rw [d9 g] at h;conv=>whnf
  rw [kf, show n % 256 = n by omega];refine ⟨[(((UInt8.ofNat n).toNat : Nat) : Int)], rfl, ?_⟩;have e := fQ [UInt8.ofNat n];rw [show strOfNums [(((UInt8.ofNat n).toNat : Nat) : Int)] = ofB [UInt8.ofNat n] from e];conv=>whnf
  exact h
 ·have g : ¬ n < 128 := by have := aat g; omega
  rw [uF g] at h;have e1 : IntKind.u8.wrap (IntKind.u8.wrap ((n : Int).tmod 128) + 128) = (((UInt8.ofNat (n % 128 + 128)).toNat : Nat) : Int) := by
   rw [show (n : Int).tmod 128 = ((n % 128 : Nat) : Int) from nC n 128, sL (by omega)];show (((n % 128 : Nat) : Int) % 256 + 128) % 256 = _;omega
  have e2 : (n : Int).tdiv 128 = ((n / 128 : Nat) : Int) := u2 n 128;have hl := ct (n := n / 128) (by omega);conv=>whnf
  rw [e1];refine ⟨[(((UInt8.ofNat (n % 128 + 128)).toNat : Nat) : Int)], rfl, ?_⟩;have e := fQ [UInt8.ofNat (n % 128 + 128)];rw [show strOfNums [(((UInt8.ofNat (n % 128 + 128)).toNat : Nat) : Int)] = ofB [UInt8.ofNat (n % 128 + 128)] from e];conv=>whnf
  rw [e2, iQ (by omega)];refine ih (n / 128) (by omega) (by omega) ?_;conv=>whnf
  refine ac (aaa (by rw [aG, aG]; simp; omega)) ?_;rw [bi];conv=>whnf
  exact h
theorem p4 (s : B) (hs : s.length < 10000000) {R} (h : R (vs (a8 s)) []) : ag Tryz.prog 234 [vs s] [] R := by
 refine aa (an := Ry) tab_ok Tryz.func234 ?_;have hv := ct (n := s.length) (by omega);unfold a8 at h;conv=>whnf
 rw [aG, iQ (by omega)];refine bg s.length (by omega) ?_;conv=>whnf
 refine ac (aaa (by rw [aG, aG]; omega)) ?_;rw [bi];conv=>whnf
 exact h
theorem i5 (x : Crc.W) {R} (h : R (vs (w4 x.toNat)) []) : ag Tryz.prog 228 [wv x] [] R := by
 refine aa (an := RD) tab_ok Tryz.func228 ?_;have hx : x.toNat < 4294967296 := x.isLt;unfold wv;generalize x.toNat = n at h hx ⊢;conv=>whnf
 rw [show (n : Int).tmod 256 = ((n % 256 : Nat) : Int) from nC n 256, show (n : Int).tdiv 256 = ((n / 256 : Nat) : Int) from u2 n 256, show (n : Int).tdiv 65536 = ((n / 65536 : Nat) : Int) from u2 n 65536, show (n : Int).tdiv 16777216 = ((n / 16777216 : Nat) : Int) from u2 n 16777216,
  Je (n := n / 256) (by omega), Je (n := n / 65536) (by omega), Je (n := n / 16777216) (by omega), show ((n / 256 : Nat) : Int).tmod 256 = ((n / 256 % 256 : Nat) : Int) from nC _ 256, show ((n / 65536 : Nat) : Int).tmod 256 = ((n / 65536 % 256 : Nat) : Int) from nC _ 256]
 rw [kf (n := n % 256), kf (n := n / 256 % 256), kf (n := n / 65536 % 256), kf (n := n / 16777216), Nat.mod_mod, Nat.mod_mod, Nat.mod_mod];obtain ⟨ns, n1, n2⟩ := gR (w4 n);refine ⟨ns, n1, ?_⟩;rw [n2];conv=>whnf
 exact h
theorem pZ (p : B) (h1 : 1 ≤ p.length) (h2 : p.length ≤ 2048) {R} (h : R (.tup [vs (bl p), vi 0]) []) : ag Tryz.prog 186 [vs p] [] R := by
 refine aa (an := R3) tab_ok Tryz.func186 ?_;have hne : ofB p ≠ ofB [] := fun e => by have := bZ e; rw [this] at h1; simp at h1
 have hv := ct (n := p.length) (by omega);have hbl : (a8 p).length ≤ 2058 := by unfold a8; rw [aac]; omega
 unfold bl gG at h;conv=>whnf
 refine ak (aai hne) ?_;conv=>whnf
 refine ak (aai (by rw [aG]; omega)) ?_;conv=>whnf
 refine p4 p (by omega) ?_;generalize a8 p = b at h hbl ⊢;conv=>whnf
 refine kI b (by omega) ?_;conv=>whnf
 refine i5 _ ?_;have hw := dE (Crc.sum b).toNat;conv=>whnf
 refine ac (aaa (by rw [aG, aG]; omega)) ?_;rw [bi];conv=>whnf
 exact h
theorem vt {v : Int} (h1 : 1 ≤ v) (h3 : v ≤ 3) {R} (h : R (.tup [vs (dG v), vi 0]) []) : ag Tryz.prog 184 [vi v] [] R := by
 refine aa (an := NE) tab_ok Tryz.func184 ?_;have e1 : IntKind.u8.wrap v = (((UInt8.ofNat v.toNat).toNat : Nat) : Int) := by
  rw [sL (by omega)];show v % 256 = _;omega
 unfold dG gG at h;conv=>whnf
 refine ak (aai (by omega)) ?_;conv=>whnf
 refine ak (aai (by omega)) ?_;conv=>whnf
 rw [e1];refine ⟨[(((UInt8.ofNat v.toNat).toNat : Nat) : Int)], rfl, ?_⟩;have e := fQ [UInt8.ofNat v.toNat];rw [show strOfNums [(((UInt8.ofNat v.toNat).toNat : Nat) : Int)] = ofB [UInt8.ofNat v.toNat] from e];conv=>whnf
 have e3 : (⟨#[84, 80, 72]⟩ : ByteArray) = ofB [84, 80, 72] := rfl;rw [e3, bi];obtain ⟨b, hb⟩ : ∃ b, b = iU v := ⟨_, rfl⟩;have hb2 : [84, 80, 72] ++ [UInt8.ofNat v.toNat] = b := hb.symm;have hl : b.length = 4 := by rw [hb]; rfl
 rw [← hb] at h;rw [hb2];clear hb hb2 e e1 e3;conv=>whnf
 refine kI b (by omega) ?_;conv=>whnf
 refine i5 _ ?_;have hw := dE (Crc.sum b).toNat;conv=>whnf
 refine ac (aaa (by rw [aG, aG]; omega)) ?_;rw [bi];conv=>whnf
 exact h
theorem qC {T : List B} {s : B} (h : s ∈ T) : gp T s = ((T.idxOf s : Nat) : Int) := by
 have h1 : T[T.idxOf s]? = some s := by rw [aad (abB h), List.getElem_idxOf]
 have h2 : ∀ j, j < T.idxOf s → T[j]? ≠ some s := fun j hj e => by
  obtain ⟨hl, e⟩ := List.getElem?_eq_some_iff.1 e;have := List.not_of_lt_findIdx hj;simp [e] at this
 unfold gp;rw [ly h1 h2]
theorem ma (l : List B) (s : B) (hl : l.length < 1000000) {R} (h : R (.sl none 1 (bj (cL l s))) []) : ag Tryz.prog 231 [.sl none 1 (bj l), vs s] [] R := by
 refine aa (an := NA) tab_ok Tryz.func231 ?_;have hsl := aF l;conv=>whnf
 refine fM l s hl rfl fun p hp => ?_;conv=>whnf
 refine ae (fun g => ?_) (fun g => ?_)
 ·have hm : s ∈ l := by
   have : 0 ≤ p := by simpa using g
   rw [hp] at this;exact Classical.byContradiction fun e => by have := cG.2 e; omega
  rw [dJ hm] at h;conv=>whnf
  exact h
 ·have hm : s ∉ l := by
   have : p < 0 := by simpa using g
   rw [hp] at this;exact cG.1 this
  rw [du hm] at h;conv=>whnf
  refine ⟨rfl, (by rw [cg, hsl]; simp only [aaj]; omega), ?_⟩;conv=>whnf
  refine ⟨by simp, (by rw [cg]; simp only [aac, aag, aaj, hsl]; omega), ?_⟩;conv=>whnf
  rw [show [] ++ bj l ++ [[AV.val (Value.string (ofB s))]] = bj (l ++ [s]) from by simp [bj, vs]];exact h
theorem u3 (l : List B) (hl : l.length < 1000000) {R} (h : R (.sl none 1 (bj (mS l))) []) : ag Tryz.prog 258 [.sl none 1 (bj l)] [] R := by
 refine aa (an := Rk) tab_ok Tryz.func258 ?_;have hsl := aF l;conv=>whnf
 refine aq.ind2 (fun (i : Nat) (t : List B) => [(3, .sl none 1 (bj t)), (4, vi i)]) (fun i t => []) (fun i _ => l.length - i) (fun i t => i ≤ l.length ∧ t.length ≤ i ∧ t = mS (l.take i)) 0 [] rfl ⟨by omega, by simp, rfl⟩ ?_;rintro i t ⟨h0, h1, h2⟩ IH;conv=>whnf
 refine ae (fun hc => ?_) (fun hc => ?_)
 ·have hi := ap hsl hc
  (conv=>whnf); (repeat ((with_reducible refine ac ?_ ?_); exact aaa (by omega); (conv=>whnf)))
  refine idxNat (by simpa using hi) ?_;conv=>whnf
  refine ma t l[i] (by omega) ?_;have hn : cL t l[i] = mS (l.take (i + 1)) := by
   rw [h2, aab hi];unfold mS;rw [abn];rfl
  have IH := IH (i + 1) (cL t l[i]) ⟨hi, by have := Bn t l[i]; omega, hn⟩ (by omega);conv=>whnf
  rw [am (by omega)];exact IH
 ·have hi := au hsl hc;rw [aae hi] at h2;subst h2;conv=>whnf
  exact h
theorem oU (r : Rc) (hd : r.deps.length < 50000) {R} (h : R (.sl none 1 (bj (bf r))) []) : ag Tryz.prog 230 [.agg r.enc] [] R := by
 refine aa (an := RB) tab_ok Tryz.func230 ?_;have hsl := bD r.deps;have hN : bf r = mS (bI r) := rfl;conv=>whnf
 refine aq.ind1 (fun (i : Nat) => [(3, .sl (some (al 7)) 1 (bj (r.target :: (r.deps.take i).map (·.name)))), (4, vi i)]) (fun i => [(al 7, .row 9 1 (i + 1))]) (fun i => r.deps.length - i) (fun i => i ≤ r.deps.length) 0 rfl (by omega) ?_;rintro i h0 IH;have hnl : (bj (r.target :: (r.deps.take i).map (·.name))).length = i + 1 := by rw [aF]; simp; omega
 conv=>whnf
 refine ae (fun hc => ?_) (fun hc => ?_)
 ·have hc := ap hsl hc;have IH := IH (i + 1) hc (by omega);have e1 : bj (r.target :: (r.deps.take i).map (·.name)) ++ [[vs r.deps[i].name]] = bj (r.target :: (r.deps.take (i + 1)).map (·.name)) := by rw [← tI r i hc, dv]; rfl
  rw [← e1] at IH
  (conv=>whnf); (repeat ((with_reducible refine ac ?_ ?_); exact aaa (by omega); (conv=>whnf)))
  refine idxNat (by simpa using hc) ?_;generalize r.deps[i] = d at IH e1 ⊢;conv=>whnf
  refine ⟨hnl.symm, by rw [hnl, cg]; simp; omega, ?_⟩;conv=>whnf
  rw [am (by omega), hnl];exact IH
 ·have hc := au hsl hc;have e : i = r.deps.length := by omega
  subst e;rw [aax] at hnl ⊢;have hdl : (r.deps.map (·.name)).length = r.deps.length := by simp
  conv=>whnf
  refine ae (fun g => ?_) (fun g => ?_)
  ·have g : r.tag ≠ [] := by
    have g : (!decide (ofB r.tag = ofB [])) = true := g;intro e;rw [e] at g;simp at g
   have hT : bI r = r.target :: (r.deps.map (·.name) ++ [r.tag]) := by simp [bI, g]
   have e1 : bj (r.target :: r.deps.map (·.name)) ++ [[vs r.tag]] = bj (bI r) := by
    rw [hT, ← aav, dv]; rfl
   have htl := qs r;conv=>whnf
   refine ⟨hnl.symm, by rw [hnl, cg]; simp; omega, ?_⟩;conv=>whnf
   refine (show ag Tryz.prog 258 [.sl none 1 (bj (r.target :: r.deps.map (·.name)) ++ [[vs r.tag]])] [] _ from ?_);rw [e1];refine u3 (bI r) (by omega) ?_;conv=>whnf
   exact h
  ·have g : r.tag = [] := by
    have g : (!decide (ofB r.tag = ofB [])) = false := g;have g : ofB r.tag = ofB [] := by simpa using g
    exact bZ g
   have hT : bI r = r.target :: r.deps.map (·.name) := by simp [bI, g]
   rw [← hT];have htl := qs r;conv=>whnf
   refine u3 (bI r) (by omega) ?_;conv=>whnf
   exact h
theorem eU {v : Int} (T : List B) (hT : T.length < 1000000) (s : B) (hs : v ≠ 1 → s ∈ T) (hl : s.length < 1000000) {R} (h : R (vs (cX v T s)) []) : ag Tryz.prog 233 [vi v, .sl none 1 (bj T), vs s] [] R := by
 refine aa (an := Rz) tab_ok Tryz.func233 ?_;unfold cX at h;by_cases hv : v = 1
 ·subst hv;rw [aaz rfl] at h;conv=>whnf
  refine p4 s (by omega) ?_;conv=>whnf
  exact h
 ·rw [aap hv] at h;have hi := abB (hs hv);conv=>whnf
  refine ak (by simpa using hv) ?_;conv=>whnf
  refine fM T s hT rfl fun p hp => ?_;rw [qC (hs hv)] at hp;subst hp;conv=>whnf
  rw [iQ (by omega)];refine bg _ (by omega) ?_;conv=>whnf
  exact h
end Go.Abs
end
