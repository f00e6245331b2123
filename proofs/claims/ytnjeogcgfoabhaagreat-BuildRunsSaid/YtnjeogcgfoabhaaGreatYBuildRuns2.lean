/- Several texts of this claim, one behind the other: H4, H5, H7, H8, H9, G5, HA, EG, J2, HB, ZC, ZB, ZD, N1, K1, N2, K2, L1, E8, L2, L3, L4, N4, N5, N3, L5, M1, M4, N6, N7, N8, P1. -/
import Derived.Test.YtnjeogcgfoabhaaGreatYBuildRuns1
import Derived.Sort.Walk0
import Derived.Test.YtnjeogcgfoabhaaGreatE0BA
import Derived.RangeFuncBound
import Derived.RangeFuncGives
import Derived.RangeFuncSeq
import Derived.Sort.MapsRangeIn
import Derived.Sort.KeysCollected
import Derived.Sort.OwnSorted
import Derived.Maps.AppendAt
import Derived.Shelf.Abstract
import Derived.WalkKit
import Derived.OwnWalkIn
import Derived.TacticsInMore
import Derived.RegionIn
import Derived.LoopNIn
import Derived.LoopIn
import Derived.Shelf.RegionOpenPlain
import Derived.Lib.Builder
import Derived.Lib.UnsafeStr
import Derived.Lib.Strings
import Derived.Lib.Slices
import Derived.Lib.Walk
import Derived.Laws.Externs
import Derived.MapKept
import Derived.Lib.SliceRun
import Derived.Lib.AppendZerosOnto
set_option maxRecDepth 100000
set_option maxHeartbeats 4000000
set_option linter.unusedVariables false
set_option linter.unusedSimpArgs false
section
namespace Go.Abs
open Go Go.Proofs Dig
attribute [local irreducible] aH aD aO firstIdx
theorem Ht (mp : iP) (r : Rc) (hr : r.deps.length < 1000000) {R} (h : R (.tup []) [.map (mz (qA mp r))]) : ag Tryz.prog 134 [.mapv 0, .agg r.enc] [.map (mz mp)] R := by
 refine aa (an := SE) tab_ok Tryz.func134 ?_;conv=>whnf
 refine ae (fun h1 => ?_) (fun h1 => ?_)
 ·have h1 : r.kind = 1 := by simpa using h1
  rw [qA, aaz h1, JA] at h;conv=>whnf
  refine fN r hr ?_;conv=>whnf
  exact h
 have h1 : ¬ r.kind = 1 := by simpa using h1
 conv=>whnf
 refine ae (fun h2 => ?_) (fun h2 => ?_)
 ·have h2 : r.kind = 2 := by simpa using h2
  rw [qA, aap h1, aaz h2, JB] at h;conv=>whnf
  exact h
 ·have h2 : ¬ r.kind = 2 := by simpa using h2
  rw [qA, aap h1, aap h2] at h;conv=>whnf
  exact h
theorem Ma (l : List Rc) : (ofM l).length ≤ l.length := by
 have hp : ∀ (mp : iP) (k : B) (r : Rc), (sU mp k r).length ≤ mp.length + 1 := by
  intro mp k r
  induction mp with
  | nil => simp [sU]
  | cons p mp ih => simp only [sU]; split <;> simp; omega
 have hd : ∀ (mp : iP) (k : B), (tj mp k).length ≤ mp.length := by
  intro mp k
  induction mp with
  | nil => simp [tj]
  | cons p mp ih => simp only [tj]; split <;> simp; omega
 have : ∀ (l : List Rc) (mp : iP), (l.foldl qA mp).length ≤ mp.length + l.length := by
  intro l
  induction l with
  | nil => intro mp; simp
  | cons r l ih =>
   intro mp;have h1 := ih (qA mp r);have h2 : (qA mp r).length ≤ mp.length + 1 := by
    unfold qA;split
    ·exact hp _ _ _
    ·split
     ·have := hd mp r.target; omega
     ·omega
   simp only [aaQ, aag];omega
 simpa [ofM] using this l []
theorem FI (l : List Rc) (hl : l.length < 1000000) (hd : ∀ r ∈ l, r.deps.length < 1000000) {R} (h : R (.sl none 7 (be (ay l))) []) : ag Tryz.prog 93 [.sl none 7 (be l)] [] R := by
 refine aa (an := Uj) tab_ok Tryz.func93 ?_;have hsl := bd l;conv=>whnf
 refine aq.ind2 (fun (i : Nat) (mp : iP) => [(9, vi i)]) (fun i mp => [(al 6, .map (mz mp))]) (fun i _ => l.length - i) (fun i mp => i ≤ l.length ∧ mp = ofM (l.take i)) 0 [] rfl ⟨by omega, rfl⟩ ?_;rintro i mp ⟨h0, hm⟩ IH;conv=>whnf
 refine ae (fun hc => ?_) (fun hc => ?_)
 ·have hc := ap hsl hc
  (conv=>whnf); (repeat ((with_reducible refine ac ?_ ?_); exact aaa (by omega); (conv=>whnf)))
  refine idxNat (by simpa using hc) ?_;conv=>whnf
  refine Ht mp l[i] (hd _ (aaf hc)) ?_;conv=>whnf
  rw [am (by omega)];refine IH (i + 1) (qA mp l[i]) ⟨by omega, ?_⟩ (by omega);rw [aab hc, ofM, abn, hm]; rfl
 ·have hc := au hsl hc;rw [aae hc] at hm;have hml := Ma l;rw [← hm] at hml;conv=>whnf
  refine zl mp (by omega) fun ks h1 h2 => ?_;rw [Dz (by rw [hm]; exact GF l) h1 h2];conv=>whnf
  exact h
theorem Az (S : List Rc) (hS : S.length < 1000000) (r : Rc) (hr : r.target.length < 1000000) (hT : ∀ s ∈ S, s.target.length < 1000000) {R} (h : R (.sl none 7 (be (cI S r))) []) : ag Tryz.prog 149 [.sl none 7 (be S), .agg r.enc] [] R := by
 refine aa (an := Su) tab_ok Tryz.func149 ?_;have hsl := bd S;conv=>whnf
 refine ae (fun h1 => ?_) (fun h1 => ?_)
 ·have h1 : r.kind ≠ 1 := by simpa using h1
  conv=>whnf
  refine ae (fun h2 => ?_) (fun h2 => ?_)
  ·have h2 : r.kind ≠ 2 := by simpa using h2
   rw [cI, aaz ⟨h1, h2⟩] at h;conv=>whnf
   exact h
  ·have h2 : r.kind = 2 := by simpa using h2
   have hk : ¬ (r.kind ≠ 1 ∧ r.kind ≠ 2) := fun e => e.2 h2;have hput : cI S r = bM r (r.kind == 2) S := by
    rw [cI, aap hk];congr 1
   rw [hput] at h;conv=>whnf
   refine aq.ind3 (fun (i : Nat) (out : List Rc) (laid : Bool) => [(5, .sl (some (al 17)) 7 (be out)), (6, .val (.bool laid)), (7, vi i)]) (fun i out laid => [(al 17, .row 67 7 out.length)])
    (fun i _ _ => S.length - i) (fun i out laid => i ≤ S.length ∧ out.length ≤ 2 * i ∧ out ++ bM r laid (S.drop i) = bM r (r.kind == 2) S) 0 [] (r.kind == 2) rfl ⟨by omega, by simp, by simp⟩ ?_
   rintro i out laid ⟨h0, hlen, hD⟩ IH;have hol := bd out;conv=>whnf
   refine ae (fun hc => ?_) (fun hc => ?_)
   ·have hc := ap hsl hc;have hti := hT _ (aaf hc);rw [aao hc, bM] at hD
    cases laid
    ·simp only [abj, aaI, abv] at hD
     (conv=>whnf); (repeat ((with_reducible refine ac ?_ ?_); exact aaa (by omega); (conv=>whnf)))
     refine idxNat (by simpa using hc) ?_;conv=>whnf
     refine oo r.target S[i].target hr hti fun p hp => ?_;rw [← hp] at hD;conv=>whnf
     refine ae (fun hb => ?_) (fun hb => ?_)
     ·rw [hb] at hD;conv=>whnf
      refine ⟨hol.symm, (by rw [hol]; show (out.length + 1) * (88 + 1) ≤ _; omega), ?_⟩;conv=>whnf
      have e1 : be out ++ [[AV.val (Value.int IntKind.i64 r.kind), AV.val (Value.string (ofB r.target)), AV.val (Value.int IntKind.u64 (r.rule.toNat : Int)), AV.sl none 3 (dO r.deps), AV.val (Value.int IntKind.u64 (r.out.toNat : Int)), AV.val (Value.int IntKind.u64 (r.wen.toNat : Int)), AV.val (Value.string (ofB r.tag))]] = be (out ++ [r]) := by simp [be, Rc.enc, vi, vs, uv]
      have e2 : (be out).length + [[AV.val (Value.int IntKind.i64 r.kind), AV.val (Value.string (ofB r.target)), AV.val (Value.int IntKind.u64 (r.rule.toNat : Int)), AV.sl none 3 (dO r.deps), AV.val (Value.int IntKind.u64 (r.out.toNat : Int)), AV.val (Value.int IntKind.u64 (r.wen.toNat : Int)), AV.val (Value.string (ofB r.tag))]].length = (out ++ [r]).length := by simp [hol]
      rw [e1, e2];generalize hq : out ++ [r] = out2;obtain ⟨laid2, hlaid2⟩ : ∃ l : Bool, l = true := ⟨true, rfl⟩;have hlen2 : out2.length ≤ 2 * i + 1 := by rw [← hq]; simp; omega
      have hD2 : out2 ++ ((if S[i].target = r.target then [] else [S[i]]) ++ bM r laid2 (S.drop (i + 1))) = bM r (r.kind == 2) S := by
       rw [← hD, ← hq, hlaid2]; simp
      have hol2 := bd out2
      (conv=>whnf); (repeat ((with_reducible refine ac ?_ ?_); exact aaa (by omega); (conv=>whnf)))
      refine idxNat (by simpa using hc) ?_;conv=>whnf
      refine ae (fun hne => ?_) (fun hne => ?_)
      ·have hne : ¬ S[i].target = r.target := by simpa [bG] using hne
       rw [aap hne] at hD2
       (conv=>whnf); (repeat ((with_reducible refine ac ?_ ?_); exact aaa (by omega); (conv=>whnf)))
       refine idxNat (by simpa using hc) ?_;conv=>whnf
       refine ⟨hol2.symm, (by rw [hol2]; show (out2.length + 1) * (88 + 1) ≤ _; omega), ?_⟩;conv=>whnf
       have e1 : be (out2 ++ [S[i]]) = be out2 ++ [S[i].enc] := by simp [be]
       have e2 : (out2 ++ [S[i]]).length = (be out2).length + [S[i].enc].length := by simp [hol2]
       have := IH (i + 1) (out2 ++ [S[i]]) laid2 ⟨by omega, by simp; omega, by rw [← hD2]; simp⟩ (by omega);rw [e1, e2] at this;rw [am (by omega)];subst hlaid2;exact this
      ·have hne : S[i].target = r.target := by simpa [bG] using hne
       rw [aaz hne] at hD2;conv=>whnf
       rw [am (by omega)];have := IH (i + 1) out2 laid2 ⟨by omega, by omega, by rw [← hD2]; simp⟩ (by omega);subst hlaid2;exact this
     ·rw [hb] at hD;obtain ⟨laid2, hlaid2⟩ : ∃ l : Bool, l = false := ⟨false, rfl⟩;obtain ⟨out2, hq⟩ : ∃ o, o = out := ⟨_, rfl⟩;have hlen2 : out2.length ≤ 2 * i + 1 := by rw [hq]; omega
      have hD2 : out2 ++ ((if S[i].target = r.target then [] else [S[i]]) ++ bM r laid2 (S.drop (i + 1))) = bM r (r.kind == 2) S := by
       rw [← hD, hq, hlaid2]; simp
      rw [← hq];have hol2 := bd out2
      (conv=>whnf); (repeat ((with_reducible refine ac ?_ ?_); exact aaa (by omega); (conv=>whnf)))
      refine idxNat (by simpa using hc) ?_;conv=>whnf
      refine ae (fun hne => ?_) (fun hne => ?_)
      ·have hne : ¬ S[i].target = r.target := by simpa [bG] using hne
       rw [aap hne] at hD2
       (conv=>whnf); (repeat ((with_reducible refine ac ?_ ?_); exact aaa (by omega); (conv=>whnf)))
       refine idxNat (by simpa using hc) ?_;conv=>whnf
       refine ⟨hol2.symm, (by rw [hol2]; show (out2.length + 1) * (88 + 1) ≤ _; omega), ?_⟩;conv=>whnf
       have e1 : be (out2 ++ [S[i]]) = be out2 ++ [S[i].enc] := by simp [be]
       have e2 : (out2 ++ [S[i]]).length = (be out2).length + [S[i].enc].length := by simp [hol2]
       have := IH (i + 1) (out2 ++ [S[i]]) laid2 ⟨by omega, by simp; omega, by rw [← hD2]; simp⟩ (by omega);rw [e1, e2] at this;rw [am (by omega)];subst hlaid2;exact this
      ·have hne : S[i].target = r.target := by simpa [bG] using hne
       rw [aaz hne] at hD2;conv=>whnf
       rw [am (by omega)];have := IH (i + 1) out2 laid2 ⟨by omega, by omega, by rw [← hD2]; simp⟩ (by omega);subst hlaid2;exact this
    ·simp only [Bool.not_true, Bool.false_and, Bool.or_false, abQ, aaW, aam] at hD;obtain ⟨laid2, hlaid2⟩ : ∃ l : Bool, l = true := ⟨true, rfl⟩;obtain ⟨out2, hq⟩ : ∃ o, o = out := ⟨_, rfl⟩;have hlen2 : out2.length ≤ 2 * i + 1 := by rw [hq]; omega
     have hD2 : out2 ++ ((if S[i].target = r.target then [] else [S[i]]) ++ bM r laid2 (S.drop (i + 1))) = bM r (r.kind == 2) S := by
      rw [← hD, hq, hlaid2]
     rw [← hq];have hol2 := bd out2
     (conv=>whnf); (repeat ((with_reducible refine ac ?_ ?_); exact aaa (by omega); (conv=>whnf)))
     refine idxNat (by simpa using hc) ?_;conv=>whnf
     refine ae (fun hne => ?_) (fun hne => ?_)
     ·have hne : ¬ S[i].target = r.target := by simpa [bG] using hne
      rw [aap hne] at hD2
      (conv=>whnf); (repeat ((with_reducible refine ac ?_ ?_); exact aaa (by omega); (conv=>whnf)))
      refine idxNat (by simpa using hc) ?_;conv=>whnf
      refine ⟨hol2.symm, (by rw [hol2]; show (out2.length + 1) * (88 + 1) ≤ _; omega), ?_⟩;conv=>whnf
      have e1 : be (out2 ++ [S[i]]) = be out2 ++ [S[i].enc] := by simp [be]
      have e2 : (out2 ++ [S[i]]).length = (be out2).length + [S[i].enc].length := by simp [hol2]
      have := IH (i + 1) (out2 ++ [S[i]]) laid2 ⟨by omega, by simp; omega, by rw [← hD2]; simp⟩ (by omega);rw [e1, e2] at this;rw [am (by omega)];subst hlaid2;exact this
     ·have hne : S[i].target = r.target := by simpa [bG] using hne
      rw [aaz hne] at hD2;conv=>whnf
      rw [am (by omega)];have := IH (i + 1) out2 laid2 ⟨by omega, by omega, by rw [← hD2]; simp⟩ (by omega);subst hlaid2;exact this
   ·have hc := au hsl hc;rw [aay hc] at hD
    cases laid
    ·conv=>whnf
     refine ⟨hol.symm, (by rw [hol]; show (out.length + 1) * (88 + 1) ≤ _; omega), ?_⟩;conv=>whnf
     have e1 : be out ++ [r.enc] = be (bM r (r.kind == 2) S) := by rw [← hD]; simp [be, bM]
     rw [← e1] at h;exact h
    ·conv=>whnf
     rw [show be out = be (bM r (r.kind == 2) S) by rw [← hD]; simp [bM]];exact h
 ·have h1 : r.kind = 1 := by simpa using h1
  have hk : ¬ (r.kind ≠ 1 ∧ r.kind ≠ 2) := fun e => e.1 h1;have hput : cI S r = bM r (r.kind == 2) S := by
   rw [cI, aap hk];congr 1
  rw [hput] at h;conv=>whnf
  refine aq.ind3 (fun (i : Nat) (out : List Rc) (laid : Bool) => [(5, .sl (some (al 17)) 7 (be out)), (6, .val (.bool laid)), (7, vi i)]) (fun i out laid => [(al 17, .row 67 7 out.length)])
   (fun i _ _ => S.length - i) (fun i out laid => i ≤ S.length ∧ out.length ≤ 2 * i ∧ out ++ bM r laid (S.drop i) = bM r (r.kind == 2) S) 0 [] (r.kind == 2) rfl ⟨by omega, by simp, by simp⟩ ?_
  rintro i out laid ⟨h0, hlen, hD⟩ IH;have hol := bd out;conv=>whnf
  refine ae (fun hc => ?_) (fun hc => ?_)
  ·have hc := ap hsl hc;have hti := hT _ (aaf hc);rw [aao hc, bM] at hD
   cases laid
   ·simp only [abj, aaI, abv] at hD
    (conv=>whnf); (repeat ((with_reducible refine ac ?_ ?_); exact aaa (by omega); (conv=>whnf)))
    refine idxNat (by simpa using hc) ?_;conv=>whnf
    refine oo r.target S[i].target hr hti fun p hp => ?_;rw [← hp] at hD;conv=>whnf
    refine ae (fun hb => ?_) (fun hb => ?_)
    ·rw [hb] at hD;conv=>whnf
     refine ⟨hol.symm, (by rw [hol]; show (out.length + 1) * (88 + 1) ≤ _; omega), ?_⟩;conv=>whnf
     have e1 : be out ++ [[AV.val (Value.int IntKind.i64 r.kind), AV.val (Value.string (ofB r.target)), AV.val (Value.int IntKind.u64 (r.rule.toNat : Int)), AV.sl none 3 (dO r.deps), AV.val (Value.int IntKind.u64 (r.out.toNat : Int)), AV.val (Value.int IntKind.u64 (r.wen.toNat : Int)), AV.val (Value.string (ofB r.tag))]] = be (out ++ [r]) := by simp [be, Rc.enc, vi, vs, uv]
     have e2 : (be out).length + [[AV.val (Value.int IntKind.i64 r.kind), AV.val (Value.string (ofB r.target)), AV.val (Value.int IntKind.u64 (r.rule.toNat : Int)), AV.sl none 3 (dO r.deps), AV.val (Value.int IntKind.u64 (r.out.toNat : Int)), AV.val (Value.int IntKind.u64 (r.wen.toNat : Int)), AV.val (Value.string (ofB r.tag))]].length = (out ++ [r]).length := by simp [hol]
     rw [e1, e2];generalize hq : out ++ [r] = out2;obtain ⟨laid2, hlaid2⟩ : ∃ l : Bool, l = true := ⟨true, rfl⟩;have hlen2 : out2.length ≤ 2 * i + 1 := by rw [← hq]; simp; omega
     have hD2 : out2 ++ ((if S[i].target = r.target then [] else [S[i]]) ++ bM r laid2 (S.drop (i + 1))) = bM r (r.kind == 2) S := by
      rw [← hD, ← hq, hlaid2]; simp
     have hol2 := bd out2
     (conv=>whnf); (repeat ((with_reducible refine ac ?_ ?_); exact aaa (by omega); (conv=>whnf)))
     refine idxNat (by simpa using hc) ?_;conv=>whnf
     refine ae (fun hne => ?_) (fun hne => ?_)
     ·have hne : ¬ S[i].target = r.target := by simpa [bG] using hne
      rw [aap hne] at hD2
      (conv=>whnf); (repeat ((with_reducible refine ac ?_ ?_); exact aaa (by omega); (conv=>whnf)))
      refine idxNat (by simpa using hc) ?_;conv=>whnf
      refine ⟨hol2.symm, (by rw [hol2]; show (out2.length + 1) * (88 + 1) ≤ _; omega), ?_⟩;conv=>whnf
      have e1 : be (out2 ++ [S[i]]) = be out2 ++ [S[i].enc] := by simp [be]
      have e2 : (out2 ++ [S[i]]).length = (be out2).length + [S[i].enc].length := by simp [hol2]
      have := IH (i + 1) (out2 ++ [S[i]]) laid2 ⟨by omega, by simp; omega, by rw [← hD2]; simp⟩ (by omega);rw [e1, e2] at this;rw [am (by omega)];subst hlaid2;exact this
     ·have hne : S[i].target = r.target := by simpa [bG] using hne
      rw [aaz hne] at hD2;conv=>whnf
      rw [am (by omega)];have := IH (i + 1) out2 laid2 ⟨by omega, by omega, by rw [← hD2]; simp⟩ (by omega);subst hlaid2;exact this
    ·rw [hb] at hD;obtain ⟨laid2, hlaid2⟩ : ∃ l : Bool, l = false := ⟨false, rfl⟩;obtain ⟨out2, hq⟩ : ∃ o, o = out := ⟨_, rfl⟩;have hlen2 : out2.length ≤ 2 * i + 1 := by rw [hq]; omega
     have hD2 : out2 ++ ((if S[i].target = r.target then [] else [S[i]]) ++ bM r laid2 (S.drop (i + 1))) = bM r (r.kind == 2) S := by
      rw [← hD, hq, hlaid2]; simp
     rw [← hq];have hol2 := bd out2
     (conv=>whnf); (repeat ((with_reducible refine ac ?_ ?_); exact aaa (by omega); (conv=>whnf)))
     refine idxNat (by simpa using hc) ?_;conv=>whnf
     refine ae (fun hne => ?_) (fun hne => ?_)
     ·have hne : ¬ S[i].target = r.target := by simpa [bG] using hne
      rw [aap hne] at hD2
      (conv=>whnf); (repeat ((with_reducible refine ac ?_ ?_); exact aaa (by omega); (conv=>whnf)))
      refine idxNat (by simpa using hc) ?_;conv=>whnf
      refine ⟨hol2.symm, (by rw [hol2]; show (out2.length + 1) * (88 + 1) ≤ _; omega), ?_⟩;conv=>whnf
      have e1 : be (out2 ++ [S[i]]) = be out2 ++ [S[i].enc] := by simp [be]
      have e2 : (out2 ++ [S[i]]).length = (be out2).length + [S[i].enc].length := by simp [hol2]
      have := IH (i + 1) (out2 ++ [S[i]]) laid2 ⟨by omega, by simp; omega, by rw [← hD2]; simp⟩ (by omega);rw [e1, e2] at this;rw [am (by omega)];subst hlaid2;exact this
     ·have hne : S[i].target = r.target := by simpa [bG] using hne
      rw [aaz hne] at hD2;conv=>whnf
      rw [am (by omega)];have := IH (i + 1) out2 laid2 ⟨by omega, by omega, by rw [← hD2]; simp⟩ (by omega);subst hlaid2;exact this
   ·simp only [Bool.not_true, Bool.false_and, Bool.or_false, abQ, aaW, aam] at hD;obtain ⟨laid2, hlaid2⟩ : ∃ l : Bool, l = true := ⟨true, rfl⟩;obtain ⟨out2, hq⟩ : ∃ o, o = out := ⟨_, rfl⟩;have hlen2 : out2.length ≤ 2 * i + 1 := by rw [hq]; omega
    have hD2 : out2 ++ ((if S[i].target = r.target then [] else [S[i]]) ++ bM r laid2 (S.drop (i + 1))) = bM r (r.kind == 2) S := by
     rw [← hD, hq, hlaid2]
    rw [← hq];have hol2 := bd out2
    (conv=>whnf); (repeat ((with_reducible refine ac ?_ ?_); exact aaa (by omega); (conv=>whnf)))
    refine idxNat (by simpa using hc) ?_;conv=>whnf
    refine ae (fun hne => ?_) (fun hne => ?_)
    ·have hne : ¬ S[i].target = r.target := by simpa [bG] using hne
     rw [aap hne] at hD2
     (conv=>whnf); (repeat ((with_reducible refine ac ?_ ?_); exact aaa (by omega); (conv=>whnf)))
     refine idxNat (by simpa using hc) ?_;conv=>whnf
     refine ⟨hol2.symm, (by rw [hol2]; show (out2.length + 1) * (88 + 1) ≤ _; omega), ?_⟩;conv=>whnf
     have e1 : be (out2 ++ [S[i]]) = be out2 ++ [S[i].enc] := by simp [be]
     have e2 : (out2 ++ [S[i]]).length = (be out2).length + [S[i].enc].length := by simp [hol2]
     have := IH (i + 1) (out2 ++ [S[i]]) laid2 ⟨by omega, by simp; omega, by rw [← hD2]; simp⟩ (by omega);rw [e1, e2] at this;rw [am (by omega)];subst hlaid2;exact this
    ·have hne : S[i].target = r.target := by simpa [bG] using hne
     rw [aaz hne] at hD2;conv=>whnf
     rw [am (by omega)];have := IH (i + 1) out2 laid2 ⟨by omega, by omega, by rw [← hD2]; simp⟩ (by omega);subst hlaid2;exact this
  ·have hc := au hsl hc;rw [aay hc] at hD
   cases laid
   ·conv=>whnf
    refine ⟨hol.symm, (by rw [hol]; show (out.length + 1) * (88 + 1) ≤ _; omega), ?_⟩;conv=>whnf
    have e1 : be out ++ [r.enc] = be (bM r (r.kind == 2) S) := by rw [← hD]; simp [be, bM]
    rw [← e1] at h;exact h
   ·conv=>whnf
    rw [show be out = be (bM r (r.kind == 2) S) by rw [← hD]; simp [bM]];exact h
theorem CL (r : Rc) : ∀ (S : List Rc) (laid : Bool), (bM r laid S).length ≤ S.length + (if laid = true then 0 else 1) := by
 intro S
 induction S with
 | nil => intro laid; cases laid <;> simp [bM]
 | cons s S ih =>
  intro laid;simp only [bM, aac, aag];have := ih (laid || (!laid && ltB r.target s.target));have h2 : (if s.target = r.target then [] else [s]).length ≤ 1 := by split <;> simp
  cases laid <;> cases hl : ltB r.target s.target <;> simp [hl] at this ⊢ <;> omega
theorem E4 (S : List Rc) (r : Rc) : (cI S r).length ≤ S.length + 1 := by
 unfold cI;split
 ·omega
 ·have := CL r S (decide (r.kind = 2));split at this <;> omega
theorem E1 {S : List Rc} {r x : Rc} (h : x ∈ cI S r) : (x = r ∧ r.kind = 1) ∨ x ∈ S := by
 unfold cI at h;split at h
 ·exact .inr h
 ·rename_i hk;rcases (gg r S _ x).1 h with ⟨h1, h2⟩ | ⟨h1, _⟩
  ·refine .inl ⟨h2, ?_⟩;have h1 : ¬ r.kind = 2 := aat h1;exact Classical.byContradiction fun e => hk ⟨e, h1⟩
  ·exact .inr h1
theorem mq {S : List Rc} {r : Rc} (hk : r.kind = 1) (x : Rc) : x ∈ cI S r ↔ x = r ∨ (x ∈ S ∧ x.target ≠ r.target) := by
 have hk2 : decide (r.kind = 2) = false := by rw [hk]; rfl
 rw [cI, aap (by simp [hk]), gg, hk2];simp
theorem wA (l : List Rc) (r : Rc) : ay (l ++ [r]) = cI (ay l) r := by simp [ay]
theorem CN : ∀ (l S : List Rc), (l.foldl cI S).length ≤ S.length + l.length := by
 intro l
 induction l with
 | nil => intro S; simp
 | cons r l ih =>
  intro S;have := ih (cI S r);have := E4 S r;simp only [aaQ, aag];omega
theorem iC (l : List Rc) : (ay l).length ≤ l.length := by simpa [ay] using CN l []
theorem CM : ∀ (l S : List Rc) (x : Rc), x ∈ l.foldl cI S → (x ∈ l ∧ x.kind = 1) ∨ x ∈ S := by
 intro l
 induction l with
 | nil => intro S x h; exact .inr h
 | cons r l ih =>
  intro S x h;rcases ih _ x h with ⟨h, hk⟩ | h
  ·exact .inl ⟨by simp [h], hk⟩
  ·rcases E1 h with ⟨rfl, hk⟩ | h
   ·exact .inl ⟨by simp, hk⟩
   ·exact .inr h
theorem jn {l : List Rc} {x : Rc} (h : x ∈ ay l) : x ∈ l ∧ x.kind = 1 := by
 rcases CM l [] x h with h | h
 ·exact h
 ·simp at h
theorem ld (l : List Rc) : Srt (ay l) := (GF l).srt
theorem CI (l : List Rc) (hl : l.length < 1000000) (hT : ∀ s ∈ l, s.target.length < 1000000) {R} (h : R (.sl none 7 (be (ay l))) []) : ag Tryz.prog 109 [.sl none 7 (be l)] [] R := by
 refine aa (an := SY) tab_ok Tryz.func109 ?_;have hsl := bd l;conv=>whnf
 refine aq.ind2 (fun (i : Nat) (S : List Rc) => [(3, .sl none 7 (be S)), (4, vi i)]) (fun _ _ => []) (fun i _ => l.length - i) (fun i S => i ≤ l.length ∧ S = ay (l.take i)) 0 [] rfl ⟨by omega, rfl⟩ ?_;rintro i S ⟨h0, hS⟩ IH;conv=>whnf
 refine ae (fun hc => ?_) (fun hc => ?_)
 ·have hc := ap hsl hc;have hSl : S.length ≤ i := by rw [hS]; have := iC (l.take i); simp at this; omega
  (conv=>whnf); (repeat ((with_reducible refine ac ?_ ?_); exact aaa (by omega); (conv=>whnf)))
  refine idxNat (by simpa using hc) ?_;conv=>whnf
  refine Az S (by omega) l[i] (hT _ (aaf hc)) (fun s hs => ?_) ?_
  ·rw [hS] at hs;exact hT s (aaU (jn hs).1)
  conv=>whnf
  rw [am (by omega)];refine IH (i + 1) (cI S l[i]) ⟨by omega, ?_⟩ (by omega);rw [aab hc, wA, hS]
 ·have hc := au hsl hc;rw [aae hc] at hS;rw [← hS] at h;conv=>whnf
  exact h
theorem iH (a b : List Rc) (ha : a.length < 1000000) (had : ∀ r ∈ a, r.deps.length < 1000000) {R} (h : ∀ p, p = decide (a = b) → R (.val (.bool p)) []) : ag Tryz.prog 16 [.sl none 7 (be a), .sl none 7 (be b)] [] R := by
 refine aa (an := Vi) tab_ok Tryz.func16 ?_;have hsa := bd a;have hsb := bd b;conv=>whnf
 rw [hsa, hsb];refine ae (fun hc => ?_) (fun hc => ?_)
 ·conv=>whnf
  refine h false (aai ?_).symm;rintro rfl;simp at hc
 have hlen : a.length = b.length := by simp at hc; omega
 conv=>whnf
 refine aq.ind1 (fun (i : Nat) => [(5, vi i)]) (fun _ => []) (fun i => a.length - i) (fun i => i ≤ a.length ∧ a.take i = b.take i) 0 rfl ⟨by omega, by simp⟩ ?_;rintro i ⟨h0, h1⟩ IH;conv=>whnf
 refine ae (fun hc => ?_) (fun hc => ?_)
 ·have hc := ap hsa hc;have hcb : i < b.length := by omega
  (conv=>whnf); (repeat ((with_reducible refine ac ?_ ?_); exact aaa (by omega); (conv=>whnf)))
  refine idxNat (by simpa using hc) ?_
  (conv=>whnf); (repeat ((with_reducible refine ac ?_ ?_); exact aaa (by omega); (conv=>whnf)))
  refine idxNat (by simpa using hcb) ?_;conv=>whnf
  refine Dm a[i] b[i] (had _ (aaf hc)) fun p hp => ?_;conv=>whnf
  refine ae (fun he => ?_) (fun he => ?_)
  ·have he : ¬ a[i] = b[i] := by simpa [hp] using he
   conv=>whnf
   refine h false (aai ?_).symm;rintro rfl;exact he rfl
  ·have he : a[i] = b[i] := by simpa [hp] using he
   conv=>whnf
   rw [am (by omega)];refine IH (i + 1) ⟨by omega, ?_⟩ (by omega);rw [aab hc, aab hcb, h1, he]
 ·have hc := au hsa hc;rw [aae hc, aae (by omega)] at h1;conv=>whnf
  exact h true (aaa h1).symm
def Rc.bare (r : Rc) : List AV := [vi r.kind, vs r.target, vs r.tag, uv r.rule, uv r.out, uv r.wen]
theorem B1 (r : Rc) {R} (h : R (.agg r.bare) []) : ag Tryz.prog 178 [.agg r.enc] [] R := by
 refine aa (an := R7) tab_ok Tryz.func178 ?_;conv=>whnf
 exact h
theorem QG (a b : Dp) (h : (!(true && decide (ofB a.name = ofB b.name) && ((a.hash.toNat : Int) == (b.hash.toNat : Int)) && (a.order == b.order))) = true) : a ≠ b := by
 rintro rfl;simp at h
theorem QH (a b : Dp) (h : (!(true && decide (ofB a.name = ofB b.name) && ((a.hash.toNat : Int) == (b.hash.toNat : Int)) && (a.order == b.order))) = false) : a = b := by
 simp [bG] at h;obtain ⟨⟨h1, h2⟩, h3⟩ := h;have h2 : a.hash = b.hash := aaZ (by omega)
 cases a; cases b
 simp_all
theorem A6 (a b : List Dp) (ha : a.length < 1000000) {R} (h : ∀ p, p = decide (a = b) → R (.val (.bool p)) []) : ag Tryz.prog 179 [.sl none 3 (dO a), .sl none 3 (dO b)] [] R := by
 refine aa (an := R6) tab_ok Tryz.func179 ?_;have hsa := bD a;have hsb := bD b;conv=>whnf
 rw [hsa, hsb];refine ae (fun hc => ?_) (fun hc => ?_)
 ·conv=>whnf
  refine h false (aai ?_).symm;rintro rfl;simp at hc
 have hlen : a.length = b.length := by simp at hc; omega
 conv=>whnf
 refine aq.ind1 (fun (i : Nat) => [(13, vi i)]) (fun _ => []) (fun i => a.length - i) (fun i => i ≤ a.length ∧ a.take i = b.take i) 0 rfl ⟨by omega, by simp⟩ ?_;rintro i ⟨h0, h1⟩ IH;conv=>whnf
 refine ae (fun hc => ?_) (fun hc => ?_)
 ·have hc := ap hsa hc;have hcb : i < b.length := by omega
  (conv=>whnf); (repeat ((with_reducible refine ac ?_ ?_); exact aaa (by omega); (conv=>whnf)))
  refine idxNat (by simpa using hc) ?_
  (conv=>whnf); (repeat ((with_reducible refine ac ?_ ?_); exact aaa (by omega); (conv=>whnf)))
  refine idxNat (by simpa using hcb) ?_;conv=>whnf
  refine ae (fun he => ?_) (fun he => ?_)
  ·have he := QG _ _ he;conv=>whnf
   refine h false (aai ?_).symm;rintro rfl;exact he rfl
  ·have he := QH _ _ he;conv=>whnf
   rw [am (by omega)];refine IH (i + 1) ⟨by omega, ?_⟩ (by omega);rw [aab hc, aab hcb, h1, he]
 ·have hc := au hsa hc;rw [aae hc, aae (by omega)] at h1;conv=>whnf
  exact h true (aaa h1).symm
theorem Dl (a b : Rc) (ha : a.deps.length < 1000000) {R} (h : ∀ p, p = decide (a = b) → R (.val (.bool p)) []) : ag Tryz.prog 138 [.agg a.enc, .agg b.enc] [] R := by
 refine aa (an := SA) tab_ok Tryz.func138 ?_;conv=>whnf
 refine B1 a ?_;conv=>whnf
 refine B1 b ?_;conv=>whnf
 refine ae (fun g => ?_) (fun g => ?_)
 ·have g2 : a.kind = b.kind ∧ a.target = b.target ∧ a.tag = b.tag ∧ a.rule = b.rule ∧ a.out = b.out ∧ a.wen = b.wen := by
   simp [bG] at g;obtain ⟨⟨⟨⟨⟨g1, g2⟩, g3⟩, g4⟩, g5⟩, g6⟩ := g;exact ⟨g1, g2, g3, aaZ (by omega), aaZ (by omega), aaZ (by omega)⟩
  conv=>whnf
  refine A6 a.deps b.deps ha fun p hp => ?_;conv=>whnf
  refine h _ ?_;rw [hp];refine decide_eq_decide.2 ⟨fun e => ?_, fun e => by rw [e]⟩;obtain ⟨g1, g2, g3, g4, g5, g6⟩ := g2
  cases a; cases b
  simp_all
 ·conv=>whnf
  refine h false (aai ?_).symm;rintro rfl;simp at g
theorem Gw (k : Int) (t : B) (u o w : U) (g : B) : leL [.val (.int .i64 k), .val (.string (ofB t)), .val (.int .u64 (u.toNat : Int)), .val (.slice none 0 0), .val (.int .u64 (o.toNat : Int)), .val (.int .u64 (w.toNat : Int)), .val (.string (ofB g))] (Rc.enc ⟨k, t, u, [], o, w, g⟩) :=
 leL.cons (.refl _) (leL.cons (.refl _) (leL.cons (.refl _) (leL.cons (cy 3) (leL.refl _))))
theorem jF (a b : List Rc) : ay (a ++ b) = b.foldl cI (ay a) := by simp [ay]
def Eo (t : B) (s : Rc) : Bool := decide (s.target ≠ t) || (decide (s.kind ≠ 1) && decide (s.kind ≠ 2))
theorem CF {S : List Rc} {s x : Rc} {t : B} (hp : Eo t s = true) (hx : x.target = t) : x ∈ cI S s ↔ x ∈ S := by
 unfold cI;split
 ·exact Iff.rfl
 ·rename_i hk;have hs : s.target ≠ t := by
   simp only [Eo, Bool.or_eq_true, aaq, aa0] at hp;rcases hp with h | h
   ·exact h
   ·exact absurd h hk
  rw [gg];constructor
  ·rintro (⟨_, rfl⟩ | ⟨h, _⟩)
   ·exact absurd hx hs
   ·exact h
  ·intro h;exact .inr ⟨h, fun e => hs (by rw [← e, hx])⟩
theorem nZ {t : B} : ∀ (l S : List Rc), (∀ s ∈ l, Eo t s = true) → ∀ x, x.target = t → (x ∈ l.foldl cI S ↔ x ∈ S) := by
 intro l
 induction l with
 | nil => intro S _ x _; exact Iff.rfl
 | cons s l ih =>
  intro S h x hx;rw [aaQ, ih _ (fun y hy => h y (by simp [hy])) x hx, CF (h s (by simp)) hx]
theorem Js {S : List Rc} (hs : Srt S) {a b : Rc} (ha : a ∈ S) (hb : b ∈ S) (e : a.target = b.target) : a = b := by
 obtain ⟨i, hi, rfl⟩ := abc ha;obtain ⟨j, hj, rfl⟩ := abc hb;have hp := List.pairwise_iff_getElem.1 hs;rcases Nat.lt_trichotomy i j with h | h | h
 ·exact absurd (hp i j hi hj h) (by rw [e]; exact List.lt_irrefl _)
 ·subst h; rfl
 ·exact absurd (hp j i hj hi h) (by rw [e]; exact List.lt_irrefl _)
theorem nW {S : List Rc} (hs : Srt S) {r : Rc} (hr : r ∈ S) (hk : r.kind = 1) : cZ S r.target = some r := by
 unfold cZ
 cases h : S.reverse.find? (nR r.target) with
 | none => exact absurd (List.find?_eq_none.1 h r (List.mem_reverse.2 hr)) (by simp [nR, hk])
 | some x =>
  have h1 := List.find?_some h;have h2 := List.mem_reverse.1 (List.mem_of_find?_eq_some h);simp only [nR, aaq, aa0] at h1;rw [Js hs h2 hr h1.2]
theorem qP {S : List Rc} {t : B} (h : ∀ x ∈ S, x.target ≠ t) : cZ S t = none := by
 unfold cZ;rw [List.find?_eq_none];intro x hx;simp [nR, h x (List.mem_reverse.1 hx)]
theorem sh (n : Nd) (hn : n.deps.length < 1000000) (l : List Rc) (hl : l.length < 1000000) (hs : List U) {R} (h : ∀ e, e = kG n l hs → R (vi e) []) : ag Tryz.prog 66 [.agg n.enc, .sl none 7 (be l), .sl none 1 (dR hs)] [] R := by
 refine aa (an := UG) tab_ok Tryz.func66 ?_;conv=>whnf
 refine ae (fun g => ?_) (fun g => ?_)
 ·conv=>whnf
  exact h 0 (by rw [kG, aaz g])
 have g : ¬ n.source = true := by simp [g]
 conv=>whnf
 refine mJ l hl n.name ?_;generalize hr : cT l n.name = r;generalize hb : (cZ l n.name).isSome = b;have hw : kG n l hs = if b = false then 1 else uU n r hs := by rw [kG, aap g, hr, hb]
 have hsd := aF n.deps;have hsr := bD r.deps;have hsh := jx hs;conv=>whnf
 refine ae (fun q1 => ?_) (fun q1 => ?_)
 ·conv=>whnf
  exact h 1 (by rw [hw, aaz (by simpa using q1)])
 have q1 : b = true := by simpa using q1
 rw [aap (by simp [q1])] at hw;conv=>whnf
 refine ae (fun q2 => ?_) (fun q2 => ?_)
 ·have q2 : decide (r.rule ≠ n.rule) = true := (DC _ _).symm.trans q2;conv=>whnf
  exact h 2 (by rw [hw, uU, aaz (aal q2)])
 have q2 : decide (r.rule ≠ n.rule) = false := (DC _ _).symm.trans q2;rw [uU, aap (aat q2)] at hw;have bad3 : fV n r hs = true → R (vi 3) [] := fun hb => h 3 (by rw [hw, aaz hb]);conv=>whnf
 rw [hsr, hsd];refine ae (fun q3 => ?_) (fun q3 => ?_)
 ·have q3 : r.deps.length ≠ n.deps.length := by simp at q3; omega
  conv=>whnf
  refine bad3 ?_;have : r.deps.map (·.name) ≠ n.deps := fun e => q3 (by rw [← e]; simp);simp [fV, this]
 have q3 : r.deps.length = n.deps.length := by simp at q3; omega
 conv=>whnf
 rw [hsh, hsd];refine ae (fun q4 => ?_) (fun q4 => ?_)
 ·have q4 : hs.length ≠ n.deps.length := by simp at q4; omega
  conv=>whnf
  refine bad3 ?_;simp [fV, q4]
 have q4 : hs.length = n.deps.length := by simp at q4; omega
 have hle : hs.length = r.deps.length := by omega
 conv=>whnf
 refine aq.ind1 (fun (i : Nat) => [(9, vi i)]) (fun _ => []) (fun i => n.deps.length - i) (fun i => i ≤ n.deps.length ∧ (r.deps.take i).map (·.name) = n.deps.take i) 0 rfl ⟨by omega, by simp⟩ ?_;rintro i ⟨h0, h1⟩ IH;conv=>whnf
 refine ae (fun hc => ?_) (fun hc => ?_)
 ·have hc := ap hsd hc;have hcr : i < r.deps.length := by omega
  (conv=>whnf); (repeat ((with_reducible refine ac ?_ ?_); exact aaa (by omega); (conv=>whnf)))
  refine idxNat (by simpa using hcr) ?_
  (conv=>whnf); (repeat ((with_reducible refine ac ?_ ?_); exact aaa (by omega); (conv=>whnf)))
  refine idxNat (by simpa using hc) ?_;conv=>whnf
  refine ae (fun q => ?_) (fun q => ?_)
  ·have q : ¬ r.deps[i].name = n.deps[i] := by simpa [bG] using q
   conv=>whnf
   refine bad3 ?_;have : r.deps.map (·.name) ≠ n.deps := fun e => q (by
    have : (r.deps.map (·.name))[i]'(by simpa using hcr) = n.deps[i] := by congr 1
    simpa using this)
   simp [fV, this]
  ·have q : r.deps[i].name = n.deps[i] := by simpa [bG] using q
   conv=>whnf
   rw [am (by omega)];refine IH (i + 1) ⟨by omega, ?_⟩ (by omega);rw [aab hc, aab hcr, aaG, h1];simp [q]
 ·have hc := au hsd hc;rw [aae hc, aae (by omega)] at h1;clear IH;have q5 : ¬ fV n r hs = true := by simp [fV, h1, q4]
  rw [aap q5] at hw;conv=>whnf
  refine aq.ind1 (fun (i : Nat) => [(10, vi i)]) (fun _ => []) (fun i => n.deps.length - i) (fun i => i ≤ n.deps.length ∧ eh (r.deps.take i) (hs.take i) = false) 0 rfl ⟨by omega, by simp [eh]⟩ ?_;rintro i ⟨h0, h1⟩ IH;conv=>whnf
  refine ae (fun hc => ?_) (fun hc => ?_)
  ·have hc := ap hsd hc;have hcr : i < r.deps.length := by omega
   have hch : i < hs.length := by omega
   have htk := rU hle hcr
   (conv=>whnf); (repeat ((with_reducible refine ac ?_ ?_); exact aaa (by omega); (conv=>whnf)))
   refine idxNat (by simpa using hcr) ?_;conv=>whnf
   refine ae (fun ho => ?_) (fun ho => ?_)
   ·(conv=>whnf); (repeat ((with_reducible refine ac ?_ ?_); exact aaa (by omega); (conv=>whnf)))
    refine idxNat (by simpa using hcr) ?_
    (conv=>whnf); (repeat ((with_reducible refine ac ?_ ?_); exact aaa (by omega); (conv=>whnf)))
    refine idxNat (by simpa using hch) ?_;conv=>whnf
    refine ae (fun hh => ?_) (fun hh => ?_)
    ·have hh : decide (r.deps[i].hash ≠ hs[i]) = true := (DC _ _).symm.trans hh;conv=>whnf
     exact h 4 (by rw [hw, aaz (rV hle hcr (by rw [ho, hh]; rfl))])
    ·have hh : decide (r.deps[i].hash ≠ hs[i]) = false := (DC _ _).symm.trans hh;conv=>whnf
     rw [am (by omega)];exact IH (i + 1) ⟨by omega, by rw [htk, h1, hh]; simp⟩ (by omega)
   ·conv=>whnf
    rw [am (by omega)];exact IH (i + 1) ⟨by omega, by rw [htk, h1, ho]; simp⟩ (by omega)
  ·have hc := au hsd hc;rw [aae (by omega), aae (by omega)] at h1;conv=>whnf
   exact h 0 (by rw [hw, aap (by simp [h1])])
theorem AD {ns : List B} {hs : List U} (h : hs.length = ns.length) : (dD ns hs).map (·.name) = ns := by
 induction ns generalizing hs with
 | nil => rfl
 | cons n ns ih =>
  cases hs with
  | nil => simp at h
  | cons x hs => simp [dD, ih (by simpa using h)]
theorem CS {ns : List B} {hs os : List U} (h : hs.length = ns.length) (ho : os.length = ns.length) : eh (dD ns hs) os = decide (hs ≠ os) := by
 induction ns generalizing hs os with
 | nil =>
  have e1 : hs = [] := aau (by simpa using h);have e2 : os = [] := aau (by simpa using ho);subst e1 e2;rfl
 | cons n ns ih =>
  cases hs with
  | nil => simp at h
  | cons x hs =>
   cases os with
   | nil => simp at ho
   | cons y os =>
    rw [dD, eh, ih (by simpa using h) (by simpa using ho)];by_cases e : x = y <;> by_cases e2 : hs = os <;> simp [e, e2]
end Go.Abs
end
section
namespace Go.Abs
open Go Go.Proofs
attribute [local irreducible] aH aD aO firstIdx
theorem Iy : ∀ (l : List Nd) (seen : List B), (l.map (·.name)).Nodup → (∀ n ∈ l, n.name ∉ seen) → (∀ n ∈ l, jc n = 0) → jI l seen = 0 := by
 intro l
 induction l with
 | nil => intro _ _ _ _; rfl
 | cons n r ih =>
  intro seen h1 h2 h3;rw [aaF, List.nodup_cons] at h1;unfold jI;rw [aap (h2 n (by simp)), aap (by simp [h3 n (by simp)])];refine ih _ h1.2 (fun m hm hs => ?_) fun m hm => h3 m (by simp [hm]);rw [aaJ, aaA] at hs;rcases hs with hs | hs
  ·exact h2 m (by simp [hm]) hs
  ·exact h1.1 (by rw [← hs]; exact aaD hm)
theorem Iz : ∀ (l : List Nd) (seen : List B), jI l seen = 0 → ∀ n ∈ l, jc n = 0 := by
 intro l
 induction l with
 | nil => intro seen _ n hn; simp at hn
 | cons a r ih =>
  intro seen h n hn;unfold jI at h;split at h
  ·cases h
  ·split at h
   ·rename_i h0; exact absurd h h0
   ·rename_i h0;rw [aaY] at hn;rcases hn with rfl | hn
    ·exact Classical.byContradiction fun e => h0 e
    ·exact ih _ h n hn
theorem tq (l : List Nd) : aV l = 0 ↔ l.length ≤ 64 ∧ (l.map (·.name)).Nodup ∧ (∀ n ∈ l, jc n = 0) ∧ (∀ n ∈ l, ∀ d ∈ n.deps, d ∈ names l) ∧ l.length ≤ (c8 l).length := by
 constructor
 ·intro h;obtain ⟨c1, c2, c3, c4⟩ := fp h;refine ⟨c4, c1, ?_, c3, by omega⟩;unfold aV at h;split at h
  ·cases h
  ·split at h
   ·rename_i h1 h2; exact absurd h h2
   ·rename_i h1 h2;exact Iz l [] (Classical.byContradiction fun e => h2 e)
 ·rintro ⟨h1, h2, h3, h4, h5⟩;unfold aV;rw [aap (by omega), aap (by simp [Iy l [] h2 (by simp) h3]), aap (by rw [mu h4]; simp), aap (by omega)]
end Go.Abs
end
section
namespace Go.Abs
open Go Go.Proofs Dig
attribute [local irreducible] aH aD aO firstIdx
def dH (v : Int) : List Dp → List B → Bool
 | [], _ => true
 | d :: ds, seen => db d.name && (decide (d.name ∉ seen) && (!(d.order && decide (v < 3)) && dH v ds (seen ++ [d.name])))
def pw (v : Int) (r : Rc) : Bool := dH v r.deps [r.target] && decide (r.deps.length ≤ 16)
theorem pv (v : Int) (r : Rc) (hd : r.deps.length < 100000) {R} (h : ∀ p, p = pw v r → R (.val (.bool p)) []) : ag Tryz.prog 137 [vi v, .agg r.enc] [] R := by
 refine aa (an := SB) tab_ok Tryz.func137 ?_;have hsl := bD r.deps;have no : dH v r.deps [r.target] = false → R (.val (.bool false)) [] := fun e => h false (by rw [pw, e]; rfl);conv=>whnf
 refine li r.target [] (by simp) fun m hm => ?_;have hm : m = [r.target] := by rw [hm]; simp [mS, cL]
 subst hm;conv=>whnf
 refine aq.ind2 (fun (i : Nat) (seen : List B) => [(17, vi i)]) (fun i seen => [(ar 13 0, bL (ar 13 1) (ar 13 2) seen), (ar 13 1, bK seen), (ar 13 2, bJ seen)])
  (fun i _ => r.deps.length - i) (fun i seen => i ≤ r.deps.length ∧ seen.length ≤ i + 1 ∧ dH v (r.deps.drop i) seen = dH v r.deps [r.target]) 0 [r.target] rfl ⟨by omega, by simp, by simp⟩ ?_
 rintro i seen ⟨h0, hsn, hD⟩ IH;conv=>whnf
 refine ae (fun hc => ?_) (fun hc => ?_)
 ·have hc := ap hsl hc;rw [aao hc, dH] at hD
  (conv=>whnf); (repeat ((with_reducible refine ac ?_ ?_); exact aaa (by omega); (conv=>whnf)))
  refine idxNat (by simpa using hc) ?_;generalize r.deps[i] = d at hD ⊢;conv=>whnf
  by_cases hm : d.name ∈ seen
  ·have hbad : dH v r.deps [r.target] = false := by rw [← hD]; simp [hm]
   refine jN seen d.name hm fun j => ?_;conv=>whnf
   refine om d.name ?_;conv=>whnf
   refine ae (fun hq => ?_) (fun hq => ?_)
   ·conv=>whnf
    exact no hbad
   ·conv=>whnf
    exact no hbad
  ·refine gW seen d.name (by omega) hm fun j => ?_;conv=>whnf
   refine om d.name ?_;conv=>whnf
   refine ae (fun hq => ?_) (fun hq => ?_)
   ·have hq : db d.name = false := by simpa using hq
    conv=>whnf
    exact no (by rw [← hD, hq]; rfl)
   ·have hq : db d.name = true := by simpa using hq
    rw [hq, aaa hm, aaI, aaI] at hD;conv=>whnf
    refine ae (fun ho => ?_) (fun ho => ?_)
    ·rw [ho, aaI] at hD;conv=>whnf
     refine ae (fun hv => ?_) (fun hv => ?_)
     ·rw [hv] at hD;conv=>whnf
      exact no (by rw [← hD]; rfl)
     ·rw [hv] at hD;conv=>whnf
      rw [am (by omega)];exact IH (i + 1) (seen ++ [d.name]) ⟨by omega, by simp; omega, by rw [← hD]; simp⟩ (by omega)
    ·rw [ho] at hD;conv=>whnf
     rw [am (by omega)];exact IH (i + 1) (seen ++ [d.name]) ⟨by omega, by simp; omega, by rw [← hD]; simp⟩ (by omega)
 ·have hc := au hsl hc;rw [aay hc, dH] at hD;conv=>whnf
  rw [hsl];refine h _ ?_;rw [pw, ← hD, aaI];exact decide_eq_decide.2 (by omega)
def dN (v : Int) (r : Rc) : Bool := (decide (v < 2) && decide (r.wen ≠ 0)) || (decide (v < 3) && decide (r.tag ≠ []))
def qc (r : Rc) : Rc := ⟨2, r.target, 0, [], 0, 0, []⟩
def aR (v : Int) (r : Rc) : Bool :=
 if (decide (v < 1) || decide (3 < v) || !db r.target) = true then false
 else if r.kind = 1 then !dN v r && (decide (r.tag.length ≤ 64) && pw v r)
 else if r.kind = 2 then decide (r = qc r) else false
theorem HI : ofB [] = { data := #[] } := rfl
theorem eu (v : Int) (r : Rc) (hd : r.deps.length < 100000) {R} (h : ∀ p, p = aR v r → R (.val (.bool p)) []) : ag Tryz.prog 94 [vi v, .agg r.enc] [] R := by
 refine aa (an := Ui) tab_ok Tryz.func94 ?_;have hst := aG r.tag;conv=>whnf
 refine ae (fun g1 => ?_) (fun g1 => ?_)
 ·conv=>whnf
  exact h false (by rw [aR, aaz (by rw [g1]; rfl)])
 conv=>whnf
 refine ae (fun g2 => ?_) (fun g2 => ?_)
 ·have g2 : 3 < v := by simpa using g2
  conv=>whnf
  exact h false (by rw [aR, aaz (by rw [g1, aaa g2]; rfl)])
 have g2 : ¬ 3 < v := by simpa using g2
 conv=>whnf
 refine om r.target ?_;conv=>whnf
 refine ae (fun g3 => ?_) (fun g3 => ?_)
 ·conv=>whnf
  exact h false (by rw [aR, aaz (by rw [g3]; simp)])
 have hm : aR v r = if r.kind = 1 then !dN v r && (decide (r.tag.length ≤ 64) && pw v r) else if r.kind = 2 then decide (r = qc r) else false := by
  rw [aR, aap (by rw [g1, aai g2, g3]; simp)]
 conv=>whnf
 refine ae (fun k1 => ?_) (fun k1 => ?_)
 ·have k1 : r.kind = 1 := by simpa using k1
  rw [aaz k1] at hm;have wz : ((r.wen.toNat : Int) != 0) = decide (r.wen ≠ 0) := by
   by_cases e : r.wen = 0
   ·simp [e]
   ·have : r.wen.toNat ≠ 0 := fun x => e (aaZ (by simpa using x));rw [aaa e]; simp; omega
  conv=>whnf
  refine ae (fun e1 => ?_) (fun e1 => ?_)
  ·conv=>whnf
   refine ae (fun e2 => ?_) (fun e2 => ?_)
   ·rw [wz] at e2;conv=>whnf
    exact h false (by rw [hm, dN, e1, e2]; rfl)
   ·rw [wz] at e2;have e3 : decide (v < 3) = true := by simp at e1 ⊢; omega
    conv=>whnf
    refine aK e3 ?_;conv=>whnf
    refine ae (fun e4 => ?_) (fun e4 => ?_)
    ·have e4 : r.tag = [] := by simpa [← HI, bG] using e4
     have e4 : decide (r.tag ≠ []) = false := by rw [e4]; rfl
     have he : dN v r = false := by rw [dN, e2, e4]; simp
     conv=>whnf
     refine ae (fun q => ?_) (fun q => ?_)
     ·have q : r.tag.length ≤ 64 := by have q := aal q; omega
      conv=>whnf
      refine pv v r hd fun p hp => ?_;conv=>whnf
      exact h p (by rw [hm, he, aaa q, hp]; rfl)
     ·have q : ¬ r.tag.length ≤ 64 := by have q := aat q; omega
      conv=>whnf
      exact h false (by rw [hm, aai q]; simp)
    ·have e4 : r.tag ≠ [] := by simpa [← HI, bG] using e4
     have e4 : decide (r.tag ≠ []) = true := aaa e4;conv=>whnf
     exact h false (by rw [hm, dN, e3, e4]; simp)
  ·conv=>whnf
   refine ae (fun e3 => ?_) (fun e3 => ?_)
   ·conv=>whnf
    refine ae (fun e4 => ?_) (fun e4 => ?_)
    ·have e4 : r.tag = [] := by simpa [← HI, bG] using e4
     have e4 : decide (r.tag ≠ []) = false := by rw [e4]; rfl
     have he : dN v r = false := by rw [dN, e1, e4]; simp
     conv=>whnf
     refine ae (fun q => ?_) (fun q => ?_)
     ·have q : r.tag.length ≤ 64 := by have q := aal q; omega
      conv=>whnf
      refine pv v r hd fun p hp => ?_;conv=>whnf
      exact h p (by rw [hm, he, aaa q, hp]; rfl)
     ·have q : ¬ r.tag.length ≤ 64 := by have q := aat q; omega
      conv=>whnf
      exact h false (by rw [hm, aai q]; simp)
    ·have e4 : r.tag ≠ [] := by simpa [← HI, bG] using e4
     have e4 : decide (r.tag ≠ []) = true := aaa e4;conv=>whnf
     exact h false (by rw [hm, dN, e3, e4]; simp)
   ·have he : dN v r = false := by rw [dN, e1, e3]; simp
    conv=>whnf
    refine ae (fun q => ?_) (fun q => ?_)
    ·have q : r.tag.length ≤ 64 := by have q := aal q; omega
     conv=>whnf
     refine pv v r hd fun p hp => ?_;conv=>whnf
     exact h p (by rw [hm, he, aaa q, hp]; rfl)
    ·have q : ¬ r.tag.length ≤ 64 := by have q := aat q; omega
     conv=>whnf
     exact h false (by rw [hm, aai q]; simp)
 ·have k1 : ¬ r.kind = 1 := by simpa using k1
  rw [aap k1] at hm;conv=>whnf
  refine ae (fun k2 => ?_) (fun k2 => ?_)
  ·have k2 : r.kind = 2 := by simpa using k2
   rw [aaz k2] at hm;conv=>whnf
   refine ag.args ?_ (Dl r (qc r) (by omega) fun p hp => ?_)
   ·exact leL.cons (.refl _) (leL.cons (iJ (Gw 2 r.target 0 0 0 [])) leL.nil)
   conv=>whnf
   exact h p (by rw [hp, hm])
  ·have k2 : ¬ r.kind = 2 := by simpa using k2
   rw [aap k2] at hm;conv=>whnf
   exact h false hm.symm
end Go.Abs
end
section
namespace Go.Abs
open Go Go.Proofs Dig
theorem Cw {S S' : List Rc} (hs : Srt S) (hs' : Srt S') (hk : ∀ x ∈ S, x.kind = 1) (hk' : ∀ x ∈ S', x.kind = 1) {t : B} (h : ∀ x, x.target = t → (x ∈ S ↔ x ∈ S')) : cZ S t = cZ S' t := by
 by_cases hx : ∃ x ∈ S, x.target = t
 ·obtain ⟨x, hx, rfl⟩ := hx;rw [nW hs hx (hk x hx), nW hs' ((h x rfl).1 hx) (hk x hx)]
 ·rw [qP fun x hx1 e => hx ⟨x, hx1, e⟩, qP fun x hx1 e => hx ⟨x, (h x e).2 hx1, e⟩]
theorem wq (L ts : List Rc) (hk : ∀ r ∈ ts, r.kind = 1) (hd : (ts.map (·.target)).Nodup) (t : B) : (∀ r ∈ ts, r.target = t → cZ (ay (L ++ ts)) t = some r) ∧ ((∀ r ∈ ts, r.target ≠ t) → cZ (ay (L ++ ts)) t = cZ (ay L) t) := by
 refine ⟨fun r hr e => ?_, fun hno => ?_⟩
 ·subst e;obtain ⟨a, b, rfl⟩ := List.append_of_mem hr;have hb : ∀ s ∈ b, Eo r.target s = true := fun s hs => by
   rw [aaG, aaF] at hd;have h1 := (List.nodup_cons.1 (List.nodup_append.1 hd).2.1).1;have : s.target ≠ r.target := fun e => h1 (by rw [← e]; exact aaD hs);simp [Eo, this]
  have hm : r ∈ ay (L ++ (a ++ r :: b)) := by
   rw [show L ++ (a ++ r :: b) = ((L ++ a) ++ [r]) ++ b by simp, jF];refine (nZ b _ hb r rfl).2 ?_;rw [wA];exact (mq (hk r hr) r).2 (.inl rfl)
  exact nW (ld _) hm (hk r hr)
 ·refine Cw (ld _) (ld _) (fun x hx => (jn hx).2) (fun x hx => (jn hx).2) fun x hx => ?_;rw [jF];exact nZ ts _ (fun s hs => by simp [Eo, hno s hs]) x hx
def nc (s : Sp) : B × U := (s.name, s.con)
theorem Ic : ∀ (a b : List Sp), a.map nc = b.map nc → dV a = dV b := by
 intro a b h;funext x;unfold dV;have h : a.reverse.map nc = b.reverse.map nc := by rw [List.map_reverse, h, List.map_reverse]
 generalize a.reverse = a at h;generalize b.reverse = b at h
 induction a generalizing b with
 | nil => cases b with
  | nil => rfl
  | cons y b => simp at h
 | cons y a ih =>
  cases b with
  | nil => simp at h
  | cons z b =>
   simp only [aaF, List.cons.injEq, nc, Prod.mk.injEq] at h;obtain ⟨⟨h1, h2⟩, h3⟩ := h;simp only [List.find?_cons, h1];by_cases hx : z.name = x
   ·simp [hx, h2]
   ·simp only [hx, decide_false];exact ih b h3
theorem GL {a b : List Sp} (h : a.map nc = b.map nc) (n : Nd) : kR a n = kR b n := by rw [kR, kR, Ic a b h]
def trN (n : Nd) (c : List U) (w : U) : Rc := ⟨1, n.name, n.rule, dD n.deps (c.map dig), dig (iM n.rule c), w, []⟩
theorem G6 {n : Nd} {c : List U} (hs : n.source = false) (hc : c.length = n.deps.length) (w : U) : gk n (c.map dig) (iM n.rule c) w = trN n c w := by
 rw [gk, fX, hs]; simp [hc, trN]
theorem px (a : List Sp) (n : Nd) : (kR a n).length = n.deps.length := by simp [kR]
theorem m6 {n : Nd} {state : List Rc} {steps given : List Sp} {w : U} (h : (cf n state steps given w).step.ran = true) : (cf n state steps given w).trace = trN n (kR steps n) w ∧ n.source = false ∧ (cf n state steps given w).step.con = iM n.rule (kR steps n) := by
 obtain ⟨h1, h2, h3⟩ := B5 n state steps given w h;exact ⟨by rw [h1, G6 h2 (px _ _)], h2, h3⟩
theorem Lt {n : Nd} {S : List Rc} {c : List U} {w : U} (hs : n.source = false) (hc : c.length = n.deps.length) (hf : cZ S n.name = some (trN n c w)) : kG n S (c.map dig) = 0 := by
 have hb : fV n (trN n c w) (c.map dig) = false := by simp [fV, trN, hc, AD (ns := n.deps) (hs := c.map dig) (by simp [hc])]
 rw [kG, aap (by simp [hs]), hf, aap (by simp), cT, hf, abN, uU, aap (by simp [trN]), aap (by simp [hb])];rw [show (trN n c w).deps = dD n.deps (c.map dig) from rfl, CS (by simp [hc]) (by simp [hc])];simp
structure oC (l : List Nd) (o : List Nat) : Prop where
 hb : ∀ b ∈ o, b < l.length
 nd : (o.map (nm l)).Nodup
theorem o0 {l : List Nd} (h : aV l = 0) : oC l (cn l) := ⟨fun b hb => iB hb, oY h⟩
section
variable {l : List Nd} {state : List Rc} {given : List Sp} {w : U} {o : List Nat}
theorem n0 (ho : oC l o) {d : Dn} (h : d ∈ aM l state given w o) : ∃ (i : Nat) (hi : i < o.length), d = cf (l[o[i]]'(ho.hb _ (aaf _))) state (aA (aM l state given w (o.take i))) given w := by
 obtain ⟨i, hi⟩ := List.getElem?_of_mem h;have hil : i < o.length := by have := (List.getElem?_eq_some_iff.1 hi).1; rwa [fS state given w ho.hb] at this
 rw [mr state given w ho.hb hil, kP state given w ho.hb (abw hil)] at hi;exact ⟨i, hil, by injection hi with hi; exact hi.symm⟩
theorem gj (ho : oC l o) {d : Dn} (h : d ∈ aM l state given w o) (hr : d.step.ran = true) : d.trace.kind = 1 ∧ d.trace.target = d.step.name := by
 obtain ⟨i, hi, rfl⟩ := n0 ho h;obtain ⟨h1, _, _⟩ := m6 hr;rw [h1, jZ];exact ⟨rfl, rfl⟩
theorem nA (ho : oC l o) : ((aJ (aM l state given w o)).map (·.target)).Nodup ∧ ∀ r ∈ aJ (aM l state given w o), r.kind = 1 := by
 have e : (aJ (aM l state given w o)).map (·.target) = ((aM l state given w o).filter (·.step.ran)).map (·.step.name) := by
  unfold aJ;rw [abK];refine List.map_congr_left fun d hd => ?_;rw [List.mem_filter] at hd;exact (gj ho hd.1 hd.2).2
 refine ⟨?_, fun r hr => ?_⟩
 ·rw [e];have h := ho.nd;rw [← CQ state given w ho.hb, aA, abK] at h;exact h.sublist (List.filter_sublist.map _)
 ·obtain ⟨d, hd, rfl⟩ := List.mem_map.1 hr;rw [List.mem_filter] at hd;exact (gj ho hd.1 hd.2).1
theorem Fu (ho : oC l o) (L : List Rc) (u : U) : ∀ i, i ≤ o.length →
  (aA (aM l (ay (L ++ aJ (aM l (ay L) given w o))) given u (o.take i))).map nc = (aA (aM l (ay L) given w (o.take i))).map nc ∧
  ∀ d ∈ aM l (ay (L ++ aJ (aM l (ay L) given w o))) given u (o.take i), d.step.ran = false := by
 intro i;obtain ⟨h1, h2⟩ := nA (state := ay L) (given := given) (w := w) ho;have hf := fun t => wq L (aJ (aM l (ay L) given w o)) h2 h1 t;generalize hS : ay (L ++ aJ (aM l (ay L) given w o)) = S at hf ⊢
 induction i with
 | zero => intro _; exact ⟨rfl, by simp [aM]⟩
 | succ i ih =>
  intro hi;have hi : i < o.length := hi;obtain ⟨i1, i2⟩ := ih (abw hi);have hl : o[i] < l.length := ho.hb _ (aaf _);have hg := mr (ay L) given w ho.hb hi;rw [kP (ay L) given w ho.hb (abw hi)] at hg;have hmem := aaO hg;rw [im S given u hi hl, im (ay L) given w hi hl, bW, bW, aaG, aaG, i1];have hc := GL i1 l[o[i]];generalize aA (aM l S given u (o.take i)) = A at hc ⊢;generalize hB : aA (aM l (ay L) given w (o.take i)) = C at hc hmem ⊢;have key : nc (cf l[o[i]] S A given u).step = nc (cf l[o[i]] (ay L) C given w).step ∧ (cf l[o[i]] S A given u).step.ran = false := by
   by_cases hs : l[o[i]].source = true
   ·simp [cf, hs, nc]
   have hs0 : l[o[i]].source = false := by simpa using hs
   by_cases hr : (cf l[o[i]] (ay L) C given w).step.ran = true
   ·obtain ⟨t1, _, t3⟩ := m6 hr;have hin : (cf l[o[i]] (ay L) C given w).trace ∈ aJ (aM l (ay L) given w o) := List.mem_map.2 ⟨_, List.mem_filter.2 ⟨hmem, hr⟩, rfl⟩;rw [t1] at hin;have hfi := (hf l[o[i]].name).1 _ hin rfl;have hy := Lt (n := l[o[i]]) hs0 (px C _) hfi;have e : cf l[o[i]] S A given u = ⟨⟨l[o[i]].name, false, gV (cT S l[o[i]].name).out⟩, 0, eG⟩ := by rw [cf, aap hs, hc, aaz hy]
    rw [e];refine ⟨?_, rfl⟩;rw [nc, nc, jZ, t3, cT, hfi];simp [trN, lf]
   ·have hr0 : (cf l[o[i]] (ay L) C given w).step.ran = false := by simpa using hr
    have hw0 : kG l[o[i]] (ay L) ((kR C l[o[i]]).map dig) = 0 := by
     rw [cf, aap hs] at hr0;refine Classical.byContradiction fun e => ?_;rw [aap e] at hr0
     cases hr0
    have hno : ∀ r ∈ aJ (aM l (ay L) given w o), r.target ≠ l[o[i]].name := fun r hr2 e => by
     obtain ⟨d, hd, rfl⟩ := List.mem_map.1 hr2;rw [List.mem_filter] at hd;have h5 := (gj ho hd.1 hd.2).2;obtain ⟨j, hj, rfl⟩ := n0 ho hd.1;rw [h5, jZ] at e;have hnd := ho.nd;have e2 : nm l o[j] = nm l o[i] := by rw [eV (ho.hb _ (aaf _)), eV hl]; exact e
     have hpw := List.pairwise_iff_getElem.1 hnd;have hji : j = i := by
      rcases Nat.lt_trichotomy j i with hlt | heq | hgt
      ·exact (hpw j i (by simpa using hj) (by simpa using hi) hlt (by simp only [abD]; exact e2)).elim
      ·exact heq
      ·exact (hpw i j (by simpa using hi) (by simpa using hj) hgt (by simp only [abD]; exact e2.symm)).elim
     subst hji;rw [hB] at hd;rw [hr0] at hd
     cases hd.2
    have hfi := (hf l[o[i]].name).2 hno;have hy : kG l[o[i]] S ((kR A l[o[i]]).map dig) = 0 := by
     rw [hc, ← hw0, kG, kG, cT, cT, hfi]
    have e : cf l[o[i]] S A given u = ⟨⟨l[o[i]].name, false, gV (cT S l[o[i]].name).out⟩, 0, eG⟩ := by rw [cf, aap hs, aaz hy]
    have e2 : cf l[o[i]] (ay L) C given w = ⟨⟨l[o[i]].name, false, gV (cT (ay L) l[o[i]].name).out⟩, 0, eG⟩ := by rw [cf, aap hs, aaz hw0]
    rw [e, e2];exact ⟨by rw [cT, cT, hfi], rfl⟩
  refine ⟨by simp only [aaF, abi, key.1], fun d hd => ?_⟩;rcases List.mem_append.1 hd with hd | hd
  ·exact i2 d hd
  ·rw [List.mem_singleton.1 hd]; exact key.2
theorem kc (ho : oC l o) (L : List Rc) (u : U) : (aA (aM l (ay (L ++ aJ (aM l (ay L) given w o))) given u o)).map nc = (aA (aM l (ay L) given w o)).map nc ∧
  (∀ d ∈ aM l (ay (L ++ aJ (aM l (ay L) given w o))) given u o, d.step.ran = false) ∧ aJ (aM l (ay (L ++ aJ (aM l (ay L) given w o))) given u o) = [] := by
 have h := Fu (given := given) (w := w) ho L u o.length (aar _);rw [aax] at h;refine ⟨h.1, h.2, ?_⟩;rw [aJ, List.filter_eq_nil_iff.2 fun d hd => by simp [h.2 d hd]];rfl
end
theorem xG {v : Int} : ∀ (ns : List B) (hs : List U) (seen : List B), hs.length = ns.length → (∀ n ∈ ns, db n = true ∧ n ∉ seen) → ns.Nodup → dH v (dD ns hs) seen = true := by
 intro ns
 induction ns with
 | nil => intro hs seen hl _ _; rfl
 | cons n ns ih =>
  intro hs seen hl hn hd
  cases hs with
  | nil => simp at hl
  | cons h hs =>
   have h1 := hn n (by simp);have h2 := List.nodup_cons.1 hd;simp only [dD, dH, h1.1, aaI, Bool.false_and, abj, aaq, aa0];refine ⟨h1.2, ih hs _ (by simpa using hl) (fun m hm => ⟨(hn m (by simp [hm])).1, fun hx => ?_⟩) h2.2⟩;rcases List.mem_append.1 hx with hx | hx
   ·exact (hn m (by simp [hm])).2 hx
   ·exact h2.1 (by rw [← List.mem_singleton.1 hx]; exact hm)
theorem yC {n : Nd} (h : jc n = 0) : db n.name = true ∧ (n.source = true → n.deps = []) ∧ (n.name :: n.deps).Nodup ∧ n.deps.length ≤ 16 := by
 unfold jc at h;split at h
 ·cases h
 rename_i h1;split at h
 ·cases h
 rename_i h2;split at h
 ·cases h
 rename_i h3;simp only [f8, Bool.or_eq_true, Bool.not_eq_true', aaq, not_or, aa0] at h1;refine ⟨by simpa using h1.1, fun hs => ?_, Classical.not_not.1 h2, by omega⟩;by_cases hd : n.deps = []
 ·exact hd
 ·exact absurd ⟨hs, .inl (List.length_pos_iff.2 hd)⟩ h1.2
theorem Mc {v : Int} (hv : v = 1 ∨ v = 2 ∨ v = 3) {l : List Nd} (hc : aV l = 0) {n : Nd} (hn : n ∈ l) {c : List U} (hl : c.length = n.deps.length) {w : U} (hw : v = 1 → w = 0) : aR v (trN n c w) = true := by
 obtain ⟨h1, h2, h3, h4, h5⟩ := (tq l).1 hc;obtain ⟨o1, o2, o3, o4⟩ := yC (h3 n hn);have o5 := List.nodup_cons.1 o3;have hg : dH v (dD n.deps (c.map dig)) [n.name] = true := by
  refine xG _ _ _ (by simp [hl]) (fun d hd => ⟨?_, fun hx => o5.1 (by rw [← List.mem_singleton.1 hx]; exact hd)⟩) o5.2;obtain ⟨m, hm, hmd⟩ := List.mem_map.1 (h4 n hn d hd);rw [← hmd];exact (yC (h3 m hm)).1
 have hdl : (dD n.deps (c.map dig)).length = n.deps.length := mL (by simp [hl]);unfold aR;rw [aap (by rcases hv with rfl | rfl | rfl <;> simp [trN, o1]), aaz (show (trN n c w).kind = 1 from rfl)];have he : dN v (trN n c w) = false := by
  rcases hv with rfl | rfl | rfl
  ·simp [dN, trN, hw rfl]
  ·simp [dN, trN]
  ·simp [dN, trN]
 rw [he];simp [pw, trN, hg, hdl, o4]
theorem nB {v : Int} (hv : v = 1 ∨ v = 2 ∨ v = 3) {l : List Nd} (hc : aV l = 0) {state : List Rc} {given : List Sp} {w : U} (hw : v = 1 → w = 0) : ∀ d ∈ bE l state given w, d.step.ran = true → aR v d.trace = true := by
 intro d hd hr;obtain ⟨i, hi, rfl⟩ := n0 (o0 hc) hd;rw [(m6 hr).1];exact Mc hv hc (aaf _) (px _ _) hw
end Go.Abs
end
section
namespace Go.Abs
open Go
theorem ag.nilbox {P : Program} {f : FuncId} {args : List AV} {os : List aE} {R : AV → List aE → Prop} (j : Nat) (t0 e : TypeId) (sz : Nat) (hj : os[j]? = some (.cells t0 [.val (.slice none 0 0)]))
  (hc : ag P f args (os.set j (.cells t0 [.sl (some os.length) sz []]) ++ [.row e sz 0]) R) : ag P f args os R := by
 refine ⟨fun G w vals hW hA => ?_⟩;have hjl : j < os.length := (List.getElem?_eq_some_iff.1 hj).1;have hno : G.ob os.length = none := by
  cases e : G.ob os.length with
  | none => rfl
  | some g =>
   obtain ⟨o, ho⟩ := hW.dom _ g e;rw [bU, aaP (aar _)] at ho
   cases ho
 have hle := v8 hno (.rowv (.slice none 0 0) 0);obtain ⟨G1, hG1⟩ : ∃ G1 : Gh, G1 = ⟨G.K, aN G.ob os.length (.rowv (.slice none 0 0) 0)⟩ := ⟨_, rfl⟩;rw [← hG1] at hle;have hK : G1.K = G.K := by rw [hG1]
 have hat : ∀ n b, G1.at n b → G.at n b := fun n b hb => by
  rw [hG1] at hb;by_cases hn : n = os.length
  ·subst hn;have := gD hb
   cases this
  ·rcases hb with hb | ⟨u, t', hb, hu⟩
   ·exact .inl (by simpa [aN, hn] using hb)
   ·exact .inr ⟨u, t', by simpa [aN, hn] using hb, hu⟩
 have hob : ∀ n, n ≠ os.length → G1.ob n = G.ob n := fun n hn => by rw [hG1]; simp [aN, hn]
 have hobl : G1.ob os.length = some (.rowv (.slice none 0 0) 0) := by rw [hG1]; simp [aN]
 have hW1 : WR G1 (bC 0 (os.set j (.cells t0 [.sl (some os.length) sz []]) ++ [.row e sz 0])) w := by
  refine ⟨by rw [hK]; exact hW.know, fun n o ho => ?_, fun n g hg => ?_, fun n m b hn hm => hW.apart n m b (hat _ _ hn) (hat _ _ hm), by rw [hK]; exact hW.glob⟩
  ·rw [bU] at ho;rcases aaN n os.length with hn | hn
   ·rw [aaM (by simpa using hn)] at ho;by_cases hnj : n = j
    ·subst hnj;rw [List.getElem?_set_self hn] at ho
     cases ho;obtain ⟨b, vs, e1, e2, e3, e4⟩ := hW.obj n _ (by rw [bU]; exact hj);refine ⟨b, vs, by rw [hob _ (by omega)]; exact e1, e2, ?_, by rw [hK]; exact e4⟩;simp only [aB] at e3 ⊢;obtain ⟨v, us, rfl, h1, rfl⟩ := e3;simp only [Rep] at h1;subst h1;refine ⟨_, _, rfl, ?_, rfl⟩;simp only [Rep];exact ⟨⟨none, 0, rfl, aar _, by simp [d7]⟩, .slice none 0 0, 0, hobl, aar _, fun _ => rfl⟩
    ·rw [List.getElem?_set_ne (fun h => hnj h.symm)] at ho;exact sG.keep (hW.obj n o (by rw [bU]; exact ho)) hle (hob _ (by omega)) fun b _ => ⟨rfl, fun o => by rw [hK]⟩
   ·rw [aaV (by simpa using hn)] at ho;simp only [List.length_set] at ho;have h0 : n - os.length < 1 := (List.getElem?_eq_some_iff.1 ho).1;have hn0 : n = os.length := Nat.le_antisymm (Nat.sub_eq_zero_iff_le.1 (Nat.lt_one_iff.1 h0)) hn;subst hn0;simp at ho;subst ho;exact ⟨.slice none 0 0, [], hobl, World.ownsRow_nil _ _ _ _, fun g hg => by cases hg⟩
  ·rw [bU];by_cases hn : n = os.length
   ·subst hn;exact ⟨.row e sz 0, by simp⟩
   ·rw [hob n hn] at hg;obtain ⟨o, ho⟩ := hW.dom n g hg;rw [bU] at ho;have hnl := (List.getElem?_eq_some_iff.1 ho).1;rw [aaM (by simpa using hnl)];exact ⟨_, aad (by simpa using hnl)⟩
 refine (hc.run G1 w vals hW1 (aB.mono hle _ _ hA)).mono ?_;rintro x w' ⟨v, r, os', G', h1, h2, h3, h4, h5, h6, h7, h8, h9⟩;refine ⟨v, r, os', G', h1, h2, h3, h4, hle.trans h5, ⟨h6.os, h6.tape, h6.output, h6.size, fun b hb hT => h6.block b hb fun ⟨n, hn⟩ => hT ⟨n, hat _ _ hn⟩, fun b o hb hT => by rw [h6.knew b o hb fun ⟨n, hn⟩ => hT ⟨n, hat _ _ hn⟩, hK]⟩, fun n b hb => ?_, h8, h9⟩;rcases h7 n b hb with ⟨m, hm⟩ | h7
 ·exact .inl ⟨m, hat _ _ hm⟩
 ·exact .inr h7
end Go.Abs
end
section
namespace Go.Abs
open Go Go.Proofs Dig
attribute [local irreducible] aH aD aO firstIdx
def Sp.enc (s : Sp) : List AV := [vs s.name, .val (.bool s.ran), uv s.con]
theorem eH (l : List Sp) : sps l = l.map Sp.enc := by simp [sps, abK, Function.comp_def]; intros; rfl
theorem gK (l : List Sp) (s : Sp) : sps (l ++ [s]) = sps l ++ [s.enc] := by simp [eH]
def CE (d : Dn) : List AV := d.step.enc ++ vi d.why :: d.trace.enc
theorem Cd (name : B) (con : U) : leL [vs name, .val (.bool false), uv con, .val (.int .i64 0), .val (.int .i64 0), .val (.string ⟨#[]⟩), .val (.int .u64 0), .val (.slice none 0 0), .val (.int .u64 0), .val (.int .u64 0), .val (.string ⟨#[]⟩)] (CE ⟨⟨name, false, con⟩, 0, eG⟩) :=
 leL.cons (.refl _) (leL.cons (.refl _) (leL.cons (.refl _) (leL.cons (.refl _) pg)))
theorem o8 (n : Nd) (hn : n.deps.length < 10000) (S : List Rc) (hS : S.length < 1000000) (hSd : ∀ r ∈ S, r.deps.length < 1000000) (steps given : List Sp) (hst : steps.length < 1000000) (hg : given.length < 1000000) (w : U) {R}
  (h : ∀ d, d = cf n S steps given w → R (.agg (CE d)) []) : ag Tryz.prog 92 [.agg n.enc, .sl none 7 (be S), .sl none 3 (sps steps), .sl none 3 (sps given), uv w] [] R := by
 refine ag.res ?_;refine aa (an := Uk) tab_ok Tryz.func92 ?_;have hsl := aF n.deps;conv=>whnf
 refine ae (fun g => ?_) (fun g => ?_)
 ·conv=>whnf
  refine yZ given hg n.name fun c hc => ?_;conv=>whnf
  exact cw (iJ (Cd n.name c)) rfl (h _ (by rw [cf, aaz g, hc]))
 conv=>whnf
 refine aq.ind2 (fun (i : Nat) (out : List U) => [(11, .sl (some (al 11)) 1 (dR out)), (34, vi i)]) (fun i out => [(al 10, .cells 110 [.val (.string ⟨#[]⟩), .val (.bool false), .val (.int .u64 0), .val (.int .i64 0), .val (.int .i64 0), .val (.string ⟨#[]⟩), .val (.int .u64 0), .val (.slice none 0 0), .val (.int .u64 0), .val (.int .u64 0), .val (.string ⟨#[]⟩)]), (al 11, .row 33 1 out.length)]) (fun i _ => n.deps.length - i) (fun i out => i ≤ n.deps.length ∧ out = (n.deps.take i).map (dV steps)) 0 [] rfl ⟨by omega, by simp⟩ ?_;rintro i out ⟨h0, ho⟩ IH;have hnl := md out;have hol : out.length = i := by rw [ho]; simp; omega
 conv=>whnf
 refine ae (fun hc => ?_) (fun hc => ?_)
 ·have hc := ap hsl hc
  (conv=>whnf); (repeat ((with_reducible refine ac ?_ ?_); exact aaa (by omega); (conv=>whnf)))
  refine idxNat (by simpa using hc) ?_;conv=>whnf
  refine yZ steps hst n.deps[i] fun c hcc => ?_;conv=>whnf
  refine ⟨hnl.symm, (by rw [hnl]; show (out.length + 1) * (8 + 1) ≤ _; omega), ?_⟩;conv=>whnf
  have e1 : dR out ++ [[AV.val (Value.int IntKind.u64 (c.toNat : Int))]] = dR (out ++ [c]) := by simp [dR, uv]
  have e2 : (dR out).length + [[AV.val (Value.int IntKind.u64 (c.toNat : Int))]].length = (out ++ [c]).length := by simp [hnl]
  rw [e1, e2, am (by omega)];exact IH (i + 1) (out ++ [c]) ⟨by omega, by rw [ho, hcc, aab hc, aaG]; rfl⟩ (by omega)
 ·have hc := au hsl hc;have ho : out = kR steps n := by rw [ho, aae hc]; rfl
  clear hc IH;conv=>whnf
  refine A4 out (by omega) fun hs hhs => ?_;conv=>whnf
  refine IR n S hS hSd hs fun y hy => ?_;rw [hhs] at hy;have hy2 : y = kG n S ((kR steps n).map dig) := by rw [hy, ho]
  conv=>whnf
  refine ae (fun g2 => ?_) (fun g2 => ?_)
  ·have g2 : y = 0 := by simpa using g2
   rw [g2] at hy2;conv=>whnf
   refine ri S hS hSd n.name ?_;generalize hr : cT S n.name = r;generalize (cZ S n.name).isSome = f;conv=>whnf
   refine FR r.out fun c hcc => ?_;conv=>whnf
   exact cw (iJ (Cd n.name c)) rfl (h _ (by rw [cf, aap (by simp [g]), aaz hy2.symm, hr, hcc]))
  ·have g2 : y ≠ 0 := by simpa using g2
   conv=>whnf
   refine Ta n out (by omega) fun c hcc => ?_;conv=>whnf
   refine Di n (by omega) hs c w fun r e hr _ => ?_;conv=>whnf
   refine bB (h ⟨⟨n.name, true, c⟩, y, r⟩ ?_);rw [cf, aap (by simp [g]), aap (by rw [← hy2]; exact g2), ← hy2, hcc, hr, hhs, ho];rw [hcc, ho]
end Go.Abs
end
section
namespace Go.Abs
open Go Go.Proofs
def vrn (n : Nat) : B := if h : n < 128 then [UInt8.ofNat n] else UInt8.ofNat (n % 128 + 128) :: vrn (n / 128)
termination_by n
decreasing_by omega
theorem d9 {n : Nat} (h : n < 128) : vrn n = [UInt8.ofNat n] := by rw [vrn, dif_pos h]
theorem uF {n : Nat} (h : ¬ n < 128) : vrn n = UInt8.ofNat (n % 128 + 128) :: vrn (n / 128) := by
 conv => lhs; rw [vrn]
 rw [dif_neg h]
theorem jt (n : Nat) : 1 ≤ (vrn n).length := by
 by_cases h : n < 128
 ·rw [d9 h]; simp
 ·rw [uF h]; simp
theorem Ly : ∀ (k n : Nat), n < 128 ^ (k + 1) → (vrn n).length ≤ k + 1 := by
 intro k
 induction k with
 | zero => intro n h; rw [d9 (by simpa using h)]; simp
 | succ k ih =>
  intro n h;by_cases h1 : n < 128
  ·rw [d9 h1]; simp
  ·rw [uF h1];have := ih (n / 128) (by rw [Nat.pow_succ] at h; omega);simp only [aag];omega
theorem ct {n : Nat} (h : n < 18446744073709551616) : (vrn n).length ≤ 10 := Ly 9 n (by omega)
theorem sL {n : Nat} (h : n < 256) : (UInt8.ofNat n).toNat = n := by rw [UInt8.toNat_ofNat']; omega
theorem zk : ∀ (n i : Nat) (h : i < (vrn n).length), ((vrn n)[i]).toNat = n / 128 ^ i % 128 + (if i + 1 < (vrn n).length then 128 else 0) ∧ (i + 1 = (vrn n).length → n / 128 ^ i < 128 ∧ (0 < i → 0 < n / 128 ^ i)) ∧ (i + 1 < (vrn n).length → 128 ≤ n / 128 ^ i) := by
 intro n
 induction n using Nat.strongRecOn with
 | ind n ih =>
  intro i h;by_cases h1 : n < 128
  ·have hl : (vrn n).length = 1 := by rw [d9 h1]; rfl
   have hi : i = 0 := by omega
   subst hi;have e : (vrn n)[0] = UInt8.ofNat n := by
    have := aa9 (d9 h1) h;simpa using this
   rw [e, sL (by omega), hl];simp;omega
  ·have hb := uF h1;have hl : (vrn n).length = (vrn (n / 128)).length + 1 := by rw [hb]; rfl
   have hp := jt (n / 128)
   cases i with
   | zero =>
    have e : (vrn n)[0] = UInt8.ofNat (n % 128 + 128) := by
     have := aa9 hb h;simpa using this
    rw [e, sL (by omega), hl, aaz (by omega)];refine ⟨by simp, fun h3 => by omega, fun _ => ?_⟩;rw [Nat.pow_zero, Nat.div_one];omega
   | succ i =>
    have h2 : i < (vrn (n / 128)).length := by omega
    have e : (vrn n)[i + 1] = (vrn (n / 128))[i] := by
     have := aa9 hb h;simpa using this
    have hd : n / 128 ^ (i + 1) = n / 128 / 128 ^ i := by rw [Nat.pow_succ, Nat.mul_comm, Nat.div_div_eq_div_mul]
    obtain ⟨i1, i2, i3⟩ := ih (n / 128) (by omega) i h2;rw [e, hd, i1, hl];refine ⟨?_, ?_, ?_⟩
    ·congr 1;by_cases h3 : i + 1 < (vrn (n / 128)).length
     ·rw [aaz h3, aaz (by omega)]
     ·rw [aap h3, aap (by omega)]
    ·intro h3;obtain ⟨j1, j2⟩ := i2 (by omega);refine ⟨j1, fun _ => ?_⟩;by_cases h4 : 0 < i
     ·exact j2 h4
     ·have : i = 0 := by omega
      subst this;simp;omega
    ·intro h3;exact i3 (by omega)
end Go.Abs
end
section
namespace Go.Proofs
open Go.RowKit Go.Maps Go.Sort Go.Shelf
theorem Kx.law26 : Keyed Tryz.prog 9 := string_keyed Tryz.underlying9
def Kx.apAssign : Code := (Code.region 2 #[{ dst := some 5, op := Op.assign (Operand.tmp 7), type := 9, pos := "iter.go:51", after := #[], guard := none }] false)
def Kx.apBody : Code := (Code.block 1 (Code.region 3 #[{ dst := some 8, op := Op.load 71 (Operand.tmp 2), type := 71, pos := "iter.go:52", after := #[], guard := none }, { dst := some 9, op := Op.move (Operand.tmp 5), type := 9, pos := "iter.go:52", after := #[], guard := none }, { dst := some 10, op := Op.buildSlice 71 1 #[(0, Operand.tmp 9)], type := 71, pos := "iter.go:52", after := #[{ on := 1, ground := Ground.data }], guard := none }, { dst := some 11, op := Op.call { callee := Callee.builtin Builtin.append, args := #[Operand.tmp 8, Operand.tmp 10], argTypes := #[71, 71] }, type := 71, pos := "iter.go:52", after := #[{ on := 0, ground := Ground.data }, { on := 2, ground := Ground.data }], guard := none }, { dst := none, op := Op.store 71 (Operand.tmp 2) (Operand.tmp 11), type := 0, pos := "iter.go:52", after := #[{ on := 3, ground := Ground.data }, { on := 3, ground := Ground.chain }, { on := 0, ground := Ground.phase }, { on := 1, ground := Ground.phase }, { on := 2, ground := Ground.phase }, { on := 3, ground := Ground.phase }], guard := none }] false))
def Kx.apRec (fn : FuncId) (sv : Value) (Bs D : Nat) (st : LoopState) (pend : Option Code) : Loop :=
 { state := st, pending := pend, fn, tmps := #[.slice none 0 0, sv, .pointer (some ⟨Bs, 0, none⟩), undef, .slice none 0 0, undef, sv, undef, undef, undef, undef, undef, undef], params := #[7], assign := Kx.apAssign, body := Kx.apBody, defers := D }
structure Kx.ApAt (w0 : World) (fn : FuncId) (sv : Value) (Bs l D : Nat) (ss : List (List UInt8)) (W : World) : Prop where
 box : ∃ v, W.heap[Bs]? = some (.cells #[v] 71 (0, 0)) ∧ W.ownsRow w0.heap.size 9 1 v ss.length (ss.map encStr) ∧ (v = .slice none 0 0 ↔ ss = [])
 L : W.heap[l]? = some (.loop (Kx.apRec fn sv Bs D .ready none))
 K : W.heap[D]? = some (.deferred (some []))
 below : Below w0.heap.size w0 W
theorem rS {W W' : World} {row : Option Nat} {base : Nat} {e : TypeId} {size : Nat} {v : Value} {k : Nat} {xs : List Value} (h : W.ownsRow base e size v k xs) (hg : W.grownBy W' row)
  (hrow : ∀ r, row = some r → ∃ o : Obj, W.heap[r]? = some o ∧ o.isWalk = true) : W'.ownsRow base e size v k xs := by
 refine h.kept hg ?_;rcases h.2 with ⟨rfl, _⟩ | ⟨g, cap, cur, rfl, _, hgb, _⟩
 ·exact .inl rfl
 ·refine .inr fun e' => ?_;obtain ⟨o, ho, hw⟩ := hrow g (by simpa [Value.ownBlock] using e'.symm);rw [hgb] at ho; cases ho; cases hw
theorem Kx.ap_abides (w0 : World) (fn : FuncId) (sv : Value) (Bs l D B : Nat) (hB : w0.heap.size ≤ B) : AbidesFrom B (Kx.ApAt w0 fn sv Bs l D) := fun s W W' row h hg hrow => by
 have hrow' : ∀ r, row = some r → ∃ o : Obj, W.heap[r]? = some o ∧ o.isWalk = true := fun r e => (hrow r e).2;obtain ⟨v, hv, hr, hn⟩ := h.box;exact ⟨⟨v, (grownBy_keeps hg hrow' hv rfl).trans hv, rS hr hg hrow', hn⟩, (grownBy_keeps hg hrow' h.L rfl).trans h.L, (grownBy_keeps hg hrow' h.K rfl).trans h.K,
  h.below.grown hg h.below.size (fun k e => Nat.le_trans hB (hrow k e).1)⟩
theorem ec (W : World) (l : Nat) (o : Obj) : W.grownBy (W.putObj l o) (some l) :=
 ⟨rfl, rfl, rfl, by simp, fun k _ hk => World.putObj_heap_other (fun e => hk (by rw [e]))⟩
theorem pX (W : World) (b : Nat) (v : Value) : W.grownBy (W.setCell ⟨b, 0, none⟩ v) (some b) :=
 ⟨rfl, rfl, rfl, (KeepsWalks.setCell W _ v).size, fun k _ hk => Below.heap_setCell _ _ _ k (fun e => hk (by rw [e]))⟩
theorem gM {W : World} {base : Nat} {e : TypeId} {size : Nat} {v : Value} {k : Nat} {xs : List Value} (h : W.ownsRow base e size v k xs) {j : Nat} {o : Obj} (hj : W.heap[j]? = some o) (hno : ∀ cur, o ≠ .cells cur e (0, 0)) : v.ownBlock = none ∨ v.ownBlock ≠ some j := by
 rcases h.2 with ⟨rfl, _⟩ | ⟨g, cap, cur, rfl, _, hgb, _⟩
 ·exact .inl rfl
 ·refine .inr fun e' => ?_;have : g = j := by simpa [Value.ownBlock] using e'
  subst this; rw [hgb] at hj; cases hj; exact hno cur rfl
theorem cP {W : World} {B : Nat} {v : Value} {t : TypeId} (h : W.heap[B]? = some (.cells #[v] t (0, 0))) : W.cell? ⟨B, 0, none⟩ = some v ∧ W.frozen? ⟨B, 0, none⟩ = false := by
 constructor <;> simp [World.cell?, World.frozen?, h]
theorem iK {W : World} {B : Nat} {v : Value} {t : TypeId} (v' : Value) (h : W.heap[B]? = some (.cells #[v] t (0, 0))) : (W.setCell ⟨B, 0, none⟩ v').heap[B]? = some (.cells #[v'] t (0, 0)) := by
 obtain ⟨hlt, hk⟩ := Array.getElem?_eq_some_iff.1 h;show (W.heap.modify B _)[B]? = _;rw [Array.getElem?_eq_getElem (by rw [Array.size_modify]; exact hlt), Array.getElem_modify_self, hk];rfl
theorem pW {W : World} {base : Nat} {e : TypeId} {size : Nat} {v : Value} {k : Nat} {xs : List Value} (h : W.ownsRow base e size v k xs) : ∀ (j : Nat) (o : Obj), v.ownBlock = some j → W.heap[j]? = some o → o.isWalk = false := by
 intro j o hj ho;rcases h.2 with ⟨rfl, _⟩ | ⟨g, cap, cur, rfl, _, hgb, _⟩
 ·simp [Value.ownBlock] at hj
 ·have : g = j := by simpa [Value.ownBlock] using hj
  subst this; rw [hgb] at ho; cases ho; rfl
theorem Kx.info26 : (Tryz.prog.info? 9).map (fun i => (i.zero, i.size, i.bytes)) = some (some (.string ⟨#[]⟩), 1, 16) := by kernel_rfl
set_option maxRecDepth 100000 in
set_option maxHeartbeats 2000000 in
theorem Kx.apYield (F : Fence) (m : Nat) (w0 : World) (fn : FuncId) (hfn : F.fn fn) (sv : Value) (Bs l D : Nat) (hBl : Bs ≠ l) (hDl : D ≠ l) (hDB : D ≠ Bs) (h0B : w0.heap.size ≤ Bs) (h0l : w0.heap.size ≤ l)
  (N : Nat) (hN : N ≤ maxLen) (hNb : N * 16 ≤ 140737488355328) (ss : List (List UInt8)) (x : List UInt8) (W : World) (h : Kx.ApAt w0 fn sv Bs l D ss W) (hlen : ss.length < N) : YieldAt F m Tryz.prog l #[encStr x] W fun e W' => e = .returned (.bool true) ∧ Kx.ApAt w0 fn sv Bs l D (ss ++ [x]) W' ∧ KeepsWalks W W' := by
 obtain ⟨i0, hi, hz0, hz1, hz2⟩ := info_parts Kx.info26;obtain ⟨v, hv, hrow, _⟩ := h.box;refine ⟨fn, #[.slice none 0 0, sv, .pointer (some ⟨Bs, 0, none⟩), undef, .slice none 0 0, undef, sv, encStr x, undef, undef, undef, undef, undef], Kx.apAssign, Kx.apBody, by simpa [Kx.apRec] using run_yield (P := Tryz.prog) (args := #[encStr x]) h.L rfl, roundIn_of_wpIn hfn ?_⟩;have hl : l < W.heap.size := (Array.getElem?_eq_some_iff.1 h.L).1;have hbr := run_beginRound (P := Tryz.prog) h.L rfl;obtain ⟨W2, hW2⟩ : ∃ W2, W.putObj l (.loop { Kx.apRec fn sv Bs D .ready none with state := .busy }) = W2 := ⟨_, rfl⟩;rw [hW2] at hbr;have hg2 : W.grownBy W2 (some l) := by rw [← hW2]; exact ec _ _ _
 have hk2 : KeepsWalks W W2 := by rw [← hW2]; exact KeepsWalks.putObj _ h.L rfl
 have hv2 : W2.heap[Bs]? = some (.cells #[v] 71 (0, 0)) := by rw [← hW2]; exact (World.putObj_heap_other hBl).trans hv
 have hK2 : W2.heap[D]? = some (.deferred (some [])) := by rw [← hW2]; exact (World.putObj_heap_other hDl).trans h.K
 have hL2 : W2.heap[l]? = some (.loop { Kx.apRec fn sv Bs D .ready none with state := .busy }) := by rw [← hW2]; exact World.putObj_heap_same hl
 have hrow2 : W2.ownsRow w0.heap.size 9 1 v ss.length (ss.map encStr) := hrow.kept hg2 (gM hrow h.L (fun cur e => by cases e));have hb2 : Below w0.heap.size w0 W2 := h.below.grown hg2 h.below.size (fun k e => by cases e; exact h0l);obtain ⟨hc2, hf2⟩ := cP hv2;have hBlt : Bs < W2.heap.size := (Array.getElem?_eq_some_iff.1 hv2).1;have hl2 : l < W2.heap.size := (Array.getElem?_eq_some_iff.1 hL2).1;have hDlt : D < W2.heap.size := (Array.getElem?_eq_some_iff.1 hK2).1;have ne_of : ∀ {j : Nat} {o : Obj}, W2.heap[j]? = some o → (∀ cur, o ≠ .cells cur 9 (0, 0)) → some j ≠ v.ownBlock := fun hj hno => by
  rcases gM hrow2 hj hno with e | e
  ·rw [e]; simp
  ·exact fun e' => e e'.symm
 clear hW2;unfold Kx.apAssign
 gi_wp2_with (rw [Oper.semAt_eq _ _ _ (fun c h => by cases h)]; go_simp; try go_bits)
 unfold Kx.apBody
 gi_wp2_with (first
  | (
    gi_at_builtin; refine wpListIn_append_own _ rfl _ _ 71 rfl w0.heap.size 9 i0 (.string ⟨#[]⟩) 1 16 Tryz.underlying71 hi hz0 hz1 hz2 rfl (by decide) _ _ _ rfl (hrow2.alloc _) ⟨W2.heap.size, 0, none⟩ 1 1 [encStr x] rfl rfl (cell_one_new _ _ _) (by simp [Value.oneCell', encStr]) (by omega) (by omega) (by have := hb2.size; simp; omega) ?_; intro v' w3 hown' hg3 hnil3
    have hv3 : w3.heap[Bs]? = some (.cells #[v] 71 (0, 0)) := (hg3.block Bs (by simp; omega) (ne_of hv2 (fun cur e => by cases e))).trans ((Below.heap_alloc _ _ Bs hBlt).trans hv2);obtain ⟨hc3, hf3⟩ := cP hv3;obtain ⟨g', cap', cur', rfl, hbase', hgb', hr1, hr2, hr3, hr4⟩ : ∃ g' cap' cur', v' = .slice (some ⟨g', 0, none⟩) (ss.length + 1) cap' ∧ w0.heap.size ≤ g' ∧ w3.heap[g']? = some (.cells cur' 9 (0, 0)) ∧ ss.length + 1 ≤ cap' ∧ cap' ≤ maxLen ∧ cur'.size = cap' * 1 ∧ cur'.toList.take ((ss.length + 1) * 1) = ss.map encStr ++ [encStr x] := by
     rcases hown'.2 with ⟨_, h0⟩ | h'
     ·exact absurd h0 (by omega)
     ·exact h'
    go_frame)
  | (rw [Oper.semAt_eq _ _ _ (fun c h => by cases h)]; go_simp; try go_bits))
 have hg3' : (W2.alloc (.cells #[encStr x] 9)).grownBy w3 v.ownBlock := hg3;have hL3 : w3.heap[l]? = some (.loop { Kx.apRec fn sv Bs D .ready none with state := .busy }) := (hg3'.block l (by simp; omega) (ne_of hL2 (fun cur e => by cases e))).trans ((Below.heap_alloc _ _ l hl2).trans hL2);have hK3 : w3.heap[D]? = some (.deferred (some [])) := (hg3'.block D (by simp; omega) (ne_of hK2 (fun cur e => by cases e))).trans ((Below.heap_alloc _ _ D hDlt).trans hK2);obtain ⟨w4, hw4⟩ : ∃ w4, w3.setCell ⟨Bs, 0, none⟩ (.slice (some ⟨g', 0, none⟩) (ss.length + 1) cap') = w4 := ⟨_, rfl⟩;rw [hw4];have hg4 : w3.grownBy w4 (some Bs) := by rw [← hw4]; exact pX _ _ _
 have hv4 : w4.heap[Bs]? = some (.cells #[.slice (some ⟨g', 0, none⟩) (ss.length + 1) cap'] 71 (0, 0)) := by rw [← hw4]; exact iK _ hv3
 have hL4 : w4.heap[l]? = some (.loop { Kx.apRec fn sv Bs D .ready none with state := .busy }) := (hg4.block l (Array.getElem?_eq_some_iff.1 hL3).1 (fun e => hBl (by cases e; rfl))).trans hL3;have hK4 : w4.heap[D]? = some (.deferred (some [])) := (hg4.block D (Array.getElem?_eq_some_iff.1 hK3).1 (fun e => hDB (by cases e; rfl))).trans hK3;have hrow4 := hown'.kept hg4 (gM hown' hv3 (fun cur e => by cases e));have hl4 : l < w4.heap.size := (Array.getElem?_eq_some_iff.1 hL4).1;have hb3 : Below w0.heap.size w0 w3 := (hb2.alloc hb2.size _).grown hg3' (by have := hb2.size; simp; omega) (fun k e => (hrow2.lt k e).1);have hb4 : Below w0.heap.size w0 w4 := hb3.grown hg4 hb3.size (fun k e => by cases e; exact h0B);have hk4 : KeepsWalks W w4 := ((hk2.trans (KeepsWalks.alloc _ _)).trans (KeepsWalks.of_grownBy hg3' (pW (hrow2.alloc _)))).trans (by rw [← hw4]; exact KeepsWalks.setCell _ _ _);clear hw4;refine ⟨_, _, run_endRound none hL4, rfl, ⟨⟨_, (World.putObj_heap_other hBl).trans hv4, ?_, by simp⟩, World.putObj_heap_same hl4, (World.putObj_heap_other hDl).trans hK4, hb4.grown (ec _ _ _) hb4.size (fun k e => by cases e; exact h0l)⟩, hk4.trans (KeepsWalks.putObj _ hL4 rfl)⟩;have := hrow4.kept (ec w4 l (.loop { { Kx.apRec fn sv Bs D .ready none with state := .busy } with state := if (none : Option Code).isNone then .ready else .done, pending := none })) (gM hrow4 hL4 (fun cur e => by cases e));simpa using this
set_option maxRecDepth 100000 in
set_option maxHeartbeats 2000000 in
theorem Kx.appendSeq_in (F : Fence) (n : Nat) (h11 : F.fn 151) (hro : F.round = none) (hn : 2 ≤ n) (g : Nat) (lb : Array Value) (hFg : F.fn g) (eg : ∀ args w, (callFunc g args).run Tryz.prog w = .ok (.enter g args) w)
  (S : List (List UInt8) → Prop) (N : Nat) (hN : N ≤ maxLen) (hNb : N * 16 ≤ 140737488355328) (w : World) (hseq : SeqGives F (n - 1) Tryz.prog g lb encStr S N w) : CallsIn F n Tryz.prog 151 #[.slice none 0 0, .func (.func g) #[] lb] w fun e w' => ∃ (v : Value) (ss : List (List UInt8)), e = .returned v ∧ S ss ∧ w'.ownsRow w.heap.size 9 1 v ss.length (ss.map encStr) ∧ (v = .slice none 0 0 ↔ ss = []) ∧ Below w.heap.size w w' := by
 have h1 : 1 ≤ n := by omega
 refine callsIn_of_wp_marks Tryz.func151 rfl h11 ?_ hro;simp only [Tryz.ntmps151, List.size_toArray, List.length_cons, List.length_nil, Nat.reduceAdd, Nat.reduceSub, Array.replicate_succ, Array.replicate_zero, List.push_toArray, List.append_toArray, List.nil_append, List.cons_append]
 gi_wp2
 refine wpIn_rangeFunc ?_;intro fn hfn;rw [hro];obtain ⟨W0, hW0⟩ : ∃ W0, w.alloc (.cells #[.slice none 0 0] 71) = W0 := ⟨_, rfl⟩;have hs0 : W0.heap.size = w.heap.size + 1 := by rw [← hW0]; simp
 have hv0 : W0.heap[w.heap.size]? = some (.cells #[.slice none 0 0] 71 (0, 0)) := by rw [← hW0]; exact World.alloc_heap_new w _
 have hb0 : Below w.heap.size w W0 := by rw [← hW0]; exact (Below.refl _ w).alloc (Nat.le_refl _) _
 rw [hW0];obtain ⟨W1, hW1⟩ : ∃ W1, (W0.alloc (.deferred (some []))).alloc (.loop (Kx.apRec fn (.func (.func g) #[] lb) w.heap.size W0.heap.size .ready none)) = W1 := ⟨_, rfl⟩;have hold : ∀ k, k < W0.heap.size → W1.heap[k]? = W0.heap[k]? := fun k hk => by
  rw [← hW1]; exact (Below.heap_alloc _ _ k (by simp; omega)).trans (Below.heap_alloc _ _ k hk)
 have hb1 : Below w.heap.size w W1 := by rw [← hW1]; exact (hb0.alloc hb0.size _).alloc (by have := hb0.size; simp; omega) _
 have hs1 : W1.heap.size = W0.heap.size + 2 := by rw [← hW1]; simp
 have hM : Kx.ApAt w fn (.func (.func g) #[] lb) w.heap.size (W0.heap.size + 1) W0.heap.size [] W1 :=
  ⟨⟨_, (hold w.heap.size (by omega)).trans hv0, ⟨rfl, .inl ⟨rfl, rfl⟩⟩, by simp⟩,
   by rw [← hW1]; have := World.alloc_heap_new (W0.alloc (.deferred (some []))) (.loop (Kx.apRec fn (.func (.func g) #[] lb) w.heap.size W0.heap.size .ready none)); rwa [World.size_alloc] at this,
   by rw [← hW1]; exact (Below.heap_alloc _ _ _ (by simp)).trans (World.alloc_heap_new W0 _), hb1⟩
 refine ⟨W0.heap.size + 1, [{ target := .collected W0.heap.size, args := #[] }], W1, { target := .fn (.func g) lb, args := #[.func (.yield (W0.heap.size + 1)) #[] #[]] }, W1, g,
  #[.func (.yield (W0.heap.size + 1)) #[] #[]] ++ lb, W1, ?_, ?_, ?_, ?_, fun _ => h1, ?_⟩
 ·rw [← hW1]; exact run_enterLoop_outer _ _ _ _ _
 ·simp [resolve, go_sem]
 ·intro f' hf'; simp [Target.leads] at hf'; subst hf'; exact hFg
 ·simp [invoke, go_sem, eg]
 ·refine (hseq (W0.heap.size + 1) (Kx.ApAt w fn (.func (.func g) #[] lb) w.heap.size (W0.heap.size + 1) W0.heap.size) W1 hb1 (Kx.ap_abides _ _ _ _ _ _ _ hb1.size)
   (fun pre x W hJ hl => Kx.apYield F (n - 1 - 1) w fn hfn _ w.heap.size (W0.heap.size + 1) W0.heap.size (by omega) (by omega) (by omega) (Nat.le_refl _) (by omega) N hN hNb pre x W hJ hl) hM).mono ?_
  rintro e W2 ⟨⟨v0, rfl⟩, ss, hS, h2⟩;obtain ⟨v, hv, hrow, hnil⟩ := h2.box;have hend := run_endLoop (P := Tryz.prog) h2.L (by simp [Kx.apRec]);obtain ⟨W3, hW3⟩ : ∃ W3, W2.putObj (W0.heap.size + 1) (.loop { Kx.apRec fn (.func (.func g) #[] lb) w.heap.size W0.heap.size .ready none with state := .exhausted }) = W3 := ⟨_, rfl⟩;rw [hW3] at hend;have hg3 : W2.grownBy W3 (some (W0.heap.size + 1)) := by rw [← hW3]; exact ec _ _ _
  have hv3 : W3.heap[w.heap.size]? = some (.cells #[v] 71 (0, 0)) := by rw [← hW3]; exact (World.putObj_heap_other (by omega)).trans hv
  have hK3 : W3.heap[W0.heap.size]? = some (.deferred (some [])) := by rw [← hW3]; exact (World.putObj_heap_other (by omega)).trans h2.K
  have hrow3 := hrow.kept hg3 (gM hrow h2.L (fun cur e => by cases e));have hb3 : Below w.heap.size w W3 := h2.below.grown hg3 h2.below.size (fun k e => by cases e; omega);obtain ⟨hc3, hf3⟩ := cP hv3;clear hW3;refine ⟨none, W3, hend, ?_⟩
  gi_wp2
  rw [← hs0];refine ⟨by simp, .inl ⟨_, _, rfl, run_takeDeferred hK3, ?_⟩⟩;exact ⟨_, results_tmp rfl _ _ _, v, ss, rfl, hS, hrow3.kept (ec _ _ _) (gM hrow3 hK3 (fun cur e => by cases e)), hnil, hb3.grown (ec _ _ _) hb3.size (fun k e => by cases e; omega)⟩
set_option maxHeartbeats 1000000 in
theorem Kx.collect_in (F : Fence) (n : Nat) (h8 : F.fn 111) (h11 : F.fn 151) (hro : F.round = none) (hn : 3 ≤ n) (g : Nat) (lb : Array Value) (hFg : F.fn g) (eg : ∀ args w, (callFunc g args).run Tryz.prog w = .ok (.enter g args) w)
  (S : List (List UInt8) → Prop) (N : Nat) (hN : N ≤ maxLen) (hNb : N * 16 ≤ 140737488355328) (w : World) (hseq : SeqGives F (n - 1 - 1) Tryz.prog g lb encStr S N w) : CallsIn F n Tryz.prog 111 #[.func (.func g) #[] lb] w fun e w' => ∃ (v : Value) (ss : List (List UInt8)), e = .returned v ∧ S ss ∧ w'.ownsRow w.heap.size 9 1 v ss.length (ss.map encStr) ∧ (v = .slice none 0 0 ↔ ss = []) ∧ Below w.heap.size w w' := by
 have h1 : 1 ≤ n := by omega
 refine callsIn_of_wp Tryz.func111 rfl h8 ?_ hro;simp only [Tryz.ntmps111, List.size_toArray, List.length_cons, List.length_nil, Nat.reduceAdd, Nat.reduceSub, Array.replicate_succ, Array.replicate_zero, List.push_toArray, List.append_toArray, List.nil_append, List.cons_append]
 gi_wp2_with (gi_at_call 151; refine (Kx.appendSeq_in F (n - 1) h11 hro (by omega) g lb hFg eg S N hN hNb _ hseq).mono ?_; rintro e w' ⟨v, ss, rfl, hS, hrow, hnil, hb⟩)
 go_ret
 exact ⟨v, ss, rfl, hS, hrow, hnil, hb⟩
def Kx.SortsIn (F : Fence) (m : Nat) : Prop :=
 (∀ (blk off cap : Nat) (ss : List (List UInt8)) (W : World), Holds encStr W blk off ss.toArray → blk < W.heap.size → ss.length < 4611686018427387904 →
  CallsIn F m Tryz.prog 112 #[.slice (some ⟨blk, off, none⟩) ss.length cap] W fun e w' => e = .returned (.tuple #[]) ∧ ∃ k os, w' = grow (putRow encStr (Sort.ahead W k) blk off (ss.mergeSort fun x y => decide (x ≤ y)).toArray) os) ∧
 (∀ (p : Option Addr) (cap : Nat) (W : World), CallsIn F m Tryz.prog 112 #[.slice p 0 cap] W fun e w' => e = .returned (.tuple #[]) ∧ w' = W)
set_option maxRecDepth 100000 in
set_option maxHeartbeats 2000000 in
theorem Kx.sorted_in (F : Fence) (n : Nat) (h6 : F.fn 75) (h8 : F.fn 111) (h9 : F.fn 112) (h11 : F.fn 151) (hro : F.round = none) (hn : 4 ≤ n) (hsort : Kx.SortsIn F (n - 1)) (g : Nat) (lb : Array Value) (hFg : F.fn g) (eg : ∀ args w, (callFunc g args).run Tryz.prog w = .ok (.enter g args) w)
  (S : List (List UInt8) → Prop) (N : Nat) (hN : N ≤ maxLen) (hNb : N * 16 ≤ 140737488355328) (w : World) (hseq : SeqGives F (n - 1 - 1 - 1) Tryz.prog g lb encStr S N w) : CallsIn F n Tryz.prog 75 #[.func (.func g) #[] lb] w fun e w' => ∃ (v : Value) (ss : List (List UInt8)), e = .returned v ∧ S ss ∧
   w'.ownsRow w.heap.size 9 1 v ss.length ((ss.mergeSort (fun x y => decide (x ≤ y))).map encStr) ∧ (v = .slice none 0 0 ↔ ss = []) ∧ Below w.heap.size w w' := by
 have h1 : 1 ≤ n := by omega
 refine callsIn_of_wp Tryz.func75 rfl h6 ?_ hro;simp only [Tryz.ntmps75, List.size_toArray, List.length_cons, List.length_nil, Nat.reduceAdd, Nat.reduceSub, Array.replicate_succ, Array.replicate_zero, List.push_toArray, List.append_toArray, List.nil_append, List.cons_append]
 gi_wp2_with (gi_at_call 111; refine (Kx.collect_in F (n - 1) h8 h11 hro (by omega) g lb hFg eg _ N hN hNb _ hseq.bounded).mono ?_; rintro e W ⟨v, ss, rfl, ⟨hS, hlen⟩, hrow, hnil, hb⟩)
 rcases hrow.2 with ⟨rfl, hz⟩ | ⟨gb, cap, cur, rfl, hbase, hgb, r1, r2, r3, r4⟩
 ·-- nothing came: the nil slice is sorted and handed back
  have hss : ss = [] := List.eq_nil_of_length_eq_zero hz;subst hss
  gi_wp2_with (gi_at_call 112; refine (hsort.2 none 0 W).mono ?_; rintro e w' ⟨rfl, rfl⟩)
  go_ret
  exact ⟨.slice none 0 0, [], rfl, hS, by simpa using hrow, by simp, hb⟩
 ·have hH : Holds encStr W gb 0 ss.toArray := holds_of_block hgb (by simpa using r4);have hgl : gb < W.heap.size := (Array.getElem?_eq_some_iff.1 hgb).1;have hsz : ss.length < 4611686018427387904 := by omega
  have cS := hsort.1 gb 0 cap ss W hH hgl hsz
  gi_wp2_with (gi_at_call 112; refine cS.mono ?_; rintro e w' ⟨rfl, nn, os, rfl⟩)
  go_ret
  exact ⟨_, ss, rfl, hS, ownsRow_sorted (by simp) hbase hgb r1 r2 r3, hnil, hb.grown (grownBy_sorted _) hb.size (fun j hj => by cases hj; exact hbase)⟩
end Go.Proofs
end
section
namespace Go.Abs
open Go Go.Proofs Go.RowKit
attribute [local go_sem] Oper.semAt_some
def mQ (n : Nat) : List (List AV) := (vrn n).map fun c => [.val (.int .u8 (c.toNat : Int))]
theorem xZ {K : Nat → Nat → Option Value} {W : World} {b : Nat} {v v' : Value} {t : TypeId} {Own : Nat → Prop} (hO : ∀ c, Own c ↔ c = b) (hb : W.heap[b]? = some (.cells #[v] t (0, 0))) (hKb : ∀ o, K b o = none)
  (hk : ∀ c o u, K c o = some u → W.cell? ⟨c, o, none⟩ = some u) : w8 Own K W Own K (W.setCell ⟨b, 0, none⟩ v') := by
 have hlt : b < W.heap.size := (Array.getElem?_eq_some_iff.1 hb).1;have hsz : (W.setCell ⟨b, 0, none⟩ v').heap.size = W.heap.size := by simp [World.setCell]
 have hot : ∀ c, c ≠ b → (W.setCell ⟨b, 0, none⟩ v').heap[c]? = W.heap[c]? := fun c hc => Below.heap_setCell _ _ _ _ hc;refine ⟨rfl, rfl, rfl, by rw [hsz]; exact aar _, fun c _ hc => hot c (fun e => hc ((hO c).2 e)), fun c hc => .inl hc, fun _ _ _ h => h, fun _ _ _ _ => rfl, fun c o u hu => ?_, fun c hc => ?_⟩
 ·by_cases e : c = b
  ·subst e; rw [hKb] at hu; cases hu
  ·rw [cell_of_heap (hot c e)]; exact hk c o u hu
 ·rw [(hO c).1 hc, hsz]; exact hlt
theorem L7 : (List.range 256).all (fun n => decide (bits BinOp.or IntKind.u8 (n : Int) 128 = ((n % 128 + 128 : Nat) : Int))) = true := by decide +kernel
theorem Qv {m : Nat} : bits BinOp.or IntKind.u8 ((m : Int) % 256) 128 = ((m % 128 + 128 : Nat) : Int) := by
 have h := aal (List.all_eq_true.1 L7 (m % 256) (List.mem_range.2 (Nat.mod_lt _ (by omega))));rw [show ((m : Int) % 256) = ((m % 256 : Nat) : Int) by omega, h];congr 1;omega
set_option maxHeartbeats 4000000 in
theorem mh (n : Nat) (hn : n < 18446744073709551616) : GQ Tryz.prog 274 [.ptr 0 0] [.cells 33 [.val (.int .u64 (n : Int))]] (mQ n) := by
 refine ⟨fun args w => ix (by kernel_rfl), fun G w lb hW hr l n' J Jx hY hS hK h0 => ?_⟩;simp only [aB, Rep] at hr;obtain ⟨_, _, rfl, ⟨b, hb, rfl⟩, rfl⟩ := hr;obtain ⟨b', vs, e1, e2, e3, e4⟩ := hW.obj 0 _ rfl;rw [hb] at e1; cases e1;simp only [aB, Rep] at e3;obtain ⟨_, _, rfl, rfl, rfl⟩ := e3;have hO : ∀ c, (∃ k, G.at k c) ↔ c = b := fun c => by
  constructor
  ·rintro ⟨k, hk⟩;have h1 : ∃ o, ax (bC 0 [aE.cells 33 [.val (.int .u64 (n : Int))]]) k = some o := by
    rcases hk with h4 | ⟨u, t, h4, _⟩ <;> exact hW.dom k _ h4
   obtain ⟨o, ho⟩ := h1;rw [bU] at ho;have : k = 0 := by
    cases k with
    | zero => rfl
    | succ k => simp at ho
   subst this;rcases hk with h4 | ⟨u, t, h4, _⟩
   ·rw [hb] at h4; cases h4; rfl
   ·rw [hb] at h4; cases h4
  ·rintro rfl; exact ⟨0, .inl hb⟩
 obtain ⟨Own, hOwn⟩ : ∃ Own : Nat → Prop, Own = fun c => ∃ k, G.at k c := ⟨_, rfl⟩;rw [← hOwn] at h0;have hO : ∀ c, Own c ↔ c = b := by rw [hOwn]; exact hO
 clear hOwn;have hlen : (mQ n).length = (vrn n).length := by simp [mQ]
 have hat := zk n;have hpos := jt n;rw [show FW none = Fence.wide from rfl] at hY ⊢;refine callsIn_of_wp Tryz.func274 rfl trivial ?_ rfl;simp only [Tryz.ntmps274, aa4, aag, aaj, Nat.reduceAdd, Nat.reduceSub, abp, abo, abx, abu, aam, aav, aa8]
 gi_wp2
 gi_loopw [3] (fun _ wr => ∃ (i : Nat) (K : Nat → Nat → Option Value), i < (vrn n).length ∧ J i Own K wr ∧ (∀ o, K b o = none) ∧ wr.heap[b]? = some (.cells #[.int .u64 ((n / 128 ^ i : Nat) : Int)] 33 (0, 0)))
  (fun _ wr => match wr.cell? ⟨b, 0, none⟩ with | some (.int _ x) => x.toNat | _ => 0)
 case atStart => exact ⟨0, G.K, by omega, h0, e4, by simpa using e2⟩
 case round =>
  obtain ⟨i, K, hi, hJi, hKb, hbx⟩ := hrel;obtain ⟨hcell, hfz⟩ := cP hbx;obtain ⟨a1, a2, a3⟩ := hat i hi;have hmn : n / 128 ^ i ≤ n := Nat.div_le_self _ _;generalize hm : n / 128 ^ i = m at *;have hm64 : (m : Int) < 18446744073709551616 := by omega
  have hm0 : (0 : Int) ≤ m := by omega
  by_cases hlt : i + 1 < (vrn n).length
  ·have h128 : ¬ ((m : Int) < 128) := by have := a3 hlt; omega
   have h128' : (m : Int) ≥ 128 := by omega
   clear hat a2 a3 h0 hW hlen hpos;have hx : ((vrn n)[i].toNat : Int) = (m : Int) % 128 + 128 := by rw [a1, aaz hlt]; omega
   have hxs : (mQ n)[i]? = some [.val (.int .u8 ((m : Int) % 128 + 128))] := by
    unfold mQ;rw [aaE, aad hi, ← hx];rfl
   have hval : bits BinOp.or IntKind.u8 ((m : Int) % 256) 128 = (m : Int) % 128 + 128 := by
    rw [Qv]; omega
   obtain ⟨fn, tmps, assign, body, hy, hR⟩ := hY (n' - 1) i _ #[.int .u8 ((m : Int) % 128 + 128)] Own K wr hxs (by simp only [aB, Rep]; exact ⟨_, _, rfl, rfl, rfl⟩) hJi;clear hY a1 hx hxs
   gi_wp2
   refine ⟨fun h => by simp [Fence.wide] at h, hR.mono ?_⟩;rintro e W3 (⟨rfl, K', hJ3, hKK, hO3, hos3, htape3, hout3, hsz3⟩ | ⟨rfl, hJx3⟩)
   ·clear hR hy;have hbx3 := (hO3 b ((hO b).2 rfl)).1.trans hbx;obtain ⟨hcell3, hfz3⟩ := cP hbx3;clear hcell hfz;have hKb3 : ∀ o, K' b o = none := fun o => by rw [(hO3 b ((hO b).2 rfl)).2 o]; exact hKb o
    have hst := xZ (v' := .int .u64 ((m : Int) / 128)) hO hbx3 hKb3 (hK (i + 1) Own K' W3 hJ3);have hJ4 := hS (i + 1) Own K' W3 Own K' _ hJ3 hst;have hbx4 := iK (.int .u64 ((m : Int) / 128)) hbx3;have hc4 := (cP hbx4).1;have hd : ((n / 128 ^ (i + 1) : Nat) : Int) = (m : Int) / 128 := by
     rw [Nat.pow_succ, ← Nat.div_div_eq_div_mul, hm]; omega
    have hwr := (cP hbx).1;clear hS hK hst hO3
    gi_wp2
    refine ⟨⟨i + 1, K', hlt, hJ4, hKb3, by rw [hd]; exact hbx4⟩, ?_⟩;rw [hc4, hwr];show ((m : Int) / 128).toNat < (m : Int).toNat;omega
   ·clear hR hy
    gi_wp2
    refine bodyPost_ret (results_none rfl _ _ _) rfl ?_;exact ⟨⟨_, rfl⟩, .inr hJx3⟩
  ·have hfin : i + 1 = (vrn n).length := by omega
   have hm128 : m < 128 := (a2 hfin).1;have h128 : (m : Int) < 128 := by omega
   have h128' : ¬ (m : Int) ≥ 128 := by omega
   have hx : ((vrn n)[i].toNat : Int) = (m : Int) := by rw [a1, aap hlt]; omega
   have hxs : (mQ n)[i]? = some [.val (.int .u8 (m : Int))] := by
    unfold mQ;rw [aaE, aad hi, ← hx];rfl
   have hval : (m : Int) % 256 = (m : Int) := by omega
   obtain ⟨fn, tmps, assign, body, hy, hR⟩ := hY (n' - 1) i _ #[.int .u8 (m : Int)] Own K wr hxs (by simp only [aB, Rep]; exact ⟨_, _, rfl, rfl, rfl⟩) hJi;have hend : (mQ n).length = i + 1 := by omega
   clear hY a1 hx hxs hat a2 a3 h0 hW hlen hpos hS hK
   gi_wp2
   refine ⟨fun h => by simp [Fence.wide] at h, hR.mono ?_⟩;rintro e W3 (⟨rfl, K', hJ3, _⟩ | ⟨rfl, hJx3⟩)
   ·clear hR hy
    gi_wp2
    go_end0
    exact ⟨⟨_, rfl⟩, .inl ⟨Own, K', by rw [hend]; exact hJ3⟩⟩
   ·clear hR hy
    gi_wp2
    go_end0
    exact ⟨⟨_, rfl⟩, .inr hJx3⟩
end Go.Abs
end
section
namespace Go.Abs
open Go Go.Proofs Go.Sort Go.Maps
theorem DZ (m : Nat) : Kx.SortsIn Fence.wide m :=
 ⟨fun blk off cap ss W hH hblk hsz => callsIn_wide.2 (Tryz.slices_Sort_string blk off cap ss W hH hblk hsz),
  fun p cap W => callsIn_wide.2 (Tryz.slices_Sort_string_none p cap W)⟩
end Go.Abs
end
section
namespace Go.Abs
open Go Go.Proofs
section assoc
variable {α : Type}
def js (e : α → AV) (m : List (B × α)) : List (ByteArray × AV) := m.map fun p => (ofB p.1, e p.2)
def lk : List (B × α) → B → Option α
 | [], _ => none
 | (s, v) :: m, k => if s = k then some v else lk m k
def pt : List (B × α) → B → α → List (B × α)
 | [], k, v => [(k, v)]
 | (s, u) :: m, k, v => if s = k then (k, v) :: m else (s, u) :: pt m k v
def dl : List (B × α) → B → List (B × α)
 | [], _ => []
 | (s, u) :: m, k => if s = k then m else (s, u) :: dl m k
def kys (m : List (B × α)) : List B := m.map (·.1)
theorem iG (e : α → AV) (m : List (B × α)) (k : B) : cD (js e m) (ofB k) = (lk m k).map e := by
 induction m with
 | nil => rfl
 | cons p m ih =>
  obtain ⟨s, v⟩ := p;show (if ofB s = ofB k then some (e v) else cD (js e m) (ofB k)) = _;rw [ih];by_cases h : s = k
  ·subst h; simp [lk]
  ·have : ofB s ≠ ofB k := fun x => h (bZ x);simp [lk, h, this]
theorem lL (e : α → AV) (m : List (B × α)) (k : B) (v : α) : dU (js e m) (ofB k) (e v) = js e (pt m k v) := by
 induction m with
 | nil => rfl
 | cons p m ih =>
  obtain ⟨s, u⟩ := p;show (if ofB s = ofB k then (ofB k, e v) :: js e m else (ofB s, e u) :: dU (js e m) (ofB k) (e v)) = _;rw [ih];by_cases h : s = k
  ·subst h; simp [pt, js]
  ·have : ofB s ≠ ofB k := fun x => h (bZ x);simp [pt, h, this, js]
theorem De (e : α → AV) (m : List (B × α)) (k : B) : jA (js e m) (ofB k) = js e (dl m k) := by
 induction m with
 | nil => rfl
 | cons p m ih =>
  obtain ⟨s, u⟩ := p;show (if ofB s = ofB k then js e m else (ofB s, e u) :: jA (js e m) (ofB k)) = _;rw [ih];by_cases h : s = k
  ·subst h; simp [dl, js]
  ·have : ofB s ≠ ofB k := fun x => h (bZ x);simp [dl, h, this, js]
theorem Af {m : List (B × α)} {k : B} {v : α} (h : lk m k = some v) : (k, v) ∈ m := by
 induction m with
 | nil => cases h
 | cons p m ih =>
  obtain ⟨s, u⟩ := p;simp only [lk] at h;split at h
  ·rename_i e; subst e; cases h; simp
  ·exact aaw _ (ih h)
theorem fL {m : List (B × α)} {k : B} : lk m k = none ↔ k ∉ kys m := by
 induction m with
 | nil => simp [lk, kys]
 | cons p m ih =>
  obtain ⟨s, u⟩ := p;by_cases e : s = k
  ·subst e; simp [lk, kys]
  ·have : k ≠ s := fun x => e x.symm;simp only [lk, e, aaW, ih, kys, aaF, aaY, this, false_or]
theorem vX {m : List (B × α)} {k : B} (h : k ∈ kys m) : ∃ v, lk m k = some v := by
 cases e : lk m k with
 | none => exact absurd h (fL.1 e)
 | some v => exact ⟨v, rfl⟩
theorem lD {m : List (B × α)} {k : B} {v : α} (h : lk m k = some v) : k ∈ kys m := aaD (f := (·.1)) (Af h)
theorem jC (m : List (B × α)) (k j : B) (v : α) : lk (pt m k v) j = if k = j then some v else lk m j := by
 induction m with
 | nil => simp [pt, lk]
 | cons p m ih =>
  obtain ⟨s, u⟩ := p;by_cases e : s = k
  ·subst e;simp only [pt, abq, lk];split <;> rfl
  ·simp only [pt, e, aaW, lk, ih];by_cases e2 : s = j
   ·subst e2; simp [Ne.symm e]
   ·simp [e2]
theorem sZ {m : List (B × α)} {k : B} {v : α} (h : k ∈ kys m) : kys (pt m k v) = kys m := by
 induction m with
 | nil => simp [kys] at h
 | cons p m ih =>
  obtain ⟨s, u⟩ := p;by_cases e : s = k
  ·subst e; simp [pt, kys]
  ·have h2 : k ∈ kys m := by
    simp only [kys, aaF, aaY] at h;exact h.resolve_left (Ne.symm e)
   have := ih h2;unfold kys at this ⊢;simp only [pt, e, aaW, aaF, this]
theorem wa {m : List (B × α)} {k : B} {v : α} (h : k ∉ kys m) : pt m k v = m ++ [(k, v)] := by
 induction m with
 | nil => rfl
 | cons p m ih =>
  obtain ⟨s, u⟩ := p;have h1 : s ≠ k := fun e => h (by simp [kys, e]);have h2 : k ∉ kys m := fun e => h (by unfold kys at e ⊢; simp [e]);simp [pt, h1, ih h2]
theorem qI {m : List (B × α)} {k j : B} {v : α} : j ∈ kys (pt m k v) ↔ j = k ∨ j ∈ kys m := by
 by_cases h : k ∈ kys m
 ·rw [sZ h];exact ⟨fun x => .inr x, fun x => x.elim (fun e => e ▸ h) id⟩
 ·rw [wa h]; unfold kys; simp [or_comm]
theorem JO {m : List (B × α)} {k : B} {v : α} (hn : (kys m).Nodup) : (kys (pt m k v)).Nodup := by
 by_cases h : k ∈ kys m
 ·rw [sZ h]; exact hn
 ·rw [wa h];unfold kys at *;simp only [aaG, aaF, abi];exact List.nodup_append.2 ⟨hn, by simp, fun a ha b hb => by
   simp only [aaY, List.not_mem_nil, or_false] at hb;subst hb;exact fun e => h (e ▸ ha)⟩
theorem wB {m : List (B × α)} {k : B} : (dl m k).Sublist m := by
 induction m with
 | nil => simp [dl]
 | cons p m ih =>
  obtain ⟨s, u⟩ := p;simp only [dl];split
  ·exact List.sublist_cons_self _ _
  ·exact ih.cons_cons _
theorem JP {m : List (B × α)} {k : B} (hn : (kys m).Nodup) : (kys (dl m k)).Nodup := (wB.map _).nodup hn
theorem Hu (m : List (B × α)) (k : B) (v : α) : (pt m k v).length ≤ m.length + 1 := by
 induction m with
 | nil => simp [pt]
 | cons p m ih =>
  obtain ⟨s, u⟩ := p;simp only [pt];split <;> simp; omega
theorem Il (m : List (B × α)) (k : B) : (dl m k).length ≤ m.length := wB.length_le
theorem JK {m : List (B × α)} {k : B} {v : α} {p : B × α} (h : p ∈ pt m k v) : p = (k, v) ∨ p ∈ m := by
 induction m with
 | nil => simpa [pt] using h
 | cons q m ih =>
  obtain ⟨s, u⟩ := q;simp only [pt] at h;split at h
  ·rcases List.mem_cons.1 h with h | h
   ·exact .inl h
   ·exact .inr (aaw _ h)
  ·rcases List.mem_cons.1 h with h | h
   ·exact .inr (by rw [h]; simp)
   ·exact (ih h).imp id (aaw _)
end assoc
structure Fl where
 b : B
 safe : Nat
def flZ : Fl := ⟨[], 0⟩
abbrev FM := List (B × Fl)
def gF (m : FM) (k : B) : Fl := (lk m k).getD flZ
structure FSt where
 fs : FM
 fail : Int
 fall : Int
 down : Bool
def fs0 : FSt := ⟨[], -1, -1, false⟩
def cnt (a : Int) : Int := if a - 1 < -1 then -1 else a - 1
def FSt.act (s : FSt) (late : Bool) (g : FM → FM) : FSt × Int :=
 if s.fall = 0 then (⟨if late then g s.fs else s.fs, cnt s.fail, cnt s.fall, true⟩, 7)
 else if s.fail = 0 then (⟨s.fs, cnt s.fail, cnt s.fall, s.down⟩, 8)
 else (⟨g s.fs, cnt s.fail, cnt s.fall, s.down⟩, 0)
def dZ (name b : B) (m : FM) : FM := pt m name ⟨(gF m name).b ++ b, (gF m name).safe⟩
def cM (name : B) (m : FM) : FM := pt m name ⟨(gF m name).b, (gF m name).b.length⟩
def jP (a b : B) (m : FM) : FM := pt (dl m a) b (gF m a)
def FSt.may (s : FSt) (name : B) : Int := if s.down then 7 else if (lk s.fs name).isNone then 6 else 0
def FSt.append (s : FSt) (name b : B) : FSt × Int := if s.down then (s, 7) else s.act true (dZ name b)
def FSt.sync (s : FSt) (name : B) : FSt × Int := if s.may name ≠ 0 then (s, s.may name) else s.act false (cM name)
def FSt.rename (s : FSt) (a b : B) : FSt × Int := if s.may a ≠ 0 then (s, s.may a) else s.act false (jP a b)
def FSt.remove (s : FSt) (name : B) : FSt × Int := if s.may name ≠ 0 then (s, s.may name) else s.act false fun m => dl m name
def eD : List B → List Int → FM → FM
 | [], _, m => m
 | n :: l, keep, m =>
  if (gF m n).safe = (gF m n).b.length then eD l keep m
  else match keep with
   | [] => eD l [] (pt m n ⟨(gF m n).b.take (gF m n).safe, (gF m n).safe⟩)
   | k :: keep => eD l keep (pt m n ⟨(gF m n).b.take ((gF m n).safe + (min (max k 0) ((gF m n).b.length - (gF m n).safe : Int)).toNat), (gF m n).safe + (min (max k 0) ((gF m n).b.length - (gF m n).safe : Int)).toNat⟩)
def FSt.names (s : FSt) : List B := fe (kys s.fs)
def FSt.crash (s : FSt) (keep : List Int) : FSt := ⟨eD s.names keep s.fs, -1, -1, false⟩
structure jO (m : FM) (nb fb : Nat) : Prop where
 nodup : (kys m).Nodup
 safe : ∀ p ∈ m, p.2.safe ≤ p.2.b.length
 len : m.length ≤ nb
 bytes : ∀ p ∈ m, p.2.b.length ≤ fb
 names : ∀ n ∈ kys m, n.length < 1000000
def okN (a : Int) : Prop := -1 ≤ a ∧ a < 9223372036854775808
structure FOk (s : FSt) (nb fb : Nat) : Prop where
 m : jO s.fs nb fb
 fail : okN s.fail
 fall : okN s.fall
theorem jO.mono {m : FM} {nb fb nb' fb' : Nat} (h : jO m nb fb) (h1 : nb ≤ nb') (h2 : fb ≤ fb') : jO m nb' fb' :=
 ⟨h.nodup, h.safe, aba h.len h1, fun p hp => aba (h.bytes p hp) h2, h.names⟩
theorem jO.get {m : FM} {nb fb : Nat} (h : jO m nb fb) (k : B) : (gF m k).safe ≤ (gF m k).b.length ∧ (gF m k).b.length ≤ fb := by
 unfold gF
 cases e : lk m k with
 | none => simp [flZ]
 | some v => exact ⟨h.safe _ (Af e), h.bytes _ (Af e)⟩
theorem jO.put {m : FM} {nb fb fb' : Nat} (h : jO m nb fb) {k : B} {v : Fl} (hk : k.length < 1000000) (hs : v.safe ≤ v.b.length) (hb : v.b.length ≤ fb') (hf : fb ≤ fb') : jO (pt m k v) (nb + 1) fb' := by
 refine ⟨JO h.nodup, fun p hp => ?_, aba (Hu m k v) (Nat.succ_le_succ h.len), fun p hp => ?_, fun n hn => ?_⟩
 ·rcases JK hp with rfl | hp
  ·exact hs
  ·exact h.safe p hp
 ·rcases JK hp with rfl | hp
  ·exact hb
  ·exact aba (h.bytes p hp) hf
 ·rcases qI.1 hn with rfl | hn
  ·exact hk
  ·exact h.names n hn
theorem jO.put_old {m : FM} {nb fb fb' : Nat} (h : jO m nb fb) {k : B} {v : Fl} (hk : k ∈ kys m) (hs : v.safe ≤ v.b.length) (hb : v.b.length ≤ fb') (hf : fb ≤ fb') : jO (pt m k v) nb fb' := by
 have h1 := h.put (h.names k hk) hs hb hf;refine ⟨h1.nodup, h1.safe, ?_, h1.bytes, h1.names⟩;have := congrArg List.length (sZ (v := v) hk);simp only [kys, abg] at this;rw [this]; exact h.len
theorem jO.del {m : FM} {nb fb : Nat} (h : jO m nb fb) (k : B) : jO (dl m k) nb fb :=
 ⟨JP h.nodup, fun p hp => h.safe p (wB.subset hp), aba (Il m k) h.len, fun p hp => h.bytes p (wB.subset hp), fun n hn => h.names n ((wB.map _).subset hn)⟩
theorem jH {a : Int} (h : okN a) : okN (cnt a) := by
 unfold okN cnt at *; split <;> omega
theorem J7 (m : FM) (k j : B) (v : Fl) : gF (pt m k v) j = if k = j then v else gF m j := by
 unfold gF; rw [jC]; split <;> rfl
theorem MO {m : FM} {nb fb : Nat} (h : jO m nb fb) {name b : B} (hn : name.length < 1000000) : jO (dZ name b m) (nb + 1) (fb + b.length) := by
 have := h.get name;exact h.put hn (by simp; omega) (by simp; omega) (by omega)
theorem Jl {m : FM} {nb fb : Nat} (h : jO m nb fb) {name : B} (hn : name ∈ kys m) : jO (cM name m) nb fb := by
 have := h.get name;exact h.put_old hn (by simp) (by simp; omega) (by omega)
theorem w6 {s : FSt} {nb fb nb' fb' : Nat} (h : FOk s nb fb) (late : Bool) {g : FM → FM} (hg : jO (g s.fs) nb' fb') (h1 : nb ≤ nb') (h2 : fb ≤ fb') : FOk (s.act late g).1 nb' fb' := by
 unfold FSt.act;have := h.m.mono h1 h2;split
 ·exact ⟨by cases late <;> assumption, jH h.fail, jH h.fall⟩
 ·split
  ·exact ⟨this, jH h.fail, jH h.fall⟩
  ·exact ⟨hg, jH h.fail, jH h.fall⟩
theorem FOk.mono {s : FSt} {nb fb nb' fb' : Nat} (h : FOk s nb fb) (h1 : nb ≤ nb') (h2 : fb ≤ fb') : FOk s nb' fb' := ⟨h.m.mono h1 h2, h.fail, h.fall⟩
theorem me {s : FSt} {name : B} (h : ¬ s.may name ≠ 0) : s.down = false ∧ name ∈ kys s.fs := by
 unfold FSt.may at h;split at h
 ·simp at h
 ·rename_i hd;split at h
  ·simp at h
  ·rename_i hl;refine ⟨by simpa using hd, ?_⟩
   cases e : lk s.fs name with
   | none => simp [e] at hl
   | some v => exact lD e
theorem iF {s : FSt} {nb fb : Nat} (h : FOk s nb fb) {name b : B} (hn : name.length < 1000000) : FOk (s.append name b).1 (nb + 1) (fb + b.length) := by
 unfold FSt.append;split
 ·exact h.mono (by omega) (by omega)
 ·exact w6 h true (MO h.m hn) (by omega) (by omega)
theorem lY {s : FSt} {nb fb : Nat} (h : FOk s nb fb) {name : B} : FOk (s.sync name).1 nb fb := by
 unfold FSt.sync;split
 ·exact h
 ·rename_i hm;exact w6 h false (Jl h.m (me hm).2) (by omega) (by omega)
theorem kZ {s : FSt} {nb fb : Nat} (h : FOk s nb fb) {name : B} : FOk (s.remove name).1 nb fb := by
 unfold FSt.remove;split
 ·exact h
 ·exact w6 h false (h.m.del name) (by omega) (by omega)
theorem CV {nb fb : Nat} : ∀ (l : List B) (keep : List Int) (m : FM), l.Nodup → (∀ n ∈ l, n ∈ kys m) → jO m nb fb →
  jO (eD l keep m) nb fb ∧ kys (eD l keep m) = kys m ∧
   (∀ n ∈ l, ∃ k, (gF m n).safe ≤ k ∧ k ≤ (gF m n).b.length ∧ gF (eD l keep m) n = ⟨(gF m n).b.take k, k⟩) ∧ ∀ n, n ∉ l → gF (eD l keep m) n = gF m n := by
 intro l
 induction l with
 | nil => intro keep m _ _ h; exact ⟨h, rfl, by simp, fun n _ => rfl⟩
 | cons a l ih =>
  intro keep m hnd hmem h;obtain ⟨ha, hnd⟩ := List.nodup_cons.1 hnd;have hg := h.get a;have ham := hmem a (by simp);have key : ∀ (k : Nat) (keep' : List Int), (gF m a).safe ≤ k → k ≤ (gF m a).b.length →
    jO (eD l keep' (pt m a ⟨(gF m a).b.take k, k⟩)) nb fb ∧ kys (eD l keep' (pt m a ⟨(gF m a).b.take k, k⟩)) = kys m ∧
    (∀ n ∈ a :: l, ∃ k', (gF m n).safe ≤ k' ∧ k' ≤ (gF m n).b.length ∧ gF (eD l keep' (pt m a ⟨(gF m a).b.take k, k⟩)) n = ⟨(gF m n).b.take k', k'⟩) ∧
    ∀ n, n ∉ a :: l → gF (eD l keep' (pt m a ⟨(gF m a).b.take k, k⟩)) n = gF m n := by
   intro k keep' h1 h2;obtain ⟨i1, i2, i3, i4⟩ := ih keep' (pt m a ⟨(gF m a).b.take k, k⟩) hnd (fun n hn => by rw [sZ ham]; exact hmem n (by simp [hn])) (h.put_old ham (by simp; omega) (by simp; omega) (by omega));refine ⟨i1, by rw [i2, sZ ham], fun n hn => ?_, fun n hn => ?_⟩
   ·rcases List.mem_cons.1 hn with rfl | hn
    ·exact ⟨k, h1, h2, by rw [i4 n ha, J7, aaz rfl]⟩
    ·have hne : a ≠ n := fun e => ha (e ▸ hn);obtain ⟨k', e1, e2, e3⟩ := i3 n hn;rw [J7, aap hne] at e1 e2 e3;exact ⟨k', e1, e2, e3⟩
   ·have hne : a ≠ n := fun e => hn (by simp [e]);rw [i4 n (fun e => hn (by simp [e])), J7, aap hne]
  unfold eD;split
  ·rename_i hs;obtain ⟨i1, i2, i3, i4⟩ := ih keep m hnd (fun n hn => hmem n (by simp [hn])) h;refine ⟨i1, i2, fun n hn => ?_, fun n hn => i4 n fun e => hn (by simp [e])⟩;rcases List.mem_cons.1 hn with rfl | hn
   ·refine ⟨(gF m n).b.length, by omega, aar _, ?_⟩;rw [i4 n ha, aax, ← hs]
   ·exact i3 n hn
  ·cases keep with
   | nil => exact key _ _ (aar _) hg.1
   | cons k keep => exact key _ _ (by omega) (by omega)
theorem dL (s : FSt) : s.names.Perm (kys s.fs) := List.mergeSort_perm _ _
theorem n6 {s : FSt} {nb fb : Nat} (h : FOk s nb fb) (keep : List Int) : FOk (s.crash keep) nb fb ∧ kys (s.crash keep).fs = kys s.fs ∧
  ∀ n ∈ kys s.fs, ∃ k, (gF s.fs n).safe ≤ k ∧ k ≤ (gF s.fs n).b.length ∧ gF (s.crash keep).fs n = ⟨(gF s.fs n).b.take k, k⟩ := by
 have hp := dL s;obtain ⟨i1, i2, i3, i4⟩ := CV s.names keep s.fs (hp.nodup_iff.2 h.m.nodup) (fun n hn => hp.mem_iff.1 hn) h.m;have hm1 : okN (-1) := by unfold okN; omega
 exact ⟨⟨i1, hm1, hm1⟩, i2, fun n hn => i3 n (hp.mem_iff.2 hn)⟩
end Go.Abs
end
section
namespace Go.Abs
open Go Go.Proofs Go.Shelf Go.RowKit
def ai (l : B) : List (List AV) := l.map fun c => [.val (.int .u8 c.toNat)]
end Go.Abs
end
section
namespace Go.Abs
open Go Go.Proofs
structure Ac where
 kind : Int
 name : B
 to : B
 body : B
 n : Int
 keep : List Int
def fh (l : List Int) : List (List AV) := l.map fun i => [vi i]
theorem nS (l : List Int) : (fh l).length = l.length := by simp [fh]
def Ac.enc (a : Ac) : List AV := [vi a.kind, vs a.name, vs a.to, .sl none 1 (ai a.body), vi a.n, .sl none 1 (fh a.keep)]
def kr (n : Int) : Int := if n < -1 then -1 else n
theorem uO {n : Int} (h : -9223372036854775808 ≤ n ∧ n < 9223372036854775808) : okN (kr n) := by
 unfold okN kr; split <;> omega
end Go.Abs
end
section
namespace Go.Proofs
open Go.RowKit Go.Maps Go.Sort Go.Shelf
def ow {H : Type} : Value → Option (DataW H × List MemPlace) := fun _ => some (.lit (.bool true), [])
set_option maxRecDepth 100000 in
set_option maxHeartbeats 1000000 in
theorem Fx.keys1N_in {H : Type} (F : Fence) (n : Nat) (h10 : F.fn 113) (hro : F.round = none) (hn : 1 ≤ n) (l Bm b nn : Nat) (D0 : DataW H) (J : List (List UInt8) → World → Prop)
  (hY : ∀ pre x W, J pre W → pre.length < Maps.size D0 → YieldAt F (n - 1) Tryz.prog l #[encStr x] W fun e W' => e = .returned (.bool true) ∧ J (pre ++ [x]) W' ∧ KeepsWalks W W')
  (W : World) (hJ : AbidesFrom W.heap.size J) (hm : W.cell? ⟨Bm, 0, none⟩ = some (.map (some b))) (hown : W.ownsMap Tryz.prog 9 ow b nn D0) (h0 : J [] W) : CallsIn F n Tryz.prog 113 #[.func (.yield l) #[] #[], .pointer (some ⟨Bm, 0, none⟩)] W fun e W' => (∃ v, e = .returned v) ∧ ∃ ss : List (List UInt8), ss.Perm (strKeys D0) ∧ J ss W' := by
 refine callsIn_of_wp Tryz.func113 rfl h10 ?_ hro;simp only [Tryz.ntmps113, List.size_toArray, List.length_cons, List.length_nil, Nat.reduceAdd, Nat.reduceSub, Array.replicate_succ, Array.replicate_zero, List.push_toArray, List.append_toArray, List.nil_append, List.cons_append]
 gi_wp2_with (first
  | (gi_at_range; refine wpListIn_range_own _ rfl _ 94 rfl 9 116 Kx.law26 Tryz.underlying94 _ b nn _ rfl hown ?_; intro w0 hrg0 hg0 hs0)
  | gi_in)
 go_frame
 gi_loopw [3] (fun _ wr => ∃ (left : Lit → Bool) (cnt : Nat) (ss : List (List UInt8)), wr.ranges Tryz.prog 9 ow b W.heap.size nn D0 left cnt ∧ ss.length + cnt ≤ Maps.size D0 ∧ Collected D0 left ss ∧ J ss wr)
  (fun _ wr => wr.rangeLeft b W.heap.size)
 case atStart =>
  exact ⟨_, _, [], hrg0, by simp, Collected.start D0, hJ [] W w0 none h0 hg0 (fun r e => by cases e)⟩
 case round =>
  obtain ⟨left, cnt, ss, hrg, hcs, hC, hJs⟩ := hrel
  gi_wp2_with (first
   | (gi_at_next; refine wpListIn_next_ranges _ rfl _ rfl 9 Kx.law26 ow encStr (fun v : Value => v) (fun key kl hk => by obtain ⟨x, hx, _⟩ := Maps.keyOf_str Tryz.underlying9 hk; exact ⟨x, hx⟩) (fun v y hv => ⟨v, rfl⟩) b W.heap.size nn _ _ _ rfl hrg ?_ ?_)
   | gi_in)
  ·-- NOTHING IS LEFT
   intro hc0 hl0
   gi_wp2
   go_end0
   exact ⟨⟨_, rfl⟩, ss, hC.perm hown Kx.law26 Tryz.underlying9 hl0, hJs⟩
  ·-- AN ENTRY HAS COME: yield(k)
   intro x c kl yd yp w2 cnt2 hkey hlk hv hat hrg2 hlt hg2 hs2 hen;obtain ⟨x', ex, rfl, _⟩ := Maps.keyOf_str Tryz.underlying9 hkey;obtain rfl : x = x' := encStr_inj ex;have hJ2 : J ss w2 := hJ ss wr w2 (some W.heap.size) hJs hg2 (fun r e => by cases e; exact ⟨Nat.le_refl _, hrg.iter_walk⟩);obtain ⟨fn, tmps, assign, body, hy, hR⟩ := hY ss x w2 hJ2 (by omega);clear hs2
   gi_wp2
   refine hR.mono ?_;rintro e W3 ⟨rfl, hJ3, hk3⟩
   gi_wp2
   have hrg3 := hrg2.of_walks hk3
   go_roundw
   case rel => exact ⟨_, cnt2, ss ++ [x], hrg3, by simp; omega, hC.step hlk hat, hJ3⟩
   case measure => rw [hrg3.left_eq, hrg.left_eq]; exact hlt
theorem Fx.keys_gives {H : Type} (F : Fence) (n : Nat) (h10 : F.fn 113) (hro : F.round = none) (hn : 1 ≤ n) (Bm b nn : Nat) (D0 : DataW H) (w : World) (hBm : Bm < w.heap.size)
  (hm : w.cell? ⟨Bm, 0, none⟩ = some (.map (some b))) (hown : w.ownsMap Tryz.prog 9 ow b nn D0) : SeqGives F n Tryz.prog 113 #[.pointer (some ⟨Bm, 0, none⟩)] encStr (fun ss => ss.Perm (strKeys D0)) (Maps.size D0) w := fun l J W hW hJ hY h0 => by
 have hown' : W.ownsMap Tryz.prog 9 ow b nn D0 := by
  have hbl := hown.lt;obtain ⟨es, clock, hb, Ft, hs, hD⟩ := hown;exact ⟨es, clock, (hW.block b hbl).trans hb, Ft, hs, hD⟩
 exact Fx.keys1N_in F n h10 hro hn l Bm b nn D0 J hY W hJ ((hW.cell (p := ⟨Bm, 0, none⟩) hBm).trans hm) hown' h0
end Go.Proofs
namespace Go.Abs
open Go Go.Proofs Go.Sort Go.Maps
def lR (x : Fl) : AV := .agg [.sl none 1 (ai x.b), vi (x.safe : Int)]
theorem yS {G : Gh} : ∀ {m : FM} {ms : List MapEntry}, fw G (js lR m) ms → ms.map (·.key) = (kys m).map encStr
 | [], [], _ => rfl
 | [], _ :: _, h => by simp [js, fw] at h
 | _ :: _, [], h => by simp [js, fw] at h
 | a :: m, x :: ms, h => by
  obtain ⟨⟨h1, _⟩, h2, h3⟩ : (x.key = .string (ofB a.1) ∧ _) ∧ Rep G (lR a.2) x.val ∧ fw G (js lR m) ms := h;have i1 := yS h3;rw [aaF, i1, h1];rfl
theorem Cz (es : List (ByteArray × AV)) {R} (h : R (.fn (.func 113) [] [.ptr 1 0]) [.map es, .cells 94 [.mapv 0]]) : ag Tryz.prog 76 [.mapv 0] [.map es] R := by
 refine aa (an := Uy) tab_ok Tryz.func76 ?_;conv=>whnf
 exact h
theorem Kc {H : Type} {G : Gh} {w : World} {b : Nat} {ms : Array MapEntry} {clock : Nat} {m : FM} (hb : w.heap[b]? = some (.map ms clock)) (hr : fw G (js lR m) ms.toList) (hok : ky ms clock) (hnd : (kys m).Nodup)
  (hl : (kys m).length ≤ maxLen) (hs : ∀ s ∈ (kys m), s.length ≤ maxLen) : ∃ D0 : DataW H, w.ownsMap Tryz.prog 9 ow b (kys m).length D0 ∧ Maps.size D0 = (kys m).length ∧ (strKeys D0).Perm (kys m) := by
 have k1 := yS hr;have hsz : ms.size = (kys m).length := by
  have := congrArg List.length k1;simpa using this
 have hread : ∀ x ∈ ms.toList, ∃ s ∈ (kys m), x.key = encStr s ∧ Go.WideElems.rd Tryz.prog 9 (ow (H := H)) x = some (Lit.string s, DataW.lit (.bool true)) := fun x hx => by
  have hk : x.key ∈ (kys m).map encStr := by rw [← k1]; exact aaD hx
  obtain ⟨s, hsl, hsk⟩ := List.mem_map.1 hk;refine ⟨s, hsl, hsk.symm, ?_⟩;have h1 : keyOf Tryz.prog 9 x.key = some (.string s) := by
   rw [← hsk];have := hs s hsl;simp [keyOf, mapKey, Tryz.underlying9, encStr];exact this
  have h2 : ow (H := H) x.val = some (.lit (.bool true), []) := rfl;simp [Go.WideElems.rd, h1, h2]
 have hfit : Go.WideElems.Fit Tryz.prog 9 (ow (H := H)) ms clock := by
  refine ⟨by omega, ⟨hok.2, hok.1, ?_⟩, fun x hx => ?_⟩
  ·rw [k1];refine (List.pairwise_map.2 (hnd.imp fun hne e => hne (encStr_inj e)))
  ·obtain ⟨s, _, _, h⟩ := hread x hx;exact ⟨_, h⟩
 refine ⟨_, ⟨ms, clock, hb, hfit, by omega, rfl⟩, ?_, ?_⟩
 ·simp [Maps.size, length_sorted, hsz]
 ·show (((ms.toList.map _).foldr DataW.insert []).map fun p => strOf p.1).Perm (kys m);refine ((Go.WideShapes.sorted_perm _).map _).trans ?_;rw [abK];have : (ms.toList.map ((fun p : Lit × DataW H => strOf p.1) ∘ Go.WideElems.rg Tryz.prog 9 (ow (H := H)))) = (kys m) := by
   have h1 : ∀ x ∈ ms.toList, encStr (((fun p : Lit × DataW H => strOf p.1) ∘ Go.WideElems.rg Tryz.prog 9 (ow (H := H))) x) = x.key := fun x hx => by
    obtain ⟨s, _, h2, h3⟩ := hread x hx;simp only [Function.comp];rw [Go.WideElems.rg_of h3, h2];rfl
   have h2 : (ms.toList.map ((fun p : Lit × DataW H => strOf p.1) ∘ Go.WideElems.rg Tryz.prog 9 (ow (H := H)))).map encStr = (kys m).map encStr := by
    rw [← k1, abK];exact List.map_congr_left h1
   exact List.map_inj_right (f := encStr) (fun _ _ e => encStr_inj e) |>.1 h2
  rw [this]
theorem xC (m : FM) (hl : (kys m).length < 1000000) (hs : ∀ s ∈ (kys m), s.length < 1000000) (hnd : (kys m).Nodup) {R} (h : R (.sl none 1 (bj (fe (kys m)))) [.cells 94 [.mapv 1], .map (js lR m)]) : ag Tryz.prog 75 [.fn (.func 113) [] [.ptr 0 0]] [.cells 94 [.mapv 1], .map (js lR m)] R := by
 have h47 : 1000000 ≤ maxLen := by unfold maxLen; omega
 refine BX fun G w vals hW hA => ?_;have hI := JX hW;obtain ⟨bm, vs, e1, e2, e3, e4⟩ := hW.obj 0 (.cells 94 [.mapv 1]) rfl;obtain ⟨b, ms, clock, m1, m2, m3, m4, m5⟩ := hW.obj 1 (.map (js lR m)) rfl;simp only [aB, Rep] at hA e3;obtain ⟨_, _, rfl, ⟨vf, us, rfl, rfl, v1, us1, rfl, ⟨b', hb', rfl⟩, rfl⟩, rfl⟩ := hA;obtain ⟨_, _, rfl, ⟨b2, hb2, rfl⟩, rfl⟩ := e3;rw [e1] at hb'; cases hb';rw [m1] at hb2; cases hb2;obtain ⟨D0, hown, hDs, hDk⟩ := Kc (H := Unit) m2 m3 m5 hnd (by omega) (fun s hx => by have := hs s hx; omega);have hbm : bm < w.heap.size := (Array.getElem?_eq_some_iff.1 e2).1;have hcell : w.cell? ⟨bm, 0, none⟩ = some (.map (some b)) := by rw [iq e2 0]; rfl
 have hseq := Fx.keys_gives Fence.wide (6 - 1 - 1 - 1) trivial rfl (by omega) bm b (kys m).length D0 w hbm hcell hown;refine (callsIn_wide.1 (Kx.sorted_in Fence.wide 6 trivial trivial trivial trivial rfl (by omega) (DZ _) _ _ trivial (enters_of Tryz.func113 (by kernel_rfl) rfl) _ _ (by omega) (by omega) w hseq)).mono ?_;rintro e w' ⟨v, ss, rfl, hperm, hrow, hnil, hbl⟩;have hpl : ss.Perm (kys m) := hperm.trans hDk;have hsort : (ss.mergeSort fun x y => decide (x ≤ y)) = fe (kys m) := mergeSort_of_perm hpl;rw [hsort] at hrow;have hlen : ss.length = (fe (kys m)).length := by rw [hpl.length_eq]; simp [fe]
 rw [hlen] at hrow;have hsls := aF (fe (kys m));have hob : ∀ (i : Nat) (o : aE), [aE.cells 94 [.mapv 1], .map (js lR m)][i]? = some o → ∀ m ∈ ce o, m < 2 := by
  intro i o ho m hm
  match i, ho with
  | 0, ho => simp at ho; subst ho; have hm : m = 1 := (by simpa [ce, cH, AV.names] using hm); subst hm; decide
  | 1, ho => simp at ho; subst ho; simp [ce] at hm
 rcases hrow.2 with ⟨rfl, hz⟩ | ⟨g, cap, cur, rfl, hbase, hgb, r1, r2, r3, r4⟩
 ·have hnil : fe (kys m) = [] := aau hz;obtain ⟨hI', hle⟩ := hI.grow (w' := w') (K' := G.K) hbl.os hbl.tape hbl.output hbl.size (fun b hb => hbl.block b hb) (fun _ _ _ => rfl) (fun b o v hb ev => by have := hI.wr.kltb ev; omega);refine ⟨_, _, _, _, rfl, h, ?_, hI', hob, by simp [AV.names]⟩;rw [hnil];simp only [Rep, bj, abi];exact ⟨⟨none, 0, rfl, aar _, trivial⟩, trivial⟩
 ·have htake : ∀ (j : Nat) (s : B), (fe (kys m))[j]? = some s → cur[j]? = some (encStr s) := fun j s hj => by
   have h1 : (cur.toList.take ((fe (kys m)).length * 1))[j]? = some (encStr s) := by rw [r4]; simp [hj]
   have hjl := (List.getElem?_eq_some_iff.1 hj).1;rw [List.getElem?_take, aaz (by omega)] at h1;simpa using h1
  obtain ⟨hI', hle⟩ := hI.grow (w' := w') (K' := iZ G.K g cur.toList) hbl.os hbl.tape hbl.output hbl.size (fun b hb => hbl.block b hb) (fun b o hb => by
    have : b ≠ g := by omega
    show (if b = g then _ else _) = _;rw [aap this]) (fun b o v hb ev => by
    by_cases e : b = g
    ·subst e;simp only [iZ, abq] at ev;rw [iq hgb];simpa using ev
    ·simp only [iZ, e, aaW] at ev;have := hI.wr.kltb ev; omega)
  refine ⟨_, _, _, _, rfl, h, ?_, hI', hob, by simp [AV.names]⟩;simp only [Rep];rw [hsls];refine ⟨⟨_, cap, rfl, r1, yk _ _ fun j s hj => ?_⟩, trivial⟩;simp [iZ, htake j s hj]
end Go.Abs
end
section
namespace Go.Abs
open Go Go.Proofs Go.RowKit Go.Lib
attribute [local irreducible] aH aD aO firstIdx
theorem aL (l : B) : (ai l).length = l.length := by simp [ai]
theorem fT (l m : B) : ai (l ++ m) = ai l ++ ai m := by simp [ai]
theorem c9 : (tab.ti 5).bytes = 1 := rfl
theorem AQ {b : B} (h : ai b = []) : b = [] := by
 cases b with
 | nil => rfl
 | cons a l => simp [ai] at h
theorem kS (b : B) (hb : b.length < 100000000) {R} (h : R (.sl none 1 (ai b)) []) : ag Tryz.prog 62 [.sl none 1 (ai b)] [] R := by
 refine ag.res ?_;refine aa (an := Pc) tab_ok Tryz.func62 ?_;have hsl := aL b;conv=>whnf
 intro p hp;refine ae (fun g => ?_) (fun g => ?_)
 ·have e := AQ (hp g);subst e;conv=>whnf
  exact cw (cy 1) rfl h
 ·conv=>whnf
  refine ⟨rfl, (by show (0 + (ai b).length) * (1 + 1) ≤ _; omega), ?_⟩;conv=>whnf
  rw [show [] ++ ai b = ai b from rfl];exact bB h
theorem FV : (Tryz.prog.info? 5).map (fun i => (i.zero, i.size, i.bytes)) = some (some (.int .u8 0), 1, 1) := by kernel_rfl
theorem Ib (w : World) : Calls Tryz.prog 162 #[.slice none 0 0, .int .i64 0] w fun e w' => e = .returned (.slice none 0 0) ∧ w' = w := by
 have mixed := rN
 go_enter Tryz.func162, Tryz.ntmps162
 go_wp2
 go_ret
 exact ⟨rfl, rfl⟩
theorem J2 (n : Nat) (h0 : 0 < n) (hn : n ≤ 1000000000) (w : World) : Calls Tryz.prog 162 #[.slice none 0 0, .int .i64 n] w fun e w' =>
  e = .returned (.slice (some ⟨w.heap.size, 0, none⟩) 0 (grownCap w n 0 5)) ∧ ∃ cur, w' = w.drew.alloc (.cells cur 5) ∧ cur.size = grownCap w n 0 5 := by
 obtain ⟨i0, hi, hz0, hz1, hz2⟩ := info_parts FV;have mixed := rN;have h1 : ¬ ((n : Int) < 0) := by omega
 have h2 : wrap64 ((n : Int) - wrap64 (((0 : Nat) : Int) - ((0 : Nat) : Int))) = (n : Int) := by unfold wrap64; omega
 have h4 : (n : Int) > 0 := by omega
 have hold : (Builtin.firstCells i0.size 0 (.slice none 0 0)).run Tryz.prog w.drew = .ok ([] : List Value).toArray w.drew := run_firstCells_none w.drew i0.size 0 0 0;have hrz : ∀ ty, (Builtin.append_ #[77, 3] ty #[.slice none 0 0, .int .i64 (n : Int)]).run Tryz.prog w =
   .ok (.slice (some ⟨w.heap.size, 0, none⟩) n (grownCap w n 0 5)) (w.drew.alloc (.cells (([] : List Value).toArray ++ Builtin.zeroCells (Value.int .u8 0).cells n ++ Builtin.zeroCells (Value.int .u8 0).cells (grownCap w n 0 5 - n)) 5)) := fun ty => by
  have h := Lib.run_append_grow_zeros w 77 3 ty 5 i0 (.int .u8 0) .i64 .i64 Tryz.underlying77 Tryz.underlying3 hi hz0 none 0 0 [] hold n h0 (by omega) (by omega) (by omega)
   (by rw [hz2]; omega) (by rw [aaS]; exact growslice_fits (by omega) (by rw [hz2]; omega))
  simpa using h
 have hGn : n ≤ grownCap w n 0 5 := grownCap_ge w _ _ _;obtain ⟨G, hG⟩ : ∃ G, G = grownCap w n 0 5 := ⟨_, rfl⟩;rw [← hG] at hrz hGn ⊢;have hG63 : G ≤ 9223372036854775807 := by
  have := grownCap_le_maxLen w n 0 5 (by unfold maxLen; omega);rw [← hG] at this;unfold maxLen at this;omega
 clear hold hG
 go_enter Tryz.func162, Tryz.ntmps162
 go_wp2_with (at_builtin; refine Lib.wpList_append_run _ rfl _ _ _ _ rfl _ _ rfl rfl _ _ (hrz _) ?_)
 all_goals (go_ret; exact ⟨rfl, _, rfl, by simp [size_zeroCells]; omega⟩)
end Go.Abs
end
section
namespace Go.Abs
open Go Go.Proofs
attribute [local irreducible] aH aD aO firstIdx
theorem kM (n : Nat) {R} (h : R (.fn (.func 274) [] [.ptr 0 0]) [.cells 33 [.val (.int .u64 (n : Int))]]) : ag Tryz.prog 266 [.val (.int .u64 (n : Int))] [] R := by
 refine aa (an := Rb) tab_ok Tryz.func266 ?_;conv=>whnf
 exact h
theorem qi (b : B) (hb : b.length < 100000000) {R} (h1 : b = [] → R (.val (.slice none 0 0)) []) (h : R (.sl (some 0) 1 (ai b)) [.row 5 1 b.length]) : ag Tryz.prog 62 [.sl none 1 (ai b)] [] R := by
 refine aa (an := { Pc with keepRes := true }) tab_ok Tryz.func62 ?_;have hsl := aL b;conv=>whnf
 intro p hp;refine ae (fun g => ?_) (fun g => ?_)
 ·have e := AQ (hp g);conv=>whnf
  exact h1 e
 ·conv=>whnf
  refine ⟨rfl, (by show (0 + (ai b).length) * (1 + 1) ≤ _; omega), ?_⟩;conv=>whnf
  rw [show [] ++ ai b = ai b from rfl, hsl, show [].length + b.length = b.length by simp];exact h
theorem mP {n i : Nat} {x : List AV} (h : (mQ n)[i]? = some x) : ∃ c : UInt8, (vrn n)[i]? = some c ∧ x = [.val (.int .u8 (c.toNat : Int))] := by
 unfold mQ at h;rw [aaE, aa5] at h;obtain ⟨c, hc, rfl⟩ := h;exact ⟨c, hc, rfl⟩
theorem kY {l : B} {i : Nat} {c : UInt8} (h : l[i]? = some c) : l.take (i + 1) = l.take i ++ [c] := by
 obtain ⟨hi, rfl⟩ := List.getElem?_eq_some_iff.1 h;rw [aab hi]
def vpS : List AV := [.junk, .junk, .junk, .junk, .junk, .ptr (al 5) 0, .junk, .junk, .junk, .junk, .junk, .junk, .junk, .junk, .junk, .junk, .junk]
theorem DA (b : B) (n : Nat) (hn : n < 18446744073709551616) (hb : b.length < 10000000) {R} (h : R (.sl (some 0) 1 (ai (b ++ vrn n))) [.row 5 1 (b ++ vrn n).length]) : ag Tryz.prog 245 [.sl none 1 (ai b), .val (.int .u64 (n : Int))] [] R := by
 refine aa (an := { Ny with keepRes := true }) tab_ok Tryz.func245 ?_;have hvl := ct hn;have hpos := jt n;have hlen : ∀ x ∈ mQ n, x.length = 1 := fun x hx => by
  obtain ⟨c, _, rfl⟩ := List.mem_map.1 hx;rfl
 have hvA : (mQ n).length = (vrn n).length := by simp [mQ]
 conv=>whnf
 refine qi b (by omega) (fun hb0 => ?_) ?_
 ·subst hb0;conv=>whnf
  refine kM n ?_;conv=>whnf
  refine .inr ?_;conv=>whnf
  refine ⟨mQ n, mh n hn, hlen, ?_⟩;refine ⟨fun i s => (i = 0 ∧ s = ⟨vpS, [(al 5, .cells 77 [.val (.slice none 0 0)])]⟩) ∨ (0 < i ∧ ∃ o, o = (vrn n).take i ∧ s = ⟨vpS, [(al 5, .cells 77 [.sl (some (al 15)) 1 (ai o)]), (al 15, .row 5 1 o.length)]⟩), .inl ⟨rfl, rfl⟩, ?_, ?_⟩
  ·rintro i x s hx (⟨rfl, rfl⟩ | ⟨hi, o, ho, rfl⟩)
   ·obtain ⟨c, hc, rfl⟩ := mP hx;conv=>whnf
    refine ⟨(by rw [c9]; decide : 1 * ((tab.ti 5).bytes + 1) ≤ 140737488355328), ?_⟩;conv=>whnf
    exact .inr ⟨by omega, [c], by rw [kY hc]; simp, rfl⟩
   ·obtain ⟨c, hc, rfl⟩ := mP hx;have hol : o.length ≤ 10 := by rw [ho, aan]; omega
    have hbl := aL o;conv=>whnf
    refine ⟨hbl.symm, by rw [hbl, c9]; simp; omega, ?_⟩;conv=>whnf
    refine .inr ⟨by omega, o ++ [c], by rw [ho, kY hc], ?_⟩;rw [fT, aac, ← hbl];rfl
  ·rintro s (⟨h0, rfl⟩ | ⟨hi, o, ho, rfl⟩)
   ·exfalso; omega
   ·rw [hvA, aax] at ho;subst ho;conv=>whnf
    exact h
 ·conv=>whnf
  refine kM n ?_;conv=>whnf
  refine .inr ?_;conv=>whnf
  refine ⟨mQ n, mh n hn, hlen, ?_⟩;refine ⟨fun i s => ∃ o, o = b ++ (vrn n).take i ∧ s = ⟨vpS, [(al 5, .cells 77 [.sl (some (ar 8 0)) 1 (ai o)]), (ar 8 0, .row 5 1 o.length)]⟩, ⟨b, by simp, rfl⟩, ?_, ?_⟩
  ·rintro i x s hx ⟨o, ho, rfl⟩;obtain ⟨c, hc, rfl⟩ := mP hx;have hol : o.length ≤ b.length + 10 := by rw [ho, aac, aan]; omega
   have hbl := aL o;conv=>whnf
   refine ⟨hbl.symm, by rw [hbl, c9]; simp; omega, ?_⟩;conv=>whnf
   refine ⟨o ++ [c], by rw [ho, kY hc, aak], ?_⟩;rw [fT, aac, ← hbl];rfl
  ·rintro s ⟨o, ho, rfl⟩;rw [hvA, aax] at ho;subst ho;conv=>whnf
   exact h
theorem tF (b : B) (n : Nat) (hn : n < 18446744073709551616) (hb : b.length < 10000000) {R} (h : R (.sl none 1 (ai (b ++ vrn n))) []) : ag Tryz.prog 245 [.sl none 1 (ai b), .val (.int .u64 (n : Int))] [] R := by
 refine aa (an := Ny) tab_ok Tryz.func245 ?_;have hvl := ct hn;have hpos := jt n;have hlen : ∀ x ∈ mQ n, x.length = 1 := fun x hx => by
  obtain ⟨c, _, rfl⟩ := List.mem_map.1 hx;rfl
 have hvA : (mQ n).length = (vrn n).length := by simp [mQ]
 conv=>whnf
 refine qi b (by omega) (fun hb0 => ?_) ?_
 ·subst hb0;conv=>whnf
  refine kM n ?_;conv=>whnf
  refine .inr ?_;conv=>whnf
  refine ⟨mQ n, mh n hn, hlen, ?_⟩;refine ⟨fun i s => (i = 0 ∧ s = ⟨vpS, [(al 5, .cells 77 [.val (.slice none 0 0)])]⟩) ∨ (0 < i ∧ ∃ o, o = (vrn n).take i ∧ s = ⟨vpS, [(al 5, .cells 77 [.sl (some (al 15)) 1 (ai o)]), (al 15, .row 5 1 o.length)]⟩), .inl ⟨rfl, rfl⟩, ?_, ?_⟩
  ·rintro i x s hx (⟨rfl, rfl⟩ | ⟨hi, o, ho, rfl⟩)
   ·obtain ⟨c, hc, rfl⟩ := mP hx;conv=>whnf
    refine ⟨(by rw [c9]; decide : 1 * ((tab.ti 5).bytes + 1) ≤ 140737488355328), ?_⟩;conv=>whnf
    exact .inr ⟨by omega, [c], by rw [kY hc]; simp, rfl⟩
   ·obtain ⟨c, hc, rfl⟩ := mP hx;have hol : o.length ≤ 10 := by rw [ho, aan]; omega
    have hbl := aL o;conv=>whnf
    refine ⟨hbl.symm, by rw [hbl, c9]; simp; omega, ?_⟩;conv=>whnf
    refine .inr ⟨by omega, o ++ [c], by rw [ho, kY hc], ?_⟩;rw [fT, aac, ← hbl];rfl
  ·rintro s (⟨h0, rfl⟩ | ⟨hi, o, ho, rfl⟩)
   ·exfalso; omega
   ·rw [hvA, aax] at ho;subst ho;conv=>whnf
    exact h
 ·conv=>whnf
  refine kM n ?_;conv=>whnf
  refine .inr ?_;conv=>whnf
  refine ⟨mQ n, mh n hn, hlen, ?_⟩;refine ⟨fun i s => ∃ o, o = b ++ (vrn n).take i ∧ s = ⟨vpS, [(al 5, .cells 77 [.sl (some (ar 8 0)) 1 (ai o)]), (ar 8 0, .row 5 1 o.length)]⟩, ⟨b, by simp, rfl⟩, ?_, ?_⟩
  ·rintro i x s hx ⟨o, ho, rfl⟩;obtain ⟨c, hc, rfl⟩ := mP hx;have hol : o.length ≤ b.length + 10 := by rw [ho, aac, aan]; omega
   have hbl := aL o;conv=>whnf
   refine ⟨hbl.symm, by rw [hbl, c9]; simp; omega, ?_⟩;conv=>whnf
   refine ⟨o ++ [c], by rw [ho, kY hc, aak], ?_⟩;rw [fT, aac, ← hbl];rfl
  ·rintro s ⟨o, ho, rfl⟩;rw [hvA, aax] at ho;subst ho;conv=>whnf
   exact h
def a8 (s : B) : B := vrn s.length ++ s
theorem Da (b s : B) (hb : b.length < 1000000) (hs : s.length < 10000000) {R} (h : R (.sl none 1 (ai (b ++ a8 s))) []) : ag Tryz.prog 210 [.sl none 1 (ai b), .sl none 1 [[vs s]]] [] R := by
 refine aa (an := RQ) tab_ok Tryz.func210 ?_;have hsz := aG s;have hw : IntKind.u64.wrap (((ofB s).size : Nat) : Int) = (s.length : Int) := by
  rw [hsz];show (s.length : Int) % 18446744073709551616 = _;omega
 have hv := ct (n := s.length) (by omega);have hbl := aL (b ++ vrn s.length);have hsl := aL s;conv=>whnf
 refine kS b (by omega) ?_;conv=>whnf
 refine aq.step ?_;conv=>whnf
 rw [hw];refine DA b s.length (by omega) (by omega) ?_;conv=>whnf
 have hba : qg (ofB s) = ai s := by simp [qg, ai, ofB]
 rw [hba];refine ⟨hbl.symm, by rw [hbl, hsl, c9, aac]; omega, ?_⟩;conv=>whnf
 refine aq.step ?_;conv=>whnf
 rw [show ai (b ++ vrn s.length) ++ ai s = ai (b ++ a8 s) by rw [← fT, a8, aak]];exact h
theorem wT (b s : B) (hb : b.length < 1000000) (hs : s.length < 10000000) {R} (h : R (.sl none 1 (ai (b ++ a8 s))) []) : ag Tryz.prog 161 [.sl none 1 (ai b), vs s] [] R := by
 refine aa (an := Sl) tab_ok Tryz.func161 ?_;conv=>whnf
 refine Da b s hb hs ?_;conv=>whnf
 exact h
def w4 (n : Nat) : B := [UInt8.ofNat (n % 256), UInt8.ofNat (n / 256 % 256), UInt8.ofNat (n / 65536 % 256), UInt8.ofNat (n / 16777216 % 256)]
theorem dE (n : Nat) : (w4 n).length = 4 := rfl
theorem kf {n : Nat} : IntKind.u8.wrap ((n : Nat) : Int) = (((UInt8.ofNat (n % 256)).toNat : Nat) : Int) := by
 rw [UInt8.toNat_ofNat'];show (n : Int) % 256 = _;omega
theorem ET (n k : Nat) : ((n : Nat) : Int).fdiv (2 ^ k) = ((n / 2 ^ k : Nat) : Int) := by
 rw [abS _ (Int.le_of_lt (Int.pow_pos (by decide)))]
 push_cast
 rfl
theorem Ds (n : Nat) (hn : n < 4294967296) {R} (h : R (.sl none 1 (ai (w4 n))) []) : ag Tryz.prog 201 [.val (.int .u32 (n : Int))] [] R := by
 refine aa (an := RX) tab_ok Tryz.func201 ?_;have e1 : (n : Int).fdiv (2 ^ min (Int.toNat 8) IntKind.u32.bits) = ((n / 256 : Nat) : Int) := ET n 8;have e2 : (n : Int).fdiv (2 ^ min (Int.toNat 16) IntKind.u32.bits) = ((n / 65536 : Nat) : Int) := ET n 16;have e3 : (n : Int).fdiv (2 ^ min (Int.toNat 24) IntKind.u32.bits) = ((n / 16777216 : Nat) : Int) := ET n 24;conv=>whnf
 rw [e1, e2, e3, kf, kf, kf, kf];exact h
theorem LB : (List.range 256).all (fun n => decide (aH .andNot .u8 (n : Int) 128 = ((n % 128 : Nat) : Int))) = true := by decide +kernel
theorem DD {n : Nat} (h : n < 256) : aH .andNot .u8 (n : Int) 128 = ((n % 128 : Nat) : Int) := aal (List.all_eq_true.1 LB n (List.mem_range.2 h))
theorem Oo {a b : Nat} (ha : a < 2 ^ 64) (hb : b < 2 ^ 64) : aH .or .u64 (a : Int) (b : Int) = ((a ||| b : Nat) : Int) := by
 unfold aH;show IntKind.u64.wrap (((BitVec.ofInt 64 (a : Int) ||| BitVec.ofInt 64 (b : Int)).toNat : Nat) : Int) = _;rw [BitVec.toNat_or];have h1 : (BitVec.ofInt 64 (a : Int)).toNat = a := by rw [BitVec.toNat_ofInt]; omega
 have h2 : (BitVec.ofInt 64 (b : Int)).toNat = b := by rw [BitVec.toNat_ofInt]; omega
 rw [h1, h2];have h3 : a ||| b < 2 ^ 64 := Nat.or_lt_two_pow ha hb
 show ((a ||| b : Nat) : Int) % 18446744073709551616 = _;omega
theorem vor {n x i : Nat} (hn : n < 18446744073709551616) (hi : i < 10) (hx : x < 256) (hd : x % 128 = n / 128 ^ i % 128) : aH .or .u64 ((n % 128 ^ i : Nat) : Int) (IntKind.u64.wrap (IntKind.u64.wrap (aH .andNot .u8 (x : Int) 128) * 2 ^ min (IntKind.i64.wrap (7 * (i : Int))).toNat IntKind.u64.bits)) = ((n % 128 ^ (i + 1) : Nat) : Int) := by
 have e7 : IntKind.i64.wrap (7 * (i : Int)) = ((7 * i : Nat) : Int) := by rw [aI (by omega) (by omega)]; omega
 have hp : (128 : Nat) ^ i = 2 ^ (7 * i) := by rw [Nat.pow_mul]
 have hm := Nat.mod_pow_succ (x := n) (b := 128) (k := i);have hle : n % 128 ^ (i + 1) ≤ n := Nat.mod_le _ _;have hlt : n % 128 ^ i ≤ n := Nat.mod_le _ _;have hlo : n % 128 ^ i < 2 ^ (7 * i) := by rw [← hp]; exact Nat.mod_lt _ (Nat.pow_pos (by omega))
 have e8 : IntKind.u64.wrap (((x % 128 : Nat) : Int)) = ((x % 128 : Nat) : Int) := by
  show ((x % 128 : Nat) : Int) % 18446744073709551616 = _;omega
 have hprod : 2 ^ (7 * i) * (x % 128) < 18446744073709551616 := by rw [hd, ← hp]; omega
 have e9 : IntKind.u64.wrap (((x % 128 : Nat) : Int) * 2 ^ (7 * i)) = ((2 ^ (7 * i) * (x % 128) : Nat) : Int) := by
  have : ((x % 128 : Nat) : Int) * 2 ^ (7 * i) = ((2 ^ (7 * i) * (x % 128) : Nat) : Int) := by push_cast; rw [Int.mul_comm]
  rw [this];show ((2 ^ (7 * i) * (x % 128) : Nat) : Int) % 18446744073709551616 = _;omega
 have hmin : min (((7 * i : Nat) : Int)).toNat IntKind.u64.bits = 7 * i := by
  rw [aaC];show min (7 * i) 64 = 7 * i;omega
 rw [DD hx, e8, e7, hmin, e9, Oo (by omega) (by omega)];congr 1;rw [Nat.or_comm, ← Nat.two_pow_add_eq_or_of_lt hlo, hm, hd, hp];omega
theorem qq (p q : B) (n : Nat) (hn : n < 18446744073709551616) (hl : p.length + q.length < 100000000) {R} (h : R (.tup [.val (.int .u64 (n : Int)), vi ((p.length + (vrn n).length : Nat) : Int), vi 0]) []) : ag Tryz.prog 267 [.sl none 1 (ai (p ++ vrn n ++ q)), vi (p.length : Int)] [] R := by
 refine aa (an := Nw) tab_ok Tryz.func267 ?_;have hv := ct hn;have hp := jt n;have hat := zk n;have hbl : (ai (p ++ vrn n ++ q)).length = p.length + (vrn n).length + q.length := by simp [ai]; omega
 conv=>whnf
 refine ae (fun g => ?_) (fun g => ?_)
 ·exfalso;have g := aal g;rw [hbl] at g;omega
 conv=>whnf
 refine aq.ind1 (fun (i : Nat) => [(4, .val (.int .u64 ((n % 128 ^ i : Nat) : Int))), (17, vi i)]) (fun _ => []) (fun i => 10 - i) (fun i => i < (vrn n).length) 0 (by simp [Nat.mod_one]; rfl) (by omega) ?_;rintro i h0 IH;have hb := (vrn n)[i].toNat_lt;obtain ⟨a1, a2, a3⟩ := hat i h0;have e1 : IntKind.i64.wrap ((p.length : Int) + (i : Int)) = ((p.length + i : Nat) : Int) := by rw [aI (by omega) (by omega)]; omega
 have e7 : IntKind.i64.wrap (7 * (i : Int)) = ((7 * i : Nat) : Int) := by rw [aI (by omega) (by omega)]; omega
 have hget : (ai (p ++ vrn n ++ q))[p.length + i]? = some [.val (.int .u8 ((vrn n)[i].toNat : Int))] := by
  unfold ai;rw [aaE, aak, aaV (by omega), Nat.add_sub_cancel_left, aaM h0, aad h0];rfl
 conv=>whnf
 refine ae (fun g2 => ?_) (fun g2 => ?_)
 ·conv=>whnf
  refine ae (fun g3 => ?_) (fun g3 => ?_)
  ·exfalso;rw [e1, hbl] at g3;have g3 := aal g3;omega
  conv=>whnf
  refine ac (aaa (by rw [e1]; omega)) ?_;rw [e1];refine gI.2 ⟨_, hget, ?_⟩;have hlow := DD hb;generalize hx : (vrn n)[i].toNat = x at a1 hb hlow hget ⊢;have h9 : i = 9 → x ≤ 1 := by
   intro h;subst h;have hl10 : 9 + 1 = (vrn n).length := by omega
   obtain ⟨b1, _⟩ := a2 hl10;rw [aap (by omega)] at a1;have : n / 128 ^ 9 ≤ 1 := by
    have : (128 : Nat) ^ 9 = 9223372036854775808 := by decide
    rw [this];omega
   omega
  have h0x : 0 < i → x ≠ 0 := by
   intro h;by_cases hi : i + 1 = (vrn n).length
   ·have := (a2 hi).2 h;have := (a2 hi).1;rw [aap (by omega)] at a1;omega
   ·rw [aaz (by omega)] at a1;omega
  conv=>whnf
  refine ae (fun g4 => ?_) (fun g4 => ?_)
  ·have g4 : i = 9 := by have := beq_iff_eq.1 g4; omega
   conv=>whnf
   refine ae (fun g5 => ?_) (fun g5 => ?_)
   ·exfalso;have g5 := aal g5;have := h9 g4;omega
   conv=>whnf
   refine ae (fun g6 => ?_) (fun g6 => ?_)
   ·have g6 := aal g6;conv=>whnf
    refine ae (fun g7 => ?_) (fun g7 => ?_)
    ·exfalso;have g7 := beq_iff_eq.1 g7;have := h0x (by omega);omega
    conv=>whnf
    refine ac (aaa (by rw [e7]; omega)) ?_;conv=>whnf
    refine ae (fun g8 => ?_) (fun g8 => ?_)
    ·have g8 := aal g8;have hfin : i + 1 = (vrn n).length := by
      by_cases hh : i + 1 < (vrn n).length
      ·rw [aaz hh] at a1; omega
      ·omega
     have hnn : n % 128 ^ (i + 1) = n := by
      refine Nat.mod_eq_of_lt ?_;have := (a2 hfin).1;have h2 := (Nat.div_lt_iff_lt_mul (Nat.pow_pos (show 0 < 128 by omega))).1 this;rw [Nat.pow_succ, Nat.mul_comm];exact h2
     conv=>whnf
     rw [vor hn (by omega) hb (by rw [a1]; split <;> omega), hnn, e1, aI (by omega) (by omega), show ((p.length + i : Nat) : Int) + 1 = ((p.length + (vrn n).length : Nat) : Int) by omega];exact h
    ·have g8 := aat g8;have hfin : i + 1 < (vrn n).length := by
      by_cases hh : i + 1 < (vrn n).length
      ·exact hh
      ·rw [aap hh] at a1; omega
     have hnx := IH (i + 1) hfin (by omega);conv=>whnf
     rw [vor hn (by omega) hb (by rw [a1]; split <;> omega), aI (by omega) (by omega), show (i : Int) + 1 = ((i + 1 : Nat) : Int) by omega];exact hnx
   ·conv=>whnf
    refine ac (aaa (by rw [e7]; omega)) ?_;conv=>whnf
    refine ae (fun g8 => ?_) (fun g8 => ?_)
    ·have g8 := aal g8;have hfin : i + 1 = (vrn n).length := by
      by_cases hh : i + 1 < (vrn n).length
      ·rw [aaz hh] at a1; omega
      ·omega
     have hnn : n % 128 ^ (i + 1) = n := by
      refine Nat.mod_eq_of_lt ?_;have := (a2 hfin).1;have h2 := (Nat.div_lt_iff_lt_mul (Nat.pow_pos (show 0 < 128 by omega))).1 this;rw [Nat.pow_succ, Nat.mul_comm];exact h2
     conv=>whnf
     rw [vor hn (by omega) hb (by rw [a1]; split <;> omega), hnn, e1, aI (by omega) (by omega), show ((p.length + i : Nat) : Int) + 1 = ((p.length + (vrn n).length : Nat) : Int) by omega];exact h
    ·have g8 := aat g8;have hfin : i + 1 < (vrn n).length := by
      by_cases hh : i + 1 < (vrn n).length
      ·exact hh
      ·rw [aap hh] at a1; omega
     have hnx := IH (i + 1) hfin (by omega);conv=>whnf
     rw [vor hn (by omega) hb (by rw [a1]; split <;> omega), aI (by omega) (by omega), show (i : Int) + 1 = ((i + 1 : Nat) : Int) by omega];exact hnx
  ·conv=>whnf
   refine ae (fun g6 => ?_) (fun g6 => ?_)
   ·have g6 := aal g6;conv=>whnf
    refine ae (fun g7 => ?_) (fun g7 => ?_)
    ·exfalso;have g7 := beq_iff_eq.1 g7;have := h0x (by omega);omega
    conv=>whnf
    refine ac (aaa (by rw [e7]; omega)) ?_;conv=>whnf
    refine ae (fun g8 => ?_) (fun g8 => ?_)
    ·have g8 := aal g8;have hfin : i + 1 = (vrn n).length := by
      by_cases hh : i + 1 < (vrn n).length
      ·rw [aaz hh] at a1; omega
      ·omega
     have hnn : n % 128 ^ (i + 1) = n := by
      refine Nat.mod_eq_of_lt ?_;have := (a2 hfin).1;have h2 := (Nat.div_lt_iff_lt_mul (Nat.pow_pos (show 0 < 128 by omega))).1 this;rw [Nat.pow_succ, Nat.mul_comm];exact h2
     conv=>whnf
     rw [vor hn (by omega) hb (by rw [a1]; split <;> omega), hnn, e1, aI (by omega) (by omega), show ((p.length + i : Nat) : Int) + 1 = ((p.length + (vrn n).length : Nat) : Int) by omega];exact h
    ·have g8 := aat g8;have hfin : i + 1 < (vrn n).length := by
      by_cases hh : i + 1 < (vrn n).length
      ·exact hh
      ·rw [aap hh] at a1; omega
     have hnx := IH (i + 1) hfin (by omega);conv=>whnf
     rw [vor hn (by omega) hb (by rw [a1]; split <;> omega), aI (by omega) (by omega), show (i : Int) + 1 = ((i + 1 : Nat) : Int) by omega];exact hnx
   ·conv=>whnf
    refine ac (aaa (by rw [e7]; omega)) ?_;conv=>whnf
    refine ae (fun g8 => ?_) (fun g8 => ?_)
    ·have g8 := aal g8;have hfin : i + 1 = (vrn n).length := by
      by_cases hh : i + 1 < (vrn n).length
      ·rw [aaz hh] at a1; omega
      ·omega
     have hnn : n % 128 ^ (i + 1) = n := by
      refine Nat.mod_eq_of_lt ?_;have := (a2 hfin).1;have h2 := (Nat.div_lt_iff_lt_mul (Nat.pow_pos (show 0 < 128 by omega))).1 this;rw [Nat.pow_succ, Nat.mul_comm];exact h2
     conv=>whnf
     rw [vor hn (by omega) hb (by rw [a1]; split <;> omega), hnn, e1, aI (by omega) (by omega), show ((p.length + i : Nat) : Int) + 1 = ((p.length + (vrn n).length : Nat) : Int) by omega];exact h
    ·have g8 := aat g8;have hfin : i + 1 < (vrn n).length := by
      by_cases hh : i + 1 < (vrn n).length
      ·exact hh
      ·rw [aap hh] at a1; omega
     have hnx := IH (i + 1) hfin (by omega);conv=>whnf
     rw [vor hn (by omega) hb (by rw [a1]; split <;> omega), aI (by omega) (by omega), show (i : Int) + 1 = ((i + 1 : Nat) : Int) by omega];exact hnx
 ·exfalso;have g2 := aat g2;omega
end Go.Abs
end
section
namespace Go.Abs
open Go Go.Proofs Go.RowKit Go.Lib
attribute [local irreducible] aH aD aO firstIdx
abbrev JQ : AV := .val (.slice none 0 0)
theorem FJ (n : Nat) (hn : n ≤ 1000000000) {R} (h0 : n = 0 → R JQ []) (h1 : 0 < n → R (.sl (some 0) 1 []) [.row 5 1 0]) : ag Tryz.prog 162 [JQ, vi n] [] R := by
 refine BX fun G w vals hW hA => ?_;have hI := JX hW;simp only [aB, Rep] at hA;obtain ⟨_, _, rfl, rfl, _, _, rfl, rfl, rfl⟩ := hA;by_cases hz : n = 0
 ·subst hz;refine (Ib w).mono ?_;rintro e w' ⟨rfl, rfl⟩;exact ⟨_, JQ, [], G, rfl, h0 rfl, by simp only [Rep], hI, (by intro i o ho; cases ho), by simp [AV.names]⟩
 ·refine (J2 n (by omega) hn w).mono ?_;rintro e w' ⟨rfl, cur, rfl, hcs⟩;have hge := grownCap_ge w n 0 5;have hgm := grownCap_le_maxLen w n 0 5 (by unfold maxLen; omega);have hKn : ∀ o, G.K w.heap.size o = none := fun o => by
   cases e : G.K w.heap.size o with
   | none => rfl
   | some v => have := hI.wr.kltb e; omega
  have hhp : (w.drew.alloc (.cells cur 5)).heap[w.heap.size]? = some (.cells cur 5 (0, 0)) := heap_alloc_new w.drew _;obtain ⟨hI', hle⟩ := hI.newObj (w' := w.drew.alloc (.cells cur 5)) (n := 0) (o := .row 5 1 0) (objs' := bC 0 [.row 5 1 0]) (g := .rowv (.slice (some ⟨w.heap.size, 0, none⟩) 0 (grownCap w n 0 5)) 0) (K' := G.K)
   rfl rfl rfl (by simp) (fun b hb => heap_alloc_old w.drew _ hb) (fun _ _ _ => rfl) (fun b o v hb ev => by have := hI.wr.kltb ev; omega) rfl
   (fun m => by rw [bU]; cases m <;> simp [bC, ax])
   (by
    refine ⟨_, [], by simp [aN], ⟨by simp, .inr ⟨w.heap.size, _, cur, rfl, aby _, hhp, aby _, hgm, by rw [hcs]; simp, by simp⟩⟩, fun g hg o => ?_⟩;have : g = w.heap.size := by simpa [Value.ownBlock] using hg.symm
    subst this;simpa using hKn o)
   (fun b hb => by
    rcases hb with hb | ⟨u, t, hb, hub⟩
    ·simp [aN] at hb
    ·simp only [aN, abq, Option.some.injEq, GO.rowv.injEq] at hb;obtain ⟨rfl, rfl⟩ := hb;have : b = w.heap.size := by simpa [Value.ownBlock] using hub.symm
     omega)
  refine ⟨_, .sl (some 0) 1 [], [.row 5 1 0], _, rfl, h1 (by omega), ?_, hI', ?_, ?_⟩
  ·simp only [Rep];exact ⟨⟨_, _, rfl, by simp, trivial⟩, _, 0, by simp [aN], by simp, fun _ => rfl⟩
  ·intro i o ho m hm
   cases i with
   | zero => cases ho; simp [ce] at hm
   | succ i => simp at ho
  ·intro m hm;simp [AV.names] at hm;subst hm; decide
theorem kV (p q : B) (hp : p.length < 100000000) (hq : q.length < 100000000) {R} (h : R (.sl none 1 (ai (p ++ q))) []) : ag Tryz.prog 120 [.sl none 1 [[.sl none 1 (ai p)], [.sl none 1 (ai q)]]] [] R := by
 refine ag.res ?_;refine aa (an := SR) tab_ok Tryz.func120 ?_;have h1 := aL p;have h2 := aL q;conv=>whnf
 have e1 : IntKind.i64.wrap (0 + ((ai p).length : Int)) = (p.length : Int) := by rw [h1, aI (by omega) (by omega)]; omega
 have e2 : IntKind.i64.wrap ((p.length : Int) + ((ai q).length : Int)) = ((p.length + q.length : Nat) : Int) := by rw [h2, aI (by omega) (by omega)]; omega
 refine aq.step ?_;conv=>whnf
 refine ae (fun g => ?_) (fun _ => ?_)
 ·rw [e1] at g;have g := aal g;omega
 rw [e1];conv=>whnf
 refine aq.step ?_;conv=>whnf
 refine ae (fun g => ?_) (fun _ => ?_)
 ·rw [e2] at g;have g := aal g;omega
 rw [e2];conv=>whnf
 refine aq.step ?_;conv=>whnf
 refine FJ (p.length + q.length) (by omega) (fun hz => ?_) (fun hz => ?_)
 ·have ep : p = [] := aau (by omega);have eq : q = [] := aau (by omega);subst ep eq;conv=>whnf
  refine aq.step ?_;conv=>whnf
  refine ⟨by rw [h1, c9]; simp, ?_⟩;conv=>whnf
  refine aq.step ?_;conv=>whnf
  refine ⟨rfl, by rw [h1, c9]; simp, ?_⟩;conv=>whnf
  refine aq.step ?_;conv=>whnf
  exact bB h
 ·conv=>whnf
  refine aq.step ?_;conv=>whnf
  refine ⟨rfl, by rw [h1, c9]; simp; omega, ?_⟩;conv=>whnf
  refine aq.step ?_;conv=>whnf
  refine ⟨by simp, by rw [h2, c9]; simp [h1]; omega, ?_⟩;conv=>whnf
  refine aq.step ?_;conv=>whnf
  rw [fT] at h;exact bB h
end Go.Abs
end
section
namespace Go.Abs
open Go Go.Proofs
attribute [local irreducible] aH aD aO firstIdx
namespace Crc
abbrev W := BitVec 32
def poly : W := 0xedb88320#32
def s0 (c : W) : W := (c >>> 1) ^^^ (if c.getLsbD 0 then poly else 0#32)
def four (c : W) : W := s0 (s0 (s0 (s0 c)))
def half (c : W) (n : W) : W := (c >>> 4) ^^^ four ((c ^^^ n) &&& 15#32)
def ofByte (x : UInt8) : W := BitVec.ofNat 32 x.toNat
def byte (c : W) (x : UInt8) : W := half (half c (ofByte x)) (ofByte x >>> 4)
def run (c : W) (l : B) : W := l.foldl byte c
def sum (l : B) : W := ~~~ run 0xffffffff#32 l
def bitS (c : W) (b : Bool) : W := (c >>> 1) ^^^ (if c.getLsbD 0 != b then poly else 0#32)
theorem Tz {w : Nat} (a b c d : BitVec w) : (a ^^^ b) ^^^ (c ^^^ d) = (a ^^^ c) ^^^ (b ^^^ d) := by
 apply abh;intro i hi;simp only [abG]
 cases a.getLsbD i <;> cases b.getLsbD i <;> cases c.getLsbD i <;> cases d.getLsbD i <;> rfl
theorem zE (a b : W) : s0 (a ^^^ b) = s0 a ^^^ s0 b := by
 unfold s0;rw [BitVec.ushiftRight_xor_distrib, abG];have : (if (a.getLsbD 0 ^^ b.getLsbD 0) = true then poly else 0#32) = (if a.getLsbD 0 = true then poly else 0#32) ^^^ (if b.getLsbD 0 = true then poly else 0#32) := by
  cases a.getLsbD 0 <;> cases b.getLsbD 0 <;> simp
 rw [this, Tz]
theorem Kd (a b : W) : four (a ^^^ b) = four a ^^^ four b := by unfold four; rw [zE, zE, zE, zE]
theorem uI {a : W} (h : a.getLsbD 0 = false) : s0 a = a >>> 1 := by unfold s0; rw [h]; simp
theorem Mp {a : W} (h : ∀ i, i < 4 → a.getLsbD i = false) : four a = a >>> 4 := by
 unfold four;have e1 : s0 a = a >>> 1 := uI (h 0 (by omega));have e2 : s0 (a >>> 1) = a >>> 1 >>> 1 := uI (by rw [aa7]; exact h 1 (by omega));have e3 : s0 (a >>> 1 >>> 1) = a >>> 1 >>> 1 >>> 1 := uI (by rw [aa7, aa7]; exact h 2 (by omega));have e4 : s0 (a >>> 1 >>> 1 >>> 1) = a >>> 1 >>> 1 >>> 1 >>> 1 := uI (by rw [aa7, aa7, aa7]; exact h 3 (by omega));rw [e1, e2, e3, e4];apply abh;intro i hi;simp only [aa7];congr 1;omega
theorem LI (c : W) : c = (c &&& ~~~ 15#32) ^^^ (c &&& 15#32) := by
 apply abh;intro i hi;simp only [abG, BitVec.getLsbD_and, BitVec.getLsbD_not, hi, decide_true, aaI]
 cases c.getLsbD i <;> cases (15#32).getLsbD i <;> rfl
theorem C6 (i : Nat) : (15#32).getLsbD i = decide (i < 4) := by
 by_cases h : i < 4
 ·have : i = 0 ∨ i = 1 ∨ i = 2 ∨ i = 3 := by omega
  rcases this with rfl | rfl | rfl | rfl <;> rfl
 ·simp only [h, decide_false];by_cases h2 : i < 32
  ·have := (by decide +kernel : (List.range 32).all (fun i => decide (i < 4) || !((15#32).getLsbD i)) = true);have := List.all_eq_true.1 this i (List.mem_range.2 h2);simpa [h] using this
  ·exact BitVec.getLsbD_of_ge _ _ (by omega)
theorem Mk {c n : W} (hn : ∀ i, 4 ≤ i → n.getLsbD i = false) : four (c ^^^ n) = (c >>> 4) ^^^ four ((c ^^^ n) &&& 15#32) := by
 conv => lhs; rw [LI (c ^^^ n), Kd]
 congr 1;rw [Mp]
 ·apply abh;intro i hi;have h4 : ¬ 4 + i < 4 := by omega
  have h2 := hn (4 + i) (by omega);rw [aa7, aa7, BitVec.getLsbD_and, abG, BitVec.getLsbD_not, C6, h2];by_cases h3 : 4 + i < 32
  ·rw [aaa h3, aai h4]; simp only [Bool.xor_false, abj, Bool.and_true]
  ·rw [BitVec.getLsbD_of_ge c _ (Nat.le_of_not_lt h3)]; rfl
 ·intro i hi;rw [BitVec.getLsbD_and, BitVec.getLsbD_not, C6, aaa hi];simp only [Bool.not_true, Bool.and_false]
theorem uP (c n : W) (b : Bool) (hb : n.getLsbD 0 = b) : bitS c b ^^^ (n >>> 1) = s0 (c ^^^ n) := by
 unfold bitS s0;rw [BitVec.ushiftRight_xor_distrib, abG, hb];have : (if (c.getLsbD 0 != b) = true then poly else 0#32) = (if (c.getLsbD 0 ^^ b) = true then poly else 0#32) := by cases c.getLsbD 0 <;> cases b <;> rfl
 rw [this];apply abh;intro i hi;simp only [abG]
 cases (c >>> 1).getLsbD i <;> cases (n >>> 1).getLsbD i <;> simp
theorem If (c n : W) : bitS (bitS (bitS (bitS c (n.getLsbD 0)) (n.getLsbD 1)) (n.getLsbD 2)) (n.getLsbD 3) ^^^ (n >>> 4) = four (c ^^^ n) := by
 have e1 := uP c n _ rfl;have e2 := uP (bitS c (n.getLsbD 0)) (n >>> 1) (n.getLsbD 1) (by simp);have e3 := uP (bitS (bitS c (n.getLsbD 0)) (n.getLsbD 1)) (n >>> 1 >>> 1) (n.getLsbD 2) (by simp);have e4 := uP (bitS (bitS (bitS c (n.getLsbD 0)) (n.getLsbD 1)) (n.getLsbD 2)) (n >>> 1 >>> 1 >>> 1) (n.getLsbD 3) (by simp);unfold four;rw [← e1, ← e2, ← e3, ← e4];rfl
def bits (c : W) (x : UInt8) : Nat → W
 | 0 => c
 | k + 1 => bitS (bits c x k) ((ofByte x).getLsbD k)
theorem TS (n : W) : ∀ i, 4 ≤ i → (n &&& 15#32).getLsbD i = false := fun i hi => by
 have : ¬ i < 4 := by omega
 simp [C6, this]
theorem Ke (c n : W) : four ((c ^^^ n) &&& 15#32) = four ((c ^^^ (n &&& 15#32)) &&& 15#32) := by
 congr 1;apply abh;intro i hi;simp only [BitVec.getLsbD_and, abG]
 cases (15#32).getLsbD i <;> simp
theorem yM (c n : W) : half c n = bitS (bitS (bitS (bitS c (n.getLsbD 0)) (n.getLsbD 1)) (n.getLsbD 2)) (n.getLsbD 3) := by
 unfold half;rw [Ke, ← Mk (TS n), ← If c (n &&& 15#32)];have e : (n &&& 15#32) >>> 4 = 0#32 := by
  apply abh;intro i hi;have : ¬ 4 + i < 4 := by omega
  simp [C6, this]
 rw [e, BitVec.xor_zero];simp [C6]
theorem byte_bits (c : W) (x : UInt8) : byte c x = bits c x 8 := by
 unfold byte;rw [yM, yM];simp only [aa7];rfl
theorem run_append (c : W) (l m : B) : run c (l ++ m) = run (run c l) m := abn
end Crc
open Crc
def wv (x : Crc.W) : AV := .val (.int .u32 x.toNat)
theorem uE (x : Crc.W) : BitVec.ofInt IntKind.u32.bits (x.toNat : Int) = x := by
 show BitVec.ofInt 32 (x.toNat : Int) = x;simp
theorem ll {x : Int} (h0 : 0 ≤ x) (h1 : x < 4294967296) : IntKind.u32.wrap x = x := by
 show x % 4294967296 = x;omega
theorem Bd (x y : Crc.W) : aH .xor .u32 (x.toNat : Int) (y.toNat : Int) = ((x ^^^ y).toNat : Int) := by
 simp only [aH];rw [uE, uE];exact ll (abe _) (show (((x ^^^ y : BitVec 32).toNat : Nat) : Int) < ((4294967296 : Nat) : Int) from Int.ofNat_lt.2 (x ^^^ y : BitVec 32).isLt)
theorem MY (x y : Crc.W) : aH .and .u32 (x.toNat : Int) (y.toNat : Int) = ((x &&& y).toNat : Int) := by
 simp only [aH];rw [uE, uE];exact ll (abe _) (show (((x &&& y : BitVec 32).toNat : Nat) : Int) < ((4294967296 : Nat) : Int) from Int.ofNat_lt.2 (x &&& y : BitVec 32).isLt)
theorem MX (x : Crc.W) (k : Nat) (hk : k ≤ 32) : ((x.toNat : Int)).fdiv (2 ^ min ((k : Int)).toNat IntKind.u32.bits) = ((x >>> k).toNat : Int) := by
 have : min ((k : Int)).toNat IntKind.u32.bits = k := by
  show min ((k : Int)).toNat 32 = k;simp; omega
 rw [this, BitVec.toNat_ushiftRight, Nat.shiftRight_eq_div_pow, abS _ (by exact Int.le_of_lt (Int.pow_pos (by omega)))];simp
theorem Mf (c : Crc.W) : c &&& 1#32 = if c.getLsbD 0 then 1#32 else 0#32 := by
 apply abh;intro i hi;rw [BitVec.getLsbD_and]
 cases h : c.getLsbD 0 with
 | true =>
  by_cases e : i = 0
  ·subst e; simp [h]
  ·simp [BitVec.getLsbD_one, e]
 | false =>
  by_cases e : i = 0
  ·subst e; rw [h]; rfl
  ·simp [BitVec.getLsbD_one, e]
theorem LT (c : Crc.W) : aH .xor .u32 ((c.toNat : Int).fdiv (2 ^ min ((1 : Nat) : Int).toNat IntKind.u32.bits)) (IntKind.u32.wrap (3988292384 * aH .and .u32 (c.toNat : Int) 1)) = ((Crc.s0 c).toNat : Int) := by
 rw [MX c 1 (by omega), show (1 : Int) = ((1#32 : Crc.W).toNat : Int) from rfl, MY, Mf];have : IntKind.u32.wrap (3988292384 * ((if c.getLsbD 0 then 1#32 else 0#32 : Crc.W).toNat : Int)) = ((if c.getLsbD 0 then Crc.poly else 0#32 : Crc.W).toNat : Int) := by
  cases c.getLsbD 0 <;> rfl
 rw [this, Bd];rfl
def s0n (c : Crc.W) : Nat → Crc.W
 | 0 => c
 | k + 1 => Crc.s0 (s0n c k)
theorem cV (c : Crc.W) {X : AV} (hX : X = wv c) {R} (h : R (wv (Crc.four c)) []) : ag Tryz.prog 265 [X] [] R := by
 subst hX;refine aa (an := Rd) tab_ok Tryz.func265 ?_;conv=>whnf
 refine aq.ind2 (fun (i : Nat) (x : Crc.W) => [(0, wv x), (4, vi i)]) (fun i x => []) (fun i _ => 4 - i) (fun i x => i ≤ 4 ∧ x = s0n c i) 0 c rfl ⟨by omega, rfl⟩ ?_;rintro i x ⟨h0, hx⟩ IH;conv=>whnf
 refine ae (fun hc => ?_) (fun hc => ?_)
 ·have hc : i < 4 := by simp at hc; omega
  conv=>whnf
  have e := LT x;simp only [wv] at IH;rw [am (by omega)];have := IH (i + 1) (Crc.s0 x) ⟨by omega, by rw [hx]; rfl⟩ (by omega);rw [← e] at this;exact this
 ·have hc : i = 4 := by simp at hc; omega
  subst hc;conv=>whnf
  rw [hx];exact h
def Iw : List AV := (List.range 16).map fun i => wv (Crc.four (BitVec.ofNat 32 i))
theorem Ai {R} (h : R (.agg Iw) []) : ag Tryz.prog 243 [] [] R := by
 refine aa (an := Rw) tab_ok Tryz.func243 ?_;conv=>whnf
 refine aq.step ?_;conv=>whnf
 refine cV 0#32 rfl ?_;conv=>whnf
 refine aq.step ?_;conv=>whnf
 refine cV 1#32 rfl ?_;conv=>whnf
 refine aq.step ?_;conv=>whnf
 refine cV 2#32 rfl ?_;conv=>whnf
 refine aq.step ?_;conv=>whnf
 refine cV 3#32 rfl ?_;conv=>whnf
 refine aq.step ?_;conv=>whnf
 refine cV 4#32 rfl ?_;conv=>whnf
 refine aq.step ?_;conv=>whnf
 refine cV 5#32 rfl ?_;conv=>whnf
 refine aq.step ?_;conv=>whnf
 refine cV 6#32 rfl ?_;conv=>whnf
 refine aq.step ?_;conv=>whnf
 refine cV 7#32 rfl ?_;conv=>whnf
 refine aq.step ?_;conv=>whnf
 refine cV 8#32 rfl ?_;conv=>whnf
 refine aq.step ?_;conv=>whnf
 refine cV 9#32 rfl ?_;conv=>whnf
 refine aq.step ?_;conv=>whnf
 refine cV 10#32 rfl ?_;conv=>whnf
 refine aq.step ?_;conv=>whnf
 refine cV 11#32 rfl ?_;conv=>whnf
 refine aq.step ?_;conv=>whnf
 refine cV 12#32 rfl ?_;conv=>whnf
 refine aq.step ?_;conv=>whnf
 refine cV 13#32 rfl ?_;conv=>whnf
 refine aq.step ?_;conv=>whnf
 refine cV 14#32 rfl ?_;conv=>whnf
 refine aq.step ?_;conv=>whnf
 refine cV 15#32 rfl ?_;conv=>whnf
 refine aq.step ?_;conv=>whnf
 exact h
theorem Gu {l : List AV} {n : Nat} {a : AV} {K : AV → Prop} (h : l[n]? = some a) (hk : pj a K) : (match pn l n with | a :: _ => pj a K | [] => False) := by
 rw [jE];obtain ⟨hl, rfl⟩ := List.getElem?_eq_some_iff.1 h;rw [aao hl];exact hk
theorem GK (i : Crc.W) (h : i.toNat < 16) : Iw[i.toNat]? = some (wv (Crc.four i)) := by
 unfold Iw;rw [aaE, List.getElem?_range h];simp
theorem NU (x : UInt8) : IntKind.u32.wrap ((x.toNat : Nat) : Int) = (((Crc.ofByte x).toNat : Nat) : Int) := by
 have := x.toNat_lt;rw [ll (abe _) (by omega)];unfold Crc.ofByte;rw [BitVec.toNat_ofNat, Nat.mod_eq_of_lt (by omega)]
theorem Lw (x : UInt8) : IntKind.u32.wrap (((x.toNat : Nat) : Int).fdiv (2 ^ min (Int.toNat 4) IntKind.u8.bits)) = (((Crc.ofByte x >>> 4).toNat : Nat) : Int) := by
 have hx := x.toNat_lt;have e : ((x.toNat : Nat) : Int).fdiv (2 ^ min (Int.toNat 4) IntKind.u8.bits) = ((x.toNat / 16 : Nat) : Int) := by
  show ((x.toNat : Nat) : Int).fdiv (2 ^ 4) = _;rw [abS _ (by decide)]; omega
 rw [e, ll (abe _) (by omega), BitVec.toNat_ushiftRight, Nat.shiftRight_eq_div_pow];unfold Crc.ofByte;rw [BitVec.toNat_ofNat, Nat.mod_eq_of_lt (by omega)]
theorem Dd (c : Crc.W) : (c &&& 15#32).toNat < 16 := by
 rw [BitVec.toNat_and];exact Nat.lt_of_le_of_lt Nat.and_le_right (by decide)
theorem yL (c n : Crc.W) : aH .and .u32 (aH .xor .u32 (c.toNat : Int) (n.toNat : Int)) 15 = (((c ^^^ n) &&& 15#32).toNat : Int) := by
 rw [Bd, show (15 : Int) = ((15#32 : Crc.W).toNat : Int) from rfl, MY]
theorem Cj (c n : Crc.W) : aH .xor .u32 ((c.toNat : Int).fdiv (2 ^ min (Int.toNat 4) IntKind.u32.bits)) ((Crc.four ((c ^^^ n) &&& 15#32)).toNat : Int) = ((Crc.half c n).toNat : Int) := by
 have e : (c.toNat : Int).fdiv (2 ^ min (Int.toNat 4) IntKind.u32.bits) = ((c >>> 4).toNat : Int) := MX c 4 (by omega);rw [e, Bd]; rfl
theorem Lv (c : Crc.W) : aH .xor .u32 4294967295 (c.toNat : Int) = ((~~~ c).toNat : Int) := by
 rw [show (4294967295 : Int) = ((0xffffffff#32 : Crc.W).toNat : Int) from rfl, Bd];congr 2
theorem zi (b : B) (hb : b.length < 100000000) {R} (h : R (wv (Crc.sum b)) []) : ag Tryz.prog 202 [.sl none 1 [[.sl none 1 (ai b)]]] [] R := by
 refine aa (an := RW) tab_ok Tryz.func202 ?_;have hsl : (ai b).length = b.length := by simp [ai]
 conv=>whnf
 refine Ai ?_;conv=>whnf
 refine aq.step ?_;conv=>whnf
 refine aq.ind2 (fun (i : Nat) (c : Crc.W) => [(4, wv c), (18, vi i)]) (fun i c => [(al 3, .cells 326 Iw)]) (fun i _ => b.length - i) (fun i c => i ≤ b.length ∧ c = Crc.run 0xffffffff#32 (b.take i)) 0 0xffffffff#32 rfl ⟨by omega, rfl⟩ ?_;rintro i c ⟨h0, hc0⟩ IH;conv=>whnf
 refine ae (fun hc => ?_) (fun hc => ?_)
 ·have hc := ap hsl hc
  (conv=>whnf); (repeat ((with_reducible refine ac ?_ ?_); exact aaa (by omega); (conv=>whnf)))
  refine idxNat (by simpa using hc) ?_;have IH' := IH (i + 1) (Crc.byte c b[i]) ⟨by omega, by rw [aab hc, Crc.run_append, hc0]; rfl⟩ (by omega);clear IH;generalize b[i] = x at IH' ⊢;conv=>whnf
  rw [NU, yL];have hq := Dd (c ^^^ Crc.ofByte x);have hT := GK _ hq;have he := Cj c (Crc.ofByte x);generalize (c ^^^ Crc.ofByte x) &&& 15#32 = q at hq hT he ⊢;refine ac (aaa (show ((q.toNat : Nat) : Int) < ((16 : Nat) : Int) by omega)) ?_;conv=>whnf
  refine Gu (a := wv (Crc.four q)) (by show Iw[0 + q.toNat * 1]? = _; rw [aaS, Nat.mul_one]; exact hT) ?_;conv=>whnf
  rw [he, Lw, yL];have hq := Dd (Crc.half c (Crc.ofByte x) ^^^ (Crc.ofByte x >>> 4));have hT := GK _ hq;have he := Cj (Crc.half c (Crc.ofByte x)) (Crc.ofByte x >>> 4);generalize (Crc.half c (Crc.ofByte x) ^^^ (Crc.ofByte x >>> 4)) &&& 15#32 = q2 at hq hT he ⊢;refine ac (aaa (show ((q2.toNat : Nat) : Int) < ((16 : Nat) : Int) by omega)) ?_;conv=>whnf
  refine Gu (a := wv (Crc.four q2)) (by show Iw[0 + q2.toNat * 1]? = _; rw [aaS, Nat.mul_one]; exact hT) ?_;conv=>whnf
  rw [he, am (by omega)];exact IH'
 ·have hc := au hsl hc;rw [aae hc] at hc0;conv=>whnf
  refine aq.step ?_;conv=>whnf
  have e : aH .xor .u32 (match IntKind.u32.signed with | true => -1 | false => IntKind.u32.max) (c.toNat : Int) = ((Crc.sum b).toNat : Int) := by
   rw [Crc.sum, ← hc0]; exact Lv c
  refine Eq.mp ?_ h;rw [wv, ← e];rfl
theorem NS (c : Crc.W) : (c.toNat : Int).tmod 2 = if c.getLsbD 0 then 1 else 0 := by
 rw [Int.tmod_eq_emod_of_nonneg (abe _)];have h : c.getLsbD 0 = decide (c.toNat % 2 = 1) := by
  rw [BitVec.getLsbD, Nat.testBit_zero]
 rw [h];by_cases e : c.toNat % 2 = 1
 ·rw [aaa e]; simp; omega
 ·rw [aai e]; simp; omega
theorem NT (c : Crc.W) : IntKind.u32.wrap ((c.toNat : Int).tdiv 2) = ((c >>> 1).toNat : Int) := by
 have := c.isLt;rw [Int.tdiv_eq_ediv_of_nonneg (abe _), ll (by omega) (by omega), BitVec.toNat_ushiftRight, Nat.shiftRight_eq_div_pow];omega
theorem QS (x : UInt8) (k : Nat) (hk : k < 8) : (IntKind.u32.wrap (((x.toNat : Nat) : Int).fdiv (2 ^ min ((k : Nat) : Int).toNat IntKind.u8.bits))).tmod 2 = if (Crc.ofByte x).getLsbD k then 1 else 0 := by
 have hx := x.toNat_lt;have e : ((x.toNat : Nat) : Int).fdiv (2 ^ min ((k : Nat) : Int).toNat IntKind.u8.bits) = ((x.toNat / 2 ^ k : Nat) : Int) := by
  have : min ((k : Nat) : Int).toNat IntKind.u8.bits = k := by
   show min ((k : Nat) : Int).toNat 8 = k;rw [aaC]; omega
  rw [this, abS _ (by exact Int.le_of_lt (Int.pow_pos (by omega)))];simp
 have hlt : x.toNat / 2 ^ k < 256 := Nat.lt_of_le_of_lt (Nat.div_le_self _ _) hx;rw [e, ll (abe _) (by omega), Int.tmod_eq_emod_of_nonneg (abe _)];have h : (Crc.ofByte x).getLsbD k = decide (x.toNat / 2 ^ k % 2 = 1) := by
  unfold Crc.ofByte;rw [BitVec.getLsbD_ofNat, Nat.testBit_eq_decide_div_mod_eq];simp; omega
 rw [h];generalize x.toNat / 2 ^ k = q;by_cases e : q % 2 = 1
 ·rw [aaa e]; simp; omega
 ·rw [aai e]; simp; omega
theorem kI (b : B) (hb : b.length < 100000000) {R} (h : R (wv (Crc.sum b)) []) : ag Tryz.prog 229 [vs b] [] R := by
 refine aa (an := RC) tab_ok Tryz.func229 ?_;have hsl := aG b;conv=>whnf
 refine aq.ind2 (fun (i : Nat) (c : Crc.W) => [(3, wv c), (4, vi i)]) (fun i c => []) (fun i _ => b.length - i) (fun i c => i ≤ b.length ∧ c = Crc.run 0xffffffff#32 (b.take i)) 0 0xffffffff#32 rfl ⟨by omega, rfl⟩ ?_;rintro i c ⟨h0, hc0⟩ IH;conv=>whnf
 refine ae (fun hc => ?_) (fun hc => ?_)
 ·have hc := ap hsl hc;have IH' := IH (i + 1) (Crc.bits c b[i] 8) ⟨by omega, by rw [aab hc, Crc.run_append, hc0, ← Crc.byte_bits]; rfl⟩ (by omega);clear IH;conv=>whnf
  refine aq.ind2 (fun (k : Nat) (d : Crc.W) => [(3, wv d), (5, .val (.int .u64 (k : Int)))]) (fun _ _ => []) (fun k _ => 8 - k) (fun k d => k ≤ 8 ∧ d = Crc.bits c b[i] k) 0 c rfl ⟨by omega, rfl⟩ ?_;rintro k d ⟨hk0, hd⟩ IH2;conv=>whnf
  refine ae (fun hk => ?_) (fun hk => ?_)
  ·have hk : k < 8 := by simp at hk; omega
   have hnx := IH2 (k + 1) (Crc.bits c b[i] (k + 1)) ⟨by omega, rfl⟩ (by omega);clear IH2;have hbits : Crc.bits c b[i] (k + 1) = Crc.bitS d ((Crc.ofByte b[i]).getLsbD k) := by rw [hd]; rfl
   rw [hbits] at hnx;clear hbits hd;have hbyte := je b hc;have hkk : IntKind.u64.wrap ((k : Int) + 1) = ((k + 1 : Nat) : Int) := by
    show ((k : Int) + 1) % 18446744073709551616 = _;omega
   generalize b[i] = x at hbyte hnx ⊢
   (conv=>whnf); (repeat ((with_reducible refine ac ?_ ?_); exact aaa (by omega); (conv=>whnf)))
   rw [show (i : Int).toNat = i from rfl, hbyte, QS x k hk, NS, NT];refine ae (fun hu => ?_) (fun hu => ?_)
   ·conv=>whnf
    rw [hkk];have hb2 : (d.getLsbD 0 != (Crc.ofByte x).getLsbD k) = true := by
     revert hu; cases d.getLsbD 0 <;> cases (Crc.ofByte x).getLsbD k <;> simp
    rw [Crc.bitS, hb2, aaz rfl] at hnx;have e : aH .xor .u32 ((d >>> 1).toNat : Int) 3988292384 = ((d >>> 1 ^^^ Crc.poly).toNat : Int) := by
     rw [show (3988292384 : Int) = (Crc.poly.toNat : Int) from rfl, Bd]
    rw [e];exact hnx
   ·conv=>whnf
    rw [hkk];have hb2 : (d.getLsbD 0 != (Crc.ofByte x).getLsbD k) = false := by
     revert hu; cases d.getLsbD 0 <;> cases (Crc.ofByte x).getLsbD k <;> simp
    rw [Crc.bitS, hb2, aap (by simp), BitVec.xor_zero] at hnx;exact hnx
  ·have hk : k = 8 := by simp at hk; omega
   subst hk;subst hd;conv=>whnf
   rw [am (by omega)];exact IH'
 ·have hc := au hsl hc;rw [aae hc] at hc0;conv=>whnf
  have e : IntKind.u32.wrap (4294967295 - (c.toNat : Int)) = ((Crc.sum b).toNat : Int) := by
   have := c.isLt;rw [ll (by omega) (by omega), Crc.sum, ← hc0, BitVec.toNat_not];omega
  rw [e];exact h
def gG (b : B) : B := b ++ w4 (Crc.sum b).toNat
theorem rz (b : B) (hb : b.length < 10000000) {R} (h : R (.sl none 1 (ai (gG b))) []) : ag Tryz.prog 155 [.sl none 1 (ai b)] [] R := by
 refine aa (an := Sn) tab_ok Tryz.func155 ?_;have hw := dE (Crc.sum b).toNat;conv=>whnf
 refine zi b (by omega) ?_;conv=>whnf
 refine Ds (Crc.sum b).toNat (Crc.sum b).isLt ?_;conv=>whnf
 refine kV b (w4 (Crc.sum b).toNat) (by omega) (by omega) ?_;conv=>whnf
 exact h
def bl (p : B) : B := gG (a8 p)
theorem dX (b p : B) (hb : b.length < 10000000) (h1 : 1 ≤ p.length) (h2 : p.length ≤ 2048) {R} (h : R (.tup [.sl none 1 (ai (b ++ bl p)), vi 0]) []) : ag Tryz.prog 118 [.sl none 1 (ai b), .sl none 1 (ai p)] [] R := by
 refine aa (an := ST) tab_ok Tryz.func118 ?_;have hpl := aL p;have hv := ct (n := p.length) (by omega);have hbp : (a8 p).length = (vrn p.length).length + p.length := by simp [a8]
 have hfp : (bl p).length = (a8 p).length + 4 := by simp [bl, gG, dE]
 have hst : ∃ ns : List Int, ai p = ns.map (fun n => [AV.val (.int .u8 n)]) ∧ strOfNums ns = ofB p := ⟨p.map fun c => (c.toNat : Int), by simp [ai], fQ p⟩;obtain ⟨ns, n1, n2⟩ := hst;conv=>whnf
 refine ae (fun g => ?_) (fun g => ?_)
 ·exfalso;have g := aal g;rw [hpl] at g;omega
 conv=>whnf
 refine ae (fun g => ?_) (fun g => ?_)
 ·exfalso;have g := aal g;rw [hpl] at g;omega
 conv=>whnf
 refine ⟨ns, n1, ?_⟩;rw [n2];conv=>whnf
 refine ag.args (leL.cons (cy 1) (leL.refl _)) (wT [] p (by simp) (by omega) ?_);conv=>whnf
 refine rz ([] ++ a8 p) (by simp; omega) ?_;conv=>whnf
 refine kV b (gG ([] ++ a8 p)) (by omega) (by rw [aam]; change (bl p).length < _; omega) ?_;conv=>whnf
 exact h
theorem P9 {n i : Nat} (hi : i < 4) : ((w4 n)[i]?).map (·.toNat) = some (n / 256 ^ i % 256) := by
 have h : ∀ m : Nat, (UInt8.ofNat (m % 256)).toNat = m % 256 := fun m => sL (Nat.mod_lt _ (by omega));have : i = 0 ∨ i = 1 ∨ i = 2 ∨ i = 3 := by omega
 rcases this with rfl | rfl | rfl | rfl <;> simp [w4]
theorem TL {c d : Nat} (hc : c < 16777216) (hd : d < 256) : aH .or .u32 (IntKind.u32.wrap ((c : Int) * 2 ^ min (Int.toNat 8) IntKind.u32.bits)) (IntKind.u32.wrap (d : Int)) = ((256 * c + d : Nat) : Int) := by
 have e1 : IntKind.u32.wrap ((c : Int) * 2 ^ min (Int.toNat 8) IntKind.u32.bits) = ((256 * c : Nat) : Int) := by
  show ((c : Int) * 2 ^ 8) % 4294967296 = _;omega
 have e2 : IntKind.u32.wrap (d : Int) = (d : Int) := by
  show (d : Int) % 4294967296 = _;omega
 rw [e1, e2];unfold aH;show IntKind.u32.wrap (((BitVec.ofInt 32 ((256 * c : Nat) : Int) ||| BitVec.ofInt 32 (d : Int)).toNat : Nat) : Int) = _;rw [BitVec.toNat_or];have h1 : (BitVec.ofInt 32 ((256 * c : Nat) : Int)).toNat = 256 * c := by rw [BitVec.toNat_ofInt]; omega
 have h2 : (BitVec.ofInt 32 (d : Int)).toNat = d := by rw [BitVec.toNat_ofInt]; omega
 have h3 := Nat.two_pow_add_eq_or_of_lt (i := 8) (b := d) (by omega) c;rw [h1, h2, show 256 * c = 2 ^ 8 * c from rfl, ← h3];show ((2 ^ 8 * c + d : Nat) : Int) % 4294967296 = _;omega
theorem C5 (p q : B) (n : Nat) (hn : n < 4294967296) (hl : p.length + q.length < 100000000) {R} (h : R (.tup [.val (.int .u32 (n : Int)), .val (.bool true)]) []) : ag Tryz.prog 211 [.sl none 1 (ai (p ++ w4 n ++ q)), vi (p.length : Int)] [] R := by
 refine aa (an := RP) tab_ok Tryz.func211 ?_;have hbl : (ai (p ++ w4 n ++ q)).length = p.length + 4 + q.length := by simp [ai, dE]; omega
 have ew : IntKind.i64.wrap (((ai (p ++ w4 n ++ q)).length : Int) - (p.length : Int)) = ((4 + q.length : Nat) : Int) := by rw [hbl, aI (by omega) (by omega)]; omega
 conv=>whnf
 refine ae (fun g => ?_) (fun g => ?_)
 ·exfalso;have g := aal g;rw [hbl] at g;omega
 conv=>whnf
 refine ae (fun g => ?_) (fun g => ?_)
 ·exfalso;have g := aal g;rw [ew] at g;omega
 conv=>whnf
 refine aq.ind1 (fun (j : Nat) => [(6, .val (.int .u32 ((n / 256 ^ j : Nat) : Int))), (7, vi ((j : Int) - 1))]) (fun _ => []) (fun j => j) (fun j => j ≤ 4) 4 (by rw [show n / 256 ^ 4 = 0 from Nat.div_eq_of_lt (by omega)]; rfl) (by omega) ?_;rintro j h0 IH;conv=>whnf
 refine ae (fun g2 => ?_) (fun g2 => ?_)
 ·have g2 := aal g2;obtain ⟨k, rfl⟩ : ∃ k, j = k + 1 := ⟨j - 1, by omega⟩;have hnx := IH k (by omega) (by omega);have ek : ((k + 1 : Nat) : Int) - 1 = (k : Int) := by omega
  have e1 : IntKind.i64.wrap ((p.length : Int) + (((k + 1 : Nat) : Int) - 1)) = ((p.length + k : Nat) : Int) := by rw [ek, aI (by omega) (by omega)]; omega
  have e2 : IntKind.i64.wrap (((k + 1 : Nat) : Int) - 1 - 1) = (k : Int) - 1 := by rw [ek, aI (by omega) (by omega)]
  obtain ⟨c, hc, hcn⟩ := Option.map_eq_some_iff.1 (P9 (n := n) (i := k) (by omega));have hget : (ai (p ++ w4 n ++ q))[p.length + k]? = some [.val (.int .u8 ((n / 256 ^ k % 256 : Nat) : Int))] := by
   unfold ai;rw [aaE, aak, aaV (by omega), Nat.add_sub_cancel_left, aaM (by rw [dE]; omega), hc, ← hcn];rfl
  have hd1 : n / 256 ^ (k + 1) = n / 256 ^ k / 256 := by rw [Nat.pow_succ, Nat.div_div_eq_div_mul]
  have hle : n / 256 ^ k ≤ n := Nat.div_le_self _ _;have hsum : 256 * (n / 256 ^ (k + 1)) + n / 256 ^ k % 256 = n / 256 ^ k := by rw [hd1]; omega
  have hor := TL (c := n / 256 ^ (k + 1)) (d := n / 256 ^ k % 256) (by rw [hd1]; omega) (Nat.mod_lt _ (by omega));rw [hsum] at hor;conv=>whnf
  refine ac (aaa (by rw [e1]; omega)) ?_;rw [e1];refine gI.2 ⟨_, hget, ?_⟩;conv=>whnf
  rw [hor, e2];exact hnx
 ·have g2 := aat g2;have hj : j = 0 := by omega
  subst hj;rw [Nat.pow_zero, Nat.div_one];conv=>whnf
  exact h
theorem lU (p q : B) (hl : p.length + q.length < 9000000) {R} (h : R (.val (.bool true)) []) : ag Tryz.prog 163 [.sl none 1 (ai (gG p ++ q)), vi (p.length : Int)] [] R := by
 refine aa (an := Sk) tab_ok Tryz.func163 ?_;have hw := dE (Crc.sum p).toNat;have hbl : (ai (gG p ++ q)).length = p.length + 4 + q.length := by simp [ai, gG, dE]; omega
 conv=>whnf
 refine C5 p q (Crc.sum p).toNat (Crc.sum p).isLt (by omega) ?_;conv=>whnf
 refine ac (aaa (by omega)) ?_;conv=>whnf
 have et : List.take p.length (ai (gG p ++ q)) = ai p := by
  rw [gG, aak, fT, aaB (by rw [aL]; exact aar _)];exact aae (by rw [aL]; exact aar _)
 refine (show ag Tryz.prog 202 [.sl none 1 [[.sl none 1 (List.take p.length (ai (gG p ++ q)))]]] [] _ from ?_);rw [et];refine zi p (by omega) ?_;have hb : ((((Crc.sum p).toNat : Nat) : Int) == (((Crc.sum p).toNat : Nat) : Int)) = true := beq_self_eq_true _;conv=>whnf
 rw [hb];exact h
theorem gR (p : B) : ∃ ns : List Int, ai p = ns.map (fun n => [AV.val (.int .u8 n)]) ∧ strOfNums ns = ofB p := ⟨p.map fun c => (c.toNat : Int), by simp [ai], fQ p⟩
theorem qZ (p q s : B) (most : Nat) (hs : s.length ≤ most) (hm : most < 10000000) (hl : p.length + q.length < 50000000) {R} (h : R (.tup [vs s, vi ((p.length + (a8 s).length : Nat) : Int), vi 0]) []) : ag Tryz.prog 246 [.sl none 1 (ai (p ++ a8 s ++ q)), vi (p.length : Int), vi (most : Int)] [] R := by
 refine aa (an := Nx) tab_ok Tryz.func246 ?_;have eb : p ++ a8 s ++ q = p ++ vrn s.length ++ (s ++ q) := by simp [a8]
 have hv := ct (n := s.length) (by omega);have hbs : (a8 s).length = (vrn s.length).length + s.length := by simp [a8]
 rw [eb];have hbl : (ai (p ++ vrn s.length ++ (s ++ q))).length = p.length + (vrn s.length).length + s.length + q.length := by simp [ai]; omega
 have em : IntKind.u64.wrap (if (most : Int) < 0 then 0 else (most : Int)) = (most : Int) := by
  rw [aap (by omega)];show (most : Int) % 18446744073709551616 = _;omega
 have el : IntKind.u64.wrap (IntKind.i64.wrap (((ai (p ++ vrn s.length ++ (s ++ q))).length : Int) - ((p.length + (vrn s.length).length : Nat) : Int))) = ((s.length + q.length : Nat) : Int) := by
  rw [hbl, aI (by omega) (by omega)];show _ % 18446744073709551616 = _;omega
 have en : IntKind.i64.wrap (((p.length + (vrn s.length).length : Nat) : Int) + IntKind.i64.wrap (s.length : Int)) = ((p.length + (a8 s).length : Nat) : Int) := by
  rw [aI (x := (s.length : Int)) (by omega) (by omega), aI (by omega) (by omega), hbs];omega
 obtain ⟨ns, n1, n2⟩ := gR s;conv=>whnf
 refine qq p (s ++ q) s.length (by omega) (by simp; omega) ?_;conv=>whnf
 refine ae (fun g => ?_) (fun g => ?_)
 ·exfalso;rw [em] at g;have g := aal g;omega
 conv=>whnf
 refine ae (fun g => ?_) (fun g => ?_)
 ·exfalso;rw [el] at g;have g := aal g;omega
 conv=>whnf
 refine ac (aaa (by rw [en, hbs]; omega)) ?_;conv=>whnf
 refine ac (aaa (by rw [en, hbl, hbs]; omega)) ?_;conv=>whnf
 have et : List.drop (((p.length + (vrn s.length).length : Nat) : Int)).toNat (List.take (((p.length + (a8 s).length : Nat) : Int)).toNat (ai (p ++ vrn s.length ++ (s ++ q)))) = ai s := by
  rw [aaC, aaC, fT (p ++ vrn s.length) (s ++ q), List.take_append, List.drop_append];have h1 : (ai (p ++ vrn s.length)).length = p.length + (vrn s.length).length := by simp [ai]
  have h2 : (ai s).length = s.length := aL s;rw [aae (by rw [h1, hbs]; omega), abC (by rw [h1]; exact aar _), h1, hbs];rw [show p.length + ((vrn s.length).length + s.length) - (p.length + (vrn s.length).length) = s.length by omega, Nat.sub_self, List.drop_zero, aam];rw [fT s q, aaB (by rw [h2]; exact aar _)];exact aae (by rw [h2]; exact aar _)
 refine ⟨ns, by rw [en, et]; exact n1, ?_⟩;rw [n2, en];conv=>whnf
 exact h
theorem EU (p q s : B) (h1 : 1 ≤ s.length) (h2 : s.length ≤ 2048) (hl : p.length + q.length < 4000000) {R} (h : R (.tup [.sl none 1 (ai s), vi ((p.length + (bl s).length : Nat) : Int), vi 0]) []) : ag Tryz.prog 213 [.sl none 1 (ai (p ++ bl s ++ q)), vi (p.length : Int)] [] R := by
 refine aa (an := K1) tab_ok Tryz.func213 ?_;have hv := ct (n := s.length) (by omega);have hbs : (a8 s).length = (vrn s.length).length + s.length := by simp [a8]
 have hfs : (bl s).length = (a8 s).length + 4 := by simp [bl, gG, dE]
 have eb : p ++ bl s ++ q = p ++ a8 s ++ (w4 (Crc.sum (a8 s)).toNat ++ q) := by simp [bl, gG]
 have hbl : (ai (p ++ bl s ++ q)).length = p.length + (a8 s).length + 4 + q.length := by rw [aL]; simp [hfs]; omega
 have hne : decide (ofB s = ofB []) = false := aai (fun e => by have := bZ e; rw [this] at h1; simp at h1);have e1 : IntKind.i64.wrap (((ai (p ++ bl s ++ q)).length : Int) - ((p.length + (a8 s).length : Nat) : Int)) = ((4 + q.length : Nat) : Int) := by rw [hbl, aI (by omega) (by omega)]; omega
 have e2 : IntKind.i64.wrap (((p.length + (a8 s).length : Nat) : Int) - (p.length : Int)) = (((a8 s).length : Nat) : Int) := by rw [aI (by omega) (by omega)]; omega
 have e3 : IntKind.i64.wrap (((p.length + (a8 s).length : Nat) : Int) + 4) = ((p.length + (bl s).length : Nat) : Int) := by rw [hfs, aI (by omega) (by omega)]; omega
 conv=>whnf
 refine ae (fun g => ?_) (fun g => ?_)
 ·exfalso;have g := beq_iff_eq.1 g;rw [hbl] at g;omega
 conv=>whnf
 refine (show ag Tryz.prog 246 [.sl none 1 (ai (p ++ bl s ++ q)), vi (p.length : Int), vi ((2048 : Nat) : Int)] [] _ from ?_);rw [eb];refine qZ p (w4 (Crc.sum (a8 s)).toNat ++ q) s 2048 h2 (by omega) (by simp [dE]; omega) ?_;rw [← eb];conv=>whnf
 refine ak hne ?_;conv=>whnf
 refine ae (fun g => ?_) (fun g => ?_)
 ·exfalso;rw [e1] at g;have g := aal g;omega
 conv=>whnf
 refine ac (aaa (by rw [hbl]; omega)) ?_;conv=>whnf
 refine ac (aaa (by omega)) ?_;conv=>whnf
 have et : List.drop p.length (List.take (ai (p ++ bl s ++ q)).length (ai (p ++ bl s ++ q))) = ai (gG (a8 s) ++ q) := by
  rw [aax, aak, fT, abl (by rw [aL]; exact aar _), abC (by rw [aL]; exact aar _)];rfl
 refine (show ag Tryz.prog 163 [.sl none 1 (List.drop p.length (List.take (ai (p ++ bl s ++ q)).length (ai (p ++ bl s ++ q)))), vi (IntKind.i64.wrap (((p.length + (a8 s).length : Nat) : Int) - (p.length : Int)))] [] _ from ?_);rw [et, e2];refine lU (a8 s) q (by omega) ?_;have hdat : (ofB s).data.toList = s := jK s;conv=>whnf
 rw [hdat, e3];exact h
theorem xD (b : B) (hb : b.length < 10000000) {R} (h : R (.tup [.val (.slice none 0 0), vi 0, vi 6]) []) : ag Tryz.prog 213 [.sl none 1 (ai b), vi (b.length : Int)] [] R := by
 refine aa (an := K1) tab_ok Tryz.func213 ?_;have hbl := aL b;have he : (((b.length : Nat) : Int) == (((ai b).length : Nat) : Int)) = true := by rw [hbl]; exact beq_self_eq_true _
 conv=>whnf
 refine aK he ?_;conv=>whnf
 exact h
end Go.Abs
end
section
namespace Go.Abs
open Go Go.Proofs Go.RowKit
attribute [local go_sem] Oper.semAt_some
def aw (l : List B) : B := (l.map bl).flatten
def fk : Nat → List B → List Nat
 | _, [] => []
 | o, p :: l => (o + (bl p).length) :: fk (o + (bl p).length) l
def nU (o : Nat) (l : List B) : List (List AV) := (l.zip (fk o l)).map fun q => [.sl none 1 (ai q.1), vi (q.2 : Int)]
theorem eO : ∀ (l : List B) (o : Nat), (fk o l).length = l.length := by
 intro l
 induction l with
 | nil => intro o; rfl
 | cons p l ih => intro o; simp [fk, ih]
theorem pi (o : Nat) (l : List B) : (nU o l).length = l.length := by simp [nU, eO]
theorem pm : ∀ (l : List B) (o i : Nat) (h : i < l.length), (fk o l)[i]? = some (o + (aw (l.take (i + 1))).length) := by
 intro l
 induction l with
 | nil => intro o i h; simp at h
 | cons p l ih =>
  intro o i h
  cases i with
  | zero => simp [fk, aw]
  | succ i =>
   simp only [fk, List.getElem?_cons_succ];rw [ih _ i (by simpa using h)];simp [aw];omega
theorem wl {o i : Nat} {l : List B} (h : i < l.length) : (nU o l)[i]? = some [.sl none 1 (ai l[i]), vi ((o + (aw (l.take (i + 1))).length : Nat) : Int)] := by
 have hz : (l.zip (fk o l))[i]? = some (l[i], o + (aw (l.take (i + 1))).length) := List.getElem?_zip_eq_some.2 ⟨aad h, pm l o i h⟩;unfold nU;rw [aaE, hz];rfl
theorem mI {l : List B} {i : Nat} (h : i < l.length) : aw l = aw (l.take i) ++ bl l[i] ++ aw (l.drop (i + 1)) := by
 have e : l.take i ++ (l[i] :: l.drop (i + 1)) = l := by rw [← aao h, abm]
 have e2 : aw (l.take i ++ (l[i] :: l.drop (i + 1))) = aw (l.take i) ++ bl l[i] ++ aw (l.drop (i + 1)) := by
  unfold aw;rw [aaG, aaF, abL, aa2, aak]
 rw [e] at e2;exact e2
theorem dB (l : List B) (p : B) : aw (l ++ [p]) = aw l ++ bl p := by
 unfold aw;rw [aaG, abL];simp
theorem rZ {l : List B} {i : Nat} (h : i < l.length) : (aw (l.take (i + 1))).length = (aw (l.take i)).length + (bl l[i]).length := by
 rw [aab h, dB, aac]
theorem ag.calm {P : Program} {f : FuncId} {args : List AV} {R : AV → List aE → Prop} (h : ag P f args [] R) {K : Nat → Nat → Option Value} {W : World} {vals : List Value} (hk : ∀ b o v, K b o = some v → W.cell? ⟨b, o, none⟩ = some v) (hg : rh K)
  (hv : aB ⟨K, fun _ => none⟩ args vals) {Own : Nat → Prop} (hO : ∀ b, Own b → b < W.heap.size) {A : Array Value} (hA : A = vals.toArray) (m : Nat) : CallsIn Fence.wide m P f A W fun e W' => ∃ (v : Value) (r : AV) (os' : List aE) (G' : Gh), e = .returned v ∧ R r os' ∧ Rep G' r v ∧ (∀ b o u, G'.K b o = some u → W'.cell? ⟨b, o, none⟩ = some u) ∧ w8 Own K W Own G'.K W' ∧ ∀ b, b < W.heap.size → W'.heap[b]? = W.heap[b]? ∧ ∀ o, G'.K b o = K b o := by
 have hW : WR ⟨K, fun _ => none⟩ (bC 0 []) W := ⟨hk, fun n o e => (by cases e), fun n g e => (by cases e), fun n m b h1 h2 => (by rcases h1 with h1 | ⟨_, _, h1, _⟩ <;> cases h1), hg⟩;subst hA;refine (callsIn_wide.2 (h.run ⟨K, fun _ => none⟩ W vals hW hv)).mono ?_;rintro e W' ⟨v, r, os', G', rfl, hR, hRep, hWR, hle, hext, _, _, _⟩;have hnT : ∀ b, ¬ ∃ n, (⟨K, fun _ => none⟩ : Gh).at n b := fun b ⟨n, hn⟩ => by rcases hn with hn | ⟨_, _, hn, _⟩ <;> cases hn
 have hb : ∀ b, b < W.heap.size → W'.heap[b]? = W.heap[b]? ∧ ∀ o, G'.K b o = K b o := fun b hb => ⟨hext.block b hb (hnT b), fun o => hext.knew b o hb (hnT b)⟩;exact ⟨v, r, os', G', rfl, hR, hRep, hWR.know, ⟨hext.os, hext.tape, hext.output, hext.size, fun b h1 _ => (hb b h1).1, fun b h1 => .inl h1, hle.K, fun b o h1 _ => (hb b h1).2 o, hWR.know, fun b h1 => aaX (hO b h1) hext.size⟩, hb⟩
end Go.Abs
end
section
namespace Go.Abs
open Go Go.Proofs Dig
theorem Ji {l : List B} {s x : B} : x ∈ cL l s ↔ x ∈ l ∨ x = s := by
 unfold cL;split
 ·rename_i h;exact ⟨.inl, fun h1 => h1.elim id fun e => e ▸ h⟩
 ·simp
theorem DL {l : List B} (h : l.Nodup) (s : B) : (cL l s).Nodup := by
 unfold cL;split
 ·exact h
 ·rename_i h1;rw [List.nodup_append];exact ⟨h, by simp, fun a ha b hb => by simp at hb; subst hb; exact fun e => h1 (e ▸ ha)⟩
theorem w5 : ∀ (m t : List B) {x : B}, x ∈ m.foldl cL t ↔ x ∈ t ∨ x ∈ m := by
 intro m
 induction m with
 | nil => intro t x; simp
 | cons a m ih => intro t x; rw [aaQ, ih, Ji]; simp [or_assoc]
theorem sC : ∀ (m t : List B), t.Nodup → (m.foldl cL t).Nodup := by
 intro m
 induction m with
 | nil => intro t h; exact h
 | cons a m ih => intro t h; exact ih _ (DL h a)
def cF : List B → List B → List B
 | _, [] => []
 | t, s :: l => if s ∈ t then cF t l else s :: cF (t ++ [s]) l
theorem Dg : ∀ (m t : List B), m.foldl cL t = t ++ cF t m := by
 intro m
 induction m with
 | nil => intro t; simp [cF]
 | cons a m ih =>
  intro t;rw [aaQ, ih, cF];unfold cL;by_cases h : a ∈ t
  ·rw [aaz h, aaz h]
  ·rw [aap h, aap h]; simp
theorem kn : ∀ (m t : List B), (cF t m).foldl cL t = m.foldl cL t := by
 intro m
 induction m with
 | nil => intro t; rfl
 | cons a m ih =>
  intro t;rw [cF, aaQ];by_cases h : a ∈ t
  ·rw [aaz h, ih, dJ h]
  ·rw [aap h, aaQ, du h, ih]
theorem HJ : ∀ (m t : List B), (t ++ m).Nodup → cF t m = m := by
 intro m
 induction m with
 | nil => intro t h; rfl
 | cons a m ih =>
  intro t h;have h1 : a ∉ t := fun e => by
   rw [List.nodup_append] at h;exact h.2.2 a e a (by simp) rfl
  rw [cF, aap h1, ih (t ++ [a]) (by rw [aak]; exact h)]
theorem G9 {l : List B} (h : l.Nodup) : mS l = l := by
 unfold mS;rw [Dg, HJ l [] (by simpa using h)];rfl
theorem gZ {l : List B} {x : B} : x ∈ mS l ↔ x ∈ l := by unfold mS; rw [w5]; simp
theorem vR : ∀ (m t : List B), ∀ x ∈ cF t m, x ∈ m := by
 intro m
 induction m with
 | nil => intro t x h; exact h
 | cons a m ih =>
  intro t x h;rw [cF] at h;split at h
  ·exact aaw _ (ih _ _ h)
  ·rcases List.mem_cons.1 h with h | h
   ·rw [h]; exact aa1
   ·exact aaw _ (ih _ _ h)
theorem lA : ∀ (m t : List B), (cF t m).length ≤ m.length := by
 intro m
 induction m with
 | nil => intro t; exact aar _
 | cons a m ih =>
  intro t;rw [cF];split
  ·have := ih t; simp; omega
  ·have := ih (t ++ [a]); simp; omega
def cX (v : Int) (t : List B) (s : B) : B := if v = 1 then a8 s else vrn (t.idxOf s)
def eQ (t : List B) (d : Dp) : Nat := 2 * t.idxOf d.name + (if d.order then 1 else 0)
def lT (v : Int) (t : List B) (d : Dp) : B := (if v < 3 then cX v t d.name else vrn (eQ t d)) ++ vrn d.hash.toNat
def bX (v : Int) (t : List B) (l : List Dp) : B := (l.map (lT v t)).flatten
def kH (t : List B) (s : B) : B := vrn (if s = [] then 0 else t.idxOf s + 1)
def lS (v : Int) (t : List B) (r : Rc) : B := vrn r.out.toNat ++ ((if 2 ≤ v then vrn r.wen.toNat else []) ++ (if 3 ≤ v then kH t r.tag else []))
def bO (v : Int) (t : List B) (r : Rc) : B :=
 if r.kind = 2 then 2 :: cX v t r.target
 else 1 :: (cX v t r.target ++ vrn r.rule.toNat ++ vrn r.deps.length ++ bX v t r.deps ++ lS v t r)
def bI (r : Rc) : List B := r.target :: (r.deps.map (·.name) ++ (if r.tag = [] then [] else [r.tag]))
def bf (r : Rc) : List B := mS (bI r)
def bw (v : Int) (t : List B) (r : Rc) : List B := if v = 1 then t else (bf r).foldl cL t
def bq (s : B) : B := 0 :: s
def fU (v : Int) (t : List B) (r : Rc) : List B := if v = 1 then [] else (cF t (bf r)).map bq
def bu (v : Int) (t : List B) (r : Rc) : List B := fU v t r ++ [bO v (bw v t r) r]
def aW (v : Int) : List B → List Rc → List B
 | _, [] => []
 | t, r :: l => bu v t r ++ aW v (bw v t r) l
def ln (v : Int) (t : List B) (l : List Rc) : List B := l.foldl (bw v) t
def iU (v : Int) : B := [84, 80, 72, UInt8.ofNat v.toNat]
def dG (v : Int) : B := gG (iU v)
def aC (v : Int) (l : List Rc) : B := dG v ++ aw (aW v [] l)
theorem eJ (v : Int) : ∀ (l m : List Rc) (t : List B), aW v t (l ++ m) = aW v t l ++ aW v (ln v t l) m := by
 intro l
 induction l with
 | nil => intro m t; rfl
 | cons a l ih => intro m t; simp only [aav, aW, ih, aak]; rfl
theorem dC (l m : List B) : aw (l ++ m) = aw l ++ aw m := by
 unfold aw;rw [aaG, abL]
theorem nt (t : List B) (r : Rc) : bw 1 t r = t := by simp [bw]
theorem fF {v : Int} (h : v ≠ 1) (t : List B) (r : Rc) : bw v t r = (bf r).foldl cL t := by simp [bw, h]
theorem Fw (v : Int) {t : List B} (h : t.Nodup) (r : Rc) : (bw v t r).Nodup := by
 unfold bw;split
 ·exact h
 ·exact sC _ _ h
theorem DN (v : Int) : ∀ (l : List Rc) {t : List B}, t.Nodup → (ln v t l).Nodup := by
 intro l
 induction l with
 | nil => intro t h; exact h
 | cons a l ih => intro t h; exact ih (Fw v h a)
theorem u4 : ∀ (l : List Rc) (t : List B), ln 1 t l = t := by
 intro l
 induction l with
 | nil => intro t; rfl
 | cons a l ih => intro t; show ln 1 (bw 1 t a) l = t; rw [nt, ih]
theorem pN (r : Rc) : bf r ≠ [] := by
 intro e;have : r.target ∈ bf r := gZ.2 (by simp [bI]);rw [e] at this
 cases this
theorem cm {v : Int} (h : v ≠ 1) (t : List B) (r : Rc) {x : B} (hx : x ∈ bI r) : x ∈ bw v t r := by
 rw [fF h, w5];exact .inr (gZ.2 hx)
theorem kU {v : Int} (h : v ≠ 1) (t : List B) (r : Rc) : bw v t r ≠ [] := by
 intro e;have := cm h t r (x := r.target) (by simp [bI]);rw [e] at this
 cases this
theorem Bn (l : List B) (s : B) : (cL l s).length ≤ l.length + 1 := by
 unfold cL;split <;> simp
theorem q8 : ∀ (m t : List B), (m.foldl cL t).length ≤ t.length + m.length := by
 intro m
 induction m with
 | nil => intro t; simp
 | cons a m ih => intro t; have := ih (cL t a); have := Bn t a; simp only [aaQ, aag]; omega
theorem qs (r : Rc) : (bI r).length ≤ r.deps.length + 2 := by
 unfold bI;split <;> simp
theorem dm (r : Rc) : (bf r).length ≤ r.deps.length + 2 := by
 have h1 := q8 (bI r) [];have h2 := qs r;unfold bf mS;simp only [aaj] at h1;omega
theorem fu (v : Int) (t : List B) (r : Rc) : (bw v t r).length ≤ t.length + r.deps.length + 2 := by
 unfold bw;split
 ·omega
 ·have h1 := q8 (bf r) t;have h2 := dm r;omega
structure kF (v : Int) (r : Rc) : Prop where
 lo : 1 ≤ v
 hi : v ≤ 3
 t1 : 1 ≤ r.target.length
 t2 : r.target.length ≤ 64
 deps : r.deps.length ≤ 16
 tag : r.tag.length ≤ 64
 names : ∀ d ∈ r.deps, 1 ≤ d.name.length ∧ d.name.length ≤ 64
 kind : r.kind = 1 ∨ r = qc r
 wen : v = 1 → r.wen = 0
 tag3 : v < 3 → r.tag = []
 order : v < 3 → ∀ d ∈ r.deps, d.order = false
theorem It (v : Int) : ∀ (l : List Dp) (seen : List B), dH v l seen = true → ∀ d ∈ l, (1 ≤ d.name.length ∧ d.name.length ≤ 64) ∧ (v < 3 → d.order = false) := by
 intro l
 induction l with
 | nil => intro seen h d hd; cases hd
 | cons a l ih =>
  intro seen h d hd;simp only [dH, db, aaq, aa0, Bool.not_eq_true', Bool.and_eq_false_iff, decide_eq_false_iff_not] at h;rcases List.mem_cons.1 hd with rfl | hd
  ·exact ⟨h.1, fun hv => h.2.2.1.elim id fun e => absurd hv e⟩
  ·exact ih _ h.2.2.2 d hd
theorem aT {v : Int} {r : Rc} (h : aR v r = true) : kF v r := by
 unfold aR at h;split at h
 ·cases h
 ·rename_i h0;simp only [Bool.or_eq_true, aa0, Bool.not_eq_true', not_or, db, Bool.and_eq_false_iff, decide_eq_false_iff_not] at h0;obtain ⟨⟨h1, h2⟩, h3⟩ := h0;have hv1 : 1 ≤ v := by omega
  have hv2 : v ≤ 3 := by omega
  have ht1 : 1 ≤ r.target.length := by
   exact Classical.not_not.1 h3.1
  have ht2 : r.target.length ≤ 64 := by
   exact Classical.not_not.1 h3.2
  split at h
  ·rename_i hk;simp only [aaq, Bool.not_eq_true', aa0, pw, dN, Bool.or_eq_false_iff, Bool.and_eq_false_iff, decide_eq_false_iff_not] at h;obtain ⟨⟨e1, e2⟩, e3, e4, e5⟩ := h;have hd := It v _ _ e4;refine ⟨hv1, hv2, ht1, ht2, e5, e3, fun d hd' => (hd d hd').1, .inl hk, fun hv => ?_, fun hv => ?_, fun hv d hd' => (hd d hd').2 hv⟩
   ·refine Classical.byContradiction fun e => e1.elim (fun e' => e' (by omega)) fun e' => e' e
   ·refine Classical.byContradiction fun e => e2.elim (fun e' => e' hv) fun e' => e' e
  ·split at h
   ·have hg := aal h;have q1 : r.deps = [] := by rw [hg]; rfl
    have q2 : r.tag = [] := by rw [hg]; rfl
    have q3 : r.wen = 0 := by rw [hg]; rfl
    exact ⟨hv1, hv2, ht1, ht2, (by rw [q1]; simp), (by rw [q2]; simp), (by rw [q1]; simp), .inr hg, fun _ => q3, fun _ => q2, (by rw [q1]; simp)⟩
   ·cases h
theorem fH {v : Int} {r : Rc} (h : kF v r) : ∀ s ∈ bI r, 1 ≤ s.length ∧ s.length ≤ 64 := by
 intro s hs;unfold bI at hs;rcases List.mem_cons.1 hs with rfl | hs
 ·exact ⟨h.t1, h.t2⟩
 rcases List.mem_append.1 hs with hs | hs
 ·obtain ⟨d, hd, rfl⟩ := List.mem_map.1 hs;exact h.names d hd
 ·split at hs
  ·cases hs
  ·rename_i e;rw [List.mem_singleton.1 hs];refine ⟨?_, h.tag⟩
   cases ht : r.tag with
   | nil => exact absurd ht e
   | cons a l => simp
theorem lV {n : Nat} (h : n < 128) : (vrn n).length = 1 := by rw [d9 h]; rfl
theorem tr {s : B} (h : s.length ≤ 64) : (a8 s).length ≤ 65 := by
 unfold a8;rw [aac, lV (by omega)];omega
theorem fY {v : Int} {t : List B} {s : B} (h : s.length ≤ 64) (ht : t.length < 1000000) : (cX v t s).length ≤ 65 := by
 unfold cX;split
 ·exact tr h
 ·have h1 := aa6 (a := s) (l := t);have := ct (n := t.idxOf s) (by omega);omega
theorem df (x : U) : (vrn x.toNat).length ≤ 10 := ct (by have := x.isLt; omega)
theorem Kw {v : Int} {t : List B} {d : Dp} (h : d.name.length ≤ 64) (ht : t.length < 1000000) : (lT v t d).length ≤ 75 := by
 unfold lT;have h1 := df d.hash;have h3 := aa6 (a := d.name) (l := t);have h4 : (vrn (eQ t d)).length ≤ 10 := ct (by unfold eQ; split <;> omega);rw [aac];split
 ·have h2 := fY (v := v) h ht;omega
 ·omega
theorem yW {v : Int} {t : List B} (ht : t.length < 1000000) : ∀ {l : List Dp}, (∀ d ∈ l, d.name.length ≤ 64) → (bX v t l).length ≤ 75 * l.length := by
 intro l
 induction l with
 | nil => intro h; simp [bX]
 | cons a l ih =>
  intro h;have h1 := Kw (v := v) (t := t) (h a aa1) ht;have h2 := ih fun d hd => h d (aaw _ hd);unfold bX at h2 ⊢;rw [aaF, aa2, aac, aag];omega
theorem Kn {v : Int} {t : List B} {r : Rc} (ht : t.length < 1000000) : (lS v t r).length ≤ 30 := by
 unfold lS;have h1 := df r.out;have h2 := df r.wen;have h3 : (kH t r.tag).length ≤ 10 := by
  unfold kH;have h3 := aa6 (a := r.tag) (l := t);exact ct (by split <;> omega)
 rw [aac, aac];split <;> split <;> simp <;> omega
theorem ga {v : Int} {t : List B} {r : Rc} (h : kF v r) (ht : t.length < 1000000) : 1 ≤ (bO v t r).length ∧ (bO v t r).length ≤ 1400 := by
 unfold bO;have h1 := fY (v := v) (t := t) h.t2 ht;have h2 := df r.rule;have h3 : (vrn r.deps.length).length ≤ 10 := ct (by have := h.deps; omega);have h4 := yW (v := v) (t := t) (l := r.deps) ht fun d hd => (h.names d hd).2;have h5 := Kn (v := v) (t := t) (r := r) ht;have h6 := h.deps;split
 ·simp; omega
 ·simp only [aag, aac]; omega
theorem iA {v : Int} {t : List B} {r : Rc} (h : kF v r) (ht : t.length < 900000) : ∀ p ∈ bu v t r, 1 ≤ p.length ∧ p.length ≤ 2048 := by
 intro p hp;unfold bu at hp;rcases List.mem_append.1 hp with hp | hp
 ·unfold fU at hp;split at hp
  ·cases hp
  ·obtain ⟨s, hs, rfl⟩ := List.mem_map.1 hp;have := fH h s (gZ.1 (vR _ _ s hs));simp [bq]; omega
 ·rw [List.mem_singleton.1 hp];have h1 := fu v t r;have h2 := h.deps;have := ga (t := bw v t r) h (by omega);omega
theorem lE {p : B} (h : p.length ≤ 2048) : (bl p).length ≤ p.length + 14 := by
 unfold bl gG a8;have := ct (n := p.length) (by omega);simp only [aac, dE];omega
theorem mn : ∀ {l : List B} {k : Nat}, (∀ p ∈ l, p.length ≤ k) → k ≤ 2048 → (aw l).length ≤ l.length * (k + 14) := by
 intro l
 induction l with
 | nil => intro k h hk; simp [aw]
 | cons a l ih =>
  intro k h hk;have h1 := h a aa1;have h2 := lE (p := a) (by omega);have h3 := ih (k := k) (fun p hp => h p (aaw _ hp)) hk;unfold aw at h3 ⊢;rw [aaF, aa2, aac, aag, Nat.succ_mul];omega
theorem dF {v : Int} {t : List B} {r : Rc} (h : kF v r) (ht : t.length < 900000) : (aw (bu v t r)).length ≤ 3000 := by
 have h1 := fu v t r;have h2 := h.deps;have h3 := ga (t := bw v t r) h (by omega);have h4 := lE (p := bO v (bw v t r) r) (by omega);have h5 : (aw (fU v t r)).length ≤ 18 * (65 + 14) := by
  have e1 : (fU v t r).length ≤ 18 := by
   unfold fU;split
   ·simp
   ·have := lA (bf r) t;have := dm r;rw [abg]; omega
  have e2 : ∀ p ∈ fU v t r, p.length ≤ 65 := by
   intro p hp;unfold fU at hp;split at hp
   ·cases hp
   ·obtain ⟨s, hs, rfl⟩ := List.mem_map.1 hp;have := fH h s (gZ.1 (vR _ _ s hs));simp [bq]; omega
  exact aba (mn e2 (by omega)) (abI _ e1)
 unfold bu;rw [dB, aac];omega
theorem lm {v : Int} : ∀ {l : List Rc} {t : List B}, (∀ r ∈ l, kF v r) → (ln v t l).length ≤ t.length + 18 * l.length := by
 intro l
 induction l with
 | nil => intro t h; simp [ln]
 | cons a l ih =>
  intro t h;have h1 := ih (t := bw v t a) fun r hr => h r (aaw _ hr);have h2 := fu v t a;have h3 := (h a aa1).deps;unfold ln at h1 ⊢;rw [aaQ, aag];omega
theorem jv {v : Int} : ∀ {l : List Rc} {t : List B}, (∀ r ∈ l, kF v r) → t.length + 18 * l.length < 900000 → (aw (aW v t l)).length ≤ 3000 * l.length := by
 intro l
 induction l with
 | nil => intro t h ht; simp [aW, aw]
 | cons a l ih =>
  intro t h ht;have h1 := fu v t a;have h2 := (h a aa1).deps;rw [aag] at ht;have h3 := ih (t := bw v t a) (fun r hr => h r (aaw _ hr)) (by omega);have h4 := dF (t := t) (h a aa1) (by omega);rw [aW, dC, aac, aag];omega
theorem nM {v : Int} : ∀ {l : List Rc} {t : List B}, (∀ r ∈ l, kF v r) → t.length + 18 * l.length < 900000 → ∀ p ∈ aW v t l, 1 ≤ p.length ∧ p.length ≤ 2048 := by
 intro l
 induction l with
 | nil => intro t h ht p hp; cases hp
 | cons a l ih =>
  intro t h ht p hp;have h1 := fu v t a;have h2 := (h a aa1).deps;rw [aag] at ht;rw [aW] at hp;rcases List.mem_append.1 hp with hp | hp
  ·exact iA (h a aa1) (by omega) p hp
  ·exact ih (t := bw v t a) (fun r hr => h r (aaw _ hr)) (by omega) p hp
end Go.Abs
end
