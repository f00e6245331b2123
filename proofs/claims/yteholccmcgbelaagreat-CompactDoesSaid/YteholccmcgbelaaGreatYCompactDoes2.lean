/- Several texts of this claim, one behind the other: H4, H5, H7, HB, P1, UA, VA, L6, UD, UF, UG, UH, N9, P2, P3, P4, UB, H8, MC. -/
import Derived.Test.YteholccmcgbelaaGreatYCompactDoes1
import Derived.Test.YteholccmcgbelaaGreatBA
set_option maxRecDepth 100000
set_option maxHeartbeats 4000000
set_option linter.unusedVariables false
set_option linter.unusedSimpArgs false
section
namespace Go.Abs
open Go Go.Proofs Dig
attribute [local irreducible] ibits byteAt strLt firstIdx
theorem put_calls (mp : RMap) (r : Rc) (hr : r.deps.length < 1000000) {R} (h : R (.tup []) [.map (rmap (putM mp r))]) : ACalls Tryz.prog 104 [.mapv 0, .agg r.enc] [.map (rmap mp)] R := by
 refine acalls_of_xwp (an := an104) tab_ok Tryz.func104 ?_
 conv => whnf
 refine br_intro (fun h1 => ?_) (fun h1 => ?_)
 ·have h1 : r.kind = 1 := by simpa using h1
  rw [putM, if_pos h1, rmap_put] at h
  conv => whnf
  refine Clone_calls r hr ?_
  conv => whnf
  exact h
 have h1 : ¬ r.kind = 1 := by simpa using h1
 conv => whnf
 refine br_intro (fun h2 => ?_) (fun h2 => ?_)
 ·have h2 : r.kind = 2 := by simpa using h2
  rw [putM, if_neg h1, if_pos h2, rmap_del] at h
  conv => whnf
  exact h
 ·have h2 : ¬ r.kind = 2 := by simpa using h2
  rw [putM, if_neg h1, if_neg h2] at h
  conv => whnf
  exact h
theorem ofM_len (l : List Rc) : (ofM l).length ≤ l.length := by
 have hp : ∀ (mp : RMap) (k : B) (r : Rc), (putR mp k r).length ≤ mp.length + 1 := by
  intro mp k r
  induction mp with
  | nil => simp [putR]
  | cons p mp ih => simp only [putR]; split <;> simp; omega
 have hd : ∀ (mp : RMap) (k : B), (delR mp k).length ≤ mp.length := by
  intro mp k
  induction mp with
  | nil => simp [delR]
  | cons p mp ih => simp only [delR]; split <;> simp; omega
 have : ∀ (l : List Rc) (mp : RMap), (l.foldl putM mp).length ≤ mp.length + l.length := by
  intro l
  induction l with
  | nil => intro mp; simp
  | cons r l ih =>
   intro mp
   have h1 := ih (putM mp r)
   have h2 : (putM mp r).length ≤ mp.length + 1 := by
    unfold putM
    split
    ·exact hp _ _ _
    ·split
     ·have := hd mp r.target; omega
     ·omega
   simp only [List.foldl_cons, List.length_cons]
   omega
 simpa [ofM] using this l []
theorem Of_records (l : List Rc) (hl : l.length < 1000000) (hd : ∀ r ∈ l, r.deps.length < 1000000) {R} (h : R (.sl none 7 (recs (docOf l))) []) : ACalls Tryz.prog 67 [.sl none 7 (recs l)] [] R := by
 refine acalls_of_xwp (an := an67) tab_ok Tryz.func67 ?_
 have hsl := recs_length l
 conv => whnf
 refine LoopP.ind2 (fun (i : Nat) (mp : RMap) => [(9, vi i)]) (fun i mp => [(nameOf 6, .map (rmap mp))]) (fun i _ => l.length - i) (fun i mp => i ≤ l.length ∧ mp = ofM (l.take i)) 0 [] rfl ⟨by omega, rfl⟩ ?_
 rintro i mp ⟨h0, hm⟩ IH
 conv => whnf
 refine br_intro (fun hc => ?_) (fun hc => ?_)
 ·have hc := lt_of_decE hsl hc
  (conv => whnf); (repeat ((with_reducible refine must_intro ?_ ?_); exact decide_eq_true (by omega); (conv => whnf)))
  refine idxK_map_intro (show (i : Int).toNat < l.length by simpa using hc) ?_
  rw [show l[(i : Int).toNat]'(by simpa using hc) = l[i] from by congr 1]
  conv => whnf
  refine put_calls mp l[i] (hd _ (List.getElem_mem hc)) ?_
  conv => whnf
  rw [i64_nat (by omega)]
  refine IH (i + 1) (putM mp l[i]) ⟨by omega, ?_⟩ (by omega)
  rw [List.take_succ_eq_append_getElem hc, ofM, List.foldl_append, hm]; rfl
 ·have hc := ge_of_decE hsl hc
  rw [List.take_of_length_le hc] at hm
  have hml := ofM_len l
  rw [← hm] at hml
  conv => whnf
  refine values_calls mp (by omega) fun ks h1 h2 => ?_
  rw [values_doc (by rw [hm]; exact fits_of l) h1 h2]
  conv => whnf
  exact h
theorem docPut_calls (S : List Rc) (hS : S.length < 1000000) (r : Rc) (hr : r.target.length < 1000000) (hT : ∀ s ∈ S, s.target.length < 1000000) {R} (h : R (.sl none 7 (recs (docPut S r))) []) : ACalls Tryz.prog 86 [.sl none 7 (recs S), .agg r.enc] [] R := by
 refine acalls_of_xwp (an := an86) tab_ok Tryz.func86 ?_
 have hsl := recs_length S
 conv => whnf
 refine br_intro (fun h1 => ?_) (fun h1 => ?_)
 ·have h1 : r.kind ≠ 1 := by simpa using h1
  conv => whnf
  refine br_intro (fun h2 => ?_) (fun h2 => ?_)
  ·have h2 : r.kind ≠ 2 := by simpa using h2
   rw [docPut, if_pos ⟨h1, h2⟩] at h
   conv => whnf
   exact h
  ·have h2 : r.kind = 2 := by simpa using h2
   have hk : ¬ (r.kind ≠ 1 ∧ r.kind ≠ 2) := fun e => e.2 h2
   have hput : docPut S r = docLoop r (r.kind == 2) S := by
    rw [docPut, if_neg hk]
    congr 1
   rw [hput] at h
   conv => whnf
   refine LoopP.ind3 (fun (i : Nat) (out : List Rc) (laid : Bool) => [(5, .sl (some (nameOf 17)) 7 (recs out)), (6, .val (.bool laid)), (7, vi i)]) (fun i out laid => [(nameOf 17, .row 67 7 out.length)])
    (fun i _ _ => S.length - i) (fun i out laid => i ≤ S.length ∧ out.length ≤ 2 * i ∧ out ++ docLoop r laid (S.drop i) = docLoop r (r.kind == 2) S) 0 [] (r.kind == 2) rfl ⟨by omega, by simp, by simp⟩ ?_
   rintro i out laid ⟨h0, hlen, hD⟩ IH
   have hol := recs_length out
   conv => whnf
   refine br_intro (fun hc => ?_) (fun hc => ?_)
   ·have hc := lt_of_decE hsl hc
    have hti := hT _ (List.getElem_mem hc)
    rw [List.drop_eq_getElem_cons hc, docLoop] at hD
    cases laid
    ·simp only [Bool.not_false, Bool.true_and, Bool.false_or] at hD
     (conv => whnf); (repeat ((with_reducible refine must_intro ?_ ?_); exact decide_eq_true (by omega); (conv => whnf)))
     refine idxK_map_intro (show (i : Int).toNat < S.length by simpa using hc) ?_
     rw [show S[(i : Int).toNat]'(by simpa using hc) = S[i] from by congr 1]
     conv => whnf
     refine Less_calls r.target S[i].target hr hti fun p hp => ?_
     rw [← hp] at hD
     conv => whnf
     refine br_intro (fun hb => ?_) (fun hb => ?_)
     ·rw [hb] at hD
      conv => whnf
      refine ⟨hol.symm, (by rw [hol]; show (out.length + 1) * (88 + 1) ≤ _; omega), ?_⟩
      conv => whnf
      have e1 : recs out ++ [[AV.val (Value.int IntKind.i64 r.kind), AV.val (Value.string (ofB r.target)), AV.val (Value.int IntKind.u64 (r.rule.toNat : Int)), AV.sl none 3 (dpsA r.deps), AV.val (Value.int IntKind.u64 (r.out.toNat : Int)), AV.val (Value.int IntKind.u64 (r.wen.toNat : Int)), AV.val (Value.string (ofB r.tag))]] = recs (out ++ [r]) := by simp [recs, Rc.enc, vi, vs, uv]
      have e2 : (recs out).length + [[AV.val (Value.int IntKind.i64 r.kind), AV.val (Value.string (ofB r.target)), AV.val (Value.int IntKind.u64 (r.rule.toNat : Int)), AV.sl none 3 (dpsA r.deps), AV.val (Value.int IntKind.u64 (r.out.toNat : Int)), AV.val (Value.int IntKind.u64 (r.wen.toNat : Int)), AV.val (Value.string (ofB r.tag))]].length = (out ++ [r]).length := by simp [hol]
      rw [e1, e2]
      generalize hq : out ++ [r] = out2
      obtain ⟨laid2, hlaid2⟩ : ∃ l : Bool, l = true := ⟨true, rfl⟩
      have hlen2 : out2.length ≤ 2 * i + 1 := by rw [← hq]; simp; omega
      have hD2 : out2 ++ ((if S[i].target = r.target then [] else [S[i]]) ++ docLoop r laid2 (S.drop (i + 1))) = docLoop r (r.kind == 2) S := by
       rw [← hD, ← hq, hlaid2]; simp
      have hol2 := recs_length out2
      (conv => whnf); (repeat ((with_reducible refine must_intro ?_ ?_); exact decide_eq_true (by omega); (conv => whnf)))
      refine idxK_map_intro (show (i : Int).toNat < S.length by simpa using hc) ?_
      rw [show S[(i : Int).toNat]'(by simpa using hc) = S[i] from by congr 1]
      conv => whnf
      refine br_intro (fun hne => ?_) (fun hne => ?_)
      ·have hne : ¬ S[i].target = r.target := by simpa [ofB_eq] using hne
       rw [if_neg hne] at hD2
       (conv => whnf); (repeat ((with_reducible refine must_intro ?_ ?_); exact decide_eq_true (by omega); (conv => whnf)))
       refine idxK_map_intro (show (i : Int).toNat < S.length by simpa using hc) ?_
       rw [show S[(i : Int).toNat]'(by simpa using hc) = S[i] from by congr 1]
       conv => whnf
       refine ⟨hol2.symm, (by rw [hol2]; show (out2.length + 1) * (88 + 1) ≤ _; omega), ?_⟩
       conv => whnf
       have e1 : recs (out2 ++ [S[i]]) = recs out2 ++ [S[i].enc] := by simp [recs]
       have e2 : (out2 ++ [S[i]]).length = (recs out2).length + [S[i].enc].length := by simp [hol2]
       have := IH (i + 1) (out2 ++ [S[i]]) laid2 ⟨by omega, by simp; omega, by rw [← hD2]; simp⟩ (by omega)
       rw [e1, e2] at this
       rw [i64_nat (by omega)]
       subst hlaid2
       exact this
      ·have hne : S[i].target = r.target := by simpa [ofB_eq] using hne
       rw [if_pos hne] at hD2
       conv => whnf
       rw [i64_nat (by omega)]
       have := IH (i + 1) out2 laid2 ⟨by omega, by omega, by rw [← hD2]; simp⟩ (by omega)
       subst hlaid2
       exact this
     ·rw [hb] at hD
      obtain ⟨laid2, hlaid2⟩ : ∃ l : Bool, l = false := ⟨false, rfl⟩
      obtain ⟨out2, hq⟩ : ∃ o, o = out := ⟨_, rfl⟩
      have hlen2 : out2.length ≤ 2 * i + 1 := by rw [hq]; omega
      have hD2 : out2 ++ ((if S[i].target = r.target then [] else [S[i]]) ++ docLoop r laid2 (S.drop (i + 1))) = docLoop r (r.kind == 2) S := by
       rw [← hD, hq, hlaid2]; simp
      rw [← hq]
      have hol2 := recs_length out2
      (conv => whnf); (repeat ((with_reducible refine must_intro ?_ ?_); exact decide_eq_true (by omega); (conv => whnf)))
      refine idxK_map_intro (show (i : Int).toNat < S.length by simpa using hc) ?_
      rw [show S[(i : Int).toNat]'(by simpa using hc) = S[i] from by congr 1]
      conv => whnf
      refine br_intro (fun hne => ?_) (fun hne => ?_)
      ·have hne : ¬ S[i].target = r.target := by simpa [ofB_eq] using hne
       rw [if_neg hne] at hD2
       (conv => whnf); (repeat ((with_reducible refine must_intro ?_ ?_); exact decide_eq_true (by omega); (conv => whnf)))
       refine idxK_map_intro (show (i : Int).toNat < S.length by simpa using hc) ?_
       rw [show S[(i : Int).toNat]'(by simpa using hc) = S[i] from by congr 1]
       conv => whnf
       refine ⟨hol2.symm, (by rw [hol2]; show (out2.length + 1) * (88 + 1) ≤ _; omega), ?_⟩
       conv => whnf
       have e1 : recs (out2 ++ [S[i]]) = recs out2 ++ [S[i].enc] := by simp [recs]
       have e2 : (out2 ++ [S[i]]).length = (recs out2).length + [S[i].enc].length := by simp [hol2]
       have := IH (i + 1) (out2 ++ [S[i]]) laid2 ⟨by omega, by simp; omega, by rw [← hD2]; simp⟩ (by omega)
       rw [e1, e2] at this
       rw [i64_nat (by omega)]
       subst hlaid2
       exact this
      ·have hne : S[i].target = r.target := by simpa [ofB_eq] using hne
       rw [if_pos hne] at hD2
       conv => whnf
       rw [i64_nat (by omega)]
       have := IH (i + 1) out2 laid2 ⟨by omega, by omega, by rw [← hD2]; simp⟩ (by omega)
       subst hlaid2
       exact this
    ·simp only [Bool.not_true, Bool.false_and, Bool.or_false, Bool.false_eq_true, if_false, List.nil_append] at hD
     obtain ⟨laid2, hlaid2⟩ : ∃ l : Bool, l = true := ⟨true, rfl⟩
     obtain ⟨out2, hq⟩ : ∃ o, o = out := ⟨_, rfl⟩
     have hlen2 : out2.length ≤ 2 * i + 1 := by rw [hq]; omega
     have hD2 : out2 ++ ((if S[i].target = r.target then [] else [S[i]]) ++ docLoop r laid2 (S.drop (i + 1))) = docLoop r (r.kind == 2) S := by
      rw [← hD, hq, hlaid2]
     rw [← hq]
     have hol2 := recs_length out2
     (conv => whnf); (repeat ((with_reducible refine must_intro ?_ ?_); exact decide_eq_true (by omega); (conv => whnf)))
     refine idxK_map_intro (show (i : Int).toNat < S.length by simpa using hc) ?_
     rw [show S[(i : Int).toNat]'(by simpa using hc) = S[i] from by congr 1]
     conv => whnf
     refine br_intro (fun hne => ?_) (fun hne => ?_)
     ·have hne : ¬ S[i].target = r.target := by simpa [ofB_eq] using hne
      rw [if_neg hne] at hD2
      (conv => whnf); (repeat ((with_reducible refine must_intro ?_ ?_); exact decide_eq_true (by omega); (conv => whnf)))
      refine idxK_map_intro (show (i : Int).toNat < S.length by simpa using hc) ?_
      rw [show S[(i : Int).toNat]'(by simpa using hc) = S[i] from by congr 1]
      conv => whnf
      refine ⟨hol2.symm, (by rw [hol2]; show (out2.length + 1) * (88 + 1) ≤ _; omega), ?_⟩
      conv => whnf
      have e1 : recs (out2 ++ [S[i]]) = recs out2 ++ [S[i].enc] := by simp [recs]
      have e2 : (out2 ++ [S[i]]).length = (recs out2).length + [S[i].enc].length := by simp [hol2]
      have := IH (i + 1) (out2 ++ [S[i]]) laid2 ⟨by omega, by simp; omega, by rw [← hD2]; simp⟩ (by omega)
      rw [e1, e2] at this
      rw [i64_nat (by omega)]
      subst hlaid2
      exact this
     ·have hne : S[i].target = r.target := by simpa [ofB_eq] using hne
      rw [if_pos hne] at hD2
      conv => whnf
      rw [i64_nat (by omega)]
      have := IH (i + 1) out2 laid2 ⟨by omega, by omega, by rw [← hD2]; simp⟩ (by omega)
      subst hlaid2
      exact this
   ·have hc := ge_of_decE hsl hc
    rw [List.drop_eq_nil_of_le hc] at hD
    cases laid
    ·conv => whnf
     refine ⟨hol.symm, (by rw [hol]; show (out.length + 1) * (88 + 1) ≤ _; omega), ?_⟩
     conv => whnf
     have e1 : recs out ++ [r.enc] = recs (docLoop r (r.kind == 2) S) := by rw [← hD]; simp [recs, docLoop]
     rw [← e1] at h
     exact h
    ·conv => whnf
     rw [show recs out = recs (docLoop r (r.kind == 2) S) by rw [← hD]; simp [docLoop]]
     exact h
 ·have h1 : r.kind = 1 := by simpa using h1
  have hk : ¬ (r.kind ≠ 1 ∧ r.kind ≠ 2) := fun e => e.1 h1
  have hput : docPut S r = docLoop r (r.kind == 2) S := by
   rw [docPut, if_neg hk]
   congr 1
  rw [hput] at h
  conv => whnf
  refine LoopP.ind3 (fun (i : Nat) (out : List Rc) (laid : Bool) => [(5, .sl (some (nameOf 17)) 7 (recs out)), (6, .val (.bool laid)), (7, vi i)]) (fun i out laid => [(nameOf 17, .row 67 7 out.length)])
   (fun i _ _ => S.length - i) (fun i out laid => i ≤ S.length ∧ out.length ≤ 2 * i ∧ out ++ docLoop r laid (S.drop i) = docLoop r (r.kind == 2) S) 0 [] (r.kind == 2) rfl ⟨by omega, by simp, by simp⟩ ?_
  rintro i out laid ⟨h0, hlen, hD⟩ IH
  have hol := recs_length out
  conv => whnf
  refine br_intro (fun hc => ?_) (fun hc => ?_)
  ·have hc := lt_of_decE hsl hc
   have hti := hT _ (List.getElem_mem hc)
   rw [List.drop_eq_getElem_cons hc, docLoop] at hD
   cases laid
   ·simp only [Bool.not_false, Bool.true_and, Bool.false_or] at hD
    (conv => whnf); (repeat ((with_reducible refine must_intro ?_ ?_); exact decide_eq_true (by omega); (conv => whnf)))
    refine idxK_map_intro (show (i : Int).toNat < S.length by simpa using hc) ?_
    rw [show S[(i : Int).toNat]'(by simpa using hc) = S[i] from by congr 1]
    conv => whnf
    refine Less_calls r.target S[i].target hr hti fun p hp => ?_
    rw [← hp] at hD
    conv => whnf
    refine br_intro (fun hb => ?_) (fun hb => ?_)
    ·rw [hb] at hD
     conv => whnf
     refine ⟨hol.symm, (by rw [hol]; show (out.length + 1) * (88 + 1) ≤ _; omega), ?_⟩
     conv => whnf
     have e1 : recs out ++ [[AV.val (Value.int IntKind.i64 r.kind), AV.val (Value.string (ofB r.target)), AV.val (Value.int IntKind.u64 (r.rule.toNat : Int)), AV.sl none 3 (dpsA r.deps), AV.val (Value.int IntKind.u64 (r.out.toNat : Int)), AV.val (Value.int IntKind.u64 (r.wen.toNat : Int)), AV.val (Value.string (ofB r.tag))]] = recs (out ++ [r]) := by simp [recs, Rc.enc, vi, vs, uv]
     have e2 : (recs out).length + [[AV.val (Value.int IntKind.i64 r.kind), AV.val (Value.string (ofB r.target)), AV.val (Value.int IntKind.u64 (r.rule.toNat : Int)), AV.sl none 3 (dpsA r.deps), AV.val (Value.int IntKind.u64 (r.out.toNat : Int)), AV.val (Value.int IntKind.u64 (r.wen.toNat : Int)), AV.val (Value.string (ofB r.tag))]].length = (out ++ [r]).length := by simp [hol]
     rw [e1, e2]
     generalize hq : out ++ [r] = out2
     obtain ⟨laid2, hlaid2⟩ : ∃ l : Bool, l = true := ⟨true, rfl⟩
     have hlen2 : out2.length ≤ 2 * i + 1 := by rw [← hq]; simp; omega
     have hD2 : out2 ++ ((if S[i].target = r.target then [] else [S[i]]) ++ docLoop r laid2 (S.drop (i + 1))) = docLoop r (r.kind == 2) S := by
      rw [← hD, ← hq, hlaid2]; simp
     have hol2 := recs_length out2
     (conv => whnf); (repeat ((with_reducible refine must_intro ?_ ?_); exact decide_eq_true (by omega); (conv => whnf)))
     refine idxK_map_intro (show (i : Int).toNat < S.length by simpa using hc) ?_
     rw [show S[(i : Int).toNat]'(by simpa using hc) = S[i] from by congr 1]
     conv => whnf
     refine br_intro (fun hne => ?_) (fun hne => ?_)
     ·have hne : ¬ S[i].target = r.target := by simpa [ofB_eq] using hne
      rw [if_neg hne] at hD2
      (conv => whnf); (repeat ((with_reducible refine must_intro ?_ ?_); exact decide_eq_true (by omega); (conv => whnf)))
      refine idxK_map_intro (show (i : Int).toNat < S.length by simpa using hc) ?_
      rw [show S[(i : Int).toNat]'(by simpa using hc) = S[i] from by congr 1]
      conv => whnf
      refine ⟨hol2.symm, (by rw [hol2]; show (out2.length + 1) * (88 + 1) ≤ _; omega), ?_⟩
      conv => whnf
      have e1 : recs (out2 ++ [S[i]]) = recs out2 ++ [S[i].enc] := by simp [recs]
      have e2 : (out2 ++ [S[i]]).length = (recs out2).length + [S[i].enc].length := by simp [hol2]
      have := IH (i + 1) (out2 ++ [S[i]]) laid2 ⟨by omega, by simp; omega, by rw [← hD2]; simp⟩ (by omega)
      rw [e1, e2] at this
      rw [i64_nat (by omega)]
      subst hlaid2
      exact this
     ·have hne : S[i].target = r.target := by simpa [ofB_eq] using hne
      rw [if_pos hne] at hD2
      conv => whnf
      rw [i64_nat (by omega)]
      have := IH (i + 1) out2 laid2 ⟨by omega, by omega, by rw [← hD2]; simp⟩ (by omega)
      subst hlaid2
      exact this
    ·rw [hb] at hD
     obtain ⟨laid2, hlaid2⟩ : ∃ l : Bool, l = false := ⟨false, rfl⟩
     obtain ⟨out2, hq⟩ : ∃ o, o = out := ⟨_, rfl⟩
     have hlen2 : out2.length ≤ 2 * i + 1 := by rw [hq]; omega
     have hD2 : out2 ++ ((if S[i].target = r.target then [] else [S[i]]) ++ docLoop r laid2 (S.drop (i + 1))) = docLoop r (r.kind == 2) S := by
      rw [← hD, hq, hlaid2]; simp
     rw [← hq]
     have hol2 := recs_length out2
     (conv => whnf); (repeat ((with_reducible refine must_intro ?_ ?_); exact decide_eq_true (by omega); (conv => whnf)))
     refine idxK_map_intro (show (i : Int).toNat < S.length by simpa using hc) ?_
     rw [show S[(i : Int).toNat]'(by simpa using hc) = S[i] from by congr 1]
     conv => whnf
     refine br_intro (fun hne => ?_) (fun hne => ?_)
     ·have hne : ¬ S[i].target = r.target := by simpa [ofB_eq] using hne
      rw [if_neg hne] at hD2
      (conv => whnf); (repeat ((with_reducible refine must_intro ?_ ?_); exact decide_eq_true (by omega); (conv => whnf)))
      refine idxK_map_intro (show (i : Int).toNat < S.length by simpa using hc) ?_
      rw [show S[(i : Int).toNat]'(by simpa using hc) = S[i] from by congr 1]
      conv => whnf
      refine ⟨hol2.symm, (by rw [hol2]; show (out2.length + 1) * (88 + 1) ≤ _; omega), ?_⟩
      conv => whnf
      have e1 : recs (out2 ++ [S[i]]) = recs out2 ++ [S[i].enc] := by simp [recs]
      have e2 : (out2 ++ [S[i]]).length = (recs out2).length + [S[i].enc].length := by simp [hol2]
      have := IH (i + 1) (out2 ++ [S[i]]) laid2 ⟨by omega, by simp; omega, by rw [← hD2]; simp⟩ (by omega)
      rw [e1, e2] at this
      rw [i64_nat (by omega)]
      subst hlaid2
      exact this
     ·have hne : S[i].target = r.target := by simpa [ofB_eq] using hne
      rw [if_pos hne] at hD2
      conv => whnf
      rw [i64_nat (by omega)]
      have := IH (i + 1) out2 laid2 ⟨by omega, by omega, by rw [← hD2]; simp⟩ (by omega)
      subst hlaid2
      exact this
   ·simp only [Bool.not_true, Bool.false_and, Bool.or_false, Bool.false_eq_true, if_false, List.nil_append] at hD
    obtain ⟨laid2, hlaid2⟩ : ∃ l : Bool, l = true := ⟨true, rfl⟩
    obtain ⟨out2, hq⟩ : ∃ o, o = out := ⟨_, rfl⟩
    have hlen2 : out2.length ≤ 2 * i + 1 := by rw [hq]; omega
    have hD2 : out2 ++ ((if S[i].target = r.target then [] else [S[i]]) ++ docLoop r laid2 (S.drop (i + 1))) = docLoop r (r.kind == 2) S := by
     rw [← hD, hq, hlaid2]
    rw [← hq]
    have hol2 := recs_length out2
    (conv => whnf); (repeat ((with_reducible refine must_intro ?_ ?_); exact decide_eq_true (by omega); (conv => whnf)))
    refine idxK_map_intro (show (i : Int).toNat < S.length by simpa using hc) ?_
    rw [show S[(i : Int).toNat]'(by simpa using hc) = S[i] from by congr 1]
    conv => whnf
    refine br_intro (fun hne => ?_) (fun hne => ?_)
    ·have hne : ¬ S[i].target = r.target := by simpa [ofB_eq] using hne
     rw [if_neg hne] at hD2
     (conv => whnf); (repeat ((with_reducible refine must_intro ?_ ?_); exact decide_eq_true (by omega); (conv => whnf)))
     refine idxK_map_intro (show (i : Int).toNat < S.length by simpa using hc) ?_
     rw [show S[(i : Int).toNat]'(by simpa using hc) = S[i] from by congr 1]
     conv => whnf
     refine ⟨hol2.symm, (by rw [hol2]; show (out2.length + 1) * (88 + 1) ≤ _; omega), ?_⟩
     conv => whnf
     have e1 : recs (out2 ++ [S[i]]) = recs out2 ++ [S[i].enc] := by simp [recs]
     have e2 : (out2 ++ [S[i]]).length = (recs out2).length + [S[i].enc].length := by simp [hol2]
     have := IH (i + 1) (out2 ++ [S[i]]) laid2 ⟨by omega, by simp; omega, by rw [← hD2]; simp⟩ (by omega)
     rw [e1, e2] at this
     rw [i64_nat (by omega)]
     subst hlaid2
     exact this
    ·have hne : S[i].target = r.target := by simpa [ofB_eq] using hne
     rw [if_pos hne] at hD2
     conv => whnf
     rw [i64_nat (by omega)]
     have := IH (i + 1) out2 laid2 ⟨by omega, by omega, by rw [← hD2]; simp⟩ (by omega)
     subst hlaid2
     exact this
  ·have hc := ge_of_decE hsl hc
   rw [List.drop_eq_nil_of_le hc] at hD
   cases laid
   ·conv => whnf
    refine ⟨hol.symm, (by rw [hol]; show (out.length + 1) * (88 + 1) ≤ _; omega), ?_⟩
    conv => whnf
    have e1 : recs out ++ [r.enc] = recs (docLoop r (r.kind == 2) S) := by rw [← hD]; simp [recs, docLoop]
    rw [← e1] at h
    exact h
   ·conv => whnf
    rw [show recs out = recs (docLoop r (r.kind == 2) S) by rw [← hD]; simp [docLoop]]
    exact h
theorem docLoop_len (r : Rc) : ∀ (S : List Rc) (laid : Bool), (docLoop r laid S).length ≤ S.length + (if laid = true then 0 else 1) := by
 intro S
 induction S with
 | nil => intro laid; cases laid <;> simp [docLoop]
 | cons s S ih =>
  intro laid
  simp only [docLoop, List.length_append, List.length_cons]
  have := ih (laid || (!laid && ltB r.target s.target))
  have h2 : (if s.target = r.target then [] else [s]).length ≤ 1 := by split <;> simp
  cases laid <;> cases hl : ltB r.target s.target <;> simp [hl] at this ⊢ <;> omega
theorem docPut_len (S : List Rc) (r : Rc) : (docPut S r).length ≤ S.length + 1 := by
 unfold docPut
 split
 ·omega
 ·have := docLoop_len r S (decide (r.kind = 2))
  split at this <;> omega
theorem docPut_sub {S : List Rc} {r x : Rc} (h : x ∈ docPut S r) : (x = r ∧ r.kind = 1) ∨ x ∈ S := by
 unfold docPut at h
 split at h
 ·exact .inr h
 ·rename_i hk
  rcases (docLoop_mem r S _ x).1 h with ⟨h1, h2⟩ | ⟨h1, _⟩
  ·refine .inl ⟨h2, ?_⟩
   have h1 : ¬ r.kind = 2 := of_decide_eq_false h1
   exact Classical.byContradiction fun e => hk ⟨e, h1⟩
  ·exact .inr h1
theorem docOf_snoc (l : List Rc) (r : Rc) : docOf (l ++ [r]) = docPut (docOf l) r := by simp [docOf]
theorem docFold_len : ∀ (l S : List Rc), (l.foldl docPut S).length ≤ S.length + l.length := by
 intro l
 induction l with
 | nil => intro S; simp
 | cons r l ih =>
  intro S
  have := ih (docPut S r)
  have := docPut_len S r
  simp only [List.foldl_cons, List.length_cons]
  omega
theorem docOf_len (l : List Rc) : (docOf l).length ≤ l.length := by simpa [docOf] using docFold_len l []
theorem docFold_sub : ∀ (l S : List Rc) (x : Rc), x ∈ l.foldl docPut S → (x ∈ l ∧ x.kind = 1) ∨ x ∈ S := by
 intro l
 induction l with
 | nil => intro S x h; exact .inr h
 | cons r l ih =>
  intro S x h
  rcases ih _ x h with ⟨h, hk⟩ | h
  ·exact .inl ⟨by simp [h], hk⟩
  ·rcases docPut_sub h with ⟨rfl, hk⟩ | h
   ·exact .inl ⟨by simp, hk⟩
   ·exact .inr h
theorem docOf_sub {l : List Rc} {x : Rc} (h : x ∈ docOf l) : x ∈ l ∧ x.kind = 1 := by
 rcases docFold_sub l [] x h with h | h
 ·exact h
 ·simp at h
theorem docOf_calls (l : List Rc) (hl : l.length < 1000000) (hT : ∀ s ∈ l, s.target.length < 1000000) {R} (h : R (.sl none 7 (recs (docOf l))) []) : ACalls Tryz.prog 51 [.sl none 7 (recs l)] [] R := by
 refine acalls_of_xwp (an := an51) tab_ok Tryz.func51 ?_
 have hsl := recs_length l
 conv => whnf
 refine LoopP.ind2 (fun (i : Nat) (S : List Rc) => [(3, .sl none 7 (recs S)), (4, vi i)]) (fun _ _ => []) (fun i _ => l.length - i) (fun i S => i ≤ l.length ∧ S = docOf (l.take i)) 0 [] rfl ⟨by omega, rfl⟩ ?_
 rintro i S ⟨h0, hS⟩ IH
 conv => whnf
 refine br_intro (fun hc => ?_) (fun hc => ?_)
 ·have hc := lt_of_decE hsl hc
  have hSl : S.length ≤ i := by rw [hS]; have := docOf_len (l.take i); simp at this; omega
  (conv => whnf); (repeat ((with_reducible refine must_intro ?_ ?_); exact decide_eq_true (by omega); (conv => whnf)))
  refine idxK_map_intro (show (i : Int).toNat < l.length by simpa using hc) ?_
  rw [show l[(i : Int).toNat]'(by simpa using hc) = l[i] from by congr 1]
  conv => whnf
  refine docPut_calls S (by omega) l[i] (hT _ (List.getElem_mem hc)) (fun s hs => ?_) ?_
  ·rw [hS] at hs
   exact hT s (List.mem_of_mem_take (docOf_sub hs).1)
  conv => whnf
  rw [i64_nat (by omega)]
  refine IH (i + 1) (docPut S l[i]) ⟨by omega, ?_⟩ (by omega)
  rw [List.take_succ_eq_append_getElem hc, docOf_snoc, hS]
 ·have hc := ge_of_decE hsl hc
  rw [List.take_of_length_le hc] at hS
  rw [← hS] at h
  conv => whnf
  exact h
theorem All_calls (a b : List Rc) (ha : a.length < 1000000) (had : ∀ r ∈ a, r.deps.length < 1000000) {R} (h : ∀ p, p = decide (a = b) → R (.val (.bool p)) []) : ACalls Tryz.prog 18 [.sl none 7 (recs a), .sl none 7 (recs b)] [] R := by
 refine acalls_of_xwp (an := an18) tab_ok Tryz.func18 ?_
 have hsa := recs_length a
 have hsb := recs_length b
 conv => whnf
 rw [hsa, hsb]
 refine br_intro (fun hc => ?_) (fun hc => ?_)
 ·conv => whnf
  refine h false (decide_eq_false ?_).symm
  rintro rfl
  simp at hc
 have hlen : a.length = b.length := by simp at hc; omega
 conv => whnf
 refine LoopP.ind1 (fun (i : Nat) => [(5, vi i)]) (fun _ => []) (fun i => a.length - i) (fun i => i ≤ a.length ∧ a.take i = b.take i) 0 rfl ⟨by omega, by simp⟩ ?_
 rintro i ⟨h0, h1⟩ IH
 conv => whnf
 refine br_intro (fun hc => ?_) (fun hc => ?_)
 ·have hc := lt_of_decE hsa hc
  have hcb : i < b.length := by omega
  (conv => whnf); (repeat ((with_reducible refine must_intro ?_ ?_); exact decide_eq_true (by omega); (conv => whnf)))
  refine idxK_map_intro (show (i : Int).toNat < a.length by simpa using hc) ?_
  rw [show a[(i : Int).toNat]'(by simpa using hc) = a[i] from by congr 1]
  (conv => whnf); (repeat ((with_reducible refine must_intro ?_ ?_); exact decide_eq_true (by omega); (conv => whnf)))
  refine idxK_map_intro (show (i : Int).toNat < b.length by simpa using hcb) ?_
  rw [show b[(i : Int).toNat]'(by simpa using hcb) = b[i] from by congr 1]
  conv => whnf
  refine Same8_calls a[i] b[i] (had _ (List.getElem_mem hc)) fun p hp => ?_
  conv => whnf
  refine br_intro (fun he => ?_) (fun he => ?_)
  ·have he : ¬ a[i] = b[i] := by simpa [hp] using he
   conv => whnf
   refine h false (decide_eq_false ?_).symm
   rintro rfl
   exact he rfl
  ·have he : a[i] = b[i] := by simpa [hp] using he
   conv => whnf
   rw [i64_nat (by omega)]
   refine IH (i + 1) ⟨by omega, ?_⟩ (by omega)
   rw [List.take_succ_eq_append_getElem hc, List.take_succ_eq_append_getElem hcb, h1, he]
 ·have hc := ge_of_decE hsa hc
  rw [List.take_of_length_le hc, List.take_of_length_le (by omega)] at h1
  conv => whnf
  exact h true (decide_eq_true h1).symm
def Rc.bare (r : Rc) : List AV := [vi r.kind, vs r.target, vs r.tag, uv r.rule, uv r.out, uv r.wen]
theorem of_calls (r : Rc) {R} (h : R (.agg r.bare) []) : ACalls Tryz.prog 149 [.agg r.enc] [] R := by
 refine acalls_of_xwp (an := an149) tab_ok Tryz.func149 ?_
 conv => whnf
 exact h
theorem dp_ne (a b : Dp) (h : (!(true && decide (ofB a.name = ofB b.name) && ((a.hash.toNat : Int) == (b.hash.toNat : Int)) && (a.order == b.order))) = true) : a ≠ b := by
 rintro rfl
 simp at h
theorem dp_eq (a b : Dp) (h : (!(true && decide (ofB a.name = ofB b.name) && ((a.hash.toNat : Int) == (b.hash.toNat : Int)) && (a.order == b.order))) = false) : a = b := by
 simp [ofB_eq] at h
 obtain ⟨⟨h1, h2⟩, h3⟩ := h
 have h2 : a.hash = b.hash := BitVec.eq_of_toNat_eq (by omega)
 cases a; cases b
 simp_all
theorem EqualD_calls (a b : List Dp) (ha : a.length < 1000000) {R} (h : ∀ p, p = decide (a = b) → R (.val (.bool p)) []) : ACalls Tryz.prog 150 [.sl none 3 (dpsA a), .sl none 3 (dpsA b)] [] R := by
 refine acalls_of_xwp (an := an150) tab_ok Tryz.func150 ?_
 have hsa := dpsA_length a
 have hsb := dpsA_length b
 conv => whnf
 rw [hsa, hsb]
 refine br_intro (fun hc => ?_) (fun hc => ?_)
 ·conv => whnf
  refine h false (decide_eq_false ?_).symm
  rintro rfl
  simp at hc
 have hlen : a.length = b.length := by simp at hc; omega
 conv => whnf
 refine LoopP.ind1 (fun (i : Nat) => [(13, vi i)]) (fun _ => []) (fun i => a.length - i) (fun i => i ≤ a.length ∧ a.take i = b.take i) 0 rfl ⟨by omega, by simp⟩ ?_
 rintro i ⟨h0, h1⟩ IH
 conv => whnf
 refine br_intro (fun hc => ?_) (fun hc => ?_)
 ·have hc := lt_of_decE hsa hc
  have hcb : i < b.length := by omega
  (conv => whnf); (repeat ((with_reducible refine must_intro ?_ ?_); exact decide_eq_true (by omega); (conv => whnf)))
  refine idxK_map_intro (show (i : Int).toNat < a.length by simpa using hc) ?_
  rw [show a[(i : Int).toNat]'(by simpa using hc) = a[i] from by congr 1]
  (conv => whnf); (repeat ((with_reducible refine must_intro ?_ ?_); exact decide_eq_true (by omega); (conv => whnf)))
  refine idxK_map_intro (show (i : Int).toNat < b.length by simpa using hcb) ?_
  rw [show b[(i : Int).toNat]'(by simpa using hcb) = b[i] from by congr 1]
  conv => whnf
  refine br_intro (fun he => ?_) (fun he => ?_)
  ·have he := dp_ne _ _ he
   conv => whnf
   refine h false (decide_eq_false ?_).symm
   rintro rfl
   exact he rfl
  ·have he := dp_eq _ _ he
   conv => whnf
   rw [i64_nat (by omega)]
   refine IH (i + 1) ⟨by omega, ?_⟩ (by omega)
   rw [List.take_succ_eq_append_getElem hc, List.take_succ_eq_append_getElem hcb, h1, he]
 ·have hc := ge_of_decE hsa hc
  rw [List.take_of_length_le hc, List.take_of_length_le (by omega)] at h1
  conv => whnf
  exact h true (decide_eq_true h1).symm
theorem SameR_calls (a b : Rc) (ha : a.deps.length < 1000000) {R} (h : ∀ p, p = decide (a = b) → R (.val (.bool p)) []) : ACalls Tryz.prog 118 [.agg a.enc, .agg b.enc] [] R := by
 refine acalls_of_xwp (an := an118) tab_ok Tryz.func118 ?_
 conv => whnf
 refine of_calls a ?_
 conv => whnf
 refine of_calls b ?_
 conv => whnf
 refine br_intro (fun g => ?_) (fun g => ?_)
 ·have g2 : a.kind = b.kind ∧ a.target = b.target ∧ a.tag = b.tag ∧ a.rule = b.rule ∧ a.out = b.out ∧ a.wen = b.wen := by
   simp [ofB_eq] at g
   obtain ⟨⟨⟨⟨⟨g1, g2⟩, g3⟩, g4⟩, g5⟩, g6⟩ := g
   exact ⟨g1, g2, g3, BitVec.eq_of_toNat_eq (by omega), BitVec.eq_of_toNat_eq (by omega), BitVec.eq_of_toNat_eq (by omega)⟩
  conv => whnf
  refine EqualD_calls a.deps b.deps ha fun p hp => ?_
  conv => whnf
  refine h _ ?_
  rw [hp]
  refine decide_eq_decide.2 ⟨fun e => ?_, fun e => by rw [e]⟩
  obtain ⟨g1, g2, g3, g4, g5, g6⟩ := g2
  cases a; cases b
  simp_all
 ·conv => whnf
  refine h false (decide_eq_false ?_).symm
  rintro rfl
  simp at g
theorem le_rec2 (k : Int) (t : B) (u o w : U) (g : B) : leL [.val (.int .i64 k), .val (.string (ofB t)), .val (.int .u64 (u.toNat : Int)), .val (.slice none 0 0), .val (.int .u64 (o.toNat : Int)), .val (.int .u64 (w.toNat : Int)), .val (.string (ofB g))] (Rc.enc ⟨k, t, u, [], o, w, g⟩) :=
 leL.cons (.refl _) (leL.cons (.refl _) (leL.cons (.refl _) (leL.cons (le_nil 3) (leL.refl _))))
def depsGo (v : Int) : List Dp → List B → Bool
 | [], _ => true
 | d :: ds, seen => nameOk d.name && (decide (d.name ∉ seen) && (!(d.order && decide (v < 3)) && depsGo v ds (seen ++ [d.name])))
def depsP (v : Int) (r : Rc) : Bool := depsGo v r.deps [r.target] && decide (r.deps.length ≤ 16)
theorem depsR_calls (v : Int) (r : Rc) (hd : r.deps.length < 100000) {R} (h : ∀ p, p = depsP v r → R (.val (.bool p)) []) : ACalls Tryz.prog 117 [vi v, .agg r.enc] [] R := by
 refine acalls_of_xwp (an := an117) tab_ok Tryz.func117 ?_
 have hsl := dpsA_length r.deps
 have no : depsGo v r.deps [r.target] = false → R (.val (.bool false)) [] := fun e => h false (by rw [depsP, e]; rfl)
 conv => whnf
 refine New_calls r.target [] (by simp) fun m hm => ?_
 have hm : m = [r.target] := by rw [hm]; simp [tblN, tblP]
 subst hm
 conv => whnf
 refine LoopP.ind2 (fun (i : Nat) (seen : List B) => [(17, vi i)]) (fun i seen => [(freshN 13 0, tblO (freshN 13 1) (freshN 13 2) seen), (freshN 13 1, tblR seen), (freshN 13 2, tblM seen)])
  (fun i _ => r.deps.length - i) (fun i seen => i ≤ r.deps.length ∧ seen.length ≤ i + 1 ∧ depsGo v (r.deps.drop i) seen = depsGo v r.deps [r.target]) 0 [r.target] rfl ⟨by omega, by simp, by simp⟩ ?_
 rintro i seen ⟨h0, hsn, hD⟩ IH
 conv => whnf
 refine br_intro (fun hc => ?_) (fun hc => ?_)
 ·have hc := lt_of_decE hsl hc
  rw [List.drop_eq_getElem_cons hc, depsGo] at hD
  (conv => whnf); (repeat ((with_reducible refine must_intro ?_ ?_); exact decide_eq_true (by omega); (conv => whnf)))
  refine idxK_map_intro (show (i : Int).toNat < r.deps.length by simpa using hc) ?_
  rw [show r.deps[(i : Int).toNat]'(by simpa using hc) = r.deps[i] from by congr 1]
  generalize r.deps[i] = d at hD ⊢
  conv => whnf
  by_cases hm : d.name ∈ seen
  ·have hbad : depsGo v r.deps [r.target] = false := by rw [← hD]; simp [hm]
   refine ID_old seen d.name hm fun j => ?_
   conv => whnf
   refine Name_calls d.name ?_
   conv => whnf
   refine br_intro (fun hq => ?_) (fun hq => ?_)
   ·conv => whnf
    exact no hbad
   ·conv => whnf
    exact no hbad
  ·refine ID_more seen d.name (by omega) hm fun j => ?_
   conv => whnf
   refine Name_calls d.name ?_
   conv => whnf
   refine br_intro (fun hq => ?_) (fun hq => ?_)
   ·have hq : nameOk d.name = false := by simpa using hq
    conv => whnf
    exact no (by rw [← hD, hq]; rfl)
   ·have hq : nameOk d.name = true := by simpa using hq
    rw [hq, decide_eq_true hm, Bool.true_and, Bool.true_and] at hD
    conv => whnf
    refine br_intro (fun ho => ?_) (fun ho => ?_)
    ·rw [ho, Bool.true_and] at hD
     conv => whnf
     refine br_intro (fun hv => ?_) (fun hv => ?_)
     ·rw [hv] at hD
      conv => whnf
      exact no (by rw [← hD]; rfl)
     ·rw [hv] at hD
      conv => whnf
      rw [i64_nat (by omega)]
      exact IH (i + 1) (seen ++ [d.name]) ⟨by omega, by simp; omega, by rw [← hD]; simp⟩ (by omega)
    ·rw [ho] at hD
     conv => whnf
     rw [i64_nat (by omega)]
     exact IH (i + 1) (seen ++ [d.name]) ⟨by omega, by simp; omega, by rw [← hD]; simp⟩ (by omega)
 ·have hc := ge_of_decE hsl hc
  rw [List.drop_eq_nil_of_le hc, depsGo] at hD
  conv => whnf
  rw [hsl]
  refine h _ ?_
  rw [depsP, ← hD, Bool.true_and]
  exact decide_eq_decide.2 (by omega)
def earlyP (v : Int) (r : Rc) : Bool := (decide (v < 2) && decide (r.wen ≠ 0)) || (decide (v < 3) && decide (r.tag ≠ []))
def goneR (r : Rc) : Rc := ⟨2, r.target, 0, [], 0, 0, []⟩
def mayP (v : Int) (r : Rc) : Bool :=
 if (decide (v < 1) || decide (3 < v) || !nameOk r.target) = true then false
 else if r.kind = 1 then !earlyP v r && (decide (r.tag.length ≤ 64) && depsP v r)
 else if r.kind = 2 then decide (r = goneR r) else false
theorem nilB : ofB [] = { data := #[] } := rfl
theorem May_calls (v : Int) (r : Rc) (hd : r.deps.length < 100000) {R} (h : ∀ p, p = mayP v r → R (.val (.bool p)) []) : ACalls Tryz.prog 80 [vi v, .agg r.enc] [] R := by
 refine acalls_of_xwp (an := an80) tab_ok Tryz.func80 ?_
 have hst := size_ofB r.tag
 conv => whnf
 refine br_intro (fun g1 => ?_) (fun g1 => ?_)
 ·conv => whnf
  exact h false (by rw [mayP, if_pos (by rw [g1]; rfl)])
 conv => whnf
 refine br_intro (fun g2 => ?_) (fun g2 => ?_)
 ·have g2 : 3 < v := by simpa using g2
  conv => whnf
  exact h false (by rw [mayP, if_pos (by rw [g1, decide_eq_true g2]; rfl)])
 have g2 : ¬ 3 < v := by simpa using g2
 conv => whnf
 refine Name_calls r.target ?_
 conv => whnf
 refine br_intro (fun g3 => ?_) (fun g3 => ?_)
 ·conv => whnf
  exact h false (by rw [mayP, if_pos (by rw [g3]; simp)])
 have hm : mayP v r = if r.kind = 1 then !earlyP v r && (decide (r.tag.length ≤ 64) && depsP v r) else if r.kind = 2 then decide (r = goneR r) else false := by
  rw [mayP, if_neg (by rw [g1, decide_eq_false g2, g3]; simp)]
 conv => whnf
 refine br_intro (fun k1 => ?_) (fun k1 => ?_)
 ·have k1 : r.kind = 1 := by simpa using k1
  rw [if_pos k1] at hm
  have wz : ((r.wen.toNat : Int) != 0) = decide (r.wen ≠ 0) := by
   by_cases e : r.wen = 0
   ·simp [e]
   ·have : r.wen.toNat ≠ 0 := fun x => e (BitVec.eq_of_toNat_eq (by simpa using x))
    rw [decide_eq_true e]; simp; omega
  conv => whnf
  refine br_intro (fun e1 => ?_) (fun e1 => ?_)
  ·conv => whnf
   refine br_intro (fun e2 => ?_) (fun e2 => ?_)
   ·rw [wz] at e2
    conv => whnf
    exact h false (by rw [hm, earlyP, e1, e2]; rfl)
   ·rw [wz] at e2
    have e3 : decide (v < 3) = true := by simp at e1 ⊢; omega
    conv => whnf
    refine br_true e3 ?_
    conv => whnf
    refine br_intro (fun e4 => ?_) (fun e4 => ?_)
    ·have e4 : r.tag = [] := by simpa [← nilB, ofB_eq] using e4
     have e4 : decide (r.tag ≠ []) = false := by rw [e4]; rfl
     have he : earlyP v r = false := by rw [earlyP, e2, e4]; simp
     conv => whnf
     refine br_intro (fun q => ?_) (fun q => ?_)
     ·have q : r.tag.length ≤ 64 := by have q := of_decide_eq_true q; omega
      conv => whnf
      refine depsR_calls v r hd fun p hp => ?_
      conv => whnf
      exact h p (by rw [hm, he, decide_eq_true q, hp]; rfl)
     ·have q : ¬ r.tag.length ≤ 64 := by have q := of_decide_eq_false q; omega
      conv => whnf
      exact h false (by rw [hm, decide_eq_false q]; simp)
    ·have e4 : r.tag ≠ [] := by simpa [← nilB, ofB_eq] using e4
     have e4 : decide (r.tag ≠ []) = true := decide_eq_true e4
     conv => whnf
     exact h false (by rw [hm, earlyP, e3, e4]; simp)
  ·conv => whnf
   refine br_intro (fun e3 => ?_) (fun e3 => ?_)
   ·conv => whnf
    refine br_intro (fun e4 => ?_) (fun e4 => ?_)
    ·have e4 : r.tag = [] := by simpa [← nilB, ofB_eq] using e4
     have e4 : decide (r.tag ≠ []) = false := by rw [e4]; rfl
     have he : earlyP v r = false := by rw [earlyP, e1, e4]; simp
     conv => whnf
     refine br_intro (fun q => ?_) (fun q => ?_)
     ·have q : r.tag.length ≤ 64 := by have q := of_decide_eq_true q; omega
      conv => whnf
      refine depsR_calls v r hd fun p hp => ?_
      conv => whnf
      exact h p (by rw [hm, he, decide_eq_true q, hp]; rfl)
     ·have q : ¬ r.tag.length ≤ 64 := by have q := of_decide_eq_false q; omega
      conv => whnf
      exact h false (by rw [hm, decide_eq_false q]; simp)
    ·have e4 : r.tag ≠ [] := by simpa [← nilB, ofB_eq] using e4
     have e4 : decide (r.tag ≠ []) = true := decide_eq_true e4
     conv => whnf
     exact h false (by rw [hm, earlyP, e3, e4]; simp)
   ·have he : earlyP v r = false := by rw [earlyP, e1, e3]; simp
    conv => whnf
    refine br_intro (fun q => ?_) (fun q => ?_)
    ·have q : r.tag.length ≤ 64 := by have q := of_decide_eq_true q; omega
     conv => whnf
     refine depsR_calls v r hd fun p hp => ?_
     conv => whnf
     exact h p (by rw [hm, he, decide_eq_true q, hp]; rfl)
    ·have q : ¬ r.tag.length ≤ 64 := by have q := of_decide_eq_false q; omega
     conv => whnf
     exact h false (by rw [hm, decide_eq_false q]; simp)
 ·have k1 : ¬ r.kind = 1 := by simpa using k1
  rw [if_neg k1] at hm
  conv => whnf
  refine br_intro (fun k2 => ?_) (fun k2 => ?_)
  ·have k2 : r.kind = 2 := by simpa using k2
   rw [if_pos k2] at hm
   conv => whnf
   refine ACalls.args ?_ (SameR_calls r (goneR r) (by omega) fun p hp => ?_)
   ·exact leL.cons (.refl _) (leL.cons (le_agg (le_rec2 2 r.target 0 0 0 [])) leL.nil)
   conv => whnf
   exact h p (by rw [hp, hm])
  ·have k2 : ¬ r.kind = 2 := by simpa using k2
   rw [if_neg k2] at hm
   conv => whnf
   exact h false hm.symm
end Go.Abs
end
section
namespace Go.Abs
open Go Go.Proofs Dig
theorem tblP_mem {l : List B} {s x : B} : x ∈ tblP l s ↔ x ∈ l ∨ x = s := by
 unfold tblP
 split
 ·rename_i h
  exact ⟨.inl, fun h1 => h1.elim id fun e => e ▸ h⟩
 ·simp
theorem tblP_nodup {l : List B} (h : l.Nodup) (s : B) : (tblP l s).Nodup := by
 unfold tblP
 split
 ·exact h
 ·rename_i h1
  rw [List.nodup_append]
  exact ⟨h, by simp, fun a ha b hb => by simp at hb; subst hb; exact fun e => h1 (e ▸ ha)⟩
theorem addAll_mem : ∀ (m t : List B) {x : B}, x ∈ m.foldl tblP t ↔ x ∈ t ∨ x ∈ m := by
 intro m
 induction m with
 | nil => intro t x; simp
 | cons a m ih => intro t x; rw [List.foldl_cons, ih, tblP_mem]; simp [or_assoc]
theorem addAll_nodup : ∀ (m t : List B), t.Nodup → (m.foldl tblP t).Nodup := by
 intro m
 induction m with
 | nil => intro t h; exact h
 | cons a m ih => intro t h; exact ih _ (tblP_nodup h a)
def newsP : List B → List B → List B
 | _, [] => []
 | t, s :: l => if s ∈ t then newsP t l else s :: newsP (t ++ [s]) l
theorem addAll_news : ∀ (m t : List B), m.foldl tblP t = t ++ newsP t m := by
 intro m
 induction m with
 | nil => intro t; simp [newsP]
 | cons a m ih =>
  intro t
  rw [List.foldl_cons, ih, newsP]
  unfold tblP
  by_cases h : a ∈ t
  ·rw [if_pos h, if_pos h]
  ·rw [if_neg h, if_neg h]; simp
theorem news_addAll : ∀ (m t : List B), (newsP t m).foldl tblP t = m.foldl tblP t := by
 intro m
 induction m with
 | nil => intro t; rfl
 | cons a m ih =>
  intro t
  rw [newsP, List.foldl_cons]
  by_cases h : a ∈ t
  ·rw [if_pos h, ih, tblP_some h]
  ·rw [if_neg h, List.foldl_cons, tblP_none h, ih]
theorem news_self : ∀ (m t : List B), (t ++ m).Nodup → newsP t m = m := by
 intro m
 induction m with
 | nil => intro t h; rfl
 | cons a m ih =>
  intro t h
  have h1 : a ∉ t := fun e => by
   rw [List.nodup_append] at h
   exact h.2.2 a e a (by simp) rfl
  rw [newsP, if_neg h1, ih (t ++ [a]) (by rw [List.append_assoc]; exact h)]
theorem tblN_self {l : List B} (h : l.Nodup) : tblN l = l := by
 unfold tblN
 rw [addAll_news, news_self l [] (by simpa using h)]
 rfl
theorem tblN_mem {l : List B} {x : B} : x ∈ tblN l ↔ x ∈ l := by unfold tblN; rw [addAll_mem]; simp
theorem news_sub : ∀ (m t : List B), ∀ x ∈ newsP t m, x ∈ m := by
 intro m
 induction m with
 | nil => intro t x h; exact h
 | cons a m ih =>
  intro t x h
  rw [newsP] at h
  split at h
  ·exact List.mem_cons_of_mem _ (ih _ _ h)
  ·rcases List.mem_cons.1 h with h | h
   ·rw [h]; exact List.mem_cons_self
   ·exact List.mem_cons_of_mem _ (ih _ _ h)
theorem news_len : ∀ (m t : List B), (newsP t m).length ≤ m.length := by
 intro m
 induction m with
 | nil => intro t; exact Nat.le_refl _
 | cons a m ih =>
  intro t
  rw [newsP]
  split
  ·have := ih t; simp; omega
  ·have := ih (t ++ [a]); simp; omega
def textW (v : Int) (t : List B) (s : B) : B := if v = 1 then blobP s else vrn (t.idxOf s)
def depN (t : List B) (d : Dp) : Nat := 2 * t.idxOf d.name + (if d.order then 1 else 0)
def depW (v : Int) (t : List B) (d : Dp) : B := (if v < 3 then textW v t d.name else vrn (depN t d)) ++ vrn d.hash.toNat
def depsW (v : Int) (t : List B) (l : List Dp) : B := (l.map (depW v t)).flatten
def tagW (t : List B) (s : B) : B := vrn (if s = [] then 0 else t.idxOf s + 1)
def endW (v : Int) (t : List B) (r : Rc) : B := vrn r.out.toNat ++ ((if 2 ≤ v then vrn r.wen.toNat else []) ++ (if 3 ≤ v then tagW t r.tag else []))
def lastW (v : Int) (t : List B) (r : Rc) : B :=
 if r.kind = 2 then 2 :: textW v t r.target
 else 1 :: (textW v t r.target ++ vrn r.rule.toNat ++ vrn r.deps.length ++ depsW v t r.deps ++ endW v t r)
def textsR (r : Rc) : List B := r.target :: (r.deps.map (·.name) ++ (if r.tag = [] then [] else [r.tag]))
def namesR (r : Rc) : List B := tblN (textsR r)
def addT (v : Int) (t : List B) (r : Rc) : List B := if v = 1 then t else (namesR r).foldl tblP t
def defP (s : B) : B := 0 :: s
def defsP (v : Int) (t : List B) (r : Rc) : List B := if v = 1 then [] else (newsP t (namesR r)).map defP
def payP (v : Int) (t : List B) (r : Rc) : List B := defsP v t r ++ [lastW v (addT v t r) r]
def paysP (v : Int) : List B → List Rc → List B
 | _, [] => []
 | t, r :: l => payP v t r ++ paysP v (addT v t r) l
def tblL (v : Int) (t : List B) (l : List Rc) : List B := l.foldl (addT v) t
def lettersB (v : Int) : B := [84, 80, 72, UInt8.ofNat v.toNat]
def headP (v : Int) : B := sealF (lettersB v)
def fileP (v : Int) (l : List Rc) : B := headP v ++ framesP (paysP v [] l)
theorem paysP_append (v : Int) : ∀ (l m : List Rc) (t : List B), paysP v t (l ++ m) = paysP v t l ++ paysP v (tblL v t l) m := by
 intro l
 induction l with
 | nil => intro m t; rfl
 | cons a l ih => intro m t; simp only [List.cons_append, paysP, ih, List.append_assoc]; rfl
theorem framesP_append (l m : List B) : framesP (l ++ m) = framesP l ++ framesP m := by
 unfold framesP
 rw [List.map_append, List.flatten_append]
theorem addT_one (t : List B) (r : Rc) : addT 1 t r = t := by simp [addT]
theorem addT_more {v : Int} (h : v ≠ 1) (t : List B) (r : Rc) : addT v t r = (namesR r).foldl tblP t := by simp [addT, h]
theorem addT_nodup (v : Int) {t : List B} (h : t.Nodup) (r : Rc) : (addT v t r).Nodup := by
 unfold addT
 split
 ·exact h
 ·exact addAll_nodup _ _ h
theorem tblL_nodup (v : Int) : ∀ (l : List Rc) {t : List B}, t.Nodup → (tblL v t l).Nodup := by
 intro l
 induction l with
 | nil => intro t h; exact h
 | cons a l ih => intro t h; exact ih (addT_nodup v h a)
theorem tblL_one : ∀ (l : List Rc) (t : List B), tblL 1 t l = t := by
 intro l
 induction l with
 | nil => intro t; rfl
 | cons a l ih => intro t; show tblL 1 (addT 1 t a) l = t; rw [addT_one, ih]
theorem namesR_ne (r : Rc) : namesR r ≠ [] := by
 intro e
 have : r.target ∈ namesR r := tblN_mem.2 (by simp [textsR])
 rw [e] at this
 cases this
theorem addT_mem {v : Int} (h : v ≠ 1) (t : List B) (r : Rc) {x : B} (hx : x ∈ textsR r) : x ∈ addT v t r := by
 rw [addT_more h, addAll_mem]
 exact .inr (tblN_mem.2 hx)
theorem addT_ne {v : Int} (h : v ≠ 1) (t : List B) (r : Rc) : addT v t r ≠ [] := by
 intro e
 have := addT_mem h t r (x := r.target) (by simp [textsR])
 rw [e] at this
 cases this
theorem tblP_len (l : List B) (s : B) : (tblP l s).length ≤ l.length + 1 := by
 unfold tblP
 split <;> simp
theorem addAll_len : ∀ (m t : List B), (m.foldl tblP t).length ≤ t.length + m.length := by
 intro m
 induction m with
 | nil => intro t; simp
 | cons a m ih => intro t; have := ih (tblP t a); have := tblP_len t a; simp only [List.foldl_cons, List.length_cons]; omega
theorem textsR_len (r : Rc) : (textsR r).length ≤ r.deps.length + 2 := by
 unfold textsR
 split <;> simp
theorem namesR_len (r : Rc) : (namesR r).length ≤ r.deps.length + 2 := by
 have h1 := addAll_len (textsR r) []
 have h2 := textsR_len r
 unfold namesR tblN
 simp only [List.length_nil] at h1
 omega
theorem addT_len (v : Int) (t : List B) (r : Rc) : (addT v t r).length ≤ t.length + r.deps.length + 2 := by
 unfold addT
 split
 ·omega
 ·have h1 := addAll_len (namesR r) t
  have h2 := namesR_len r
  omega
structure MayR (v : Int) (r : Rc) : Prop where
 lo : 1 ≤ v
 hi : v ≤ 3
 t1 : 1 ≤ r.target.length
 t2 : r.target.length ≤ 64
 deps : r.deps.length ≤ 16
 tag : r.tag.length ≤ 64
 names : ∀ d ∈ r.deps, 1 ≤ d.name.length ∧ d.name.length ≤ 64
 kind : r.kind = 1 ∨ r = goneR r
 wen : v = 1 → r.wen = 0
 tag3 : v < 3 → r.tag = []
 order : v < 3 → ∀ d ∈ r.deps, d.order = false
theorem depsGo_ok (v : Int) : ∀ (l : List Dp) (seen : List B), depsGo v l seen = true → ∀ d ∈ l, (1 ≤ d.name.length ∧ d.name.length ≤ 64) ∧ (v < 3 → d.order = false) := by
 intro l
 induction l with
 | nil => intro seen h d hd; cases hd
 | cons a l ih =>
  intro seen h d hd
  simp only [depsGo, nameOk, Bool.and_eq_true, decide_eq_true_eq, Bool.not_eq_true', Bool.and_eq_false_iff, decide_eq_false_iff_not] at h
  rcases List.mem_cons.1 hd with rfl | hd
  ·exact ⟨h.1, fun hv => h.2.2.1.elim id fun e => absurd hv e⟩
  ·exact ih _ h.2.2.2 d hd
theorem may_all {v : Int} {r : Rc} (h : mayP v r = true) : MayR v r := by
 unfold mayP at h
 split at h
 ·cases h
 ·rename_i h0
  simp only [Bool.or_eq_true, decide_eq_true_eq, Bool.not_eq_true', not_or, nameOk, Bool.and_eq_false_iff, decide_eq_false_iff_not] at h0
  obtain ⟨⟨h1, h2⟩, h3⟩ := h0
  have hv1 : 1 ≤ v := by omega
  have hv2 : v ≤ 3 := by omega
  have ht1 : 1 ≤ r.target.length := by
   exact Classical.not_not.1 h3.1
  have ht2 : r.target.length ≤ 64 := by
   exact Classical.not_not.1 h3.2
  split at h
  ·rename_i hk
   simp only [Bool.and_eq_true, Bool.not_eq_true', decide_eq_true_eq, depsP, earlyP, Bool.or_eq_false_iff, Bool.and_eq_false_iff, decide_eq_false_iff_not] at h
   obtain ⟨⟨e1, e2⟩, e3, e4, e5⟩ := h
   have hd := depsGo_ok v _ _ e4
   refine ⟨hv1, hv2, ht1, ht2, e5, e3, fun d hd' => (hd d hd').1, .inl hk, fun hv => ?_, fun hv => ?_, fun hv d hd' => (hd d hd').2 hv⟩
   ·refine Classical.byContradiction fun e => e1.elim (fun e' => e' (by omega)) fun e' => e' e
   ·refine Classical.byContradiction fun e => e2.elim (fun e' => e' hv) fun e' => e' e
  ·split at h
   ·have hg := of_decide_eq_true h
    have q1 : r.deps = [] := by rw [hg]; rfl
    have q2 : r.tag = [] := by rw [hg]; rfl
    have q3 : r.wen = 0 := by rw [hg]; rfl
    exact ⟨hv1, hv2, ht1, ht2, (by rw [q1]; simp), (by rw [q2]; simp), (by rw [q1]; simp), .inr hg, fun _ => q3, fun _ => q2, (by rw [q1]; simp)⟩
   ·cases h
theorem textsR_lens {v : Int} {r : Rc} (h : MayR v r) : ∀ s ∈ textsR r, 1 ≤ s.length ∧ s.length ≤ 64 := by
 intro s hs
 unfold textsR at hs
 rcases List.mem_cons.1 hs with rfl | hs
 ·exact ⟨h.t1, h.t2⟩
 rcases List.mem_append.1 hs with hs | hs
 ·obtain ⟨d, hd, rfl⟩ := List.mem_map.1 hs
  exact h.names d hd
 ·split at hs
  ·cases hs
  ·rename_i e
   rw [List.mem_singleton.1 hs]
   refine ⟨?_, h.tag⟩
   cases ht : r.tag with
   | nil => exact absurd ht e
   | cons a l => simp
theorem vrn_one {n : Nat} (h : n < 128) : (vrn n).length = 1 := by rw [vrn_small h]; rfl
theorem blobP_len {s : B} (h : s.length ≤ 64) : (blobP s).length ≤ 65 := by
 unfold blobP
 rw [List.length_append, vrn_one (by omega)]
 omega
theorem textW_len {v : Int} {t : List B} {s : B} (h : s.length ≤ 64) (ht : t.length < 1000000) : (textW v t s).length ≤ 65 := by
 unfold textW
 split
 ·exact blobP_len h
 ·have h1 := List.idxOf_le_length (a := s) (l := t)
  have := vrn_u64 (n := t.idxOf s) (by omega)
  omega
theorem u64_vrn (x : U) : (vrn x.toNat).length ≤ 10 := vrn_u64 (by have := x.isLt; omega)
theorem depW_len {v : Int} {t : List B} {d : Dp} (h : d.name.length ≤ 64) (ht : t.length < 1000000) : (depW v t d).length ≤ 75 := by
 unfold depW
 have h1 := u64_vrn d.hash
 have h3 := List.idxOf_le_length (a := d.name) (l := t)
 have h4 : (vrn (depN t d)).length ≤ 10 := vrn_u64 (by unfold depN; split <;> omega)
 rw [List.length_append]
 split
 ·have h2 := textW_len (v := v) h ht
  omega
 ·omega
theorem depsW_len {v : Int} {t : List B} (ht : t.length < 1000000) : ∀ {l : List Dp}, (∀ d ∈ l, d.name.length ≤ 64) → (depsW v t l).length ≤ 75 * l.length := by
 intro l
 induction l with
 | nil => intro h; simp [depsW]
 | cons a l ih =>
  intro h
  have h1 := depW_len (v := v) (t := t) (h a List.mem_cons_self) ht
  have h2 := ih fun d hd => h d (List.mem_cons_of_mem _ hd)
  unfold depsW at h2 ⊢
  rw [List.map_cons, List.flatten_cons, List.length_append, List.length_cons]
  omega
theorem endW_len {v : Int} {t : List B} {r : Rc} (ht : t.length < 1000000) : (endW v t r).length ≤ 30 := by
 unfold endW
 have h1 := u64_vrn r.out
 have h2 := u64_vrn r.wen
 have h3 : (tagW t r.tag).length ≤ 10 := by
  unfold tagW
  have h3 := List.idxOf_le_length (a := r.tag) (l := t)
  exact vrn_u64 (by split <;> omega)
 rw [List.length_append, List.length_append]
 split <;> split <;> simp <;> omega
theorem lastW_len {v : Int} {t : List B} {r : Rc} (h : MayR v r) (ht : t.length < 1000000) : 1 ≤ (lastW v t r).length ∧ (lastW v t r).length ≤ 1400 := by
 unfold lastW
 have h1 := textW_len (v := v) (t := t) h.t2 ht
 have h2 := u64_vrn r.rule
 have h3 : (vrn r.deps.length).length ≤ 10 := vrn_u64 (by have := h.deps; omega)
 have h4 := depsW_len (v := v) (t := t) (l := r.deps) ht fun d hd => (h.names d hd).2
 have h5 := endW_len (v := v) (t := t) (r := r) ht
 have h6 := h.deps
 split
 ·simp; omega
 ·simp only [List.length_cons, List.length_append]; omega
theorem payP_lens {v : Int} {t : List B} {r : Rc} (h : MayR v r) (ht : t.length < 900000) : ∀ p ∈ payP v t r, 1 ≤ p.length ∧ p.length ≤ 2048 := by
 intro p hp
 unfold payP at hp
 rcases List.mem_append.1 hp with hp | hp
 ·unfold defsP at hp
  split at hp
  ·cases hp
  ·obtain ⟨s, hs, rfl⟩ := List.mem_map.1 hp
   have := textsR_lens h s (tblN_mem.1 (news_sub _ _ s hs))
   simp [defP]; omega
 ·rw [List.mem_singleton.1 hp]
  have h1 := addT_len v t r
  have h2 := h.deps
  have := lastW_len (t := addT v t r) h (by omega)
  omega
theorem frameP_len {p : B} (h : p.length ≤ 2048) : (frameP p).length ≤ p.length + 14 := by
 unfold frameP sealF blobP
 have := vrn_u64 (n := p.length) (by omega)
 simp only [List.length_append, w4_length]
 omega
theorem framesP_len : ∀ {l : List B} {k : Nat}, (∀ p ∈ l, p.length ≤ k) → k ≤ 2048 → (framesP l).length ≤ l.length * (k + 14) := by
 intro l
 induction l with
 | nil => intro k h hk; simp [framesP]
 | cons a l ih =>
  intro k h hk
  have h1 := h a List.mem_cons_self
  have h2 := frameP_len (p := a) (by omega)
  have h3 := ih (k := k) (fun p hp => h p (List.mem_cons_of_mem _ hp)) hk
  unfold framesP at h3 ⊢
  rw [List.map_cons, List.flatten_cons, List.length_append, List.length_cons, Nat.succ_mul]
  omega
theorem payP_frames {v : Int} {t : List B} {r : Rc} (h : MayR v r) (ht : t.length < 900000) : (framesP (payP v t r)).length ≤ 3000 := by
 have h1 := addT_len v t r
 have h2 := h.deps
 have h3 := lastW_len (t := addT v t r) h (by omega)
 have h4 := frameP_len (p := lastW v (addT v t r) r) (by omega)
 have h5 : (framesP (defsP v t r)).length ≤ 18 * (65 + 14) := by
  have e1 : (defsP v t r).length ≤ 18 := by
   unfold defsP
   split
   ·simp
   ·have := news_len (namesR r) t
    have := namesR_len r
    rw [List.length_map]; omega
  have e2 : ∀ p ∈ defsP v t r, p.length ≤ 65 := by
   intro p hp
   unfold defsP at hp
   split at hp
   ·cases hp
   ·obtain ⟨s, hs, rfl⟩ := List.mem_map.1 hp
    have := textsR_lens h s (tblN_mem.1 (news_sub _ _ s hs))
    simp [defP]; omega
  exact Nat.le_trans (framesP_len e2 (by omega)) (Nat.mul_le_mul_right _ e1)
 unfold payP
 rw [framesP_snoc, List.length_append]
 omega
theorem tblL_len {v : Int} : ∀ {l : List Rc} {t : List B}, (∀ r ∈ l, MayR v r) → (tblL v t l).length ≤ t.length + 18 * l.length := by
 intro l
 induction l with
 | nil => intro t h; simp [tblL]
 | cons a l ih =>
  intro t h
  have h1 := ih (t := addT v t a) fun r hr => h r (List.mem_cons_of_mem _ hr)
  have h2 := addT_len v t a
  have h3 := (h a List.mem_cons_self).deps
  unfold tblL at h1 ⊢
  rw [List.foldl_cons, List.length_cons]
  omega
theorem paysP_frames {v : Int} : ∀ {l : List Rc} {t : List B}, (∀ r ∈ l, MayR v r) → t.length + 18 * l.length < 900000 → (framesP (paysP v t l)).length ≤ 3000 * l.length := by
 intro l
 induction l with
 | nil => intro t h ht; simp [paysP, framesP]
 | cons a l ih =>
  intro t h ht
  have h1 := addT_len v t a
  have h2 := (h a List.mem_cons_self).deps
  rw [List.length_cons] at ht
  have h3 := ih (t := addT v t a) (fun r hr => h r (List.mem_cons_of_mem _ hr)) (by omega)
  have h4 := payP_frames (t := t) (h a List.mem_cons_self) (by omega)
  rw [paysP, framesP_append, List.length_append, List.length_cons]
  omega
theorem paysP_lens {v : Int} : ∀ {l : List Rc} {t : List B}, (∀ r ∈ l, MayR v r) → t.length + 18 * l.length < 900000 → ∀ p ∈ paysP v t l, 1 ≤ p.length ∧ p.length ≤ 2048 := by
 intro l
 induction l with
 | nil => intro t h ht p hp; cases hp
 | cons a l ih =>
  intro t h ht p hp
  have h1 := addT_len v t a
  have h2 := (h a List.mem_cons_self).deps
  rw [List.length_cons] at ht
  rw [paysP] at hp
  rcases List.mem_append.1 hp with hp | hp
  ·exact payP_lens (h a List.mem_cons_self) (by omega) p hp
  ·exact ih (t := addT v t a) (fun r hr => h r (List.mem_cons_of_mem _ hr)) (by omega) p hp
end Go.Abs
end
section
namespace Go.Abs
open Go Go.Proofs Dig
attribute [local irreducible] ibits byteAt strLt firstIdx
theorem tmod_n (n k : Nat) : ((n : Nat) : Int).tmod (k : Int) = ((n % k : Nat) : Int) := by
 rw [Int.tmod_eq_emod_of_nonneg (Int.natCast_nonneg _)]
 exact (Int.natCast_emod n k).symm
theorem tdiv_n (n k : Nat) : ((n : Nat) : Int).tdiv (k : Int) = ((n / k : Nat) : Int) := by
 rw [Int.tdiv_eq_ediv_of_nonneg (Int.natCast_nonneg _)]
 exact (Int.natCast_ediv n k).symm
theorem u64_n {n : Nat} (h : n < 18446744073709551616) : IntKind.u64.wrap ((n : Nat) : Int) = (n : Int) := by
 show (n : Int) % 18446744073709551616 = _
 omega
theorem u32_n {n : Nat} (h : n < 4294967296) : IntKind.u32.wrap ((n : Nat) : Int) = (n : Int) := by
 show (n : Int) % 4294967296 = _
 omega
theorem ref1Put_calls : ∀ (n : Nat), n < 18446744073709551616 → ∀ {R : AV → List AObj → Prop}, R (vs (vrn n)) [] → ACalls Tryz.prog 167 [.val (.int .u64 (n : Int))] [] R := by
 intro n
 induction n using Nat.strongRecOn with
 | ind n ih =>
 intro hn R h
 refine acalls_of_xwp (an := an167) tab_ok Tryz.func167 ?_
 conv => whnf
 refine br_intro (fun g => ?_) (fun g => ?_)
 ·have g : n < 128 := by have := of_decide_eq_true g; omega
  rw [vrn_small g] at h
  conv => whnf
  rw [u8_part, show n % 256 = n by omega]
  refine ⟨[(((UInt8.ofNat n).toNat : Nat) : Int)], rfl, ?_⟩
  have e := strOfNums_ofB [UInt8.ofNat n]
  rw [show strOfNums [(((UInt8.ofNat n).toNat : Nat) : Int)] = ofB [UInt8.ofNat n] from e]
  conv => whnf
  exact h
 ·have g : ¬ n < 128 := by have := of_decide_eq_false g; omega
  rw [vrn_big g] at h
  have e1 : IntKind.u8.wrap (IntKind.u8.wrap ((n : Int).tmod 128) + 128) = (((UInt8.ofNat (n % 128 + 128)).toNat : Nat) : Int) := by
   rw [show (n : Int).tmod 128 = ((n % 128 : Nat) : Int) from tmod_n n 128, u8_nat (by omega)]
   show (((n % 128 : Nat) : Int) % 256 + 128) % 256 = _
   omega
  have e2 : (n : Int).tdiv 128 = ((n / 128 : Nat) : Int) := tdiv_n n 128
  have hl := vrn_u64 (n := n / 128) (by omega)
  conv => whnf
  rw [e1]
  refine ⟨[(((UInt8.ofNat (n % 128 + 128)).toNat : Nat) : Int)], rfl, ?_⟩
  have e := strOfNums_ofB [UInt8.ofNat (n % 128 + 128)]
  rw [show strOfNums [(((UInt8.ofNat (n % 128 + 128)).toNat : Nat) : Int)] = ofB [UInt8.ofNat (n % 128 + 128)] from e]
  conv => whnf
  rw [e2, u64_n (by omega)]
  refine ih (n / 128) (by omega) (by omega) ?_
  conv => whnf
  refine must_intro (decide_eq_true (by rw [size_ofB, size_ofB]; simp; omega)) ?_
  rw [ofB_append]
  conv => whnf
  exact h
theorem ref2Put_calls (s : B) (hs : s.length < 10000000) {R} (h : R (vs (blobP s)) []) : ACalls Tryz.prog 169 [vs s] [] R := by
 refine acalls_of_xwp (an := an169) tab_ok Tryz.func169 ?_
 have hv := vrn_u64 (n := s.length) (by omega)
 unfold blobP at h
 conv => whnf
 rw [size_ofB, u64_n (by omega)]
 refine ref1Put_calls s.length (by omega) ?_
 conv => whnf
 refine must_intro (decide_eq_true (by rw [size_ofB, size_ofB]; omega)) ?_
 rw [ofB_append]
 conv => whnf
 exact h
theorem ref3Bytes_calls (x : Crc.W) {R} (h : R (vs (w4 x.toNat)) []) : ACalls Tryz.prog 162 [wv x] [] R := by
 refine acalls_of_xwp (an := an162) tab_ok Tryz.func162 ?_
 have hx : x.toNat < 4294967296 := x.isLt
 unfold wv
 generalize x.toNat = n at h hx ⊢
 conv => whnf
 rw [show (n : Int).tmod 256 = ((n % 256 : Nat) : Int) from tmod_n n 256, show (n : Int).tdiv 256 = ((n / 256 : Nat) : Int) from tdiv_n n 256, show (n : Int).tdiv 65536 = ((n / 65536 : Nat) : Int) from tdiv_n n 65536, show (n : Int).tdiv 16777216 = ((n / 16777216 : Nat) : Int) from tdiv_n n 16777216,
  u32_n (n := n / 256) (by omega), u32_n (n := n / 65536) (by omega), u32_n (n := n / 16777216) (by omega), show ((n / 256 : Nat) : Int).tmod 256 = ((n / 256 % 256 : Nat) : Int) from tmod_n _ 256, show ((n / 65536 : Nat) : Int).tmod 256 = ((n / 65536 % 256 : Nat) : Int) from tmod_n _ 256]
 rw [u8_part (n := n % 256), u8_part (n := n / 256 % 256), u8_part (n := n / 65536 % 256), u8_part (n := n / 16777216), Nat.mod_mod, Nat.mod_mod, Nat.mod_mod]
 obtain ⟨ns, n1, n2⟩ := str_of (w4 n)
 refine ⟨ns, n1, ?_⟩
 rw [n2]
 conv => whnf
 exact h
theorem ref6Put_calls (p : B) (h1 : 1 ≤ p.length) (h2 : p.length ≤ 2048) {R} (h : R (.tup [vs (frameP p), vi 0]) []) : ACalls Tryz.prog 128 [vs p] [] R := by
 refine acalls_of_xwp (an := an128) tab_ok Tryz.func128 ?_
 have hne : ofB p ≠ ofB [] := fun e => by have := ofB_inj e; rw [this] at h1; simp at h1
 have hv := vrn_u64 (n := p.length) (by omega)
 have hbl : (blobP p).length ≤ 2058 := by unfold blobP; rw [List.length_append]; omega
 unfold frameP sealF at h
 conv => whnf
 refine br_false (decide_eq_false hne) ?_
 conv => whnf
 refine br_false (decide_eq_false (by rw [size_ofB]; omega)) ?_
 conv => whnf
 refine ref2Put_calls p (by omega) ?_
 generalize blobP p = b at h hbl ⊢
 conv => whnf
 refine refSum_calls b (by omega) ?_
 conv => whnf
 refine ref3Bytes_calls _ ?_
 have hw := w4_length (Crc.sum b).toNat
 conv => whnf
 refine must_intro (decide_eq_true (by rw [size_ofB, size_ofB]; omega)) ?_
 rw [ofB_append]
 conv => whnf
 exact h
theorem ref6Head_calls {v : Int} (h1 : 1 ≤ v) (h3 : v ≤ 3) {R} (h : R (.tup [vs (headP v), vi 0]) []) : ACalls Tryz.prog 126 [vi v] [] R := by
 refine acalls_of_xwp (an := an126) tab_ok Tryz.func126 ?_
 have e1 : IntKind.u8.wrap v = (((UInt8.ofNat v.toNat).toNat : Nat) : Int) := by
  rw [u8_nat (by omega)]
  show v % 256 = _
  omega
 unfold headP sealF at h
 conv => whnf
 refine br_false (decide_eq_false (by omega)) ?_
 conv => whnf
 refine br_false (decide_eq_false (by omega)) ?_
 conv => whnf
 rw [e1]
 refine ⟨[(((UInt8.ofNat v.toNat).toNat : Nat) : Int)], rfl, ?_⟩
 have e := strOfNums_ofB [UInt8.ofNat v.toNat]
 rw [show strOfNums [(((UInt8.ofNat v.toNat).toNat : Nat) : Int)] = ofB [UInt8.ofNat v.toNat] from e]
 conv => whnf
 have e3 : (⟨#[84, 80, 72]⟩ : ByteArray) = ofB [84, 80, 72] := rfl
 rw [e3, ofB_append]
 obtain ⟨b, hb⟩ : ∃ b, b = lettersB v := ⟨_, rfl⟩
 have hb2 : [84, 80, 72] ++ [UInt8.ofNat v.toNat] = b := hb.symm
 have hl : b.length = 4 := by rw [hb]; rfl
 rw [← hb] at h
 rw [hb2]
 clear hb hb2 e e1 e3
 conv => whnf
 refine refSum_calls b (by omega) ?_
 conv => whnf
 refine ref3Bytes_calls _ ?_
 have hw := w4_length (Crc.sum b).toNat
 conv => whnf
 refine must_intro (decide_eq_true (by rw [size_ofB, size_ofB]; omega)) ?_
 rw [ofB_append]
 conv => whnf
 exact h
theorem drop_len {s t q : B} {k : Nat} (hd : s.drop k = t ++ q) (ht : 0 < t.length) : s.length = k + t.length + q.length := by
 have h := congrArg List.length hd
 rw [List.length_drop, List.length_append] at h
 omega
theorem drop_next {s t q : B} {k : Nat} (hd : s.drop k = t ++ q) : s.drop (k + t.length) = q := by
 rw [← List.drop_drop, hd, List.drop_left]
theorem drop_byte {s t q : B} {k i : Nat} (hd : s.drop k = t ++ q) (hi : i < t.length) : byteAt (ofB s) (k + i) = ((t[i]).toNat : Int) := by
 have hl := drop_len hd (by omega)
 have h := List.getElem_of_eq hd (i := i) (by rw [List.length_drop]; omega)
 rw [List.getElem_drop, List.getElem_append_left hi] at h
 rw [byteAt_ofB s (by omega), h]
theorem drop_part {s t q : B} {k : Nat} (hd : s.drop k = t ++ q) : (ofB s).extract k (k + t.length) = ofB t := by
 rw [ofB_extract, List.drop_take, hd, show k + t.length - k = t.length by omega, List.take_left]
theorem ref1Get_calls (s q : B) (k n : Nat) (hn : n < 18446744073709551616) (hs : s.length < 100000000) (hd : s.drop k = vrn n ++ q) {R} (h : R (.tup [.val (.int .u64 (n : Int)), vi ((k + (vrn n).length : Nat) : Int), vi 0]) []) :
  ACalls Tryz.prog 225 [vs s, vi (k : Int)] [] R := by
 refine acalls_of_xwp (an := an225) tab_ok Tryz.func225 ?_
 have hv := vrn_u64 hn
 have hp := vrn_pos n
 have hl := drop_len hd (by omega)
 have hsz := size_ofB s
 conv => whnf
 refine br_false (decide_eq_false (by omega)) ?_
 conv => whnf
 refine LoopP.ind3 (fun (i : Nat) (a t : Nat) => [(7, .val (.int .u64 (a : Int))), (8, .val (.int .u64 (t : Int))), (9, vi i)]) (fun _ _ _ => []) (fun i _ _ => 10 - i) (fun i a t => i < (vrn n).length ∧ a = n % 128 ^ i ∧ t = 128 ^ i) 0 0 1 rfl ⟨hp, by simp [Nat.mod_one], rfl⟩ ?_
 rintro i a t ⟨h0, ha, ht⟩ IH
 obtain ⟨v1, v2, v3⟩ := vrn_at n i h0
 have hby := drop_byte hd h0
 rw [v1] at hby
 obtain ⟨m, hm⟩ : ∃ m, m = n / 128 ^ i := ⟨_, rfl⟩
 have hsum : a + t * m = n := by rw [ha, ht, hm]; exact Nat.mod_add_div n (128 ^ i)
 have hat : a < t := by rw [ha, ht]; exact Nat.mod_lt _ (Nat.pow_pos (by decide))
 have hnx : a + t * (m % 128) = n % 128 ^ (i + 1) := by rw [ha, ht, hm, Nat.mod_pow_succ]
 rw [← hm] at hby v2 v3
 have hi9 : i = 9 → m ≤ 1 := fun e => by
  subst e
  rw [hm]
  omega
 have htb : i < 10 → t ≤ 9223372036854775808 := fun e => by
  rw [ht]
  exact Nat.pow_le_pow_right (n := 128) (by decide) (show i ≤ 9 by omega)
 have hz : IntKind.i64.wrap ((k : Int) + (i : Int)) = ((k + i : Nat) : Int) := by rw [wrap_i64 (by omega) (by omega)]; omega
 have hi : i < 10 := by omega
 conv => whnf
 refine br_true (decide_eq_true (by omega)) ?_
 conv => whnf
 refine br_false (by rw [hz, hsz]; simp; omega) ?_
 refine must_intro (decide_eq_true (by rw [hz]; omega)) ?_
 refine must_intro (decide_eq_true (by rw [hz, hsz]; omega)) ?_
 conv => whnf
 have hxv : IntKind.u64.wrap (byteAt (ofB s) (Int.toNat ((k + i : Nat) : Int))) = ((m % 128 + (if i + 1 < (vrn n).length then 128 else 0) : Nat) : Int) := by
  rw [Int.toNat_natCast, hby, u64_n (by split <;> omega)]
 rw [hz, hxv]
 have htm : t * (m % 128) ≤ n := by
  have := Nat.mul_le_mul_left t (Nat.mod_le m 128)
  omega
 obtain ⟨x, hx⟩ : ∃ x, x = m % 128 + (if i + 1 < (vrn n).length then 128 else 0) := ⟨_, rfl⟩
 rw [← hx]
 have hx128 : (x : Int).tmod 128 = ((m % 128 : Nat) : Int) := by
  rw [show (x : Int).tmod 128 = ((x % 128 : Nat) : Int) from tmod_n x 128, hx]
  congr 1
  split <;> omega
 have hxl : x < 128 ↔ i + 1 = (vrn n).length := by rw [hx]; split <;> omega
 have hx9 : i = 9 → x ≤ 1 := fun e => by have := hi9 e; rw [hx, if_neg (by omega)]; omega
 have hx0 : 0 < i → x ≠ 0 := fun e => by rw [hx]; split <;> omega
 clear hxv hby hx
 refine br_intro (fun g => ?_) (fun g => ?_)
 ·have g : (i : Int) = 9 := by simpa using g
  have g : i = 9 := by omega
  have hx1 := hx9 g
  conv => whnf
  refine br_false (decide_eq_false (by omega)) ?_
  conv => whnf
  rw [hx128]
  have e1 : IntKind.u64.wrap ((t : Int) * ((m % 128 : Nat) : Int)) = ((t * (m % 128) : Nat) : Int) := by
   rw [← Int.natCast_mul, u64_n (by omega)]
  have e2 : IntKind.u64.wrap ((a : Int) + ((t * (m % 128) : Nat) : Int)) = ((n % 128 ^ (i + 1) : Nat) : Int) := by
   rw [← Int.natCast_add, hnx, u64_n (by have := Nat.mod_le n (128 ^ (i + 1)); omega)]
  rw [e1, e2]
  by_cases hxs : x < 128
  ·have hil := hxl.1 hxs
   have hmn := (v2 hil).1
   have hfin : n % 128 ^ (i + 1) = n := by rw [← hnx, Nat.mod_eq_of_lt hmn]; exact hsum
   rw [hfin]
   refine br_true (decide_eq_true (by omega)) ?_
   conv => whnf
   have hz2 : IntKind.i64.wrap (((k + i : Nat) : Int) + 1) = ((k + (vrn n).length : Nat) : Int) := by rw [wrap_i64 (by omega) (by omega)]; omega
   refine br_intro (fun g0 => ?_) (fun g0 => ?_)
   ·have hx0 := hx0 (by have := of_decide_eq_true g0; omega)
    conv => whnf
    refine br_false (by simpa using hx0) ?_
    conv => whnf
    rw [hz, hz2]
    exact h
   ·conv => whnf
    rw [hz, hz2]
    exact h
  ·have h128 : 128 ≤ m := v3 (by rw [hxl] at hxs; omega)
   have htm2 : t * 128 ≤ n := by
    have := Nat.mul_le_mul_left t h128
    omega
   have e3 : IntKind.u64.wrap ((t : Int) * 128) = ((128 ^ (i + 1) : Nat) : Int) := by
    rw [Nat.pow_succ, ← ht, show (t : Int) * 128 = ((t * 128 : Nat) : Int) from (Int.natCast_mul t 128).symm, u64_n (by omega)]
   rw [e3]
   refine br_false (decide_eq_false (by omega)) ?_
   conv => whnf
   rw [i64_nat (by omega)]
   exact IH (i + 1) _ _ ⟨(by rw [hxl] at hxs; omega), rfl, rfl⟩ (by omega)
 ·conv => whnf
  rw [hx128]
  have e1 : IntKind.u64.wrap ((t : Int) * ((m % 128 : Nat) : Int)) = ((t * (m % 128) : Nat) : Int) := by
   rw [← Int.natCast_mul, u64_n (by omega)]
  have e2 : IntKind.u64.wrap ((a : Int) + ((t * (m % 128) : Nat) : Int)) = ((n % 128 ^ (i + 1) : Nat) : Int) := by
   rw [← Int.natCast_add, hnx, u64_n (by have := Nat.mod_le n (128 ^ (i + 1)); omega)]
  rw [e1, e2]
  by_cases hxs : x < 128
  ·have hil := hxl.1 hxs
   have hmn := (v2 hil).1
   have hfin : n % 128 ^ (i + 1) = n := by rw [← hnx, Nat.mod_eq_of_lt hmn]; exact hsum
   rw [hfin]
   refine br_true (decide_eq_true (by omega)) ?_
   conv => whnf
   have hz2 : IntKind.i64.wrap (((k + i : Nat) : Int) + 1) = ((k + (vrn n).length : Nat) : Int) := by rw [wrap_i64 (by omega) (by omega)]; omega
   refine br_intro (fun g0 => ?_) (fun g0 => ?_)
   ·have hx0 := hx0 (by have := of_decide_eq_true g0; omega)
    conv => whnf
    refine br_false (by simpa using hx0) ?_
    conv => whnf
    rw [hz, hz2]
    exact h
   ·conv => whnf
    rw [hz, hz2]
    exact h
  ·have h128 : 128 ≤ m := v3 (by rw [hxl] at hxs; omega)
   have htm2 : t * 128 ≤ n := by
    have := Nat.mul_le_mul_left t h128
    omega
   have e3 : IntKind.u64.wrap ((t : Int) * 128) = ((128 ^ (i + 1) : Nat) : Int) := by
    rw [Nat.pow_succ, ← ht, show (t : Int) * 128 = ((t * 128 : Nat) : Int) from (Int.natCast_mul t 128).symm, u64_n (by omega)]
   rw [e3]
   refine br_false (decide_eq_false (by omega)) ?_
   conv => whnf
   rw [i64_nat (by omega)]
   exact IH (i + 1) _ _ ⟨(by rw [hxl] at hxs; omega), rfl, rfl⟩ (by omega)
theorem ref2Get_calls (s q p : B) (k : Nat) (most : Nat) (hp : p.length ≤ most) (hm : most < 10000000) (hs : s.length < 100000000) (hd : s.drop k = blobP p ++ q) {R} (h : R (.tup [vs p, vi ((k + (blobP p).length : Nat) : Int), vi 0]) []) :
  ACalls Tryz.prog 198 [vs s, vi (k : Int), vi (most : Int)] [] R := by
 refine acalls_of_xwp (an := an198) tab_ok Tryz.func198 ?_
 have hv := vrn_u64 (n := p.length) (by omega)
 have hvp := vrn_pos p.length
 have hbl : (blobP p).length = (vrn p.length).length + p.length := by unfold blobP; rw [List.length_append]
 have hl := drop_len hd (by omega)
 have hd1 : s.drop k = vrn p.length ++ (p ++ q) := by rw [hd]; unfold blobP; rw [List.append_assoc]
 have hd2 := drop_next hd1
 have hpa := drop_part hd2
 have hsz := size_ofB s
 conv => whnf
 refine ref1Get_calls s (p ++ q) k p.length (by omega) hs hd1 ?_
 have e1 : IntKind.u64.wrap (most : Int) = (most : Int) := u64_n (by omega)
 have e2 : IntKind.u64.wrap (((ofB s).size : Nat) : Int) = ((s.length : Nat) : Int) := by rw [hsz]; exact u64_n (by omega)
 have e3 : IntKind.i64.wrap (((k + (vrn p.length).length : Nat) : Int) + IntKind.i64.wrap (p.length : Int)) = ((k + (blobP p).length : Nat) : Int) := by
  rw [wrap_i64 (x := (p.length : Int)) (by omega) (by omega), wrap_i64 (by omega) (by omega), hbl]; omega
 generalize p.length = n at hp hv hvp hbl hl hd1 hd2 hpa e3 ⊢
 conv => whnf
 rw [e1]
 refine br_false (decide_eq_false (by omega)) ?_
 conv => whnf
 rw [e2]
 refine br_false (decide_eq_false (by omega)) ?_
 conv => whnf
 rw [e3, hsz]
 refine br_false (decide_eq_false (by omega)) ?_
 conv => whnf
 refine must_intro (decide_eq_true (by rw [e3, hbl]; omega)) ?_
 conv => whnf
 refine must_intro (decide_eq_true (by rw [e3, hsz]; omega)) ?_
 rw [e3, Int.toNat_natCast, Int.toNat_natCast, show k + (blobP p).length = k + (vrn n).length + n by omega, hpa]
 conv => whnf
 rw [e3]
 exact h
theorem ref6Get_calls (s q p : B) (k : Nat) (h1 : 1 ≤ p.length) (h2 : p.length ≤ 2048) (hs : s.length < 10000000) (hd : s.drop k = frameP p ++ q) {R} (h : R (.tup [vs p, vi ((k + (frameP p).length : Nat) : Int), vi 0]) []) :
  ACalls Tryz.prog 170 [vs s, vi (k : Int)] [] R := by
 refine acalls_of_xwp (an := an170) tab_ok Tryz.func170 ?_
 have hne : ofB p ≠ ofB [] := fun e => by have := ofB_inj e; rw [this] at h1; simp at h1
 have hv := vrn_u64 (n := p.length) (by omega)
 have hbl : (blobP p).length ≤ 2058 := by unfold blobP; rw [List.length_append]; omega
 have hfl : (frameP p).length = (blobP p).length + 4 := by unfold frameP sealF; rw [List.length_append, w4_length]
 have hl := drop_len hd (by omega)
 have hd1 : s.drop k = blobP p ++ (w4 (Crc.sum (blobP p)).toNat ++ q) := by rw [hd]; unfold frameP sealF; rw [List.append_assoc]
 have hd2 := drop_next hd1
 have hp1 := drop_part hd1
 have hp2 := drop_part hd2
 rw [w4_length] at hp2
 have hsz := size_ofB s
 conv => whnf
 refine br_false (decide_eq_false (by omega)) ?_
 conv => whnf
 refine br_false (by rw [hsz]; simp; omega) ?_
 conv => whnf
 refine ref2Get_calls s _ p k 2048 h2 (by omega) (by omega) hd1 ?_
 rw [hfl] at h hl
 generalize blobP p = b at h hbl hl hd1 hd2 hp1 hp2 ⊢
 have e1 : IntKind.i64.wrap (((k + b.length : Nat) : Int) + 4) = ((k + (b.length + 4) : Nat) : Int) := by rw [wrap_i64 (by omega) (by omega)]; omega
 conv => whnf
 refine br_false (decide_eq_false hne) ?_
 conv => whnf
 refine br_false (decide_eq_false (by rw [e1, hsz]; omega)) ?_
 conv => whnf
 refine must_intro (decide_eq_true (by omega)) ?_
 conv => whnf
 refine must_intro (decide_eq_true (by omega)) ?_
 rw [Int.toNat_natCast, Int.toNat_natCast, hp1]
 conv => whnf
 refine refSum_calls b (by omega) ?_
 conv => whnf
 refine ref3Bytes_calls _ ?_
 conv => whnf
 refine must_intro (decide_eq_true (by rw [e1]; omega)) ?_
 conv => whnf
 refine must_intro (decide_eq_true (by rw [e1, hsz]; omega)) ?_
 rw [e1, Int.toNat_natCast, Int.toNat_natCast, ← Nat.add_assoc, hp2]
 conv => whnf
 refine br_false (by simp) ?_
 conv => whnf
 rw [e1]
 exact h
end Go.Abs
end
section
namespace Go.Abs
open Go Go.Proofs
attribute [local irreducible] ibits byteAt strLt firstIdx
def fsC (s : FSt) (m : Nm) : AObj := .cells 99 [.mapv m, vi s.fail, vi s.fall, .val (.bool s.down)]
def fsM (s : FSt) : AObj := .map (amap fEnc s.fs)
theorem fsNew_calls {R} (h : R (.ptr 0 0) [fsC fs0 1, fsM fs0]) : ACalls Tryz.prog 23 [] [] R := by
 refine acalls_of_xwp (an := an23) tab_ok Tryz.func23 ?_
 conv => whnf
 exact h
theorem cnt_wrap {a : Int} (ha : okN a) : (if IntKind.i64.wrap (a - 1) < -1 then -1 else IntKind.i64.wrap (a - 1)) = cnt a := by
 unfold okN at ha
 rw [wrap_i64 (by omega) (by omega)]
 rfl
theorem count_calls (a : Int) (ha : okN a) {R} (h : R (.tup [vi (cnt a), .val (.bool (a == 0))]) []) : ACalls Tryz.prog 137 [vi a] [] R := by
 refine acalls_of_xwp (an := an137) tab_ok Tryz.func137 ?_
 conv => whnf
 rw [cnt_wrap ha]
 exact h
theorem Down_calls (s : FSt) {R} (h : R (.val (.bool s.down)) [fsC s 1, fsM s]) : ACalls Tryz.prog 52 [.ptr 0 0] [fsC s 1, fsM s] R := by
 refine acalls_of_xwp (an := an52) tab_ok Tryz.func52 ?_
 conv => whnf
 exact h
theorem Fail_calls (s : FSt) (n : Int) {R} (h : R (.tup []) [fsC ⟨s.fs, capN n, s.fall, s.down⟩ 1, fsM s]) : ACalls Tryz.prog 13 [.ptr 0 0, vi n] [fsC s 1, fsM s] R := by
 refine acalls_of_xwp (an := an13) tab_ok Tryz.func13 ?_
 conv => whnf
 exact h
theorem Fall_calls (s : FSt) (n : Int) {R} (h : R (.tup []) [fsC ⟨s.fs, s.fail, capN n, s.down⟩ 1, fsM s]) : ACalls Tryz.prog 14 [.ptr 0 0, vi n] [fsC s 1, fsM s] R := by
 refine acalls_of_xwp (an := an14) tab_ok Tryz.func14 ?_
 conv => whnf
 exact h
theorem fsNames_calls (s : FSt) (hl : s.fs.length < 1000000) (hs : ∀ n ∈ kys s.fs, n.length < 1000000) (hnd : (kys s.fs).Nodup) {R} (h : R (.sl none 1 (strs s.names)) [fsC s 1, fsM s]) : ACalls Tryz.prog 54 [.ptr 0 0] [fsC s 1, fsM s] R := by
 refine acalls_of_xwp (an := an54) tab_ok Tryz.func54 ?_
 conv => whnf
 refine fKeys_calls (amap fEnc s.fs) ?_
 conv => whnf
 refine fSorted_calls s.fs (by simpa [kys] using hl) hs hnd ?_
 conv => whnf
 exact h
theorem Safe_calls (s : FSt) (name : B) {R} (h : R (vi (gF s.fs name).safe) [fsC s 1, fsM s]) : ACalls Tryz.prog 57 [.ptr 0 0, vs name] [fsC s 1, fsM s] R := by
 refine acalls_of_xwp (an := an57) tab_ok Tryz.func57 ?_
 conv => whnf
 rw [amap_find]
 unfold gF at h
 cases e : lk s.fs name with
 | none =>
  rw [e] at h
  conv => whnf
  exact h
 | some v =>
  rw [e] at h
  conv => whnf
  exact h
theorem fsRead_calls (s : FSt) (name : B) (hb : (gF s.fs name).b.length < 100000000) {R} (h1 : name ∈ kys s.fs → R (.tup [.sl none 1 (byteEls (gF s.fs name).b), vi 0]) [fsC s 1, fsM s]) (h2 : name ∉ kys s.fs → R (.tup [nilV, vi 6]) [fsC s 1, fsM s]) : ACalls Tryz.prog 37 [.ptr 0 0, vs name] [fsC s 1, fsM s] R := by
 refine acalls_of_xwp (an := an37) tab_ok Tryz.func37 ?_
 conv => whnf
 rw [amap_find]
 cases e : lk s.fs name with
 | none =>
  have h2 := h2 (lk_none.1 e)
  conv => whnf
  exact h2
 | some v =>
  have h1 := h1 (lk_key e)
  unfold gF at h1 hb
  rw [e] at h1 hb
  conv => whnf
  refine bClone_calls v.b hb ?_
  conv => whnf
  exact h1
theorem may_calls (s : FSt) (name : B) {R} (h : R (vi (s.may name)) [fsC s 1, fsM s]) : ACalls Tryz.prog 92 [.ptr 0 0, vs name] [fsC s 1, fsM s] R := by
 refine acalls_of_xwp (an := an92) tab_ok Tryz.func92 ?_
 conv => whnf
 refine br_intro (fun g => ?_) (fun g => ?_)
 ·have g : s.down = true := g
  rw [show s.may name = 7 by simp [FSt.may, g]] at h
  conv => whnf
  exact h
 have g : s.down = false := g
 conv => whnf
 rw [amap_find]
 cases e : lk s.fs name with
 | none =>
  rw [show s.may name = 6 by simp [FSt.may, g, e]] at h
  conv => whnf
  exact h
 | some v =>
  rw [show s.may name = 0 by simp [FSt.may, g, e]] at h
  conv => whnf
  exact h
theorem le_two {b : B} : leE [[nilV], [AV.sl none 1 (byteEls b)]] [[AV.sl none 1 (byteEls [])], [AV.sl none 1 (byteEls b)]] :=
 leE.cons (leL.cons (le_nil 1) leL.nil) rfl (leE.cons (leL.refl _) rfl leE.nil)
theorem clA_calls (s : FSt) (name b : B) (hb : b.length < 100000000) (hg : (gF s.fs name).b.length < 100000000) {R} (h : R (.tup []) [.cells 26 [.ptr 1 0], fsC ⟨(addF name b) s.fs, s.fail, s.fall, s.down⟩ 2, fsM ⟨(addF name b) s.fs, s.fail, s.fall, s.down⟩, .cells 82 [.sl none 1 (byteEls b)]]) :
  ACalls Tryz.prog 138 [.ptr 0 0, .cptr [vs name] 0, .ptr 3 0] [.cells 26 [.ptr 1 0], fsC s 2, fsM s, .cells 82 [.sl none 1 (byteEls b)]] R := by
 refine acalls_of_xwp (an := an138) tab_ok Tryz.func138 ?_
 conv => whnf
 rw [amap_find]
 cases e : lk s.fs name with
 | none =>
  have e0 : gF s.fs name = flZ := by simp [gF, e]
  have e1 : addF name b s.fs = pt s.fs name ⟨[] ++ b, 0⟩ := by unfold addF; rw [e0]; rfl
  conv => whnf
  refine ACalls.args (leL.cons (le_sl _ _ le_two) leL.nil) (Concat_calls [] b (by simp) hb ?_)
  conv => whnf
  rw [show AV.agg (List.map AV.strip [AV.sl none 1 (byteEls ([] ++ b)), AV.val (Value.int IntKind.i64 0)]) = fEnc ⟨[] ++ b, 0⟩ from rfl, amap_put, ← e1]
  conv => whnf
  exact h
 | some v =>
  have e0 : gF s.fs name = v := by simp [gF, e]
  rw [e0] at hg
  have e1 : addF name b s.fs = pt s.fs name ⟨v.b ++ b, v.safe⟩ := by unfold addF; rw [e0]
  conv => whnf
  refine Concat_calls v.b b hg hb ?_
  conv => whnf
  rw [show AV.agg (List.map AV.strip [AV.sl none 1 (byteEls (v.b ++ b)), AV.val (Value.int IntKind.i64 v.safe)]) = fEnc ⟨v.b ++ b, v.safe⟩ from rfl, amap_put, ← e1]
  conv => whnf
  exact h
theorem actA_calls (s : FSt) (name b : B) (hb : b.length < 100000000) (hg : (gF s.fs name).b.length < 100000000) (late : Bool) (h1 : okN s.fail) (h2 : okN s.fall) {R} (h : R (vi (s.act late (addF name b)).2) (fsC (s.act late (addF name b)).1 1 :: fsM (s.act late (addF name b)).1 :: [.cells 26 [.ptr 0 0], .cells 82 [.sl none 1 (byteEls b)]])) :
  ACalls Tryz.prog 93 [.ptr 0 0, .val (.bool late), .fn (.func 138) [] [.ptr 2 0, .cptr [vs name] 0, .ptr 3 0]] (fsC s 1 :: fsM s :: [.cells 26 [.ptr 0 0], .cells 82 [.sl none 1 (byteEls b)]]) R := by
 refine acalls_of_xwp (an := an93) tab_ok Tryz.func93 ?_
 conv => whnf
 refine count_calls s.fail h1 ?_
 conv => whnf
 refine count_calls s.fall h2 ?_
 conv => whnf
 refine br_intro (fun g => ?_) (fun g => ?_)
 ·have g : s.fall = 0 := by simpa using g
  conv => whnf
  refine br_intro (fun g2 => ?_) (fun g2 => ?_)
  ·have g2 : late = true := g2
   rw [show s.act late (addF name b) = (⟨(addF name b) s.fs, cnt s.fail, cnt s.fall, true⟩, 7) by simp [FSt.act, g, g2]] at h
   conv => whnf
   refine clA_calls ⟨s.fs, cnt s.fail, cnt s.fall, true⟩ name b hb hg ?_
   conv => whnf
   exact h
  ·have g2 : late = false := g2
   rw [show s.act late (addF name b) = (⟨s.fs, cnt s.fail, cnt s.fall, true⟩, 7) by simp [FSt.act, g, g2]] at h
   conv => whnf
   exact h
 have g : s.fall ≠ 0 := by simpa using g
 conv => whnf
 refine br_intro (fun g2 => ?_) (fun g2 => ?_)
 ·have g2 : s.fail = 0 := by simpa using g2
  rw [show s.act late (addF name b) = (⟨s.fs, cnt s.fail, cnt s.fall, s.down⟩, 8) by simp [FSt.act, g, g2]] at h
  conv => whnf
  exact h
 have g2 : s.fail ≠ 0 := by simpa using g2
 rw [show s.act late (addF name b) = (⟨(addF name b) s.fs, cnt s.fail, cnt s.fall, s.down⟩, 0) by simp [FSt.act, g, g2]] at h
 conv => whnf
 refine clA_calls ⟨s.fs, cnt s.fail, cnt s.fall, s.down⟩ name b hb hg ?_
 conv => whnf
 exact h
theorem clS_calls (s : FSt) (name : B) (v : Fl) (hv : gF s.fs name = v) {R} (h : R (.tup []) [.cells 121 [.sl none 1 (byteEls v.b), vi v.safe], .cells 26 [.ptr 2 0], fsC ⟨(syncF name) s.fs, s.fail, s.fall, s.down⟩ 3, fsM ⟨(syncF name) s.fs, s.fail, s.fall, s.down⟩]) :
  ACalls Tryz.prog 103 [.ptr 0 0, .ptr 1 0, .cptr [vs name] 0] [.cells 121 [.sl none 1 (byteEls v.b), vi v.safe], .cells 26 [.ptr 2 0], fsC s 3, fsM s] R := by
 refine acalls_of_xwp (an := an103) tab_ok Tryz.func103 ?_
 have hl := bel_length v.b
 have e1 : syncF name s.fs = pt s.fs name ⟨v.b, v.b.length⟩ := by unfold syncF; rw [hv]
 conv => whnf
 show R (.tup []) [.cells 121 [.sl none 1 (byteEls v.b), vi v.safe], .cells 26 [.ptr 2 0], fsC s 3, .map (mapPut (amap fEnc s.fs) (ofB name) (.agg [.sl none 1 (byteEls v.b), vi ((byteEls v.b).length : Nat)]))]
 rw [hl, show AV.agg [.sl none 1 (byteEls v.b), vi (v.b.length : Nat)] = fEnc ⟨v.b, v.b.length⟩ from rfl, amap_put, ← e1]
 exact h
theorem actS_calls (s : FSt) (name : B) (v : Fl) (hv : gF s.fs name = v) (late : Bool) (h1 : okN s.fail) (h2 : okN s.fall) {R} (h : R (vi (s.act late (syncF name)).2) (fsC (s.act late (syncF name)).1 1 :: fsM (s.act late (syncF name)).1 :: [.cells 121 [.sl none 1 (byteEls v.b), vi v.safe], .cells 26 [.ptr 0 0]])) :
  ACalls Tryz.prog 93 [.ptr 0 0, .val (.bool late), .fn (.func 103) [] [.ptr 2 0, .ptr 3 0, .cptr [vs name] 0]] (fsC s 1 :: fsM s :: [.cells 121 [.sl none 1 (byteEls v.b), vi v.safe], .cells 26 [.ptr 0 0]]) R := by
 refine acalls_of_xwp (an := an93) tab_ok Tryz.func93 ?_
 conv => whnf
 refine count_calls s.fail h1 ?_
 conv => whnf
 refine count_calls s.fall h2 ?_
 conv => whnf
 refine br_intro (fun g => ?_) (fun g => ?_)
 ·have g : s.fall = 0 := by simpa using g
  conv => whnf
  refine br_intro (fun g2 => ?_) (fun g2 => ?_)
  ·have g2 : late = true := g2
   rw [show s.act late (syncF name) = (⟨(syncF name) s.fs, cnt s.fail, cnt s.fall, true⟩, 7) by simp [FSt.act, g, g2]] at h
   conv => whnf
   refine clS_calls ⟨s.fs, cnt s.fail, cnt s.fall, true⟩ name v hv ?_
   conv => whnf
   exact h
  ·have g2 : late = false := g2
   rw [show s.act late (syncF name) = (⟨s.fs, cnt s.fail, cnt s.fall, true⟩, 7) by simp [FSt.act, g, g2]] at h
   conv => whnf
   exact h
 have g : s.fall ≠ 0 := by simpa using g
 conv => whnf
 refine br_intro (fun g2 => ?_) (fun g2 => ?_)
 ·have g2 : s.fail = 0 := by simpa using g2
  rw [show s.act late (syncF name) = (⟨s.fs, cnt s.fail, cnt s.fall, s.down⟩, 8) by simp [FSt.act, g, g2]] at h
  conv => whnf
  exact h
 have g2 : s.fail ≠ 0 := by simpa using g2
 rw [show s.act late (syncF name) = (⟨(syncF name) s.fs, cnt s.fail, cnt s.fall, s.down⟩, 0) by simp [FSt.act, g, g2]] at h
 conv => whnf
 refine clS_calls ⟨s.fs, cnt s.fail, cnt s.fall, s.down⟩ name v hv ?_
 conv => whnf
 exact h
theorem clR_calls (s : FSt) (a b : B) (hka : a ∈ kys s.fs) {R} (h : R (.tup []) [.cells 26 [.ptr 1 0], fsC ⟨(renF a b) s.fs, s.fail, s.fall, s.down⟩ 2, fsM ⟨(renF a b) s.fs, s.fail, s.fall, s.down⟩]) :
  ACalls Tryz.prog 140 [.ptr 0 0, .cptr [vs a] 0, .cptr [vs b] 0] [.cells 26 [.ptr 1 0], fsC s 2, fsM s] R := by
 refine acalls_of_xwp (an := an140) tab_ok Tryz.func140 ?_
 obtain ⟨v, e⟩ := lk_mem hka
 have e0 : gF s.fs a = v := by simp [gF, e]
 have e1 : renF a b s.fs = pt (dl s.fs a) b v := by unfold renF; rw [e0]
 conv => whnf
 rw [amap_find, e]
 conv => whnf
 rw [amap_del]
 conv => whnf
 rw [show AV.agg (List.map AV.strip [AV.sl none 1 (byteEls v.b), AV.val (Value.int IntKind.i64 v.safe)]) = fEnc v from rfl, amap_put, ← e1]
 conv => whnf
 exact h
theorem actR_calls (s : FSt) (a b : B) (hka : a ∈ kys s.fs) (late : Bool) (h1 : okN s.fail) (h2 : okN s.fall) {R} (h : R (vi (s.act late (renF a b)).2) (fsC (s.act late (renF a b)).1 1 :: fsM (s.act late (renF a b)).1 :: [.cells 26 [.ptr 0 0]])) :
  ACalls Tryz.prog 93 [.ptr 0 0, .val (.bool late), .fn (.func 140) [] [.ptr 2 0, .cptr [vs a] 0, .cptr [vs b] 0]] (fsC s 1 :: fsM s :: [.cells 26 [.ptr 0 0]]) R := by
 refine acalls_of_xwp (an := an93) tab_ok Tryz.func93 ?_
 conv => whnf
 refine count_calls s.fail h1 ?_
 conv => whnf
 refine count_calls s.fall h2 ?_
 conv => whnf
 refine br_intro (fun g => ?_) (fun g => ?_)
 ·have g : s.fall = 0 := by simpa using g
  conv => whnf
  refine br_intro (fun g2 => ?_) (fun g2 => ?_)
  ·have g2 : late = true := g2
   rw [show s.act late (renF a b) = (⟨(renF a b) s.fs, cnt s.fail, cnt s.fall, true⟩, 7) by simp [FSt.act, g, g2]] at h
   conv => whnf
   refine clR_calls ⟨s.fs, cnt s.fail, cnt s.fall, true⟩ a b hka ?_
   conv => whnf
   exact h
  ·have g2 : late = false := g2
   rw [show s.act late (renF a b) = (⟨s.fs, cnt s.fail, cnt s.fall, true⟩, 7) by simp [FSt.act, g, g2]] at h
   conv => whnf
   exact h
 have g : s.fall ≠ 0 := by simpa using g
 conv => whnf
 refine br_intro (fun g2 => ?_) (fun g2 => ?_)
 ·have g2 : s.fail = 0 := by simpa using g2
  rw [show s.act late (renF a b) = (⟨s.fs, cnt s.fail, cnt s.fall, s.down⟩, 8) by simp [FSt.act, g, g2]] at h
  conv => whnf
  exact h
 have g2 : s.fail ≠ 0 := by simpa using g2
 rw [show s.act late (renF a b) = (⟨(renF a b) s.fs, cnt s.fail, cnt s.fall, s.down⟩, 0) by simp [FSt.act, g, g2]] at h
 conv => whnf
 refine clR_calls ⟨s.fs, cnt s.fail, cnt s.fall, s.down⟩ a b hka ?_
 conv => whnf
 exact h
theorem clD_calls (s : FSt) (name : B) {R} (h : R (.tup []) [.cells 26 [.ptr 1 0], fsC ⟨(fun m => dl m name) s.fs, s.fail, s.fall, s.down⟩ 2, fsM ⟨(fun m => dl m name) s.fs, s.fail, s.fall, s.down⟩]) :
  ACalls Tryz.prog 94 [.ptr 0 0, .cptr [vs name] 0] [.cells 26 [.ptr 1 0], fsC s 2, fsM s] R := by
 refine acalls_of_xwp (an := an94) tab_ok Tryz.func94 ?_
 conv => whnf
 rw [amap_del]
 conv => whnf
 exact h
theorem actD_calls (s : FSt) (name : B) (late : Bool) (h1 : okN s.fail) (h2 : okN s.fall) {R} (h : R (vi (s.act late (fun m => dl m name)).2) (fsC (s.act late (fun m => dl m name)).1 1 :: fsM (s.act late (fun m => dl m name)).1 :: [.cells 26 [.ptr 0 0]])) :
  ACalls Tryz.prog 93 [.ptr 0 0, .val (.bool late), .fn (.func 94) [] [.ptr 2 0, .cptr [vs name] 0]] (fsC s 1 :: fsM s :: [.cells 26 [.ptr 0 0]]) R := by
 refine acalls_of_xwp (an := an93) tab_ok Tryz.func93 ?_
 conv => whnf
 refine count_calls s.fail h1 ?_
 conv => whnf
 refine count_calls s.fall h2 ?_
 conv => whnf
 refine br_intro (fun g => ?_) (fun g => ?_)
 ·have g : s.fall = 0 := by simpa using g
  conv => whnf
  refine br_intro (fun g2 => ?_) (fun g2 => ?_)
  ·have g2 : late = true := g2
   rw [show s.act late (fun m => dl m name) = (⟨(fun m => dl m name) s.fs, cnt s.fail, cnt s.fall, true⟩, 7) by simp [FSt.act, g, g2]] at h
   conv => whnf
   refine clD_calls ⟨s.fs, cnt s.fail, cnt s.fall, true⟩ name ?_
   conv => whnf
   exact h
  ·have g2 : late = false := g2
   rw [show s.act late (fun m => dl m name) = (⟨s.fs, cnt s.fail, cnt s.fall, true⟩, 7) by simp [FSt.act, g, g2]] at h
   conv => whnf
   exact h
 have g : s.fall ≠ 0 := by simpa using g
 conv => whnf
 refine br_intro (fun g2 => ?_) (fun g2 => ?_)
 ·have g2 : s.fail = 0 := by simpa using g2
  rw [show s.act late (fun m => dl m name) = (⟨s.fs, cnt s.fail, cnt s.fall, s.down⟩, 8) by simp [FSt.act, g, g2]] at h
  conv => whnf
  exact h
 have g2 : s.fail ≠ 0 := by simpa using g2
 rw [show s.act late (fun m => dl m name) = (⟨(fun m => dl m name) s.fs, cnt s.fail, cnt s.fall, s.down⟩, 0) by simp [FSt.act, g, g2]] at h
 conv => whnf
 refine clD_calls ⟨s.fs, cnt s.fail, cnt s.fall, s.down⟩ name ?_
 conv => whnf
 exact h
def flE (p : B × Fl) : List AV := [vs p.1, vs p.2.b, vi (p.2.safe : Int)]
def flsR (m : FM) : List (List AV) := m.map flE
theorem flsR_length (m : FM) : (flsR m).length = m.length := by simp [flsR]
def fsR (s : FSt) : List AV := [.sl none 3 (flsR s.fs), vi s.fail, vi s.fall, .val (.bool s.down)]
theorem rNew_calls {R} (h : R (.agg (fsR fs0)) []) : ACalls Tryz.prog 41 [] [] R := by
 refine ACalls.res ?_
 refine acalls_of_xwp (an := an41) tab_ok Tryz.func41 ?_
 conv => whnf
 exact res_le (le_agg (leL.cons (le_nil 3) (leL.refl _))) rfl h
theorem lk_drop {m : FM} {n : B} : ∀ i, (∀ p ∈ m.take i, p.1 ≠ n) → lk m n = lk (m.drop i) n := by
 induction m with
 | nil => intro i h; simp
 | cons a m ih =>
  intro i h
  cases i with
  | zero => rfl
  | succ i =>
   obtain ⟨x, f⟩ := a
   have h1 : x ≠ n := h (x, f) (by simp)
   rw [List.drop_succ_cons, ← ih i fun p hp => h p (by simp [hp])]
   simp [lk, h1]
theorem lk_hit {m : FM} {n : B} {i : Nat} (hi : i < m.length) (h : ∀ p ∈ m.take i, p.1 ≠ n) (he : m[i].1 = n) : lk m n = some m[i].2 := by
 rw [lk_drop i h, List.drop_eq_getElem_cons hi]
 simp [lk, he]
theorem take_snoc_ne {m : FM} {n : B} {i : Nat} (hi : i < m.length) (h : ∀ p ∈ m.take i, p.1 ≠ n) (he : m[i].1 ≠ n) : ∀ p ∈ m.take (i + 1), p.1 ≠ n := by
 intro p hp
 rw [List.take_succ_eq_append_getElem hi] at hp
 rcases List.mem_append.1 hp with hp | hp
 ·exact h p hp
 ·rw [List.mem_singleton.1 hp]; exact he
theorem rGet_calls (s : FSt) (hl : s.fs.length < 1000000) (n : B) {R} (h : R (.tup [.agg (flE (n, gF s.fs n)), .val (.bool (decide (n ∈ kys s.fs)))]) []) : ACalls Tryz.prog 56 [.agg (fsR s), vs n] [] R := by
 refine acalls_of_xwp (an := an56) tab_ok Tryz.func56 ?_
 have hsl := flsR_length s.fs
 generalize hm : s.fs = m at hl hsl h
 conv => whnf
 rw [hm]
 refine LoopP.ind1 (fun (i : Nat) => [(6, vi i)]) (fun _ => [(nameOf 4, .cells 107 [vs [], vs [], vi 0])]) (fun i => m.length - i) (fun i => i ≤ m.length ∧ ∀ p ∈ m.take i, p.1 ≠ n) 0 rfl ⟨by omega, by simp⟩ ?_
 rintro i ⟨h0, h1⟩ IH
 conv => whnf
 refine br_intro (fun hc => ?_) (fun hc => ?_)
 ·have hi := lt_of_decE hsl hc
  (conv => whnf); (repeat ((with_reducible refine must_intro ?_ ?_); exact decide_eq_true (by omega); (conv => whnf)))
  refine idxK_map_intro (show (i : Int).toNat < m.length by simpa using hi) ?_
  rw [show m[(i : Int).toNat]'(by simpa using hi) = m[i] from by congr 1]
  have hit := lk_hit hi h1
  have hne := take_snoc_ne hi h1
  have hmi : m[i] ∈ m := List.getElem_mem hi
  generalize hp : m[i] = p at hit hne hmi
  obtain ⟨x, f⟩ := p
  conv => whnf
  refine br_intro (fun g => ?_) (fun g => ?_)
  ·have g : x = n := ofB_inj (of_decide_eq_true g)
   subst g
   have e1 : gF m x = f := by unfold gF; rw [hit rfl]; rfl
   have e2 : decide (x ∈ kys m) = true := decide_eq_true (lk_key (hit rfl))
   rw [e1, e2] at h
   (conv => whnf); (repeat ((with_reducible refine must_intro ?_ ?_); exact decide_eq_true (by omega); (conv => whnf)))
   refine idxK_map_intro (show (i : Int).toNat < m.length by simpa using hi) ?_
   rw [show m[(i : Int).toNat]'(by simpa using hi) = m[i] from by congr 1, hp]
   conv => whnf
   exact h
  ·have g : x ≠ n := fun e => by subst e; exact of_decide_eq_false g rfl
   have IH := IH (i + 1) ⟨hi, hne g⟩ (by omega)
   conv => whnf
   rw [i64_nat (by omega)]
   exact IH
 ·have hi := ge_of_decE hsl hc
  rw [List.take_of_length_le hi] at h1
  have hn : n ∉ kys m := fun hx => by
   obtain ⟨p, hp, e⟩ := List.mem_map.1 hx
   exact h1 p hp e
  rw [decide_eq_false hn, show gF m n = flZ from by unfold gF; rw [lk_none.2 hn]; rfl] at h
  conv => whnf
  exact h
theorem rNames_calls13 (s : FSt) (hl : s.fs.length < 1000000) {R} (h : R (.sl none 1 (strs (kys s.fs))) []) : ACalls Tryz.prog 55 [.agg (fsR s)] [] R := by
 refine acalls_of_xwp (an := an55) tab_ok Tryz.func55 ?_
 have hsl := flsR_length s.fs
 generalize hm : s.fs = m at hl hsl h
 conv => whnf
 rw [hm]
 refine LoopP.ind1 (fun (i : Nat) => [(3, .sl (some (nameOf 5)) 1 (strs (kys (m.take i)))), (4, vi i)]) (fun i => [(nameOf 5, .row 9 1 i)]) (fun i => m.length - i) (fun i => i ≤ m.length) 0 rfl (by omega) ?_
 rintro i h0 IH
 have hst : (strs (kys (m.take i))).length = i := by rw [strs_length]; simp [kys]; omega
 conv => whnf
 refine br_intro (fun hc => ?_) (fun hc => ?_)
 ·have hi := lt_of_decE hsl hc
  have IH := IH (i + 1) hi (by omega)
  rw [show kys (m.take (i + 1)) = kys (m.take i) ++ [m[i].1] from by unfold kys; rw [List.take_succ_eq_append_getElem hi, List.map_append]; rfl, strs_append] at IH
  (conv => whnf); (repeat ((with_reducible refine must_intro ?_ ?_); exact decide_eq_true (by omega); (conv => whnf)))
  refine idxK_map_intro (show (i : Int).toNat < m.length by simpa using hi) ?_
  rw [show m[(i : Int).toNat]'(by simpa using hi) = m[i] from by congr 1]
  generalize m[i] = p at IH ⊢
  obtain ⟨x, f⟩ := p
  conv => whnf
  refine ⟨hst.symm, by rw [hst, bytes_str]; simp; omega, ?_⟩
  conv => whnf
  rw [i64_nat (by omega), hst]
  exact IH
 ·have hi := ge_of_decE hsl hc
  rw [List.take_of_length_le hi]
  conv => whnf
  exact h
end Go.Abs
end
section
namespace Go.Abs
open Go Go.Proofs
theorem ACalls.freeze {P : Program} {f : FuncId} {args : List AV} {R : AV → List AObj → Prop} {t : TypeId} {sz ver : Nat} {l : List (List AV)} {cs : List AV} (hcs : noNames.go cs = true) (hnm : namesL cs = [])
  (hc : ACalls P f args [] fun r os => r = .agg (.slv 0 sz ver 0 l.length :: cs) ∧ os = [.vec t sz l ver]) (h : R (.agg (.sl none sz l :: cs)) []) : ACalls P f args [] R := by
 refine ⟨fun G w vals hW hA => (hc.run G w vals hW hA).mono ?_⟩
 rintro e w' ⟨v, r, os', G', h1, ⟨rfl, rfl⟩, h3, h4, h5, h6, h7, _, _⟩
 have hno : ∀ n b, ¬ G.at n b := fun n b hb => by
  rcases hb with hb | ⟨u, t', hb, _⟩ <;> (obtain ⟨o, ho⟩ := hW.dom _ _ hb; cases ho)
 obtain ⟨u, xs, o1, o2, o3, o4, o5⟩ := h4.obj 0 (.vec t sz l ver) rfl
 have hK0 : ∀ b o v, G'.K b o = some v → rowK G'.K u xs b o = some v := fun b o v e => by
  by_cases hb : some b = u.ownBlock
  ·rw [o5 b hb.symm o] at e; cases e
  ·simp [rowK, hb, e]
 simp only [Rep, RepL] at h3
 obtain ⟨vs, rfl, x, us, rfl, ⟨⟨A, c, rfl, _, hlc⟩, u', top, e1, e2, e3⟩, hus⟩ := h3
 rw [o1] at e1
 injection e1 with e1
 injection e1 with e1 e1'
 subst e1 e1'
 obtain ⟨A0, L, c0, A', hu, hL, hLc, hv, hA0, hgg⟩ := e3 rfl
 refine ⟨_, .agg (.sl none sz l :: cs), [], ⟨rowK G'.K u xs, fun _ => none⟩, h1, h, ?_, ⟨?_, ?_, ?_, ?_, h4.glob.mono hK0⟩, ⟨fun b o v e => hK0 _ _ _ (h5.K _ _ _ e), fun n b e => ?_, fun n u t e => ?_⟩, ⟨h6.os, h6.tape, h6.output, h6.size, h6.block, fun b o hb hT => ?_⟩, ?_, ?_, ?_⟩
 ·simp only [Rep]
  refine ⟨_, rfl, ?_⟩
  simp only [RepL]
  refine ⟨_, _, rfl, ?_, RepL.nameless (G := G') hK0 _ _ hcs hus⟩
  simp only [Rep]
  refine ⟨⟨A, c, rfl, hlc, ?_⟩, trivial⟩
  by_cases hl0 : l = []
  ·subst hl0; simp [RepE]
  ·obtain ⟨g, hg1, hg2⟩ := hgg (fun e => hl0 (List.eq_nil_of_length_eq_zero e))
   injection hv with hv1 hv2 hv3
   rw [hv1, hg2, Nat.zero_mul]
   refine RepE.of_flat (RepL.nameless (G := G') hK0 _ _ (go_flatten o4) o3) o4 fun j v hj => ?_
   have : some g = u.ownBlock := by rw [hu, hg1]; rfl
   simp only [rowK, this, if_true]
   simpa using hj
 ·intro b o v e
  have e : rowK G'.K u xs b o = some v := e
  by_cases hb : some b = u.ownBlock
  ·simp only [rowK, hb, if_true] at e
   exact row_vals (K := G'.K) o2 hb e
  ·simp only [rowK, hb, if_false] at e
   exact h4.know _ _ _ e
 ·intro n o e; cases e
 ·intro n g e; cases e
 ·intro n m b e
  rcases e with e | ⟨u, t', e, _⟩ <;> cases e
 ·exact absurd (.inl e) (hno n b)
 ·obtain ⟨o, ho⟩ := hW.dom _ _ e; cases ho
 ·show rowK G'.K u xs b o = _
  have hne : some b ≠ u.ownBlock := fun e => by
   rcases h7 0 b (.inr ⟨u, ver, o1, e.symm⟩) with ⟨m, hm⟩ | hm
   ·exact hno m b hm
   ·omega
  simp only [rowK, hne, if_false]
  exact h6.knew b o hb hT
 ·intro n b e
  rcases e with e | ⟨u, t', e, _⟩ <;> cases e
 ·intro i o e; cases e
 ·intro m hm
  exfalso
  simp only [AV.names, namesL, hnm] at hm
  cases hm
end Go.Abs
end
section
namespace Go.Abs
open Go Go.Proofs
attribute [local irreducible] ibits byteAt strLt firstIdx
theorem bytes_fl : (tab.ti 107).bytes = 40 := rfl
def wF (m : FM) (n : B) : FM := m.filter fun p => decide (p.1 ≠ n)
theorem wF_snoc {m : FM} {n : B} {i : Nat} (hi : i < m.length) : wF (m.take (i + 1)) n = wF (m.take i) n ++ if m[i].1 = n then [] else [m[i]] := by
 unfold wF
 rw [List.take_succ_eq_append_getElem hi, List.filter_append]
 congr 1
 by_cases h : m[i].1 = n
 ·simp [h]
 ·simp [h]
theorem wF_len (m : FM) (n : B) (i : Nat) : (wF (m.take i) n).length ≤ i := by
 unfold wF
 have := List.length_filter_le (fun p : B × Fl => decide (p.1 ≠ n)) (m.take i)
 rw [List.length_take] at this
 omega
theorem flsR_append (l m : FM) : flsR (l ++ m) = flsR l ++ flsR m := by simp [flsR]
theorem withoutF_calls (s : FSt) (hl : s.fs.length < 1000000) (n : B) {R} (h : R (.agg (fsR ⟨wF s.fs n, s.fail, s.fall, s.down⟩)) []) : ACalls Tryz.prog 110 [.agg (fsR s), vs n] [] R := by
 refine acalls_of_xwp (an := an110) tab_ok Tryz.func110 ?_
 have hsl := flsR_length s.fs
 generalize hm : s.fs = m at hl hsl h
 conv => whnf
 rw [hm]
 refine LoopP.ind2 (fun (i : Nat) (o : FM) => [(5, .sl (some (nameOf 7)) 3 (flsR o)), (6, vi i)]) (fun i o => [(nameOf 2, .cells 30 [.sl none 3 (flsR m), vi s.fail, vi s.fall, .val (.bool s.down)]), (nameOf 4, .cells 30 [.val (.slice none 0 0), vi 0, vi 0, .val (.bool false)]), (nameOf 7, .row 107 3 o.length)]) (fun i _ => m.length - i) (fun i o => i ≤ m.length ∧ o = wF (m.take i) n) 0 [] rfl ⟨by omega, rfl⟩ ?_
 rintro i o ⟨h0, ho⟩ IH
 have hst := flsR_length o
 have hol := wF_len m n i
 rw [← ho] at hol
 conv => whnf
 refine br_intro (fun hc => ?_) (fun hc => ?_)
 ·have hi := lt_of_decE hsl hc
  have hsn := wF_snoc (n := n) hi
  rw [← ho] at hsn
  (conv => whnf); (repeat ((with_reducible refine must_intro ?_ ?_); exact decide_eq_true (by omega); (conv => whnf)))
  refine idxK_map_intro (show (i : Int).toNat < m.length by simpa using hi) ?_
  rw [show m[(i : Int).toNat]'(by simpa using hi) = m[i] from by congr 1]
  generalize hp : m[i] = p at hsn
  obtain ⟨x, f⟩ := p
  conv => whnf
  refine br_intro (fun g => ?_) (fun g => ?_)
  ·have g : x ≠ n := fun e => by
    have g : (!decide (ofB x = ofB n)) = true := g
    rw [e] at g
    simp at g
   rw [if_neg g] at hsn
   have IH := IH (i + 1) _ ⟨hi, hsn.symm⟩ (by omega)
   rw [flsR_append, List.length_append] at IH
   (conv => whnf); (repeat ((with_reducible refine must_intro ?_ ?_); exact decide_eq_true (by omega); (conv => whnf)))
   refine idxK_map_intro (show (i : Int).toNat < m.length by simpa using hi) ?_
   rw [show m[(i : Int).toNat]'(by simpa using hi) = m[i] from by congr 1, hp]
   conv => whnf
   refine ⟨hst.symm, by rw [hst, bytes_fl]; simp only [List.length_cons, List.length_nil]; omega, ?_⟩
   conv => whnf
   rw [i64_nat (by omega)]
   rw [hst]
   exact IH
  ·have g : x = n := by
    have g : (!decide (ofB x = ofB n)) = false := g
    refine ofB_inj ?_
    simpa using g
   rw [if_pos g, List.append_nil] at hsn
   have IH := IH (i + 1) o ⟨hi, hsn.symm⟩ (by omega)
   conv => whnf
   rw [i64_nat (by omega)]
   exact IH
 ·have hi := ge_of_decE hsl hc
  rw [List.take_of_length_le hi] at ho
  subst ho
  conv => whnf
  exact h
theorem withoutV_calls (s : FSt) (hl : s.fs.length < 1000000) (n : B) {R} (h : R (.agg [.slv 0 3 (wF s.fs n).length 0 (wF s.fs n).length, vi s.fail, vi s.fall, .val (.bool s.down)]) [.vec 107 3 (flsR (wF s.fs n)) (wF s.fs n).length]) : ACalls Tryz.prog 110 [.agg (fsR s), vs n] [] R := by
 refine acalls_of_xwp (an := { an110 with keepRes := true, frv := [(5, 7)] }) tab_ok Tryz.func110 ?_
 have hsl := flsR_length s.fs
 generalize hm : s.fs = m at hl hsl h
 conv => whnf
 rw [hm]
 refine LoopP.ind2 (fun (i : Nat) (o : FM) => [(5, .slv (nameOf 7) 3 o.length 0 o.length), (6, vi i)]) (fun i o => [(nameOf 2, .cells 30 [.sl none 3 (flsR m), vi s.fail, vi s.fall, .val (.bool s.down)]), (nameOf 4, .cells 30 [.val (.slice none 0 0), vi 0, vi 0, .val (.bool false)]), (nameOf 7, .vec 107 3 (flsR o) o.length)]) (fun i _ => m.length - i) (fun i o => i ≤ m.length ∧ o = wF (m.take i) n) 0 [] rfl ⟨by omega, rfl⟩ ?_
 rintro i o ⟨h0, ho⟩ IH
 have hst := flsR_length o
 have hol := wF_len m n i
 rw [← ho] at hol
 conv => whnf
 refine br_intro (fun hc => ?_) (fun hc => ?_)
 ·have hi := lt_of_decE hsl hc
  have hsn := wF_snoc (n := n) hi
  rw [← ho] at hsn
  (conv => whnf); (repeat ((with_reducible refine must_intro ?_ ?_); exact decide_eq_true (by omega); (conv => whnf)))
  refine idxK_map_intro (show (i : Int).toNat < m.length by simpa using hi) ?_
  rw [show m[(i : Int).toNat]'(by simpa using hi) = m[i] from by congr 1]
  generalize hp : m[i] = p at hsn
  obtain ⟨x, f⟩ := p
  conv => whnf
  refine br_intro (fun g => ?_) (fun g => ?_)
  ·have g : x ≠ n := fun e => by
    have g : (!decide (ofB x = ofB n)) = true := g
    rw [e] at g
    simp at g
   rw [if_neg g] at hsn
   have IH := IH (i + 1) _ ⟨hi, hsn.symm⟩ (by omega)
   rw [flsR_append, List.length_append] at IH
   (conv => whnf); (repeat ((with_reducible refine must_intro ?_ ?_); exact decide_eq_true (by omega); (conv => whnf)))
   refine idxK_map_intro (show (i : Int).toNat < m.length by simpa using hi) ?_
   rw [show m[(i : Int).toNat]'(by simpa using hi) = m[i] from by congr 1, hp]
   conv => whnf
   refine ⟨⟨rfl, rfl, by omega⟩, by rw [bytes_fl]; simp only [List.length_cons, List.length_nil]; omega, ?_⟩
   rw [List.take_of_length_le (show (flsR o).length ≤ o.length by omega)]
   conv => whnf
   rw [i64_nat (by omega)]
   exact IH
  ·have g : x = n := by
    have g : (!decide (ofB x = ofB n)) = false := g
    refine ofB_inj ?_
    simpa using g
   rw [if_pos g, List.append_nil] at hsn
   have IH := IH (i + 1) o ⟨hi, hsn.symm⟩ (by omega)
   conv => whnf
   rw [i64_nat (by omega)]
   exact IH
 ·have hi := ge_of_decE hsl hc
  rw [List.take_of_length_le hi] at ho
  subst ho
  conv => whnf
  exact h
def cutK (n : B) (w : FM) : Nat → Nat
 | 0 => 0
 | k + 1 => match w[k]? with
  | some p => if ltB n p.1 = true then cutK n w k else k + 1
  | none => k + 1
theorem cutK_le (n : B) (w : FM) : ∀ k, cutK n w k ≤ k := by
 intro k
 induction k with
 | zero => exact Nat.le_refl _
 | succ k ih =>
  unfold cutK
  split
  ·split
   ·omega
   ·omega
  ·omega
def rpt (m : FM) (n : B) (f : Fl) : FM := let w := wF m n; w.take (cutK n w w.length) ++ (n, f) :: w.drop (cutK n w w.length)
theorem rPut_calls (s : FSt) (hl : s.fs.length < 1000000) (hn : ∀ x ∈ kys s.fs, x.length < 1000000) (n : B) (f : Fl) (hnl : n.length < 1000000) {R} (h : R (.agg (fsR ⟨rpt s.fs n f, s.fail, s.fall, s.down⟩)) []) : ACalls Tryz.prog 143 [.agg (fsR s), .agg (flE (n, f))] [] R := by
 refine ACalls.freeze (t := 107) (sz := 3) (ver := (wF s.fs n).length + 2) (l := flsR (rpt s.fs n f)) (cs := [vi s.fail, vi s.fall, .val (.bool s.down)]) rfl rfl ?_ h
 clear h R
 refine acalls_of_xwp (an := { an143 with anyo := [6] }) tab_ok Tryz.func143 ?_
 conv => whnf
 refine withoutV_calls s hl n ?_
 have hwn : ∀ p ∈ wF s.fs n, p.1.length < 1000000 := fun p hp => hn p.1 (List.mem_map_of_mem (List.mem_filter.1 hp).1)
 have hwl : (wF s.fs n).length < 1000000 := Nat.lt_of_le_of_lt (List.length_filter_le _ _) hl
 unfold rpt
 generalize wF s.fs n = W at hwn hwl ⊢
 have hsl := flsR_length W
 conv => whnf
 refine LoopP.ind1 (fun (k : Nat) => [(5, vi k)]) (fun k => [(nameOf 2, .cells 30 [.slv (freshN 10 0) 3 W.length 0 W.length, vi s.fail, vi s.fall, .val (.bool s.down)]), (nameOf 4, .cells 30 [.val (.slice none 0 0), vi 0, vi 0, .val (.bool false)]), (freshN 10 0, .vec 107 3 (flsR W) W.length)]) (fun k => k) (fun k => k ≤ W.length ∧ cutK n W k = cutK n W W.length) W.length rfl ⟨Nat.le_refl _, rfl⟩ ?_
 rintro k ⟨h0, hk⟩ IH
 show _
 conv => whnf
 refine br_intro (fun g => ?_) (fun g => ?_)
 ·have g : 0 < k := by have := of_decide_eq_true g; omega
  obtain ⟨j, rfl⟩ : ∃ j, k = j + 1 := ⟨k - 1, by omega⟩
  have ej : IntKind.i64.wrap (((j + 1 : Nat) : Int) - 1) = (j : Int) := by rw [wrap_i64 (by omega) (by omega)]; omega
  have hj : j < W.length := by omega
  conv => whnf
  rw [ej]
  refine must_intro (decide_eq_true (by omega)) ?_
  conv => whnf
  refine ⟨rfl, idxK_map_intro (show 0 + (j : Int).toNat < W.length by simpa using hj) ?_⟩
  rw [show W[0 + (j : Int).toNat]'(by simpa using hj) = W[j] from by congr 1; omega]
  have hwj := hwn _ (List.getElem_mem hj)
  have hcut : cutK n W (j + 1) = if ltB n W[j].1 = true then cutK n W j else j + 1 := by
   conv => lhs; unfold cutK
   rw [List.getElem?_eq_getElem hj]
  generalize W[j] = p at hwj hcut
  obtain ⟨x, fx⟩ := p
  conv => whnf
  refine Less_calls n x hnl hwj fun q hq => ?_
  cases q with
  | true =>
   rw [show ltB n x = true from hq.symm, if_pos rfl] at hcut
   have IH := IH j ⟨by omega, by rw [← hcut]; exact hk⟩ (by omega)
   conv => whnf
   rw [ej]
   exact IH
  | false =>
   rw [show ltB n x = false from hq.symm, if_neg (by simp)] at hcut
   have hkk : cutK n W W.length = j + 1 := by rw [← hk, hcut]
   clear IH hcut hk hq hwj
   generalize j + 1 = k at hkk h0 ⊢
   clear ej
   conv => whnf
   refine must_intro (decide_eq_true (by omega)) ?_
   conv => whnf
   refine must_intro (decide_eq_true (Int.le_refl _)) ?_
   conv => whnf
   refine ⟨⟨rfl, rfl⟩, by rw [bytes_fl]; simp only [List.length_nil]; omega, ?_⟩
   have hrest : [] ++ List.take (((W.length : Nat) : Int).toNat - ((k : Nat) : Int).toNat) (List.drop (0 + ((k : Nat) : Int).toNat) (flsR W)) = flsR (W.drop k) := by
    rw [List.nil_append, Nat.zero_add, Int.toNat_natCast, Int.toNat_natCast, List.take_of_length_le (by rw [List.length_drop, hsl]; exact Nat.le_refl _)]
    simp [flsR, List.map_drop]
   rw [hrest]
   conv => whnf
   refine ⟨?_, trivial⟩
   conv => whnf
   refine must_intro (decide_eq_true (by omega)) ?_
   conv => whnf
   refine ⟨?_, trivial⟩
   conv => whnf
   refine ⟨⟨rfl, rfl, by rw [hsl, Int.toNat_natCast]; omega⟩, by rw [bytes_fl, Int.toNat_natCast]; simp only [List.length_cons, List.length_nil]; omega, ?_⟩
   conv => whnf
   have htk : List.take (((k : Nat) : Int).toNat - ((0 : Nat) : Int).toNat) (flsR W) = flsR (W.take k) := by
    rw [Int.toNat_natCast, Int.toNat_natCast, Nat.sub_zero]
    simp [flsR, List.map_take]
   have hr2 := flsR_length (W.drop k)
   have hr3 := flsR_length (W.take k)
   rw [List.length_drop] at hr2
   rw [List.length_take] at hr3
   refine ⟨?_, trivial⟩
   conv => whnf
   rw [htk]
   refine ⟨⟨rfl, rfl, by simp only [List.length_append, List.length_cons, List.length_nil, hr3, Int.toNat_natCast]; omega⟩, by rw [bytes_fl, Int.toNat_natCast]; simp only [List.length_cons, List.length_nil, hr2]; omega, ?_⟩
   conv => whnf
   refine ⟨?_, trivial⟩
   conv => whnf
   have e1 : ((k : Nat) : Int).toNat - ((0 : Nat) : Int).toNat + 1 + (flsR (W.drop k)).length = (flsR (W.take k ++ (n, f) :: W.drop k)).length := by
    rw [hr2, flsR_length, List.length_append, List.length_take, List.length_cons, List.length_drop, Int.toNat_natCast, Int.toNat_natCast]; omega
   have e2 : List.take (((k : Nat) : Int).toNat - ((0 : Nat) : Int).toNat + 1) (flsR (W.take k) ++ [flE (n, f)]) ++ flsR (W.drop k) = flsR (W.take k ++ (n, f) :: W.drop k) := by
    rw [List.take_of_length_le (by rw [List.length_append, hr3, List.length_singleton, Int.toNat_natCast, Int.toNat_natCast]; omega), flsR_append, List.append_assoc]
    rfl
   show AV.agg [.slv 0 3 (W.length + 2) 0 (((k : Nat) : Int).toNat - ((0 : Nat) : Int).toNat + 1 + (flsR (W.drop k)).length), vi s.fail, vi s.fall, .val (.bool s.down)] = .agg [.slv 0 3 (W.length + 2) 0 (flsR (W.take (cutK n W W.length) ++ (n, f) :: W.drop (cutK n W W.length))).length, vi s.fail, vi s.fall, .val (.bool s.down)] ∧
    [AObj.vec 107 3 (List.take (((k : Nat) : Int).toNat - ((0 : Nat) : Int).toNat + 1) (flsR (W.take k) ++ [flE (n, f)]) ++ flsR (W.drop k)) (W.length + 2)] = [AObj.vec 107 3 (flsR (W.take (cutK n W W.length) ++ (n, f) :: W.drop (cutK n W W.length))) (W.length + 2)]
   rw [hkk, e1, e2]
   exact ⟨rfl, rfl⟩
 ·have g : k = 0 := by have := of_decide_eq_false g; omega
  have hkk : cutK n W W.length = k := by rw [← hk, g]; rfl
  clear IH hk g
  conv => whnf
  refine must_intro (decide_eq_true (by omega)) ?_
  conv => whnf
  refine must_intro (decide_eq_true (Int.le_refl _)) ?_
  conv => whnf
  refine ⟨⟨rfl, rfl⟩, by rw [bytes_fl]; simp only [List.length_nil]; omega, ?_⟩
  have hrest : [] ++ List.take (((W.length : Nat) : Int).toNat - ((k : Nat) : Int).toNat) (List.drop (0 + ((k : Nat) : Int).toNat) (flsR W)) = flsR (W.drop k) := by
   rw [List.nil_append, Nat.zero_add, Int.toNat_natCast, Int.toNat_natCast, List.take_of_length_le (by rw [List.length_drop, hsl]; exact Nat.le_refl _)]
   simp [flsR, List.map_drop]
  rw [hrest]
  conv => whnf
  refine ⟨?_, trivial⟩
  conv => whnf
  refine must_intro (decide_eq_true (by omega)) ?_
  conv => whnf
  refine ⟨?_, trivial⟩
  conv => whnf
  refine ⟨⟨rfl, rfl, by rw [hsl, Int.toNat_natCast]; omega⟩, by rw [bytes_fl, Int.toNat_natCast]; simp only [List.length_cons, List.length_nil]; omega, ?_⟩
  conv => whnf
  have htk : List.take (((k : Nat) : Int).toNat - ((0 : Nat) : Int).toNat) (flsR W) = flsR (W.take k) := by
   rw [Int.toNat_natCast, Int.toNat_natCast, Nat.sub_zero]
   simp [flsR, List.map_take]
  have hr2 := flsR_length (W.drop k)
  have hr3 := flsR_length (W.take k)
  rw [List.length_drop] at hr2
  rw [List.length_take] at hr3
  refine ⟨?_, trivial⟩
  conv => whnf
  rw [htk]
  refine ⟨⟨rfl, rfl, by simp only [List.length_append, List.length_cons, List.length_nil, hr3, Int.toNat_natCast]; omega⟩, by rw [bytes_fl, Int.toNat_natCast]; simp only [List.length_cons, List.length_nil, hr2]; omega, ?_⟩
  conv => whnf
  refine ⟨?_, trivial⟩
  conv => whnf
  have e1 : ((k : Nat) : Int).toNat - ((0 : Nat) : Int).toNat + 1 + (flsR (W.drop k)).length = (flsR (W.take k ++ (n, f) :: W.drop k)).length := by
   rw [hr2, flsR_length, List.length_append, List.length_take, List.length_cons, List.length_drop, Int.toNat_natCast, Int.toNat_natCast]; omega
  have e2 : List.take (((k : Nat) : Int).toNat - ((0 : Nat) : Int).toNat + 1) (flsR (W.take k) ++ [flE (n, f)]) ++ flsR (W.drop k) = flsR (W.take k ++ (n, f) :: W.drop k) := by
   rw [List.take_of_length_le (by rw [List.length_append, hr3, List.length_singleton, Int.toNat_natCast, Int.toNat_natCast]; omega), flsR_append, List.append_assoc]
   rfl
  show AV.agg [.slv 0 3 (W.length + 2) 0 (((k : Nat) : Int).toNat - ((0 : Nat) : Int).toNat + 1 + (flsR (W.drop k)).length), vi s.fail, vi s.fall, .val (.bool s.down)] = .agg [.slv 0 3 (W.length + 2) 0 (flsR (W.take (cutK n W W.length) ++ (n, f) :: W.drop (cutK n W W.length))).length, vi s.fail, vi s.fall, .val (.bool s.down)] ∧
   [AObj.vec 107 3 (List.take (((k : Nat) : Int).toNat - ((0 : Nat) : Int).toNat + 1) (flsR (W.take k) ++ [flE (n, f)]) ++ flsR (W.drop k)) (W.length + 2)] = [AObj.vec 107 3 (flsR (W.take (cutK n W W.length) ++ (n, f) :: W.drop (cutK n W W.length))) (W.length + 2)]
  rw [hkk, e1, e2]
  exact ⟨rfl, rfl⟩
theorem cnt_ge {a : Int} (ha : okN a) (h : 0 ≤ a) : IntKind.i64.wrap (a - 1) = cnt a := by
 unfold okN at ha
 rw [wrap_i64 (by omega) (by omega)]
 unfold cnt
 rw [if_neg (by omega)]
theorem cnt_lt {a : Int} (ha : okN a) (h : ¬ 0 ≤ a) : a = cnt a := by
 unfold okN at ha
 unfold cnt
 rw [if_pos (by omega)]
 omega
theorem rAct_calls (s : FSt) (m : FM) (late : Bool) (h1 : okN s.fail) (h2 : okN s.fall) {R} (h : R (.tup [.agg (fsR (s.act late fun _ => m).1), vi (s.act late fun _ => m).2]) []) :
  ACalls Tryz.prog 109 [.agg (fsR s), .agg (fsR ⟨m, s.fail, s.fall, s.down⟩), .val (.bool late)] [] R := by
 refine acalls_of_xwp (an := { an109 with anyo := [5] }) tab_ok Tryz.func109 ?_
 unfold FSt.act at h
 obtain ⟨fs, fail, fall, down⟩ := s
 have h1 : okN fail := h1
 have h2 : okN fall := h2
 by_cases hfall : fall = 0
 ·subst hfall
  rw [if_pos rfl] at h
  have h : R (.tup [.agg (fsR ⟨if late then m else fs, cnt fail, -1, true⟩), vi 7]) [] := h
  cases late with
  | true =>
   have h : R (.tup [.agg (fsR ⟨m, cnt fail, -1, true⟩), vi 7]) [] := h
   conv => whnf
   repeat' first | exact trivial | apply And.intro | ((fail_if_success (refine br_true ?_ ?_)); (conv => whnf))
   all_goals
    refine br_intro (fun q2 => ?_) (fun q2 => ?_)
    ·have q2 : 0 ≤ fail := of_decide_eq_true q2
     rw [← cnt_ge h1 q2] at h
     conv => whnf
     exact h
    ·have q2 : ¬ 0 ≤ fail := of_decide_eq_false q2
     rw [← cnt_lt h1 q2] at h
     conv => whnf
     exact h
  | false =>
   have h : R (.tup [.agg (fsR ⟨fs, cnt fail, -1, true⟩), vi 7]) [] := h
   conv => whnf
   repeat' first | exact trivial | apply And.intro | ((fail_if_success (refine br_true ?_ ?_)); (conv => whnf))
   all_goals
    refine br_intro (fun q2 => ?_) (fun q2 => ?_)
    ·have q2 : 0 ≤ fail := of_decide_eq_true q2
     rw [← cnt_ge h1 q2] at h
     conv => whnf
     exact h
    ·have q2 : ¬ 0 ≤ fail := of_decide_eq_false q2
     rw [← cnt_lt h1 q2] at h
     conv => whnf
     exact h
 ·rw [if_neg hfall] at h
  have e8 : (fall == 0) = false := by simpa using hfall
  by_cases hfail : fail = 0
  ·subst hfail
   rw [if_pos rfl] at h
   have h : R (.tup [.agg (fsR ⟨fs, -1, cnt fall, down⟩), vi 8]) [] := h
   conv => whnf
   rw [e8]
   conv => whnf
   repeat' first | exact trivial | apply And.intro | ((fail_if_success (refine br_true ?_ ?_)); (conv => whnf))
   all_goals
    refine br_intro (fun q1 => ?_) (fun q1 => ?_)
    ·have q1 : 0 ≤ fall := of_decide_eq_true q1
     rw [← cnt_ge h2 q1] at h
     conv => whnf
     exact h
    ·have q1 : ¬ 0 ≤ fall := of_decide_eq_false q1
     rw [← cnt_lt h2 q1] at h
     conv => whnf
     exact h
  ·rw [if_neg hfail] at h
   have e9 : (fail == 0) = false := by simpa using hfail
   have h : R (.tup [.agg (fsR ⟨m, cnt fail, cnt fall, down⟩), vi 0]) [] := h
   conv => whnf
   rw [e8]
   conv => whnf
   rw [e9]
   conv => whnf
   repeat' first | exact trivial | apply And.intro | ((fail_if_success (refine br_true ?_ ?_)); (conv => whnf))
   all_goals
    refine br_intro (fun q1 => ?_) (fun q1 => ?_)
    ·have q1 : 0 ≤ fall := of_decide_eq_true q1
     rw [← cnt_ge h2 q1] at h
     conv => whnf
     refine br_intro (fun q2 => ?_) (fun q2 => ?_)
     ·have q2 : 0 ≤ fail := of_decide_eq_true q2
      rw [← cnt_ge h1 q2] at h
      conv => whnf
      exact h
     ·have q2 : ¬ 0 ≤ fail := of_decide_eq_false q2
      rw [← cnt_lt h1 q2] at h
      conv => whnf
      exact h
    ·have q1 : ¬ 0 ≤ fall := of_decide_eq_false q1
     rw [← cnt_lt h2 q1] at h
     conv => whnf
     refine br_intro (fun q2 => ?_) (fun q2 => ?_)
     ·have q2 : 0 ≤ fail := of_decide_eq_true q2
      rw [← cnt_ge h1 q2] at h
      conv => whnf
      exact h
     ·have q2 : ¬ 0 ≤ fail := of_decide_eq_false q2
      rw [← cnt_lt h1 q2] at h
      conv => whnf
      exact h
def rAdd (n b : B) (m : FM) : FM := rpt m n ⟨(gF m n).b ++ b, (gF m n).safe⟩
def rSyn (n : B) (m : FM) : FM := rpt m n ⟨(gF m n).b, (gF m n).b.length⟩
def rRen (a b : B) (m : FM) : FM := rpt (wF m a) b (gF m a)
def FSt.rappend (s : FSt) (n b : B) : FSt × Int := if s.down then (s, 7) else s.act true (rAdd n b)
def FSt.rsync (s : FSt) (n : B) : FSt × Int := if s.may n ≠ 0 then (s, s.may n) else s.act false (rSyn n)
def FSt.rrename (s : FSt) (a b : B) : FSt × Int := if s.may a ≠ 0 then (s, s.may a) else s.act false (rRen a b)
def FSt.rremove (s : FSt) (n : B) : FSt × Int := if s.may n ≠ 0 then (s, s.may n) else s.act false fun m => wF m n
theorem may_down {s : FSt} {n : B} (h : s.down = true) : s.may n = 7 := by unfold FSt.may; rw [if_pos h]
theorem may_none {s : FSt} {n : B} (h : s.down = false) (hn : n ∉ kys s.fs) : s.may n = 6 := by
 unfold FSt.may; rw [h, lk_none.2 hn]; rfl
theorem may_some {s : FSt} {n : B} (h : s.down = false) (hn : n ∈ kys s.fs) : s.may n = 0 := by
 unfold FSt.may
 obtain ⟨v, hv⟩ := lk_mem hn
 rw [h, hv]; rfl
structure ROk (s : FSt) : Prop where
 len : s.fs.length < 900000
 names : ∀ x ∈ kys s.fs, x.length < 1000000
 fail : okN s.fail
 fall : okN s.fall
theorem rAppend_calls (s : FSt) (hs : ROk s) (n b : B) (hn : n.length < 1000000) (hb : (gF s.fs n).b.length + b.length < 1000000000) {R} (h : R (.tup [.agg (fsR (s.rappend n b).1), vi (s.rappend n b).2]) []) : ACalls Tryz.prog 111 [.agg (fsR s), vs n, vs b] [] R := by
 refine acalls_of_xwp (an := an111) tab_ok Tryz.func111 ?_
 obtain ⟨h1, h2, h3, h4⟩ := hs
 obtain ⟨m, fail, fall, down⟩ := s
 cases down with
 | true =>
  conv => whnf
  exact h
 | false =>
  have h : R (.tup [.agg (fsR ((FSt.mk m fail fall false).act true fun _ => rAdd n b m).1), vi ((FSt.mk m fail fall false).act true fun _ => rAdd n b m).2]) [] := h
  conv => whnf
  refine rGet_calls ⟨m, fail, fall, false⟩ (by show m.length < _; have h1 : m.length < 900000 := h1; omega) n ?_
  conv => whnf
  have hb : (gF m n).b.length + b.length < 1000000000 := hb
  refine must_intro (decide_eq_true (by rw [size_ofB, size_ofB]; show (gF m n).b.length + b.length ≤ _; omega)) ?_
  rw [ofB_append]
  conv => whnf
  refine rPut_calls ⟨m, fail, fall, false⟩ (by show m.length < _; have h1 : m.length < 900000 := h1; omega) h2 n ⟨(gF m n).b ++ b, (gF m n).safe⟩ hn ?_
  conv => whnf
  refine rAct_calls ⟨m, fail, fall, false⟩ (rAdd n b m) true h3 h4 ?_
  generalize (FSt.mk m fail fall false).act true (fun _ => rAdd n b m) = se at h ⊢
  obtain ⟨s2, e⟩ := se
  conv => whnf
  exact h
theorem rSync_calls (s : FSt) (hs : ROk s) (n : B) (hn : n.length < 1000000) {R} (h : R (.tup [.agg (fsR (s.rsync n).1), vi (s.rsync n).2]) []) : ACalls Tryz.prog 112 [.agg (fsR s), vs n] [] R := by
 refine acalls_of_xwp (an := an112) tab_ok Tryz.func112 ?_
 obtain ⟨h1, h2, h3, h4⟩ := hs
 obtain ⟨m, fail, fall, down⟩ := s
 conv => whnf
 refine rGet_calls ⟨m, fail, fall, down⟩ (by show m.length < _; have h1 : m.length < 900000 := h1; omega) n ?_
 cases down with
 | true =>
  unfold FSt.rsync at h
  rw [if_pos (by rw [may_down rfl]; decide), may_down rfl] at h
  conv => whnf
  exact h
 | false =>
  by_cases hin : n ∈ kys m
  ·unfold FSt.rsync at h
   rw [if_neg (by rw [may_some rfl hin]; decide)] at h
   have h : R (.tup [.agg (fsR ((FSt.mk m fail fall false).act false fun _ => rSyn n m).1), vi ((FSt.mk m fail fall false).act false fun _ => rSyn n m).2]) [] := h
   rw [show decide (n ∈ kys (FSt.mk m fail fall false).fs) = true from decide_eq_true hin]
   conv => whnf
   rw [size_ofB]
   refine rPut_calls ⟨m, fail, fall, false⟩ (by show m.length < _; have h1 : m.length < 900000 := h1; omega) h2 n ⟨(gF m n).b, (gF m n).b.length⟩ hn ?_
   conv => whnf
   refine rAct_calls ⟨m, fail, fall, false⟩ (rSyn n m) false h3 h4 ?_
   generalize (FSt.mk m fail fall false).act false (fun _ => rSyn n m) = se at h ⊢
   obtain ⟨s2, e⟩ := se
   conv => whnf
   exact h
  ·unfold FSt.rsync at h
   rw [if_pos (by rw [may_none rfl hin]; decide), may_none rfl hin] at h
   rw [show decide (n ∈ kys (FSt.mk m fail fall false).fs) = false from decide_eq_false hin]
   conv => whnf
   exact h
theorem rRename_calls (s : FSt) (hs : ROk s) (n b : B) (hn : n.length < 1000000) (hb : b.length < 1000000) {R} (h : R (.tup [.agg (fsR (s.rrename n b).1), vi (s.rrename n b).2]) []) : ACalls Tryz.prog 113 [.agg (fsR s), vs n, vs b] [] R := by
 refine acalls_of_xwp (an := an113) tab_ok Tryz.func113 ?_
 obtain ⟨h1, h2, h3, h4⟩ := hs
 obtain ⟨m, fail, fall, down⟩ := s
 have h1 : m.length < 900000 := h1
 have hwl : (wF m n).length < 1000000 := Nat.lt_of_le_of_lt (List.length_filter_le _ _) (by omega)
 have hwn : ∀ x ∈ kys (wF m n), x.length < 1000000 := fun x hx => by
  obtain ⟨p, hp, rfl⟩ := List.mem_map.1 hx
  exact h2 p.1 (List.mem_map_of_mem (List.mem_filter.1 hp).1)
 conv => whnf
 refine rGet_calls ⟨m, fail, fall, down⟩ (by show m.length < _; omega) n ?_
 cases down with
 | true =>
  unfold FSt.rrename at h
  rw [if_pos (by rw [may_down rfl]; decide), may_down rfl] at h
  conv => whnf
  exact h
 | false =>
  by_cases hin : n ∈ kys m
  ·unfold FSt.rrename at h
   rw [if_neg (by rw [may_some rfl hin]; decide)] at h
   have h : R (.tup [.agg (fsR ((FSt.mk m fail fall false).act false fun _ => rRen n b m).1), vi ((FSt.mk m fail fall false).act false fun _ => rRen n b m).2]) [] := h
   rw [show decide (n ∈ kys (FSt.mk m fail fall false).fs) = true from decide_eq_true hin]
   conv => whnf
   refine withoutF_calls ⟨m, fail, fall, false⟩ (by show m.length < _; omega) n ?_
   conv => whnf
   refine rPut_calls ⟨wF m n, fail, fall, false⟩ hwl hwn b (gF m n) hb ?_
   conv => whnf
   refine rAct_calls ⟨m, fail, fall, false⟩ (rRen n b m) false h3 h4 ?_
   generalize (FSt.mk m fail fall false).act false (fun _ => rRen n b m) = se at h ⊢
   obtain ⟨s2, e⟩ := se
   conv => whnf
   exact h
  ·unfold FSt.rrename at h
   rw [if_pos (by rw [may_none rfl hin]; decide), may_none rfl hin] at h
   rw [show decide (n ∈ kys (FSt.mk m fail fall false).fs) = false from decide_eq_false hin]
   conv => whnf
   exact h
theorem rRemove_calls (s : FSt) (hs : ROk s) (n : B) {R} (h : R (.tup [.agg (fsR (s.rremove n).1), vi (s.rremove n).2]) []) : ACalls Tryz.prog 71 [.agg (fsR s), vs n] [] R := by
 refine acalls_of_xwp (an := an71) tab_ok Tryz.func71 ?_
 obtain ⟨h1, h2, h3, h4⟩ := hs
 obtain ⟨m, fail, fall, down⟩ := s
 have h1 : m.length < 900000 := h1
 conv => whnf
 refine rGet_calls ⟨m, fail, fall, down⟩ (by show m.length < _; omega) n ?_
 cases down with
 | true =>
  unfold FSt.rremove at h
  rw [if_pos (by rw [may_down rfl]; decide), may_down rfl] at h
  conv => whnf
  exact h
 | false =>
  by_cases hin : n ∈ kys m
  ·unfold FSt.rremove at h
   rw [if_neg (by rw [may_some rfl hin]; decide)] at h
   have h : R (.tup [.agg (fsR ((FSt.mk m fail fall false).act false fun _ => wF m n).1), vi ((FSt.mk m fail fall false).act false fun _ => wF m n).2]) [] := h
   rw [show decide (n ∈ kys (FSt.mk m fail fall false).fs) = true from decide_eq_true hin]
   conv => whnf
   refine withoutF_calls ⟨m, fail, fall, false⟩ (by show m.length < _; omega) n ?_
   conv => whnf
   refine rAct_calls ⟨m, fail, fall, false⟩ (wF m n) false h3 h4 ?_
   generalize (FSt.mk m fail fall false).act false (fun _ => wF m n) = se at h ⊢
   obtain ⟨s2, e⟩ := se
   conv => whnf
   exact h
  ·unfold FSt.rremove at h
   rw [if_pos (by rw [may_none rfl hin]; decide), may_none rfl hin] at h
   rw [show decide (n ∈ kys (FSt.mk m fail fall false).fs) = false from decide_eq_false hin]
   conv => whnf
   exact h
end Go.Abs
end
section
namespace Go.Abs
open Go Go.Proofs Dig
attribute [local irreducible] ibits byteAt strLt firstIdx
theorem mapFind_idx {s : B} : ∀ {l : List B} (i : Nat), s ∈ l → mapFind (tblFrom l i) (ofB s) = some (vi ((i + l.idxOf s : Nat) : Int)) := by
 intro l
 induction l with
 | nil => intro i h; cases h
 | cons a l ih =>
  intro i h
  simp only [tblFrom, mapFind]
  by_cases e : a = s
  ·subst e; rw [if_pos rfl, List.idxOf_cons_self]; rfl
  ·have hx : (a :: l).idxOf s = l.idxOf s + 1 := by
    rw [List.idxOf_cons, show (a == s) = false from beq_eq_false_iff_ne.2 e]
    rfl
   rw [if_neg (fun e' => e (ofB_inj e')), ih (i + 1) ((List.mem_cons.1 h).elim (fun x => absurd x.symm e) id), hx]
   congr 3
   omega
theorem tFind_calls (l : List B) (s : B) (hs : s ∈ l) (hl : l.length < 1000000) {R} (h : R (.tup [.val (.int .u64 ((l.idxOf s : Nat) : Int)), .val (.bool true)]) [tblO 1 2 l, tblR l, tblM l]) :
  ACalls Tryz.prog 215 [.ptr 0 0, vs s] [tblO 1 2 l, tblR l, tblM l] R := by
 refine acalls_of_xwp (an := an215) tab_ok Tryz.func215 ?_
 have hj := mapFind_idx 0 hs
 rw [Nat.zero_add] at hj
 have hi := List.idxOf_le_length (a := s) (l := l)
 have ew : IntKind.u64.wrap ((l.idxOf s : Nat) : Int) = ((l.idxOf s : Nat) : Int) := by
  show ((l.idxOf s : Nat) : Int) % 18446744073709551616 = _
  omega
 conv => whnf
 rw [hj]
 conv => whnf
 rw [ew]
 exact h
theorem tText_calls (l : List B) (i : Nat) (hi : i < l.length) (hl : l.length < 1000000) {R} (h : R (.tup [vs l[i], .val (.bool true)]) [tblO 1 2 l, tblR l, tblM l]) :
  ACalls Tryz.prog 182 [.ptr 0 0, .val (.int .u64 (i : Int))] [tblO 1 2 l, tblR l, tblM l] R := by
 refine acalls_of_xwp (an := an182) tab_ok Tryz.func182 ?_
 have hsl := strs_length l
 have ew : IntKind.u64.wrap (((strs l).length : Nat) : Int) = ((l.length : Nat) : Int) := by
  rw [hsl]
  show ((l.length : Nat) : Int) % 18446744073709551616 = _
  omega
 conv => whnf
 refine br_false (by rw [ew]; exact decide_eq_false (by omega)) ?_
 (conv => whnf); (repeat ((with_reducible refine must_intro ?_ ?_); exact decide_eq_true (by omega); (conv => whnf)))
 refine idxK_map_intro (show (i : Int).toNat < l.length by simpa using hi) ?_
 rw [show l[(i : Int).toNat]'(by simpa using hi) = l[i] from by congr 1]
 conv => whnf
 exact h
theorem tCopy_nil {R} (h : R (.ptr 1 0) [tblF, tblF]) : ACalls Tryz.prog 192 [.ptr 0 0] [tblF] R := by
 refine acalls_of_xwp (an := an192) tab_ok Tryz.func192 ?_
 conv => whnf
 refine New_nil ?_
 conv => whnf
 exact h
theorem tCopy_calls (l : List B) (h0 : l ≠ []) (hn : l.Nodup) (hl : l.length < 100000) {R} (h : R (.ptr 3 0) [tblO 1 2 l, tblR l, tblM l, tblO 4 5 l, tblR l, tblM l]) :
  ACalls Tryz.prog 192 [.ptr 0 0] [tblO 1 2 l, tblR l, tblM l] R := by
 refine acalls_of_xwp (an := an192) tab_ok Tryz.func192 ?_
 have hs := tblN_self hn
 obtain ⟨a, m, rfl⟩ := List.exists_cons_of_ne_nil h0
 conv => whnf
 refine New_calls a m (by simp at hl; omega) fun q hq => ?_
 rw [hs] at hq
 subst hq
 conv => whnf
 exact h
theorem textsR_take (r : Rc) (i : Nat) (hi : i < r.deps.length) : (r.target :: (r.deps.take i).map (·.name)) ++ [r.deps[i].name] = r.target :: (r.deps.take (i + 1)).map (·.name) := by
 rw [List.take_succ_eq_append_getElem hi, List.map_append]
 rfl
theorem strs_take {l : List B} {i : Nat} (hi : i < l.length) : strs (l.take i) ++ [[vs l[i]]] = strs (l.take (i + 1)) := by
 rw [List.take_succ_eq_append_getElem hi, strs_append]
 rfl
theorem rNames_calls (r : Rc) (hd : r.deps.length < 50000) {R} (h : R (.sl none 1 (strs (namesR r))) []) : ACalls Tryz.prog 155 [.agg r.enc] [] R := by
 refine acalls_of_xwp (an := an155) tab_ok Tryz.func155 ?_
 have hsl := dpsA_length r.deps
 have hml := namesR_len r
 have hN : namesR r = tblN (textsR r) := rfl
 generalize namesR r = m at h hml hN
 conv => whnf
 refine LoopP.ind1 (fun (i : Nat) => [(3, .sl (some (nameOf 13)) 1 (strs (r.target :: (r.deps.take i).map (·.name)))), (17, vi i)]) (fun i => [(nameOf 13, .row 9 1 (i + 1))]) (fun i => r.deps.length - i) (fun i => i ≤ r.deps.length) 0 rfl (by omega) ?_
 rintro i h0 IH
 have hnl : (strs (r.target :: (r.deps.take i).map (·.name))).length = i + 1 := by rw [strs_length]; simp; omega
 conv => whnf
 refine br_intro (fun hc => ?_) (fun hc => ?_)
 ·have hc := lt_of_decE hsl hc
  have IH := IH (i + 1) hc (by omega)
  have e1 : strs (r.target :: (r.deps.take i).map (·.name)) ++ [[vs r.deps[i].name]] = strs (r.target :: (r.deps.take (i + 1)).map (·.name)) := by rw [← textsR_take r i hc, strs_append]; rfl
  rw [← e1] at IH
  (conv => whnf); (repeat ((with_reducible refine must_intro ?_ ?_); exact decide_eq_true (by omega); (conv => whnf)))
  refine idxK_map_intro (show (i : Int).toNat < r.deps.length by simpa using hc) ?_
  rw [show r.deps[(i : Int).toNat]'(by simpa using hc) = r.deps[i] from by congr 1]
  generalize r.deps[i] = d at IH e1 ⊢
  conv => whnf
  refine ⟨hnl.symm, by rw [hnl, bytes_str]; simp; omega, ?_⟩
  conv => whnf
  rw [i64_nat (by omega), hnl]
  exact IH
 ·have hc := ge_of_decE hsl hc
  have e : i = r.deps.length := by omega
  subst e
  rw [List.take_length] at hnl ⊢
  have hdl : (r.deps.map (·.name)).length = r.deps.length := by simp
  conv => whnf
  refine br_intro (fun g => ?_) (fun g => ?_)
  ·have g : r.tag ≠ [] := by
    have g : (!decide (ofB r.tag = ofB [])) = true := g
    intro e
    rw [e] at g
    simp at g
   have hT : textsR r = r.target :: (r.deps.map (·.name) ++ [r.tag]) := by simp [textsR, g]
   have e1 : strs (r.target :: r.deps.map (·.name)) ++ [[vs r.tag]] = strs (r.target :: (r.deps.map (·.name) ++ [r.tag])) := by
    rw [← List.cons_append, strs_append]; rfl
   conv => whnf
   refine ⟨hnl.symm, by rw [hnl, bytes_str]; simp; omega, ?_⟩
   conv => whnf
   refine (show ACalls Tryz.prog 120 [.sl none 1 (strs (r.target :: r.deps.map (·.name)) ++ [[vs r.tag]])] [] _ from ?_)
   rw [e1]
   refine New_calls r.target _ (by simp; omega) fun q hq => ?_
   rw [← hT, ← hN] at hq
   rw [hq]
   clear hq
   conv => whnf
   refine Len_old m ?_
   conv => whnf
   have hml2 := strs_length m
   refine LoopP.ind1 (fun (i : Nat) => [(7, .sl (some (nameOf 7)) 1 (strs (m.take i))), (39, vi i)]) (fun i => [(nameOf 7, .row 9 1 i), (freshN 36 0, tblO (freshN 36 1) (freshN 36 2) m), (freshN 36 1, tblR m), (freshN 36 2, tblM m)]) (fun i => m.length - i) (fun i => i ≤ m.length) 0 rfl (by omega) ?_
   rintro i h0 IH
   have htl : (strs (m.take i)).length = i := by rw [strs_length, List.length_take]; omega
   conv => whnf
   refine br_intro (fun hc => ?_) (fun hc => ?_)
   ·have hc := lt_of_dec hc
    have ew : IntKind.u64.wrap (i : Int) = (i : Int) := by
     show (i : Int) % 18446744073709551616 = _
     omega
    have IH := IH (i + 1) hc (by omega)
    rw [← strs_take hc] at IH
    conv => whnf
    rw [ew]
    refine tText_calls m i hc (by omega) ?_
    conv => whnf
    refine ⟨htl.symm, by rw [htl, bytes_str]; simp; omega, ?_⟩
    conv => whnf
    rw [i64_nat (by omega), htl]
    exact IH
   ·have hc := ge_of_dec hc
    have e : i = m.length := by omega
    subst e
    rw [List.take_length]
    conv => whnf
    exact h
  ·have g : r.tag = [] := by
    have g : (!decide (ofB r.tag = ofB [])) = false := g
    have g : ofB r.tag = ofB [] := by simpa using g
    exact ofB_inj g
   have hT : textsR r = r.target :: r.deps.map (·.name) := by simp [textsR, g]
   conv => whnf
   refine New_calls r.target _ (by omega) fun q hq => ?_
   rw [← hT, ← hN] at hq
   rw [hq]
   clear hq
   conv => whnf
   refine Len_old m ?_
   conv => whnf
   have hml2 := strs_length m
   refine LoopP.ind1 (fun (i : Nat) => [(7, .sl (some (nameOf 7)) 1 (strs (m.take i))), (39, vi i)]) (fun i => [(nameOf 7, .row 9 1 i), (freshN 36 0, tblO (freshN 36 1) (freshN 36 2) m), (freshN 36 1, tblR m), (freshN 36 2, tblM m)]) (fun i => m.length - i) (fun i => i ≤ m.length) 0 rfl (by omega) ?_
   rintro i h0 IH
   have htl : (strs (m.take i)).length = i := by rw [strs_length, List.length_take]; omega
   conv => whnf
   refine br_intro (fun hc => ?_) (fun hc => ?_)
   ·have hc := lt_of_dec hc
    have ew : IntKind.u64.wrap (i : Int) = (i : Int) := by
     show (i : Int) % 18446744073709551616 = _
     omega
    have IH := IH (i + 1) hc (by omega)
    rw [← strs_take hc] at IH
    conv => whnf
    rw [ew]
    refine tText_calls m i hc (by omega) ?_
    conv => whnf
    refine ⟨htl.symm, by rw [htl, bytes_str]; simp; omega, ?_⟩
    conv => whnf
    rw [i64_nat (by omega), htl]
    exact IH
   ·have hc := ge_of_dec hc
    have e : i = m.length := by omega
    subst e
    rw [List.take_length]
    conv => whnf
    exact h
def wO (b : B) (t : AV) : AObj := .cells 231 [.sl none 1 (byteEls b), t]
abbrev un (n : Nat) : AV := .val (.int .u64 (n : Int))
theorem number_F (b : B) (n : Nat) (hn : n < 18446744073709551616) (hb : b.length < 10000000) {R} (h : R (.tup []) [wO (b ++ vrn n) (.ptr 1 0), tblF]) :
  ACalls Tryz.prog 185 [.ptr 0 0, un n] [wO b (.ptr 1 0), tblF] R := by
 refine acalls_of_xwp (an := an185) tab_ok Tryz.func185 ?_
 conv => whnf
 refine vPutN_calls b n hn hb ?_
 conv => whnf
 exact h
theorem number_O (b : B) (l : List B) (n : Nat) (hn : n < 18446744073709551616) (hb : b.length < 10000000) {R} (h : R (.tup []) [wO (b ++ vrn n) (.ptr 1 0), tblO 2 3 l, tblR l, tblM l]) :
  ACalls Tryz.prog 185 [.ptr 0 0, un n] [wO b (.ptr 1 0), tblO 2 3 l, tblR l, tblM l] R := by
 refine acalls_of_xwp (an := an185) tab_ok Tryz.func185 ?_
 conv => whnf
 refine vPutN_calls b n hn hb ?_
 conv => whnf
 exact h
theorem blob_F (b s : B) (hb : b.length < 1000000) (hs : s.length < 10000000) {R} (h : R (.tup []) [wO (b ++ blobP s) (.ptr 1 0), tblF]) :
  ACalls Tryz.prog 184 [.ptr 0 0, vs s] [wO b (.ptr 1 0), tblF] R := by
 refine acalls_of_xwp (an := an184) tab_ok Tryz.func184 ?_
 conv => whnf
 refine bPut_calls b s hb hs ?_
 conv => whnf
 exact h
theorem known_O (b : B) (l : List B) (s : B) (hs : s ∈ l) (hl : l.length < 1000000) (hb : b.length < 10000000) {R} (h : R (.tup []) [wO (b ++ vrn (l.idxOf s)) (.ptr 1 0), tblO 2 3 l, tblR l, tblM l]) :
  ACalls Tryz.prog 183 [.ptr 0 0, vs s] [wO b (.ptr 1 0), tblO 2 3 l, tblR l, tblM l] R := by
 refine acalls_of_xwp (an := an183) tab_ok Tryz.func183 ?_
 have hi := List.idxOf_le_length (a := s) (l := l)
 conv => whnf
 refine tFind_calls l s hs hl ?_
 conv => whnf
 refine number_O b l (l.idxOf s) (by omega) hb ?_
 conv => whnf
 exact h
theorem tag_O (b : B) (l : List B) (s : B) (hs : s ≠ [] → s ∈ l) (hl : l.length < 1000000) (hb : b.length < 10000000) {R} (h : R (.tup []) [wO (b ++ tagW l s) (.ptr 1 0), tblO 2 3 l, tblR l, tblM l]) :
  ACalls Tryz.prog 187 [.ptr 0 0, vs s] [wO b (.ptr 1 0), tblO 2 3 l, tblR l, tblM l] R := by
 refine acalls_of_xwp (an := an187) tab_ok Tryz.func187 ?_
 have hi := List.idxOf_le_length (a := s) (l := l)
 conv => whnf
 refine br_intro (fun g => ?_) (fun g => ?_)
 ·have g : s = [] := by
   have g : ofB s = ofB [] := of_decide_eq_true g
   exact ofB_inj g
  rw [show tagW l s = vrn 0 by simp [tagW, g]] at h
  conv => whnf
  refine number_O b l 0 (by omega) hb ?_
  conv => whnf
  exact h
 ·have g : s ≠ [] := by
   have g : ¬ ofB s = ofB [] := of_decide_eq_false g
   exact fun e => g (by rw [e])
  rw [show tagW l s = vrn (l.idxOf s + 1) by simp [tagW, g]] at h
  have ew : IntKind.u64.wrap (((l.idxOf s : Nat) : Int) + 1) = ((l.idxOf s + 1 : Nat) : Int) := by
   show (((l.idxOf s : Nat) : Int) + 1) % 18446744073709551616 = _
   omega
  conv => whnf
  refine tFind_calls l s (hs g) hl ?_
  conv => whnf
  rw [ew]
  refine number_O b l (l.idxOf s + 1) (by omega) hb ?_
  conv => whnf
  exact h
theorem dep_1 (b : B) (d : Dp) (hb : b.length < 1000000) (hs : d.name.length < 10000000) {R} (h : R (.tup []) [wO (b ++ blobP d.name) (.ptr 1 0), tblF]) :
  ACalls Tryz.prog 186 [.ptr 0 0, vi 1, .agg d.enc, .fn (.func 184) [.ptr 0 0] []] [wO b (.ptr 1 0), tblF] R := by
 refine acalls_of_xwp (an := an186) tab_ok Tryz.func186 ?_
 conv => whnf
 refine blob_F b d.name hb hs ?_
 conv => whnf
 exact h
theorem dep_2 (b : B) (l : List B) (d : Dp) (hs : d.name ∈ l) (hl : l.length < 1000000) (hb : b.length < 1000000) {R} (h : R (.tup []) [wO (b ++ vrn (l.idxOf d.name)) (.ptr 1 0), tblO 2 3 l, tblR l, tblM l]) :
  ACalls Tryz.prog 186 [.ptr 0 0, vi 2, .agg d.enc, .fn (.func 183) [.ptr 0 0] []] [wO b (.ptr 1 0), tblO 2 3 l, tblR l, tblM l] R := by
 refine acalls_of_xwp (an := an186) tab_ok Tryz.func186 ?_
 conv => whnf
 refine known_O b l d.name hs hl (by omega) ?_
 conv => whnf
 exact h
theorem dep_3 (b : B) (l : List B) (d : Dp) (hs : d.name ∈ l) (hl : l.length < 1000000) (hb : b.length < 1000000) {R} (h : R (.tup []) [wO (b ++ vrn (depN l d)) (.ptr 1 0), tblO 2 3 l, tblR l, tblM l]) :
  ACalls Tryz.prog 186 [.ptr 0 0, vi 3, .agg d.enc, .fn (.func 183) [.ptr 0 0] []] [wO b (.ptr 1 0), tblO 2 3 l, tblR l, tblM l] R := by
 refine acalls_of_xwp (an := an186) tab_ok Tryz.func186 ?_
 have hi := List.idxOf_le_length (a := d.name) (l := l)
 have ew : IntKind.u64.wrap (((l.idxOf d.name : Nat) : Int) * 2) = ((2 * l.idxOf d.name : Nat) : Int) := by
  show (((l.idxOf d.name : Nat) : Int) * 2) % 18446744073709551616 = _
  omega
 have ew2 : IntKind.u64.wrap (((2 * l.idxOf d.name : Nat) : Int) + 1) = ((2 * l.idxOf d.name + 1 : Nat) : Int) := by
  show (((2 * l.idxOf d.name : Nat) : Int) + 1) % 18446744073709551616 = _
  omega
 conv => whnf
 refine tFind_calls l d.name hs hl ?_
 conv => whnf
 rw [ew]
 refine br_intro (fun g => ?_) (fun g => ?_)
 ·rw [show depN l d = 2 * l.idxOf d.name + 1 by simp [depN, g]] at h
  conv => whnf
  rw [ew2]
  refine number_O b l (2 * l.idxOf d.name + 1) (by omega) (by omega) ?_
  conv => whnf
  exact h
 ·rw [show depN l d = 2 * l.idxOf d.name by simp [depN, g]] at h
  conv => whnf
  refine number_O b l (2 * l.idxOf d.name) (by omega) (by omega) ?_
  conv => whnf
  exact h
def wN (t : AV) : AObj := .cells 231 [.val (.slice none 0 0), t]
theorem depsW_snoc {v : Int} {t : List B} {l : List Dp} {i : Nat} (hi : i < l.length) : depsW v t (l.take (i + 1)) = depsW v t (l.take i) ++ depW v t l[i] := by
 unfold depsW
 rw [List.take_succ_eq_append_getElem hi, List.map_append, List.flatten_append]
 simp
theorem depsW_take {v : Int} {t : List B} {r : Rc} (hm : MayR v r) (ht : t.length < 1000000) (i : Nat) : (depsW v t (r.deps.take i)).length ≤ 1200 := by
 have h1 := depsW_len (v := v) (t := t) (l := r.deps.take i) ht fun d hd => (hm.names d (List.mem_of_mem_take hd)).2
 have h2 := hm.deps
 rw [List.length_take] at h1
 omega
def frontW (v : Int) (t : List B) (r : Rc) : B := 1 :: (textW v t r.target ++ vrn r.rule.toNat ++ vrn r.deps.length)
theorem frontW_len {v : Int} {t : List B} {r : Rc} (hm : MayR v r) (ht : t.length < 1000000) : (frontW v t r).length ≤ 90 := by
 unfold frontW
 have h1 := textW_len (v := v) (t := t) hm.t2 ht
 have h2 := u64_vrn r.rule
 have h3 : (vrn r.deps.length).length ≤ 10 := vrn_u64 (by have := hm.deps; omega)
 simp only [List.length_cons, List.length_append]
 omega
theorem lastW_trace {v : Int} {t : List B} {r : Rc} (hk : r.kind = 1) : lastW v t r = frontW v t r ++ depsW v t r.deps ++ endW v t r := by
 unfold lastW frontW
 rw [if_neg (by rw [hk]; decide)]
 simp
theorem lastW_gone {v : Int} {t : List B} {r : Rc} (hk : r.kind = 2) : lastW v t r = 2 :: textW v t r.target := by
 unfold lastW
 rw [if_pos hk]
theorem len_u64 {r : Rc} (h : r.deps.length ≤ 16) : IntKind.u64.wrap (((dpsA r.deps).length : Nat) : Int) = ((r.deps.length : Nat) : Int) := by
 rw [dpsA_length]
 show ((r.deps.length : Nat) : Int) % 18446744073709551616 = _
 omega
theorem goneR_kind {r : Rc} (h : r = goneR r) : r.kind = 2 := by rw [h]; rfl
theorem last_1 (r : Rc) (hm : MayR 1 r) {R} (h : R (.sl none 1 (byteEls (lastW 1 [] r))) [wO (lastW 1 [] r) (.ptr 1 0), tblF]) :
  ACalls Tryz.prog 156 [.ptr 0 0, vi 1, .agg r.enc] [wN (.ptr 1 0), tblF] R := by
 have hk := hm.kind.imp id goneR_kind
 have ht : ([] : List B).length < 1000000 := by simp
 have hF := frontW_len (v := 1) (t := []) hm ht
 have hD := depsW_take (v := 1) (t := []) hm ht
 have hsl := dpsA_length r.deps
 have hlu := len_u64 hm.deps
 have hd16 := hm.deps
 have hbl := blobP_len hm.t2
 have h2 := u64_vrn r.rule
 have ho := u64_vrn r.out
 have htx : textW 1 [] r.target = blobP r.target := by simp [textW]
 have hnm := hm.names
 have ht2 := hm.t2
 refine acalls_of_xwp (an := an156) tab_ok Tryz.func156 ?_
 rcases hk with hk | hk
 ·have e1 := lastW_trace (v := 1) (t := []) hk
  have eF : frontW 1 [] r = [1] ++ blobP r.target ++ vrn r.rule.toNat ++ vrn r.deps.length := by unfold frontW; rw [htx]; simp
  have eE : endW 1 [] r = vrn r.out.toNat := by simp [endW]
  rw [e1, eE] at h
  obtain ⟨k, tg, ru, ds, ou, we, ta⟩ := r
  dsimp only at hk hF hD hsl hlu hd16 hbl h2 ho hnm ht2 h htx eF
  subst hk
  conv => whnf
  refine blob_F [1] tg (by simp) (by omega) ?_
  conv => whnf
  refine number_F ([1] ++ blobP tg) ru.toNat ru.isLt (by simp; omega) ?_
  conv => whnf
  rw [hlu]
  refine number_F ([1] ++ blobP tg ++ vrn ru.toNat) ds.length (by omega) (by simp at h2 ⊢; omega) ?_
  rw [← eF]
  generalize frontW 1 [] (Rc.mk 1 tg ru ds ou we ta) = F at h hF eF ⊢
  conv => whnf
  refine LoopP.ind2 (fun (i : Nat) (b : B) => [(47, vi i)]) (fun i b => [(0, wO b (.ptr 1 0)), (1, tblF)]) (fun i _ => ds.length - i) (fun i b => i ≤ ds.length ∧ b = F ++ depsW 1 [] (ds.take i)) 0 F rfl ⟨by omega, by simp [depsW]⟩ ?_
  rintro i X ⟨h0, hX⟩ IH
  have hDi : X.length ≤ 1300 := by have := hD i; rw [hX, List.length_append]; omega
  conv => whnf
  refine br_intro (fun hc => ?_) (fun hc => ?_)
  ·have hc := lt_of_decE hsl hc
   have hn := hnm ds[i] (List.getElem_mem hc)
   have eS : X ++ blobP ds[i].name ++ vrn ds[i].hash.toNat = F ++ depsW 1 [] (ds.take (i + 1)) := by
    rw [depsW_snoc hc, hX]
    simp [depW, textW]
   have IH := IH (i + 1) _ ⟨hc, eS⟩ (by omega)
   have hbl2 := blobP_len hn.2
   (conv => whnf); (repeat ((with_reducible refine must_intro ?_ ?_); exact decide_eq_true (by omega); (conv => whnf)))
   refine idxK_map_intro (show (i : Int).toNat < ds.length by simpa using hc) ?_
   rw [show ds[(i : Int).toNat]'(by simpa using hc) = ds[i] from by congr 1]
   generalize ds[i] = d at IH hn hbl2 eS ⊢
   clear hX eS
   conv => whnf
   refine dep_1 X d (by omega) (by omega) ?_
   conv => whnf
   refine number_F (X ++ blobP d.name) d.hash.toNat d.hash.isLt (by rw [List.length_append]; omega) ?_
   conv => whnf
   rw [i64_nat (by omega)]
   exact IH
  ·have hc := ge_of_decE hsl hc
   have e : i = ds.length := by omega
   subst e
   rw [List.take_length] at hX
   rw [← hX] at h
   clear hX
   conv => whnf
   refine number_F X ou.toNat ou.isLt (by omega) ?_
   conv => whnf
   exact h
 ·have e1 := lastW_gone (v := 1) (t := []) hk
  rw [e1, htx] at h
  obtain ⟨k, tg, ru, ds, ou, we, ta⟩ := r
  dsimp only at hk hbl ht2 h
  subst hk
  conv => whnf
  refine blob_F [2] tg (by simp) (by omega) ?_
  conv => whnf
  exact h
theorem last_2 (r : Rc) (l : List B) (hm : MayR 2 r) (hl : l.length < 100000) (ht : r.target ∈ l) (hds : ∀ d ∈ r.deps, d.name ∈ l) (htg : r.tag ≠ [] → r.tag ∈ l) {R} (h : R (.sl none 1 (byteEls (lastW 2 l r))) [wO (lastW 2 l r) (.ptr 1 0), tblO 2 3 l, tblR l, tblM l]) :
  ACalls Tryz.prog 156 [.ptr 0 0, vi 2, .agg r.enc] [wN (.ptr 1 0), tblO 2 3 l, tblR l, tblM l] R := by
 have hk := hm.kind.imp id goneR_kind
 have hF := frontW_len (v := 2) (t := l) hm (by omega)
 have hD := depsW_take (v := 2) (t := l) hm (by omega)
 have hsl := dpsA_length r.deps
 have hlu := len_u64 hm.deps
 have hd16 := hm.deps
 have hbl : (vrn (l.idxOf r.target)).length ≤ 10 := vrn_u64 (by have := List.idxOf_le_length (a := r.target) (l := l); omega)
 have h2 := u64_vrn r.rule
 have ho := u64_vrn r.out
 have hw := u64_vrn r.wen
 have htx : textW 2 l r.target = vrn (l.idxOf r.target) := by simp [textW]
 have hnm := hm.names
 have ht2 := hm.t2
 refine acalls_of_xwp (an := an156) tab_ok Tryz.func156 ?_
 rcases hk with hk | hk
 ·have e1 := lastW_trace (v := 2) (t := l) hk
  have eF : frontW 2 l r = [1] ++ vrn (l.idxOf r.target) ++ vrn r.rule.toNat ++ vrn r.deps.length := by unfold frontW; rw [htx]; simp
  have eE : endW 2 l r = vrn r.out.toNat ++ vrn r.wen.toNat := by simp [endW]
  rw [e1, eE] at h
  obtain ⟨k, tg, ru, ds, ou, we, ta⟩ := r
  dsimp only at hk hF hD hsl hlu hd16 hbl h2 ho hw hnm ht2 h htx eF ht hds htg
  subst hk
  conv => whnf
  refine known_O [1] l tg ht (by omega) (by simp) ?_
  conv => whnf
  refine number_O ([1] ++ vrn (l.idxOf tg)) l ru.toNat ru.isLt (by simp; omega) ?_
  conv => whnf
  rw [hlu]
  refine number_O ([1] ++ vrn (l.idxOf tg) ++ vrn ru.toNat) l ds.length (by omega) (by simp at h2 ⊢; omega) ?_
  rw [← eF]
  generalize frontW 2 l (Rc.mk 1 tg ru ds ou we ta) = F at h hF eF ⊢
  conv => whnf
  refine LoopP.ind2 (fun (i : Nat) (b : B) => [(47, vi i)]) (fun i b => [(0, wO b (.ptr 1 0)), (1, tblO 2 3 l), (2, tblR l), (3, tblM l)]) (fun i _ => ds.length - i) (fun i b => i ≤ ds.length ∧ b = F ++ depsW 2 l (ds.take i)) 0 F rfl ⟨by omega, by simp [depsW]⟩ ?_
  rintro i X ⟨h0, hX⟩ IH
  have hDi : X.length ≤ 1300 := by have := hD i; rw [hX, List.length_append]; omega
  conv => whnf
  refine br_intro (fun hc => ?_) (fun hc => ?_)
  ·have hc := lt_of_decE hsl hc
   have hn := hnm ds[i] (List.getElem_mem hc)
   have hin := hds ds[i] (List.getElem_mem hc)
   have hdl : (vrn (l.idxOf ds[i].name)).length ≤ 10 := vrn_u64 (by have := List.idxOf_le_length (a := ds[i].name) (l := l); omega)
   have eS : X ++ vrn (l.idxOf ds[i].name) ++ vrn ds[i].hash.toNat = F ++ depsW 2 l (ds.take (i + 1)) := by
    rw [depsW_snoc hc, hX]
    simp [depW, textW]
   have IH := IH (i + 1) _ ⟨hc, eS⟩ (by omega)
   (conv => whnf); (repeat ((with_reducible refine must_intro ?_ ?_); exact decide_eq_true (by omega); (conv => whnf)))
   refine idxK_map_intro (show (i : Int).toNat < ds.length by simpa using hc) ?_
   rw [show ds[(i : Int).toNat]'(by simpa using hc) = ds[i] from by congr 1]
   generalize ds[i] = d at IH hn hin hdl eS ⊢
   clear hX eS
   conv => whnf
   refine dep_2 X l d hin (by omega) (by omega) ?_
   conv => whnf
   refine number_O (X ++ vrn (l.idxOf d.name)) l d.hash.toNat d.hash.isLt (by rw [List.length_append]; omega) ?_
   conv => whnf
   rw [i64_nat (by omega)]
   exact IH
  ·have hc := ge_of_decE hsl hc
   have e : i = ds.length := by omega
   subst e
   rw [List.take_length] at hX
   rw [← hX] at h
   clear hX
   simp only [← List.append_assoc] at h
   conv => whnf
   refine number_O X l ou.toNat ou.isLt (by omega) ?_
   conv => whnf
   refine number_O (X ++ vrn ou.toNat) l we.toNat we.isLt (by rw [List.length_append]; omega) ?_
   conv => whnf
   exact h
 ·have e1 := lastW_gone (v := 2) (t := l) hk
  rw [e1, htx] at h
  obtain ⟨k, tg, ru, ds, ou, we, ta⟩ := r
  dsimp only at hk hbl ht2 h ht
  subst hk
  conv => whnf
  refine known_O [2] l tg ht (by omega) (by simp) ?_
  conv => whnf
  exact h
theorem last_3 (r : Rc) (l : List B) (hm : MayR 3 r) (hl : l.length < 100000) (ht : r.target ∈ l) (hds : ∀ d ∈ r.deps, d.name ∈ l) (htg : r.tag ≠ [] → r.tag ∈ l) {R} (h : R (.sl none 1 (byteEls (lastW 3 l r))) [wO (lastW 3 l r) (.ptr 1 0), tblO 2 3 l, tblR l, tblM l]) :
  ACalls Tryz.prog 156 [.ptr 0 0, vi 3, .agg r.enc] [wN (.ptr 1 0), tblO 2 3 l, tblR l, tblM l] R := by
 have hk := hm.kind.imp id goneR_kind
 have hF := frontW_len (v := 3) (t := l) hm (by omega)
 have hD := depsW_take (v := 3) (t := l) hm (by omega)
 have hsl := dpsA_length r.deps
 have hlu := len_u64 hm.deps
 have hd16 := hm.deps
 have hbl : (vrn (l.idxOf r.target)).length ≤ 10 := vrn_u64 (by have := List.idxOf_le_length (a := r.target) (l := l); omega)
 have h2 := u64_vrn r.rule
 have ho := u64_vrn r.out
 have hw := u64_vrn r.wen
 have htx : textW 3 l r.target = vrn (l.idxOf r.target) := by simp [textW]
 have hnm := hm.names
 have ht2 := hm.t2
 refine acalls_of_xwp (an := an156) tab_ok Tryz.func156 ?_
 rcases hk with hk | hk
 ·have e1 := lastW_trace (v := 3) (t := l) hk
  have eF : frontW 3 l r = [1] ++ vrn (l.idxOf r.target) ++ vrn r.rule.toNat ++ vrn r.deps.length := by unfold frontW; rw [htx]; simp
  have eE : endW 3 l r = vrn r.out.toNat ++ vrn r.wen.toNat ++ tagW l r.tag := by simp [endW]
  rw [e1, eE] at h
  obtain ⟨k, tg, ru, ds, ou, we, ta⟩ := r
  dsimp only at hk hF hD hsl hlu hd16 hbl h2 ho hw hnm ht2 h htx eF ht hds htg
  subst hk
  conv => whnf
  refine known_O [1] l tg ht (by omega) (by simp) ?_
  conv => whnf
  refine number_O ([1] ++ vrn (l.idxOf tg)) l ru.toNat ru.isLt (by simp; omega) ?_
  conv => whnf
  rw [hlu]
  refine number_O ([1] ++ vrn (l.idxOf tg) ++ vrn ru.toNat) l ds.length (by omega) (by simp at h2 ⊢; omega) ?_
  rw [← eF]
  generalize frontW 3 l (Rc.mk 1 tg ru ds ou we ta) = F at h hF eF ⊢
  conv => whnf
  refine LoopP.ind2 (fun (i : Nat) (b : B) => [(47, vi i)]) (fun i b => [(0, wO b (.ptr 1 0)), (1, tblO 2 3 l), (2, tblR l), (3, tblM l)]) (fun i _ => ds.length - i) (fun i b => i ≤ ds.length ∧ b = F ++ depsW 3 l (ds.take i)) 0 F rfl ⟨by omega, by simp [depsW]⟩ ?_
  rintro i X ⟨h0, hX⟩ IH
  have hDi : X.length ≤ 1300 := by have := hD i; rw [hX, List.length_append]; omega
  conv => whnf
  refine br_intro (fun hc => ?_) (fun hc => ?_)
  ·have hc := lt_of_decE hsl hc
   have hn := hnm ds[i] (List.getElem_mem hc)
   have hin := hds ds[i] (List.getElem_mem hc)
   have hdl : (vrn (depN l ds[i])).length ≤ 10 := vrn_u64 (by have := List.idxOf_le_length (a := ds[i].name) (l := l); unfold depN; split <;> omega)
   have eS : X ++ vrn (depN l ds[i]) ++ vrn ds[i].hash.toNat = F ++ depsW 3 l (ds.take (i + 1)) := by
    rw [depsW_snoc hc, hX]
    simp [depW, textW]
   have IH := IH (i + 1) _ ⟨hc, eS⟩ (by omega)
   (conv => whnf); (repeat ((with_reducible refine must_intro ?_ ?_); exact decide_eq_true (by omega); (conv => whnf)))
   refine idxK_map_intro (show (i : Int).toNat < ds.length by simpa using hc) ?_
   rw [show ds[(i : Int).toNat]'(by simpa using hc) = ds[i] from by congr 1]
   generalize ds[i] = d at IH hn hin hdl eS ⊢
   clear hX eS
   conv => whnf
   refine dep_3 X l d hin (by omega) (by omega) ?_
   conv => whnf
   refine number_O (X ++ vrn (depN l d)) l d.hash.toNat d.hash.isLt (by rw [List.length_append]; omega) ?_
   conv => whnf
   rw [i64_nat (by omega)]
   exact IH
  ·have hc := ge_of_decE hsl hc
   have e : i = ds.length := by omega
   subst e
   rw [List.take_length] at hX
   rw [← hX] at h
   clear hX
   simp only [← List.append_assoc] at h
   conv => whnf
   refine number_O X l ou.toNat ou.isLt (by omega) ?_
   conv => whnf
   refine number_O (X ++ vrn ou.toNat) l we.toNat we.isLt (by rw [List.length_append]; omega) ?_
   conv => whnf
   refine tag_O (X ++ vrn ou.toNat ++ vrn we.toNat) l ta htg (by omega) (by rw [List.length_append, List.length_append]; omega) ?_
   conv => whnf
   exact h
 ·have e1 := lastW_gone (v := 3) (t := l) hk
  rw [e1, htx] at h
  obtain ⟨k, tg, ru, ds, ou, we, ta⟩ := r
  dsimp only at hk hbl ht2 h ht
  subst hk
  conv => whnf
  refine known_O [2] l tg ht (by omega) (by simp) ?_
  conv => whnf
  exact h
def rowsB (l : List B) : List (List AV) := l.map fun p => [.sl none 1 (byteEls p)]
theorem rowsB_length (l : List B) : (rowsB l).length = l.length := by simp [rowsB]
theorem rowsB_append (l m : List B) : rowsB (l ++ m) = rowsB l ++ rowsB m := by simp [rowsB]
theorem bytes_bytes : (tab.ti 82).bytes = 24 := rfl
theorem def_els (s : B) : [[AV.val (.int .u8 0)]] ++ byteEls s = byteEls (defP s) := rfl
theorem byteA_ofB (s : B) : byteA (ofB s) = byteEls s := by
 unfold byteA byteEls
 rw [show (ofB s).data.toList = s from bs_ofB s]
theorem skn_1 {R} (h : R (.val (.bool true)) []) : ACalls Tryz.prog 154 [vi 1] [] R := by
 refine acalls_of_xwp (an := an154) tab_ok Tryz.func154 ?_
 conv => whnf
 exact h
theorem skn_2 {R} (h : R (.val (.bool true)) []) : ACalls Tryz.prog 154 [vi 2] [] R := by
 refine acalls_of_xwp (an := an154) tab_ok Tryz.func154 ?_
 conv => whnf
 exact h
theorem skn_3 {R} (h : R (.val (.bool true)) []) : ACalls Tryz.prog 154 [vi 3] [] R := by
 refine acalls_of_xwp (an := an154) tab_ok Tryz.func154 ?_
 conv => whnf
 exact h
theorem sPut_1 (r : Rc) (hm : mayP 1 r = true) {R} (h : R (.tup [.sl none 1 (rowsB (payP 1 [] r)), vi 0]) [tblF]) : ACalls Tryz.prog 121 [vi 1, .ptr 0 0, .agg r.enc] [tblF] R := by
 have hM := may_all hm
 have e : payP 1 [] r = [lastW 1 [] r] := by simp [payP, defsP, addT]
 rw [e] at h
 have hd := hM.deps
 refine acalls_of_xwp (an := an121) tab_ok Tryz.func121 ?_
 conv => whnf
 refine skn_1 ?_
 conv => whnf
 refine May_calls 1 r (by omega) fun p hp => ?_
 rw [hm] at hp
 subst hp
 conv => whnf
 refine last_1 r hM ?_
 conv => whnf
 refine ⟨(by rw [bytes_bytes]; decide : 1 * ((tab.ti 82).bytes + 1) ≤ 140737488355328), ?_⟩
 conv => whnf
 exact h
theorem sNo_1F (r : Rc) (hd : r.deps.length < 100000) (hm : mayP 1 r = false) {R} (h : R (.tup [.val (.slice none 0 0), vi 1]) [tblF]) : ACalls Tryz.prog 121 [vi 1, .ptr 0 0, .agg r.enc] [tblF] R := by
 refine acalls_of_xwp (an := an121) tab_ok Tryz.func121 ?_
 conv => whnf
 refine skn_1 ?_
 conv => whnf
 refine May_calls 1 r hd fun p hp => ?_
 rw [hm] at hp
 subst hp
 conv => whnf
 exact h
theorem sNo_2F (r : Rc) (hd : r.deps.length < 100000) (hm : mayP 2 r = false) {R} (h : R (.tup [.val (.slice none 0 0), vi 1]) [tblF]) : ACalls Tryz.prog 121 [vi 2, .ptr 0 0, .agg r.enc] [tblF] R := by
 refine acalls_of_xwp (an := an121) tab_ok Tryz.func121 ?_
 conv => whnf
 refine skn_2 ?_
 conv => whnf
 refine May_calls 2 r hd fun p hp => ?_
 rw [hm] at hp
 subst hp
 conv => whnf
 exact h
theorem sNo_3F (r : Rc) (hd : r.deps.length < 100000) (hm : mayP 3 r = false) {R} (h : R (.tup [.val (.slice none 0 0), vi 1]) [tblF]) : ACalls Tryz.prog 121 [vi 3, .ptr 0 0, .agg r.enc] [tblF] R := by
 refine acalls_of_xwp (an := an121) tab_ok Tryz.func121 ?_
 conv => whnf
 refine skn_3 ?_
 conv => whnf
 refine May_calls 3 r hd fun p hp => ?_
 rw [hm] at hp
 subst hp
 conv => whnf
 exact h
theorem sNo_2O (r : Rc) (l : List B) (hd : r.deps.length < 100000) (hm : mayP 2 r = false) {R} (h : R (.tup [.val (.slice none 0 0), vi 1]) [tblO 1 2 l, tblR l, tblM l]) : ACalls Tryz.prog 121 [vi 2, .ptr 0 0, .agg r.enc] [tblO 1 2 l, tblR l, tblM l] R := by
 refine acalls_of_xwp (an := an121) tab_ok Tryz.func121 ?_
 conv => whnf
 refine skn_2 ?_
 conv => whnf
 refine May_calls 2 r hd fun p hp => ?_
 rw [hm] at hp
 subst hp
 conv => whnf
 exact h
theorem sNo_3O (r : Rc) (l : List B) (hd : r.deps.length < 100000) (hm : mayP 3 r = false) {R} (h : R (.tup [.val (.slice none 0 0), vi 1]) [tblO 1 2 l, tblR l, tblM l]) : ACalls Tryz.prog 121 [vi 3, .ptr 0 0, .agg r.enc] [tblO 1 2 l, tblR l, tblM l] R := by
 refine acalls_of_xwp (an := an121) tab_ok Tryz.func121 ?_
 conv => whnf
 refine skn_3 ?_
 conv => whnf
 refine May_calls 3 r hd fun p hp => ?_
 rw [hm] at hp
 subst hp
 conv => whnf
 exact h
theorem sPut_2O (r : Rc) (l : List B) (hl : l.length < 90000) (hm : mayP 2 r = true) {R} (h : R (.tup [.sl none 1 (rowsB (payP 2 l r)), vi 0]) [tblO 1 2 (addT 2 l r), tblR (addT 2 l r), tblM (addT 2 l r)]) : ACalls Tryz.prog 121 [vi 2, .ptr 0 0, .agg r.enc] [tblO 1 2 l, tblR l, tblM l] R := by
 have hM := may_all hm
 have hd := hM.deps
 have hml := namesR_len r
 have hT1 := addT_mem (v := 2) (by decide) l r (x := r.target) (by simp [textsR])
 have hT2 : ∀ d ∈ r.deps, d.name ∈ addT 2 l r := fun d hd => addT_mem (by decide) l r (List.mem_cons_of_mem _ (List.mem_append_left _ (List.mem_map_of_mem hd)))
 have hT3 : r.tag ≠ [] → r.tag ∈ addT 2 l r := fun e => addT_mem (by decide) l r (by simp [textsR, e])
 have hTl := addT_len 2 l r
 have eA : addT 2 l r = (namesR r).foldl tblP l := addT_more (by decide) l r
 have eP : payP 2 l r = (newsP l (namesR r)).map defP ++ [lastW 2 (addT 2 l r) r] := by simp [payP, defsP]
 rw [eP] at h
 have hne := namesR_ne r
 have h64 : ∀ s ∈ namesR r, s.length ≤ 64 := fun s hs => (textsR_lens hM s (tblN_mem.1 hs)).2
 generalize hmr : namesR r = m at h hml eA eP hne h64
 generalize addT 2 l r = T at h hT1 hT2 hT3 hTl eA eP
 refine acalls_of_xwp (an := an121) tab_ok Tryz.func121 ?_
 have hsl := strs_length m
 conv => whnf
 refine skn_2 ?_
 conv => whnf
 refine May_calls 2 r (by omega) fun p hp => ?_
 rw [hm] at hp
 subst hp
 conv => whnf
 refine rNames_calls r (by omega) ?_
 rw [hmr]
 conv => whnf
 refine LoopP.ind3 (fun (i : Nat) (t o : List B) => [(8, .sl (some (nameOf 8)) 1 (rowsB o)), (30, vi i)]) (fun i t o => [(0, tblO 1 2 t), (1, tblR t), (2, tblM t), (nameOf 8, .row 82 1 o.length)]) (fun i _ _ => m.length - i) (fun i t o => i ≤ m.length ∧ 0 ≤ i ∧ o ++ (newsP t (m.drop i)).map defP = (newsP l m).map defP ∧ (m.drop i).foldl tblP t = m.foldl tblP l ∧ o.length ≤ i ∧ t.length ≤ l.length + i) 0 l [] rfl ⟨by omega, by omega, by simp, by simp, by simp, by omega⟩ ?_
 rintro i t o ⟨h0, hi1, ho1, ho2, hl1, hl2⟩ IH
 have hol : o.length ≤ 60 := by omega
 have hrl := rowsB_length o
 conv => whnf
 refine br_intro (fun hc => ?_) (fun hc => ?_)
 ·have hc := lt_of_decE hsl hc
  have IH0 := IH (i + 1)
  clear IH
  rw [List.drop_eq_getElem_cons hc] at ho1 ho2
  rw [newsP] at ho1
  rw [List.foldl_cons] at ho2
  (conv => whnf); (repeat ((with_reducible refine must_intro ?_ ?_); exact decide_eq_true (by omega); (conv => whnf)))
  refine idxK_map_intro (show (i : Int).toNat < m.length by simpa using hc) ?_
  rw [show m[(i : Int).toNat]'(by simpa using hc) = m[i] from by congr 1]
  have h64s := h64 m[i] (List.getElem_mem hc)
  generalize m[i] = s at ho1 ho2 h64s ⊢
  have eB := byteA_ofB s
  have hsl2 := bel_length s
  by_cases hs : s ∈ t
  ·have IH := IH0 t o ⟨by omega, by omega, by rw [if_pos hs] at ho1; exact ho1, by rw [tblP_some hs] at ho2; exact ho2, by omega, by omega⟩ (by omega)
   conv => whnf
   refine ID_old t s hs fun j => ?_
   conv => whnf
   rw [i64_nat (by omega)]
   exact IH
  ·have IH := IH0 (t ++ [s]) (o ++ [defP s]) ⟨by omega, by omega, by rw [if_neg hs] at ho1; rw [← ho1]; simp, by rw [tblP_none hs] at ho2; exact ho2, by simp; omega, by simp; omega⟩ (by omega)
   rw [rowsB_append] at IH
   conv => whnf
   refine ID_more t s (by omega) hs fun j => ?_
   conv => whnf
   refine ⟨rfl, by rw [bel_bytes]; rw [eB]; simp only [List.length_append, hsl2, List.length_cons, List.length_nil]; omega, ?_⟩
   rw [eB, def_els]
   conv => whnf
   refine ⟨hrl.symm, by rw [hrl, bytes_bytes]; simp; omega, ?_⟩
   conv => whnf
   rw [i64_nat (by omega), hrl]
   rw [show (o ++ [defP s]).length = o.length + 1 by simp] at IH
   exact IH
 ·have hc := ge_of_decE hsl hc
  have e : i = m.length := by omega
  subst e
  rw [List.drop_length] at ho1 ho2
  rw [show newsP t [] = [] from rfl, List.map_nil, List.append_nil] at ho1
  rw [List.foldl_nil] at ho2
  rw [← eA] at ho2
  subst ho2
  rw [← ho1, rowsB_append] at h
  conv => whnf
  refine last_2 r t hM (by omega) hT1 hT2 hT3 ?_
  conv => whnf
  refine ⟨hrl.symm, by rw [hrl, bytes_bytes]; simp; omega, ?_⟩
  conv => whnf
  exact h
theorem sPut_2F (r : Rc) (hm : mayP 2 r = true) {R} (h : R (.tup [.sl none 1 (rowsB (payP 2 [] r)), vi 0]) [tblO 1 2 (addT 2 [] r), tblR (addT 2 [] r), tblM (addT 2 [] r)]) : ACalls Tryz.prog 121 [vi 2, .ptr 0 0, .agg r.enc] [tblF] R := by
 have hM := may_all hm
 have hd := hM.deps
 have hml := namesR_len r
 have hT1 := addT_mem (v := 2) (by decide) [] r (x := r.target) (by simp [textsR])
 have hT2 : ∀ d ∈ r.deps, d.name ∈ addT 2 [] r := fun d hd => addT_mem (by decide) [] r (List.mem_cons_of_mem _ (List.mem_append_left _ (List.mem_map_of_mem hd)))
 have hT3 : r.tag ≠ [] → r.tag ∈ addT 2 [] r := fun e => addT_mem (by decide) [] r (by simp [textsR, e])
 have hTl := addT_len 2 [] r
 have eA : addT 2 [] r = (namesR r).foldl tblP [] := addT_more (by decide) [] r
 have eP : payP 2 [] r = (newsP [] (namesR r)).map defP ++ [lastW 2 (addT 2 [] r) r] := by simp [payP, defsP]
 rw [eP] at h
 have hne := namesR_ne r
 have h64 : ∀ s ∈ namesR r, s.length ≤ 64 := fun s hs => (textsR_lens hM s (tblN_mem.1 hs)).2
 generalize hmr : namesR r = m at h hml eA eP hne h64
 generalize addT 2 [] r = T at h hT1 hT2 hT3 hTl eA eP
 refine acalls_of_xwp (an := an121) tab_ok Tryz.func121 ?_
 have hsl := strs_length m
 conv => whnf
 refine skn_2 ?_
 conv => whnf
 refine May_calls 2 r (by omega) fun p hp => ?_
 rw [hm] at hp
 subst hp
 conv => whnf
 refine rNames_calls r (by omega) ?_
 rw [hmr]
 conv => whnf
 obtain ⟨a, n, rfl⟩ := List.exists_cons_of_ne_nil hne
 refine LoopP.step ?_
 conv => whnf
 refine br_true (by rw [hsl]; simp <;> omega) ?_
 conv => whnf
 refine ID_new a ?_
 have eB := byteA_ofB a
 have hsl2 := bel_length a
 have ha64 := h64 a List.mem_cons_self
 conv => whnf
 refine ⟨rfl, by rw [bel_bytes]; rw [eB]; simp only [List.length_append, hsl2, List.length_cons, List.length_nil]; omega, ?_⟩
 rw [eB, def_els]
 conv => whnf
 refine ⟨rfl, by rw [bytes_bytes]; simp, ?_⟩
 conv => whnf
 refine LoopP.ind3 (fun (i : Nat) (t o : List B) => [(8, .sl (some (nameOf 8)) 1 (rowsB o)), (30, vi i)]) (fun i t o => [(0, tblO (freshN 37 0) (freshN 37 1) t), (nameOf 8, .row 82 1 o.length), (freshN 37 0, tblR t), (freshN 37 1, tblM t)]) (fun i _ _ => (a :: n).length - i) (fun i t o => i ≤ (a :: n).length ∧ 1 ≤ i ∧ o ++ (newsP t ((a :: n).drop i)).map defP = (newsP [] (a :: n)).map defP ∧ ((a :: n).drop i).foldl tblP t = (a :: n).foldl tblP [] ∧ o.length ≤ i ∧ t.length ≤ i) 1 [a] [defP a] rfl ⟨by simp, by omega, by simp [newsP], by simp [tblP], by simp, by simp⟩ ?_
 rintro i t o ⟨h0, hi1, ho1, ho2, hl1, hl2⟩ IH
 have hol : o.length ≤ 60 := by omega
 have hrl := rowsB_length o
 conv => whnf
 refine br_intro (fun hc => ?_) (fun hc => ?_)
 ·have hc := lt_of_decE hsl hc
  have IH0 := IH (i + 1)
  clear IH
  rw [List.drop_eq_getElem_cons hc] at ho1 ho2
  rw [newsP] at ho1
  rw [List.foldl_cons] at ho2
  (conv => whnf); (repeat ((with_reducible refine must_intro ?_ ?_); exact decide_eq_true (by omega); (conv => whnf)))
  refine idxK_map_intro (show (i : Int).toNat < (a :: n).length by simpa using hc) ?_
  rw [show (a :: n)[(i : Int).toNat]'(by simpa using hc) = (a :: n)[i] from by congr 1]
  have h64s := h64 (a :: n)[i] (List.getElem_mem hc)
  generalize (a :: n)[i] = s at ho1 ho2 h64s ⊢
  have eB := byteA_ofB s
  have hsl2 := bel_length s
  by_cases hs : s ∈ t
  ·have IH := IH0 t o ⟨by omega, by omega, by rw [if_pos hs] at ho1; exact ho1, by rw [tblP_some hs] at ho2; exact ho2, by omega, by omega⟩ (by omega)
   conv => whnf
   refine ID_old t s hs fun j => ?_
   conv => whnf
   rw [i64_nat (by omega)]
   exact IH
  ·have IH := IH0 (t ++ [s]) (o ++ [defP s]) ⟨by omega, by omega, by rw [if_neg hs] at ho1; rw [← ho1]; simp, by rw [tblP_none hs] at ho2; exact ho2, by simp; omega, by simp; omega⟩ (by omega)
   rw [rowsB_append] at IH
   conv => whnf
   refine ID_more t s (by omega) hs fun j => ?_
   conv => whnf
   refine ⟨rfl, by rw [bel_bytes]; rw [eB]; simp only [List.length_append, hsl2, List.length_cons, List.length_nil]; omega, ?_⟩
   rw [eB, def_els]
   conv => whnf
   refine ⟨hrl.symm, by rw [hrl, bytes_bytes]; simp; omega, ?_⟩
   conv => whnf
   rw [i64_nat (by omega), hrl]
   rw [show (o ++ [defP s]).length = o.length + 1 by simp] at IH
   exact IH
 ·have hc := ge_of_decE hsl hc
  have e : i = (a :: n).length := by omega
  subst e
  rw [List.drop_length] at ho1 ho2
  rw [show newsP t [] = [] from rfl, List.map_nil, List.append_nil] at ho1
  rw [List.foldl_nil] at ho2
  rw [← eA] at ho2
  subst ho2
  rw [← ho1, rowsB_append] at h
  conv => whnf
  refine last_2 r t hM (by omega) hT1 hT2 hT3 ?_
  conv => whnf
  refine ⟨hrl.symm, by rw [hrl, bytes_bytes]; simp; omega, ?_⟩
  conv => whnf
  exact h
theorem sPut_3O (r : Rc) (l : List B) (hl : l.length < 90000) (hm : mayP 3 r = true) {R} (h : R (.tup [.sl none 1 (rowsB (payP 3 l r)), vi 0]) [tblO 1 2 (addT 3 l r), tblR (addT 3 l r), tblM (addT 3 l r)]) : ACalls Tryz.prog 121 [vi 3, .ptr 0 0, .agg r.enc] [tblO 1 2 l, tblR l, tblM l] R := by
 have hM := may_all hm
 have hd := hM.deps
 have hml := namesR_len r
 have hT1 := addT_mem (v := 3) (by decide) l r (x := r.target) (by simp [textsR])
 have hT2 : ∀ d ∈ r.deps, d.name ∈ addT 3 l r := fun d hd => addT_mem (by decide) l r (List.mem_cons_of_mem _ (List.mem_append_left _ (List.mem_map_of_mem hd)))
 have hT3 : r.tag ≠ [] → r.tag ∈ addT 3 l r := fun e => addT_mem (by decide) l r (by simp [textsR, e])
 have hTl := addT_len 3 l r
 have eA : addT 3 l r = (namesR r).foldl tblP l := addT_more (by decide) l r
 have eP : payP 3 l r = (newsP l (namesR r)).map defP ++ [lastW 3 (addT 3 l r) r] := by simp [payP, defsP]
 rw [eP] at h
 have hne := namesR_ne r
 have h64 : ∀ s ∈ namesR r, s.length ≤ 64 := fun s hs => (textsR_lens hM s (tblN_mem.1 hs)).2
 generalize hmr : namesR r = m at h hml eA eP hne h64
 generalize addT 3 l r = T at h hT1 hT2 hT3 hTl eA eP
 refine acalls_of_xwp (an := an121) tab_ok Tryz.func121 ?_
 have hsl := strs_length m
 conv => whnf
 refine skn_3 ?_
 conv => whnf
 refine May_calls 3 r (by omega) fun p hp => ?_
 rw [hm] at hp
 subst hp
 conv => whnf
 refine rNames_calls r (by omega) ?_
 rw [hmr]
 conv => whnf
 refine LoopP.ind3 (fun (i : Nat) (t o : List B) => [(8, .sl (some (nameOf 8)) 1 (rowsB o)), (30, vi i)]) (fun i t o => [(0, tblO 1 2 t), (1, tblR t), (2, tblM t), (nameOf 8, .row 82 1 o.length)]) (fun i _ _ => m.length - i) (fun i t o => i ≤ m.length ∧ 0 ≤ i ∧ o ++ (newsP t (m.drop i)).map defP = (newsP l m).map defP ∧ (m.drop i).foldl tblP t = m.foldl tblP l ∧ o.length ≤ i ∧ t.length ≤ l.length + i) 0 l [] rfl ⟨by omega, by omega, by simp, by simp, by simp, by omega⟩ ?_
 rintro i t o ⟨h0, hi1, ho1, ho2, hl1, hl2⟩ IH
 have hol : o.length ≤ 60 := by omega
 have hrl := rowsB_length o
 conv => whnf
 refine br_intro (fun hc => ?_) (fun hc => ?_)
 ·have hc := lt_of_decE hsl hc
  have IH0 := IH (i + 1)
  clear IH
  rw [List.drop_eq_getElem_cons hc] at ho1 ho2
  rw [newsP] at ho1
  rw [List.foldl_cons] at ho2
  (conv => whnf); (repeat ((with_reducible refine must_intro ?_ ?_); exact decide_eq_true (by omega); (conv => whnf)))
  refine idxK_map_intro (show (i : Int).toNat < m.length by simpa using hc) ?_
  rw [show m[(i : Int).toNat]'(by simpa using hc) = m[i] from by congr 1]
  have h64s := h64 m[i] (List.getElem_mem hc)
  generalize m[i] = s at ho1 ho2 h64s ⊢
  have eB := byteA_ofB s
  have hsl2 := bel_length s
  by_cases hs : s ∈ t
  ·have IH := IH0 t o ⟨by omega, by omega, by rw [if_pos hs] at ho1; exact ho1, by rw [tblP_some hs] at ho2; exact ho2, by omega, by omega⟩ (by omega)
   conv => whnf
   refine ID_old t s hs fun j => ?_
   conv => whnf
   rw [i64_nat (by omega)]
   exact IH
  ·have IH := IH0 (t ++ [s]) (o ++ [defP s]) ⟨by omega, by omega, by rw [if_neg hs] at ho1; rw [← ho1]; simp, by rw [tblP_none hs] at ho2; exact ho2, by simp; omega, by simp; omega⟩ (by omega)
   rw [rowsB_append] at IH
   conv => whnf
   refine ID_more t s (by omega) hs fun j => ?_
   conv => whnf
   refine ⟨rfl, by rw [bel_bytes]; rw [eB]; simp only [List.length_append, hsl2, List.length_cons, List.length_nil]; omega, ?_⟩
   rw [eB, def_els]
   conv => whnf
   refine ⟨hrl.symm, by rw [hrl, bytes_bytes]; simp; omega, ?_⟩
   conv => whnf
   rw [i64_nat (by omega), hrl]
   rw [show (o ++ [defP s]).length = o.length + 1 by simp] at IH
   exact IH
 ·have hc := ge_of_decE hsl hc
  have e : i = m.length := by omega
  subst e
  rw [List.drop_length] at ho1 ho2
  rw [show newsP t [] = [] from rfl, List.map_nil, List.append_nil] at ho1
  rw [List.foldl_nil] at ho2
  rw [← eA] at ho2
  subst ho2
  rw [← ho1, rowsB_append] at h
  conv => whnf
  refine last_3 r t hM (by omega) hT1 hT2 hT3 ?_
  conv => whnf
  refine ⟨hrl.symm, by rw [hrl, bytes_bytes]; simp; omega, ?_⟩
  conv => whnf
  exact h
theorem sPut_3F (r : Rc) (hm : mayP 3 r = true) {R} (h : R (.tup [.sl none 1 (rowsB (payP 3 [] r)), vi 0]) [tblO 1 2 (addT 3 [] r), tblR (addT 3 [] r), tblM (addT 3 [] r)]) : ACalls Tryz.prog 121 [vi 3, .ptr 0 0, .agg r.enc] [tblF] R := by
 have hM := may_all hm
 have hd := hM.deps
 have hml := namesR_len r
 have hT1 := addT_mem (v := 3) (by decide) [] r (x := r.target) (by simp [textsR])
 have hT2 : ∀ d ∈ r.deps, d.name ∈ addT 3 [] r := fun d hd => addT_mem (by decide) [] r (List.mem_cons_of_mem _ (List.mem_append_left _ (List.mem_map_of_mem hd)))
 have hT3 : r.tag ≠ [] → r.tag ∈ addT 3 [] r := fun e => addT_mem (by decide) [] r (by simp [textsR, e])
 have hTl := addT_len 3 [] r
 have eA : addT 3 [] r = (namesR r).foldl tblP [] := addT_more (by decide) [] r
 have eP : payP 3 [] r = (newsP [] (namesR r)).map defP ++ [lastW 3 (addT 3 [] r) r] := by simp [payP, defsP]
 rw [eP] at h
 have hne := namesR_ne r
 have h64 : ∀ s ∈ namesR r, s.length ≤ 64 := fun s hs => (textsR_lens hM s (tblN_mem.1 hs)).2
 generalize hmr : namesR r = m at h hml eA eP hne h64
 generalize addT 3 [] r = T at h hT1 hT2 hT3 hTl eA eP
 refine acalls_of_xwp (an := an121) tab_ok Tryz.func121 ?_
 have hsl := strs_length m
 conv => whnf
 refine skn_3 ?_
 conv => whnf
 refine May_calls 3 r (by omega) fun p hp => ?_
 rw [hm] at hp
 subst hp
 conv => whnf
 refine rNames_calls r (by omega) ?_
 rw [hmr]
 conv => whnf
 obtain ⟨a, n, rfl⟩ := List.exists_cons_of_ne_nil hne
 refine LoopP.step ?_
 conv => whnf
 refine br_true (by rw [hsl]; simp <;> omega) ?_
 conv => whnf
 refine ID_new a ?_
 have eB := byteA_ofB a
 have hsl2 := bel_length a
 have ha64 := h64 a List.mem_cons_self
 conv => whnf
 refine ⟨rfl, by rw [bel_bytes]; rw [eB]; simp only [List.length_append, hsl2, List.length_cons, List.length_nil]; omega, ?_⟩
 rw [eB, def_els]
 conv => whnf
 refine ⟨rfl, by rw [bytes_bytes]; simp, ?_⟩
 conv => whnf
 refine LoopP.ind3 (fun (i : Nat) (t o : List B) => [(8, .sl (some (nameOf 8)) 1 (rowsB o)), (30, vi i)]) (fun i t o => [(0, tblO (freshN 37 0) (freshN 37 1) t), (nameOf 8, .row 82 1 o.length), (freshN 37 0, tblR t), (freshN 37 1, tblM t)]) (fun i _ _ => (a :: n).length - i) (fun i t o => i ≤ (a :: n).length ∧ 1 ≤ i ∧ o ++ (newsP t ((a :: n).drop i)).map defP = (newsP [] (a :: n)).map defP ∧ ((a :: n).drop i).foldl tblP t = (a :: n).foldl tblP [] ∧ o.length ≤ i ∧ t.length ≤ i) 1 [a] [defP a] rfl ⟨by simp, by omega, by simp [newsP], by simp [tblP], by simp, by simp⟩ ?_
 rintro i t o ⟨h0, hi1, ho1, ho2, hl1, hl2⟩ IH
 have hol : o.length ≤ 60 := by omega
 have hrl := rowsB_length o
 conv => whnf
 refine br_intro (fun hc => ?_) (fun hc => ?_)
 ·have hc := lt_of_decE hsl hc
  have IH0 := IH (i + 1)
  clear IH
  rw [List.drop_eq_getElem_cons hc] at ho1 ho2
  rw [newsP] at ho1
  rw [List.foldl_cons] at ho2
  (conv => whnf); (repeat ((with_reducible refine must_intro ?_ ?_); exact decide_eq_true (by omega); (conv => whnf)))
  refine idxK_map_intro (show (i : Int).toNat < (a :: n).length by simpa using hc) ?_
  rw [show (a :: n)[(i : Int).toNat]'(by simpa using hc) = (a :: n)[i] from by congr 1]
  have h64s := h64 (a :: n)[i] (List.getElem_mem hc)
  generalize (a :: n)[i] = s at ho1 ho2 h64s ⊢
  have eB := byteA_ofB s
  have hsl2 := bel_length s
  by_cases hs : s ∈ t
  ·have IH := IH0 t o ⟨by omega, by omega, by rw [if_pos hs] at ho1; exact ho1, by rw [tblP_some hs] at ho2; exact ho2, by omega, by omega⟩ (by omega)
   conv => whnf
   refine ID_old t s hs fun j => ?_
   conv => whnf
   rw [i64_nat (by omega)]
   exact IH
  ·have IH := IH0 (t ++ [s]) (o ++ [defP s]) ⟨by omega, by omega, by rw [if_neg hs] at ho1; rw [← ho1]; simp, by rw [tblP_none hs] at ho2; exact ho2, by simp; omega, by simp; omega⟩ (by omega)
   rw [rowsB_append] at IH
   conv => whnf
   refine ID_more t s (by omega) hs fun j => ?_
   conv => whnf
   refine ⟨rfl, by rw [bel_bytes]; rw [eB]; simp only [List.length_append, hsl2, List.length_cons, List.length_nil]; omega, ?_⟩
   rw [eB, def_els]
   conv => whnf
   refine ⟨hrl.symm, by rw [hrl, bytes_bytes]; simp; omega, ?_⟩
   conv => whnf
   rw [i64_nat (by omega), hrl]
   rw [show (o ++ [defP s]).length = o.length + 1 by simp] at IH
   exact IH
 ·have hc := ge_of_decE hsl hc
  have e : i = (a :: n).length := by omega
  subst e
  rw [List.drop_length] at ho1 ho2
  rw [show newsP t [] = [] from rfl, List.map_nil, List.append_nil] at ho1
  rw [List.foldl_nil] at ho2
  rw [← eA] at ho2
  subst ho2
  rw [← ho1, rowsB_append] at h
  conv => whnf
  refine last_3 r t hM (by omega) hT1 hT2 hT3 ?_
  conv => whnf
  refine ⟨hrl.symm, by rw [hrl, bytes_bytes]; simp; omega, ?_⟩
  conv => whnf
  exact h
theorem ne1 {v : Int} (hv : v = 2 ∨ v = 3) : v ≠ 1 := by omega
theorem sNo_vF {v : Int} (hv : v = 2 ∨ v = 3) (r : Rc) (hd : r.deps.length < 100000) (hm : mayP v r = false) {R} (h : R (.tup [.val (.slice none 0 0), vi 1]) [tblF]) : ACalls Tryz.prog 121 [vi v, .ptr 0 0, .agg r.enc] [tblF] R := by
 rcases hv with rfl | rfl
 ·exact sNo_2F r hd hm h
 ·exact sNo_3F r hd hm h
theorem sNo_vO {v : Int} (hv : v = 2 ∨ v = 3) (r : Rc) (l : List B) (hd : r.deps.length < 100000) (hm : mayP v r = false) {R} (h : R (.tup [.val (.slice none 0 0), vi 1]) [tblO 1 2 l, tblR l, tblM l]) : ACalls Tryz.prog 121 [vi v, .ptr 0 0, .agg r.enc] [tblO 1 2 l, tblR l, tblM l] R := by
 rcases hv with rfl | rfl
 ·exact sNo_2O r l hd hm h
 ·exact sNo_3O r l hd hm h
theorem sPut_vO {v : Int} (hv : v = 2 ∨ v = 3) (r : Rc) (l : List B) (hl : l.length < 90000) (hm : mayP v r = true) {R} (h : R (.tup [.sl none 1 (rowsB (payP v l r)), vi 0]) [tblO 1 2 (addT v l r), tblR (addT v l r), tblM (addT v l r)]) : ACalls Tryz.prog 121 [vi v, .ptr 0 0, .agg r.enc] [tblO 1 2 l, tblR l, tblM l] R := by
 rcases hv with rfl | rfl
 ·exact sPut_2O r l hl hm h
 ·exact sPut_3O r l hl hm h
theorem sPut_vF {v : Int} (hv : v = 2 ∨ v = 3) (r : Rc) (hm : mayP v r = true) {R} (h : R (.tup [.sl none 1 (rowsB (payP v [] r)), vi 0]) [tblO 1 2 (addT v [] r), tblR (addT v [] r), tblM (addT v [] r)]) : ACalls Tryz.prog 121 [vi v, .ptr 0 0, .agg r.enc] [tblF] R := by
 rcases hv with rfl | rfl
 ·exact sPut_2F r hm h
 ·exact sPut_3F r hm h
theorem placeI_mem {T : List B} {s : B} (h : s ∈ T) : placeI T s = ((T.idxOf s : Nat) : Int) := by
 have h1 : T[T.idxOf s]? = some s := by rw [List.getElem?_eq_getElem (List.idxOf_lt_length_of_mem h), List.getElem_idxOf]
 have h2 : ∀ j, j < T.idxOf s → T[j]? ≠ some s := fun j hj e => by
  obtain ⟨hl, e⟩ := List.getElem?_eq_some_iff.1 e
  have := List.not_of_lt_findIdx hj
  simp [e] at this
 unfold placeI
 rw [placeOf_of h1 h2]
theorem rPutT_calls (l : List B) (s : B) (hl : l.length < 1000000) {R} (h : R (.sl none 1 (strs (tblP l s))) []) : ACalls Tryz.prog 166 [.sl none 1 (strs l), vs s] [] R := by
 refine acalls_of_xwp (an := an166) tab_ok Tryz.func166 ?_
 have hsl := strs_length l
 conv => whnf
 refine Place_calls l s hl rfl fun p hp => ?_
 conv => whnf
 refine br_intro (fun g => ?_) (fun g => ?_)
 ·have hm : s ∈ l := by
   have : 0 ≤ p := by simpa using g
   rw [hp] at this
   exact Classical.byContradiction fun e => by have := placeI_neg.2 e; omega
  rw [tblP_some hm] at h
  conv => whnf
  exact h
 ·have hm : s ∉ l := by
   have : p < 0 := by simpa using g
   rw [hp] at this
   exact placeI_neg.1 this
  rw [tblP_none hm] at h
  conv => whnf
  refine ⟨rfl, (by rw [bytes_str, hsl]; simp only [List.length_nil]; omega), ?_⟩
  conv => whnf
  refine ⟨by simp, (by rw [bytes_str]; simp only [List.length_append, List.length_cons, List.length_nil, hsl]; omega), ?_⟩
  conv => whnf
  rw [show [] ++ strs l ++ [[AV.val (Value.string (ofB s))]] = strs (l ++ [s]) from by simp [strs, vs]]
  exact h
theorem tblN_calls (l : List B) (hl : l.length < 1000000) {R} (h : R (.sl none 1 (strs (tblN l))) []) : ACalls Tryz.prog 197 [.sl none 1 (strs l)] [] R := by
 refine acalls_of_xwp (an := an197) tab_ok Tryz.func197 ?_
 have hsl := strs_length l
 conv => whnf
 refine LoopP.ind2 (fun (i : Nat) (t : List B) => [(3, .sl none 1 (strs t)), (4, vi i)]) (fun i t => []) (fun i _ => l.length - i) (fun i t => i ≤ l.length ∧ t.length ≤ i ∧ t = tblN (l.take i)) 0 [] rfl ⟨by omega, by simp, rfl⟩ ?_
 rintro i t ⟨h0, h1, h2⟩ IH
 conv => whnf
 refine br_intro (fun hc => ?_) (fun hc => ?_)
 ·have hi := lt_of_decE hsl hc
  (conv => whnf); (repeat ((with_reducible refine must_intro ?_ ?_); exact decide_eq_true (by omega); (conv => whnf)))
  refine idxK_map_intro (show (i : Int).toNat < l.length by simpa using hi) ?_
  rw [show l[(i : Int).toNat]'(by simpa using hi) = l[i] from by congr 1]
  conv => whnf
  refine rPutT_calls t l[i] (by omega) ?_
  have hn : tblP t l[i] = tblN (l.take (i + 1)) := by
   rw [h2, List.take_succ_eq_append_getElem hi]
   unfold tblN
   rw [List.foldl_append]
   rfl
  have IH := IH (i + 1) (tblP t l[i]) ⟨hi, by have := tblP_len t l[i]; omega, hn⟩ (by omega)
  conv => whnf
  rw [i64_nat (by omega)]
  exact IH
 ·have hi := ge_of_decE hsl hc
  rw [List.take_of_length_le hi] at h2
  subst h2
  conv => whnf
  exact h
theorem refNames_calls (r : Rc) (hd : r.deps.length < 50000) {R} (h : R (.sl none 1 (strs (namesR r))) []) : ACalls Tryz.prog 164 [.agg r.enc] [] R := by
 refine acalls_of_xwp (an := an164) tab_ok Tryz.func164 ?_
 have hsl := dpsA_length r.deps
 have hN : namesR r = tblN (textsR r) := rfl
 conv => whnf
 refine LoopP.ind1 (fun (i : Nat) => [(3, .sl (some (nameOf 7)) 1 (strs (r.target :: (r.deps.take i).map (·.name)))), (4, vi i)]) (fun i => [(nameOf 7, .row 9 1 (i + 1))]) (fun i => r.deps.length - i) (fun i => i ≤ r.deps.length) 0 rfl (by omega) ?_
 rintro i h0 IH
 have hnl : (strs (r.target :: (r.deps.take i).map (·.name))).length = i + 1 := by rw [strs_length]; simp; omega
 conv => whnf
 refine br_intro (fun hc => ?_) (fun hc => ?_)
 ·have hc := lt_of_decE hsl hc
  have IH := IH (i + 1) hc (by omega)
  have e1 : strs (r.target :: (r.deps.take i).map (·.name)) ++ [[vs r.deps[i].name]] = strs (r.target :: (r.deps.take (i + 1)).map (·.name)) := by rw [← textsR_take r i hc, strs_append]; rfl
  rw [← e1] at IH
  (conv => whnf); (repeat ((with_reducible refine must_intro ?_ ?_); exact decide_eq_true (by omega); (conv => whnf)))
  refine idxK_map_intro (show (i : Int).toNat < r.deps.length by simpa using hc) ?_
  rw [show r.deps[(i : Int).toNat]'(by simpa using hc) = r.deps[i] from by congr 1]
  generalize r.deps[i] = d at IH e1 ⊢
  conv => whnf
  refine ⟨hnl.symm, by rw [hnl, bytes_str]; simp; omega, ?_⟩
  conv => whnf
  rw [i64_nat (by omega), hnl]
  exact IH
 ·have hc := ge_of_decE hsl hc
  have e : i = r.deps.length := by omega
  subst e
  rw [List.take_length] at hnl ⊢
  have hdl : (r.deps.map (·.name)).length = r.deps.length := by simp
  conv => whnf
  refine br_intro (fun g => ?_) (fun g => ?_)
  ·have g : r.tag ≠ [] := by
    have g : (!decide (ofB r.tag = ofB [])) = true := g
    intro e
    rw [e] at g
    simp at g
   have hT : textsR r = r.target :: (r.deps.map (·.name) ++ [r.tag]) := by simp [textsR, g]
   have e1 : strs (r.target :: r.deps.map (·.name)) ++ [[vs r.tag]] = strs (textsR r) := by
    rw [hT, ← List.cons_append, strs_append]; rfl
   have htl := textsR_len r
   conv => whnf
   refine ⟨hnl.symm, by rw [hnl, bytes_str]; simp; omega, ?_⟩
   conv => whnf
   refine (show ACalls Tryz.prog 197 [.sl none 1 (strs (r.target :: r.deps.map (·.name)) ++ [[vs r.tag]])] [] _ from ?_)
   rw [e1]
   refine tblN_calls (textsR r) (by omega) ?_
   conv => whnf
   exact h
  ·have g : r.tag = [] := by
    have g : (!decide (ofB r.tag = ofB [])) = false := g
    have g : ofB r.tag = ofB [] := by simpa using g
    exact ofB_inj g
   have hT : textsR r = r.target :: r.deps.map (·.name) := by simp [textsR, g]
   rw [← hT]
   have htl := textsR_len r
   conv => whnf
   refine tblN_calls (textsR r) (by omega) ?_
   conv => whnf
   exact h
theorem refText_calls {v : Int} (T : List B) (hT : T.length < 1000000) (s : B) (hs : v ≠ 1 → s ∈ T) (hl : s.length < 1000000) {R} (h : R (vs (textW v T s)) []) : ACalls Tryz.prog 168 [vi v, .sl none 1 (strs T), vs s] [] R := by
 refine acalls_of_xwp (an := an168) tab_ok Tryz.func168 ?_
 unfold textW at h
 by_cases hv : v = 1
 ·subst hv
  rw [if_pos rfl] at h
  conv => whnf
  refine ref2Put_calls s (by omega) ?_
  conv => whnf
  exact h
 ·rw [if_neg hv] at h
  have hi := List.idxOf_lt_length_of_mem (hs hv)
  conv => whnf
  refine br_false (by simpa using hv) ?_
  conv => whnf
  refine Place_calls T s hT rfl fun p hp => ?_
  rw [placeI_mem (hs hv)] at hp
  subst hp
  conv => whnf
  rw [u64_n (by omega)]
  refine ref1Put_calls _ (by omega) ?_
  conv => whnf
  exact h
theorem wz0 (n : U) : ((n.toNat : Int) == 0) = decide (n = 0) := by
 by_cases e : n = 0
 ·simp [e]
 ·have : n.toNat ≠ 0 := fun x => e (BitVec.eq_of_toNat_eq (by simpa using x))
  rw [decide_eq_false e]; simp; omega
theorem wz1 (n : U) : ((n.toNat : Int) != 0) = decide (n ≠ 0) := by
 show (!((n.toNat : Int) == 0)) = _
 rw [wz0]; by_cases e : n = 0 <;> simp [e]
theorem dz0 (l : List Dp) : ((((dpsA l).length : Nat) : Int) == 0) = decide (l = []) := by
 rw [dpsA_length]
 cases l with
 | nil => rfl
 | cons a l => simp; omega
def preN (r : Rc) (i : Nat) : List B := r.target :: (r.deps.take i).map (·.name)
theorem preN_mem (r : Rc) {i : Nat} (hi : i ≤ r.deps.length) (s : B) : s ∉ preN r i ↔ s ≠ r.target ∧ ∀ (j : Nat) (hj : j < r.deps.length), j < i → r.deps[j].name ≠ s := by
 unfold preN
 simp only [List.mem_cons, List.mem_map, not_or, not_exists, not_and]
 refine and_congr Iff.rfl ⟨fun h j hj hji e => h r.deps[j] ?_ e, fun h d hd e => ?_⟩
 ·have : (r.deps.take i)[j]'(by simp; omega) = r.deps[j] := by simp
  rw [← this]; exact List.getElem_mem _
 ·obtain ⟨j, hj, rfl⟩ := List.getElem_of_mem hd
  simp only [List.length_take] at hj
  rw [List.getElem_take] at e
  exact h j (by omega) (by omega) e
theorem preN_succ (r : Rc) {i : Nat} (hi : i < r.deps.length) : preN r (i + 1) = preN r i ++ [r.deps[i].name] := by
 unfold preN
 rw [List.take_succ_eq_append_getElem hi, List.map_append, List.cons_append]
 rfl
theorem refMay_calls (v : Int) (r : Rc) (hd : r.deps.length < 100000) {R} (h : ∀ p, p = mayP v r → R (.val (.bool p)) []) : ACalls Tryz.prog 81 [vi v, .agg r.enc] [] R := by
 refine acalls_of_xwp (an := an81) tab_ok Tryz.func81 ?_
 have hst := size_ofB r.tag
 have hsl := dpsA_length r.deps
 conv => whnf
 refine br_intro (fun g1 => ?_) (fun g1 => ?_)
 ·conv => whnf
  exact h false (by rw [mayP, if_pos (by rw [g1]; rfl)])
 conv => whnf
 refine br_intro (fun g2 => ?_) (fun g2 => ?_)
 ·have g2 : 3 < v := by simpa using g2
  conv => whnf
  exact h false (by rw [mayP, if_pos (by rw [g1, decide_eq_true g2]; rfl)])
 have g2 : ¬ 3 < v := by simpa using g2
 have g1' : ¬ v < 1 := by simpa using g1
 conv => whnf
 refine refName_calls r.target ?_
 conv => whnf
 refine br_intro (fun g3 => ?_) (fun g3 => ?_)
 ·conv => whnf
  exact h false (by rw [mayP, if_pos (by rw [g3]; simp)])
 have hm : mayP v r = if r.kind = 1 then !earlyP v r && (decide (r.tag.length ≤ 64) && depsP v r) else if r.kind = 2 then decide (r = goneR r) else false := by
  rw [mayP, if_neg (by rw [g1, decide_eq_false g2, g3]; simp)]
 conv => whnf
 refine br_intro (fun k2 => ?_) (fun k2 => ?_)
 ·have k2 : r.kind = 2 := by simpa using k2
  have hm2 : mayP v r = (decide (r.rule = 0) && (decide (r.deps = []) && (decide (r.out = 0) && (decide (r.wen = 0) && decide (r.tag = []))))) := by
   rw [hm, if_neg (by rw [k2]; decide), if_pos k2]
   have : (r = goneR r) ↔ (r.rule = 0 ∧ r.deps = [] ∧ r.out = 0 ∧ r.wen = 0 ∧ r.tag = []) := by
    constructor
    ·intro e
     have := congrArg Rc.rule e
     have := congrArg Rc.deps e
     have := congrArg Rc.out e
     have := congrArg Rc.wen e
     have := congrArg Rc.tag e
     simp only [goneR] at *
     refine ⟨?_, ?_, ?_, ?_, ?_⟩ <;> assumption
    ·rintro ⟨h1, h2, h3, h4, h5⟩
     cases r
     simp only [goneR] at *
     subst k2 h1 h2 h3 h4 h5
     rfl
   by_cases e : r = goneR r
   ·obtain ⟨a1, a2, a3, a4, a5⟩ := this.1 e
    rw [decide_eq_true e, decide_eq_true a1, decide_eq_true a2, decide_eq_true a3, decide_eq_true a4, decide_eq_true a5]; rfl
   ·rw [decide_eq_false e]
    refine (Bool.eq_false_iff.2 fun hx => e (this.2 ?_)).symm
    simpa using hx
  clear hm
  conv => whnf
  rw [wz0]
  refine br_intro (fun e1 => ?_) (fun e1 => ?_)
  ·rw [e1, Bool.true_and] at hm2
   conv => whnf
   rw [dz0]
   refine br_intro (fun e2 => ?_) (fun e2 => ?_)
   ·rw [e2, Bool.true_and] at hm2
    conv => whnf
    rw [wz0]
    refine br_intro (fun e3 => ?_) (fun e3 => ?_)
    ·rw [e3, Bool.true_and] at hm2
     conv => whnf
     rw [wz0]
     refine br_intro (fun e4 => ?_) (fun e4 => ?_)
     ·rw [e4, Bool.true_and] at hm2
      conv => whnf
      refine h _ ?_
      rw [hm2]
      exact decide_eq_decide.2 ⟨fun e => ofB_inj e, fun e => by rw [e]; rfl⟩
     ·conv => whnf
      exact h false (by rw [hm2, e4]; rfl)
    ·conv => whnf
     exact h false (by rw [hm2, e3]; rfl)
   ·conv => whnf
    exact h false (by rw [hm2, e2]; rfl)
  ·conv => whnf
   exact h false (by rw [hm2, e1]; rfl)
 have k2 : ¬ r.kind = 2 := by simpa using k2
 rw [if_neg k2] at hm
 conv => whnf
 refine br_intro (fun k1 => ?_) (fun k1 => ?_)
 ·have k1 : ¬ r.kind = 1 := by simpa using k1
  conv => whnf
  exact h false (by rw [hm, if_neg k1])
 have k1 : r.kind = 1 := by simpa using k1
 rw [if_pos k1] at hm
 conv => whnf
 rw [hsl]
 refine br_intro (fun q1 => ?_) (fun q1 => ?_)
 ·have hbad : decide (r.deps.length ≤ 16) = false := by simp at q1 ⊢; omega
  conv => whnf
  exact h false (by rw [hm, depsP, hbad]; simp)
 have hdl : decide (r.deps.length ≤ 16) = true := by simp at q1 ⊢; omega
 conv => whnf
 rw [hst]
 refine br_intro (fun q2 => ?_) (fun q2 => ?_)
 ·have hbad : decide (r.tag.length ≤ 64) = false := by simp at q2 ⊢; omega
  conv => whnf
  exact h false (by rw [hm, hbad]; simp)
 have htl : decide (r.tag.length ≤ 64) = true := by simp at q2 ⊢; omega
 rw [htl, Bool.true_and, depsP, hdl, Bool.and_true] at hm
 have hv12 : v = 1 ↔ v < 2 := by omega
 conv => whnf
 refine br_intro (fun v1 => ?_) (fun v1 => ?_)
 ·have v1 : v = 1 := by simpa using v1
  have e1 : decide (v < 2) = true := decide_eq_true (by omega)
  have e3 : decide (v < 3) = true := decide_eq_true (by omega)
  conv => whnf
  rw [wz1]
  refine br_intro (fun w1 => ?_) (fun w1 => ?_)
  ·conv => whnf
   exact h false (by rw [hm, earlyP, e1, w1]; rfl)
  ·conv => whnf
   refine br_true e3 ?_
   conv => whnf
   refine br_intro (fun t1 => ?_) (fun t1 => ?_)
   ·have t1 : r.tag ≠ [] := by intro e; rw [e] at t1; simp [ofB] at t1
    have t1 : decide (r.tag ≠ []) = true := decide_eq_true t1
    conv => whnf
    exact h false (by rw [hm, earlyP, e3, t1]; simp)
   ·have t1 : r.tag = [] := by
     have : ofB r.tag = { data := #[] } := by simpa using t1
     exact ofB_inj (this.trans nilB.symm)
    have he : earlyP v r = false := by rw [earlyP, w1, t1]; simp
    rw [he, Bool.not_false, Bool.true_and] at hm
    rw [hm] at h
    conv => whnf
    refine LoopP.ind1 (fun (i : Nat) => [(5, vi i)]) (fun _ => []) (fun i => r.deps.length - i) (fun i => i ≤ r.deps.length ∧ depsGo v (r.deps.drop i) (preN r i) = depsGo v r.deps [r.target]) 0 rfl ⟨by omega, rfl⟩ ?_
    rintro i ⟨h0, hD⟩ IH
    conv => whnf
    refine br_intro (fun hc => ?_) (fun hc => ?_)
    ·have hc := lt_of_decE hsl hc
     have hIH := IH (i + 1)
     clear IH
     rw [List.drop_eq_getElem_cons hc, depsGo] at hD
     rw [preN_succ r hc] at hIH
     have hmem := preN_mem r h0 r.deps[i].name
     (conv => whnf); (repeat ((with_reducible refine must_intro ?_ ?_); exact decide_eq_true (by omega); (conv => whnf)))
     refine idxK_map_intro (show (i : Int).toNat < r.deps.length by simpa using hc) ?_
     rw [show r.deps[(i : Int).toNat]'(by simpa using hc) = r.deps[i] from by congr 1]
     generalize r.deps[i] = d at hD hIH hmem ⊢
     conv => whnf
     refine refName_calls d.name ?_
     conv => whnf
     refine br_intro (fun n1 => ?_) (fun n1 => ?_)
     ·have n1 : nameOk d.name = false := by simpa using n1
      conv => whnf
      exact h false (by rw [← hD, n1]; rfl)
     have n1 : nameOk d.name = true := by simpa using n1
     rw [n1, Bool.true_and] at hD
     conv => whnf
     refine br_intro (fun n2 => ?_) (fun n2 => ?_)
     ·have n2 : d.name = r.target := by simpa [ofB_eq] using n2
      have hb : decide (d.name ∉ preN r i) = false := decide_eq_false fun hx => (hmem.1 hx).1 n2
      conv => whnf
      exact h false (by rw [← hD, hb]; rfl)
     have n2 : d.name ≠ r.target := by simpa [ofB_eq] using n2
     conv => whnf
     refine br_intro (fun o1 => ?_) (fun o1 => ?_)
     ·rw [o1, Bool.true_and] at hD
      conv => whnf
      refine br_intro (fun o2 => ?_) (fun o2 => ?_)
      ·rw [o2] at hD
       conv => whnf
       exact h false (by rw [← hD]; simp)
      ·rw [o2, Bool.not_false, Bool.true_and] at hD
       conv => whnf
       refine LoopP.ind1 (fun (k : Nat) => [(7, vi k)]) (fun _ => []) (fun k => i - k) (fun k => k ≤ i ∧ ∀ (j : Nat) (hj : j < r.deps.length), j < k → r.deps[j].name ≠ d.name) 0 rfl ⟨by omega, fun j hj h => by omega⟩ ?_
       rintro k ⟨hk0, hk1⟩ IH2
       conv => whnf
       refine br_intro (fun hk => ?_) (fun hk => ?_)
       ·have hk : k < i := by simp at hk; omega
        have hkl : k < r.deps.length := by omega
        (conv => whnf); (repeat ((with_reducible refine must_intro ?_ ?_); exact decide_eq_true (by omega); (conv => whnf)))
        refine idxK_map_intro (show (k : Int).toNat < r.deps.length by simpa using hkl) ?_
        rw [show r.deps[(k : Int).toNat]'(by simpa using hkl) = r.deps[k] from by congr 1]
        conv => whnf
        refine br_intro (fun q => ?_) (fun q => ?_)
        ·have q : r.deps[k].name = d.name := by simpa [ofB_eq] using q
         have hb : decide (d.name ∉ preN r i) = false := decide_eq_false fun hx => (hmem.1 hx).2 k hkl hk q
         conv => whnf
         exact h false (by rw [← hD, hb]; rfl)
        ·have q : r.deps[k].name ≠ d.name := by simpa [ofB_eq] using q
         have IH3 := IH2 (k + 1) ⟨by omega, fun j hj hjk => (Nat.lt_succ_iff_lt_or_eq.1 hjk).elim (fun e => hk1 j hj e) (fun e => by subst e; exact q)⟩ (by omega)
         conv => whnf
         rw [i64_nat (by omega)]
         exact IH3
       ·have hk : k = i := by simp at hk; omega
        have hb : decide (d.name ∉ preN r i) = true := decide_eq_true (hmem.2 ⟨n2, fun j hj hji => hk1 j hj (by omega)⟩)
        rw [hb, Bool.true_and] at hD
        conv => whnf
        rw [i64_nat (by omega)]
        exact hIH ⟨by omega, hD⟩ (by omega)
     ·rw [o1, Bool.false_and, Bool.not_false, Bool.true_and] at hD
      conv => whnf
      refine LoopP.ind1 (fun (k : Nat) => [(7, vi k)]) (fun _ => []) (fun k => i - k) (fun k => k ≤ i ∧ ∀ (j : Nat) (hj : j < r.deps.length), j < k → r.deps[j].name ≠ d.name) 0 rfl ⟨by omega, fun j hj h => by omega⟩ ?_
      rintro k ⟨hk0, hk1⟩ IH2
      conv => whnf
      refine br_intro (fun hk => ?_) (fun hk => ?_)
      ·have hk : k < i := by simp at hk; omega
       have hkl : k < r.deps.length := by omega
       (conv => whnf); (repeat ((with_reducible refine must_intro ?_ ?_); exact decide_eq_true (by omega); (conv => whnf)))
       refine idxK_map_intro (show (k : Int).toNat < r.deps.length by simpa using hkl) ?_
       rw [show r.deps[(k : Int).toNat]'(by simpa using hkl) = r.deps[k] from by congr 1]
       conv => whnf
       refine br_intro (fun q => ?_) (fun q => ?_)
       ·have q : r.deps[k].name = d.name := by simpa [ofB_eq] using q
        have hb : decide (d.name ∉ preN r i) = false := decide_eq_false fun hx => (hmem.1 hx).2 k hkl hk q
        conv => whnf
        exact h false (by rw [← hD, hb]; rfl)
       ·have q : r.deps[k].name ≠ d.name := by simpa [ofB_eq] using q
        have IH3 := IH2 (k + 1) ⟨by omega, fun j hj hjk => (Nat.lt_succ_iff_lt_or_eq.1 hjk).elim (fun e => hk1 j hj e) (fun e => by subst e; exact q)⟩ (by omega)
        conv => whnf
        rw [i64_nat (by omega)]
        exact IH3
      ·have hk : k = i := by simp at hk; omega
       have hb : decide (d.name ∉ preN r i) = true := decide_eq_true (hmem.2 ⟨n2, fun j hj hji => hk1 j hj (by omega)⟩)
       rw [hb, Bool.true_and] at hD
       conv => whnf
       rw [i64_nat (by omega)]
       exact hIH ⟨by omega, hD⟩ (by omega)
    ·have hc := ge_of_decE hsl hc
     rw [List.drop_eq_nil_of_le hc, depsGo] at hD
     conv => whnf
     exact h true hD
 ·have v1 : ¬ v = 1 := by simpa using v1
  have e1 : decide (v < 2) = false := decide_eq_false (by omega)
  conv => whnf
  refine br_intro (fun e3 => ?_) (fun e3 => ?_)
  ·conv => whnf
   refine br_intro (fun t1 => ?_) (fun t1 => ?_)
   ·have t1 : r.tag ≠ [] := by intro e; rw [e] at t1; simp [ofB] at t1
    have t1 : decide (r.tag ≠ []) = true := decide_eq_true t1
    conv => whnf
    exact h false (by rw [hm, earlyP, e3, t1]; simp)
   ·have t1 : r.tag = [] := by
     have : ofB r.tag = { data := #[] } := by simpa using t1
     exact ofB_inj (this.trans nilB.symm)
    have he : earlyP v r = false := by rw [earlyP, e1, t1]; simp
    rw [he, Bool.not_false, Bool.true_and] at hm
    rw [hm] at h
    conv => whnf
    refine LoopP.ind1 (fun (i : Nat) => [(5, vi i)]) (fun _ => []) (fun i => r.deps.length - i) (fun i => i ≤ r.deps.length ∧ depsGo v (r.deps.drop i) (preN r i) = depsGo v r.deps [r.target]) 0 rfl ⟨by omega, rfl⟩ ?_
    rintro i ⟨h0, hD⟩ IH
    conv => whnf
    refine br_intro (fun hc => ?_) (fun hc => ?_)
    ·have hc := lt_of_decE hsl hc
     have hIH := IH (i + 1)
     clear IH
     rw [List.drop_eq_getElem_cons hc, depsGo] at hD
     rw [preN_succ r hc] at hIH
     have hmem := preN_mem r h0 r.deps[i].name
     (conv => whnf); (repeat ((with_reducible refine must_intro ?_ ?_); exact decide_eq_true (by omega); (conv => whnf)))
     refine idxK_map_intro (show (i : Int).toNat < r.deps.length by simpa using hc) ?_
     rw [show r.deps[(i : Int).toNat]'(by simpa using hc) = r.deps[i] from by congr 1]
     generalize r.deps[i] = d at hD hIH hmem ⊢
     conv => whnf
     refine refName_calls d.name ?_
     conv => whnf
     refine br_intro (fun n1 => ?_) (fun n1 => ?_)
     ·have n1 : nameOk d.name = false := by simpa using n1
      conv => whnf
      exact h false (by rw [← hD, n1]; rfl)
     have n1 : nameOk d.name = true := by simpa using n1
     rw [n1, Bool.true_and] at hD
     conv => whnf
     refine br_intro (fun n2 => ?_) (fun n2 => ?_)
     ·have n2 : d.name = r.target := by simpa [ofB_eq] using n2
      have hb : decide (d.name ∉ preN r i) = false := decide_eq_false fun hx => (hmem.1 hx).1 n2
      conv => whnf
      exact h false (by rw [← hD, hb]; rfl)
     have n2 : d.name ≠ r.target := by simpa [ofB_eq] using n2
     conv => whnf
     refine br_intro (fun o1 => ?_) (fun o1 => ?_)
     ·rw [o1, Bool.true_and] at hD
      conv => whnf
      refine br_intro (fun o2 => ?_) (fun o2 => ?_)
      ·rw [o2] at hD
       conv => whnf
       exact h false (by rw [← hD]; simp)
      ·rw [o2, Bool.not_false, Bool.true_and] at hD
       conv => whnf
       refine LoopP.ind1 (fun (k : Nat) => [(7, vi k)]) (fun _ => []) (fun k => i - k) (fun k => k ≤ i ∧ ∀ (j : Nat) (hj : j < r.deps.length), j < k → r.deps[j].name ≠ d.name) 0 rfl ⟨by omega, fun j hj h => by omega⟩ ?_
       rintro k ⟨hk0, hk1⟩ IH2
       conv => whnf
       refine br_intro (fun hk => ?_) (fun hk => ?_)
       ·have hk : k < i := by simp at hk; omega
        have hkl : k < r.deps.length := by omega
        (conv => whnf); (repeat ((with_reducible refine must_intro ?_ ?_); exact decide_eq_true (by omega); (conv => whnf)))
        refine idxK_map_intro (show (k : Int).toNat < r.deps.length by simpa using hkl) ?_
        rw [show r.deps[(k : Int).toNat]'(by simpa using hkl) = r.deps[k] from by congr 1]
        conv => whnf
        refine br_intro (fun q => ?_) (fun q => ?_)
        ·have q : r.deps[k].name = d.name := by simpa [ofB_eq] using q
         have hb : decide (d.name ∉ preN r i) = false := decide_eq_false fun hx => (hmem.1 hx).2 k hkl hk q
         conv => whnf
         exact h false (by rw [← hD, hb]; rfl)
        ·have q : r.deps[k].name ≠ d.name := by simpa [ofB_eq] using q
         have IH3 := IH2 (k + 1) ⟨by omega, fun j hj hjk => (Nat.lt_succ_iff_lt_or_eq.1 hjk).elim (fun e => hk1 j hj e) (fun e => by subst e; exact q)⟩ (by omega)
         conv => whnf
         rw [i64_nat (by omega)]
         exact IH3
       ·have hk : k = i := by simp at hk; omega
        have hb : decide (d.name ∉ preN r i) = true := decide_eq_true (hmem.2 ⟨n2, fun j hj hji => hk1 j hj (by omega)⟩)
        rw [hb, Bool.true_and] at hD
        conv => whnf
        rw [i64_nat (by omega)]
        exact hIH ⟨by omega, hD⟩ (by omega)
     ·rw [o1, Bool.false_and, Bool.not_false, Bool.true_and] at hD
      conv => whnf
      refine LoopP.ind1 (fun (k : Nat) => [(7, vi k)]) (fun _ => []) (fun k => i - k) (fun k => k ≤ i ∧ ∀ (j : Nat) (hj : j < r.deps.length), j < k → r.deps[j].name ≠ d.name) 0 rfl ⟨by omega, fun j hj h => by omega⟩ ?_
      rintro k ⟨hk0, hk1⟩ IH2
      conv => whnf
      refine br_intro (fun hk => ?_) (fun hk => ?_)
      ·have hk : k < i := by simp at hk; omega
       have hkl : k < r.deps.length := by omega
       (conv => whnf); (repeat ((with_reducible refine must_intro ?_ ?_); exact decide_eq_true (by omega); (conv => whnf)))
       refine idxK_map_intro (show (k : Int).toNat < r.deps.length by simpa using hkl) ?_
       rw [show r.deps[(k : Int).toNat]'(by simpa using hkl) = r.deps[k] from by congr 1]
       conv => whnf
       refine br_intro (fun q => ?_) (fun q => ?_)
       ·have q : r.deps[k].name = d.name := by simpa [ofB_eq] using q
        have hb : decide (d.name ∉ preN r i) = false := decide_eq_false fun hx => (hmem.1 hx).2 k hkl hk q
        conv => whnf
        exact h false (by rw [← hD, hb]; rfl)
       ·have q : r.deps[k].name ≠ d.name := by simpa [ofB_eq] using q
        have IH3 := IH2 (k + 1) ⟨by omega, fun j hj hjk => (Nat.lt_succ_iff_lt_or_eq.1 hjk).elim (fun e => hk1 j hj e) (fun e => by subst e; exact q)⟩ (by omega)
        conv => whnf
        rw [i64_nat (by omega)]
        exact IH3
      ·have hk : k = i := by simp at hk; omega
       have hb : decide (d.name ∉ preN r i) = true := decide_eq_true (hmem.2 ⟨n2, fun j hj hji => hk1 j hj (by omega)⟩)
       rw [hb, Bool.true_and] at hD
       conv => whnf
       rw [i64_nat (by omega)]
       exact hIH ⟨by omega, hD⟩ (by omega)
    ·have hc := ge_of_decE hsl hc
     rw [List.drop_eq_nil_of_le hc, depsGo] at hD
     conv => whnf
     exact h true hD
  ·have he : earlyP v r = false := by rw [earlyP, e1, e3]; simp
   rw [he, Bool.not_false, Bool.true_and] at hm
   rw [hm] at h
   conv => whnf
   refine LoopP.ind1 (fun (i : Nat) => [(5, vi i)]) (fun _ => []) (fun i => r.deps.length - i) (fun i => i ≤ r.deps.length ∧ depsGo v (r.deps.drop i) (preN r i) = depsGo v r.deps [r.target]) 0 rfl ⟨by omega, rfl⟩ ?_
   rintro i ⟨h0, hD⟩ IH
   conv => whnf
   refine br_intro (fun hc => ?_) (fun hc => ?_)
   ·have hc := lt_of_decE hsl hc
    have hIH := IH (i + 1)
    clear IH
    rw [List.drop_eq_getElem_cons hc, depsGo] at hD
    rw [preN_succ r hc] at hIH
    have hmem := preN_mem r h0 r.deps[i].name
    (conv => whnf); (repeat ((with_reducible refine must_intro ?_ ?_); exact decide_eq_true (by omega); (conv => whnf)))
    refine idxK_map_intro (show (i : Int).toNat < r.deps.length by simpa using hc) ?_
    rw [show r.deps[(i : Int).toNat]'(by simpa using hc) = r.deps[i] from by congr 1]
    generalize r.deps[i] = d at hD hIH hmem ⊢
    conv => whnf
    refine refName_calls d.name ?_
    conv => whnf
    refine br_intro (fun n1 => ?_) (fun n1 => ?_)
    ·have n1 : nameOk d.name = false := by simpa using n1
     conv => whnf
     exact h false (by rw [← hD, n1]; rfl)
    have n1 : nameOk d.name = true := by simpa using n1
    rw [n1, Bool.true_and] at hD
    conv => whnf
    refine br_intro (fun n2 => ?_) (fun n2 => ?_)
    ·have n2 : d.name = r.target := by simpa [ofB_eq] using n2
     have hb : decide (d.name ∉ preN r i) = false := decide_eq_false fun hx => (hmem.1 hx).1 n2
     conv => whnf
     exact h false (by rw [← hD, hb]; rfl)
    have n2 : d.name ≠ r.target := by simpa [ofB_eq] using n2
    conv => whnf
    refine br_intro (fun o1 => ?_) (fun o1 => ?_)
    ·rw [o1, Bool.true_and] at hD
     conv => whnf
     refine br_intro (fun o2 => ?_) (fun o2 => ?_)
     ·rw [o2] at hD
      conv => whnf
      exact h false (by rw [← hD]; simp)
     ·rw [o2, Bool.not_false, Bool.true_and] at hD
      conv => whnf
      refine LoopP.ind1 (fun (k : Nat) => [(7, vi k)]) (fun _ => []) (fun k => i - k) (fun k => k ≤ i ∧ ∀ (j : Nat) (hj : j < r.deps.length), j < k → r.deps[j].name ≠ d.name) 0 rfl ⟨by omega, fun j hj h => by omega⟩ ?_
      rintro k ⟨hk0, hk1⟩ IH2
      conv => whnf
      refine br_intro (fun hk => ?_) (fun hk => ?_)
      ·have hk : k < i := by simp at hk; omega
       have hkl : k < r.deps.length := by omega
       (conv => whnf); (repeat ((with_reducible refine must_intro ?_ ?_); exact decide_eq_true (by omega); (conv => whnf)))
       refine idxK_map_intro (show (k : Int).toNat < r.deps.length by simpa using hkl) ?_
       rw [show r.deps[(k : Int).toNat]'(by simpa using hkl) = r.deps[k] from by congr 1]
       conv => whnf
       refine br_intro (fun q => ?_) (fun q => ?_)
       ·have q : r.deps[k].name = d.name := by simpa [ofB_eq] using q
        have hb : decide (d.name ∉ preN r i) = false := decide_eq_false fun hx => (hmem.1 hx).2 k hkl hk q
        conv => whnf
        exact h false (by rw [← hD, hb]; rfl)
       ·have q : r.deps[k].name ≠ d.name := by simpa [ofB_eq] using q
        have IH3 := IH2 (k + 1) ⟨by omega, fun j hj hjk => (Nat.lt_succ_iff_lt_or_eq.1 hjk).elim (fun e => hk1 j hj e) (fun e => by subst e; exact q)⟩ (by omega)
        conv => whnf
        rw [i64_nat (by omega)]
        exact IH3
      ·have hk : k = i := by simp at hk; omega
       have hb : decide (d.name ∉ preN r i) = true := decide_eq_true (hmem.2 ⟨n2, fun j hj hji => hk1 j hj (by omega)⟩)
       rw [hb, Bool.true_and] at hD
       conv => whnf
       rw [i64_nat (by omega)]
       exact hIH ⟨by omega, hD⟩ (by omega)
    ·rw [o1, Bool.false_and, Bool.not_false, Bool.true_and] at hD
     conv => whnf
     refine LoopP.ind1 (fun (k : Nat) => [(7, vi k)]) (fun _ => []) (fun k => i - k) (fun k => k ≤ i ∧ ∀ (j : Nat) (hj : j < r.deps.length), j < k → r.deps[j].name ≠ d.name) 0 rfl ⟨by omega, fun j hj h => by omega⟩ ?_
     rintro k ⟨hk0, hk1⟩ IH2
     conv => whnf
     refine br_intro (fun hk => ?_) (fun hk => ?_)
     ·have hk : k < i := by simp at hk; omega
      have hkl : k < r.deps.length := by omega
      (conv => whnf); (repeat ((with_reducible refine must_intro ?_ ?_); exact decide_eq_true (by omega); (conv => whnf)))
      refine idxK_map_intro (show (k : Int).toNat < r.deps.length by simpa using hkl) ?_
      rw [show r.deps[(k : Int).toNat]'(by simpa using hkl) = r.deps[k] from by congr 1]
      conv => whnf
      refine br_intro (fun q => ?_) (fun q => ?_)
      ·have q : r.deps[k].name = d.name := by simpa [ofB_eq] using q
       have hb : decide (d.name ∉ preN r i) = false := decide_eq_false fun hx => (hmem.1 hx).2 k hkl hk q
       conv => whnf
       exact h false (by rw [← hD, hb]; rfl)
      ·have q : r.deps[k].name ≠ d.name := by simpa [ofB_eq] using q
       have IH3 := IH2 (k + 1) ⟨by omega, fun j hj hjk => (Nat.lt_succ_iff_lt_or_eq.1 hjk).elim (fun e => hk1 j hj e) (fun e => by subst e; exact q)⟩ (by omega)
       conv => whnf
       rw [i64_nat (by omega)]
       exact IH3
     ·have hk : k = i := by simp at hk; omega
      have hb : decide (d.name ∉ preN r i) = true := decide_eq_true (hmem.2 ⟨n2, fun j hj hji => hk1 j hj (by omega)⟩)
      rw [hb, Bool.true_and] at hD
      conv => whnf
      rw [i64_nat (by omega)]
      exact hIH ⟨by omega, hD⟩ (by omega)
   ·have hc := ge_of_decE hsl hc
    rw [List.drop_eq_nil_of_le hc, depsGo] at hD
    conv => whnf
    exact h true hD
end Go.Abs
end
