/- rule.Clean and the document's Clean. -/
import Derived.Test.YtlagdcbgkfaheaaF5
set_option maxRecDepth 100000
set_option linter.unusedVariables false
set_option linter.unusedSimpArgs false
namespace Go.Abs
open Go Go.Proofs Dig
attribute [local irreducible] ibits byteAt strLt firstIdx

theorem Clean_calls (l : List Nd) (hl : small l) (given : List Sp) (hg : given.length < 1000000) {R} (h : ∀ c e, c = cleanP l given → e = checkP l → R (.tup [.sl none 3 (sps c), vi e]) []) :
    ACalls Try.prog 51 [.sl none 4 (nds l), .sl none 3 (sps given)] [] R := by
  refine ACalls.res ?_
  refine acalls_of_xwp (an := an51) tab_ok Try.func51 ?_
  have hsl := nds_length l
  have hl' := hl
  obtain ⟨hlen, hsm⟩ := hl
  (conv => whnf)
  refine Order_calls l hl' fun o e ho he => ?_
  have hol := ints_length o
  have hbd : ∀ b ∈ o, b < l.length := fun b hb => orderP_bound (by rw [← ho]; exact hb)
  have hoL : o.length ≤ l.length := by rw [ho]; exact orderP_len l
  (conv => whnf)
  refine br_intro (fun g => ?_) (fun g => ?_)
  · have g : e ≠ 0 := by simpa using g
    have ho : o = [] := by rw [ho, orderP, if_neg (by rw [← he]; exact g)]
    (conv => whnf)
    refine res_le (le_tup (leL.cons (le_nil 3) (leL.cons (.refl _) leL.nil))) rfl (h [] e ?_ he)
    unfold cleanP
    rw [orderP, if_neg (by rw [← he]; exact g)]
    rfl
  have g : e = 0 := by simpa using g
  have hbt : (tab.ti 116).bytes = 32 := rfl
  (conv => whnf)
  refine LoopP.ind3 (fun (i : Nat) (out : List Sp) (es : List (ByteArray × AV)) => [(9, .sl (some (nameOf 9)) 3 (sps out)), (25, vi i)])
    (fun i out es => [(nameOf 8, .cells 117 [.mapv (nameOf 22)]), (nameOf 9, .row 116 3 out.length), (nameOf 22, .map es)])
    (fun i _ _ => o.length - i) (fun i out es => i ≤ o.length ∧ out = cleanFrom l given (o.take i) ∧ ConMap es (givenP out)) 0 [] [] rfl ⟨by omega, rfl, fun s => .inr ⟨rfl, rfl⟩⟩ ?_
  rintro i out es ⟨h0, hout, hk⟩ IH
  have hpl := sps_length out
  have hol2 : out.length ≤ i := by rw [hout]; have := clean_length l given (o.take i); simp at this; omega
  (conv => whnf)
  refine br_intro (fun hc => ?_) (fun hc => ?_)
  · have hc := lt_of_decE hol hc
    have hb := hbd _ (List.getElem_mem hc)
    have hsn := clean_snoc (l := l) given hc hb
    rw [← hout] at hsn
    (conv => whnf); (repeat ((with_reducible refine must_intro ?_ ?_); exact decide_eq_true (by omega); (conv => whnf)))
    refine idxK_map_intro (show (i : Int).toNat < o.length by simpa using hc) ?_
    rw [show o[(i : Int).toNat]'(by simpa using hc) = o[i] from by congr 1]
    (conv => whnf); (repeat ((with_reducible refine must_intro ?_ ?_); exact decide_eq_true (by omega); (conv => whnf)))
    refine idxK_map_intro (show ((o[i] : Nat) : Int).toNat < l.length by simpa using hb) ?_
    rw [show l[((o[i] : Nat) : Int).toNat]'(by simpa using hb) = l[o[i]] from by congr 1]
    generalize hn : l[o[i]] = n at hsn ⊢
    have hnd : n.deps.length < 10000 := by rw [← hn]; exact (hsm _ (List.getElem_mem hb)).1
    (conv => whnf)
    refine codeGiven given hg n.name fun d hd => ?_
    (conv => whnf)
    have fin : ∀ (x : U), ⟨n.name, !n.source, x⟩ = (⟨n.name, !n.source, if n.source = true then givenP given n.name else fold n.rule (n.deps.map (givenP out))⟩ : Sp) →
        out ++ [⟨n.name, !n.source, x⟩] = cleanFrom l given (o.take (i + 1)) ∧ ConMap (mapPut es (ofB n.name) (uv x)) (givenP (out ++ [⟨n.name, !n.source, x⟩])) := by
      intro x hx
      refine ⟨by rw [hsn, hx], ?_⟩
      have := hk.put n.name x
      have e : givenP (out ++ [⟨n.name, !n.source, x⟩]) = fun s => if n.name = s then x else givenP out s := by
        funext s
        rw [givenP_snoc]
      rw [e]
      exact this
    refine br_intro (fun hs => ?_) (fun hs => ?_)
    · have hs : n.source = false := by simpa using hs
      (conv => whnf)
      refine each_calls n.deps (by omega) es (givenP out) hk fun r hr => ?_
      (conv => whnf)
      refine Run_x n r (by rw [hr]; simp; omega) fun x hx => ?_
      (conv => whnf)
      refine ⟨hpl.symm, (by rw [hpl]; show (out.length + 1) * (32 + 1) ≤ _; omega), ?_⟩
      (conv => whnf)
      obtain ⟨f1, f2⟩ := fin x (by rw [hx, hr, hs]; simp)
      have e1 : sps out ++ [[AV.val (Value.string (ofB n.name)), AV.val (Value.bool !n.source), AV.val (Value.int IntKind.u64 (x.toNat : Int))]] = sps (out ++ [⟨n.name, !n.source, x⟩]) := by simp [sps, stepC, Sp.v]
      have e2 : (sps out).length + [[AV.val (Value.string (ofB n.name)), AV.val (Value.bool !n.source), AV.val (Value.int IntKind.u64 (x.toNat : Int))]].length = (out ++ [(⟨n.name, !n.source, x⟩ : Sp)]).length := by simp [hpl]
      rw [e1, e2, i64_nat (by omega)]
      exact IH (i + 1) (out ++ [⟨n.name, !n.source, x⟩]) (mapPut es (ofB n.name) (uv x)) ⟨by omega, f1, f2⟩ (by omega)
    · have hs : n.source = true := by simpa using hs
      (conv => whnf)
      refine ⟨hpl.symm, (by rw [hpl]; show (out.length + 1) * (32 + 1) ≤ _; omega), ?_⟩
      (conv => whnf)
      obtain ⟨f1, f2⟩ := fin d (by rw [hd, hs]; simp)
      have e1 : sps out ++ [[AV.val (Value.string (ofB n.name)), AV.val (Value.bool !n.source), AV.val (Value.int IntKind.u64 (d.toNat : Int))]] = sps (out ++ [⟨n.name, !n.source, d⟩]) := by simp [sps, stepC, Sp.v]
      have e2 : (sps out).length + [[AV.val (Value.string (ofB n.name)), AV.val (Value.bool !n.source), AV.val (Value.int IntKind.u64 (d.toNat : Int))]].length = (out ++ [(⟨n.name, !n.source, d⟩ : Sp)]).length := by simp [hpl]
      rw [e1, e2, i64_nat (by omega)]
      exact IH (i + 1) (out ++ [⟨n.name, !n.source, d⟩]) (mapPut es (ofB n.name) (uv d)) ⟨by omega, f1, f2⟩ (by omega)
  · have hc := ge_of_decE hol hc
    rw [List.take_of_length_le hc, ho] at hout
    (conv => whnf)
    refine res_same ?_
    exact h out 0 hout (by rw [← he, g])

theorem refClean_calls (l : List Nd) (hl : small l) (given : List Sp) (hg : given.length < 1000000) {R} (h : ∀ c e, c = cleanP l given → e = checkP l → R (.tup [.sl none 3 (sps c), vi e]) []) :
    ACalls Try.prog 52 [.sl none 4 (nds l), .sl none 3 (sps given)] [] R := by
  refine acalls_of_xwp (an := an52) tab_ok Try.func52 ?_
  have hsl := nds_length l
  have hl' := hl
  obtain ⟨hlen, hsm⟩ := hl
  (conv => whnf)
  refine refCheck_calls l hl' fun e he => ?_
  (conv => whnf)
  refine br_intro (fun g => ?_) (fun g => ?_)
  · have g : e ≠ 0 := by simpa using g
    (conv => whnf)
    refine h [] e ?_ he
    unfold cleanP
    rw [orderP, if_neg (by rw [← he]; exact g)]
    rfl
  have g : e = 0 := by simpa using g
  have hchk : checkP l = 0 := by rw [← he, g]
  have hnd : (l.map (·.name)).Nodup := by
    refine (chk1_nodup l [] ?_).1
    unfold checkP at hchk
    split at hchk
    · cases hchk
    · split at hchk
      · rename_i h1 h2; exact absurd hchk h2
      · rename_i h1 h2; exact Classical.byContradiction fun e => h2 e
  (conv => whnf)
  refine refRow_calls l hl' hnd fun o ho => ?_
  have ho : o = orderP l := by rw [ho, orderP, if_pos hchk]
  have hol := ints_length o
  have hbd : ∀ b ∈ o, b < l.length := fun b hb => orderP_bound (by rw [← ho]; exact hb)
  have hoL : o.length ≤ l.length := by rw [ho]; exact orderP_len l
  (conv => whnf)
  refine LoopP.ind2 (fun (i : Nat) (out : List Sp) => [(6, .sl (some (nameOf 14)) 3 (sps out)), (9, vi i)])
    (fun i out => [(nameOf 14, .row 116 3 out.length)])
    (fun i _ => o.length - i) (fun i out => i ≤ o.length ∧ out = cleanFrom l given (o.take i)) 0 [] rfl ⟨by omega, rfl⟩ ?_
  rintro i out ⟨h0, hout⟩ IH
  have hpl := sps_length out
  have hol2 : out.length ≤ i := by rw [hout]; have := clean_length l given (o.take i); simp at this; omega
  (conv => whnf)
  refine br_intro (fun hc => ?_) (fun hc => ?_)
  · have hc := lt_of_decE hol hc
    have hb := hbd _ (List.getElem_mem hc)
    have hsn := clean_snoc (l := l) given hc hb
    rw [← hout] at hsn
    (conv => whnf); (repeat ((with_reducible refine must_intro ?_ ?_); exact decide_eq_true (by omega); (conv => whnf)))
    refine idxK_map_intro (show (i : Int).toNat < o.length by simpa using hc) ?_
    rw [show o[(i : Int).toNat]'(by simpa using hc) = o[i] from by congr 1]
    (conv => whnf); (repeat ((with_reducible refine must_intro ?_ ?_); exact decide_eq_true (by omega); (conv => whnf)))
    refine idxK_map_intro (show ((o[i] : Nat) : Int).toNat < l.length by simpa using hb) ?_
    rw [show l[((o[i] : Nat) : Int).toNat]'(by simpa using hb) = l[o[i]] from by congr 1]
    generalize hn : l[o[i]] = n at hsn ⊢
    have hnd : n.deps.length < 10000 := by rw [← hn]; exact (hsm _ (List.getElem_mem hb)).1
    have hsd := strs_length n.deps
    (conv => whnf)
    refine br_intro (fun hs => ?_) (fun hs => ?_)
    · (conv => whnf)
      refine docGiven given hg n.name fun d hd => ?_
      (conv => whnf)
      refine ⟨hpl.symm, (by rw [hpl]; show (out.length + 1) * (32 + 1) ≤ _; omega), ?_⟩
      (conv => whnf)
      have f1 : out ++ [⟨n.name, !n.source, d⟩] = cleanFrom l given (o.take (i + 1)) := by rw [hsn, hs, hd]; simp
      have e1 : sps out ++ [[AV.val (Value.string (ofB n.name)), AV.val (Value.bool !n.source), AV.val (Value.int IntKind.u64 (d.toNat : Int))]] = sps (out ++ [⟨n.name, !n.source, d⟩]) := by simp [sps, stepC, Sp.v]
      have e2 : (sps out).length + [[AV.val (Value.string (ofB n.name)), AV.val (Value.bool !n.source), AV.val (Value.int IntKind.u64 (d.toNat : Int))]].length = (out ++ [(⟨n.name, !n.source, d⟩ : Sp)]).length := by simp [hpl]
      rw [e1, e2, i64_nat (by omega)]
      exact IH (i + 1) (out ++ [⟨n.name, !n.source, d⟩]) ⟨by omega, f1⟩ (by omega)
    · (conv => whnf)
      refine LoopP.ind2 (fun (j : Nat) (ds : List U) => [(12, .sl (some (nameOf 42)) 1 (nums ds)), (13, vi j)])
        (fun j ds => [(nameOf 14, .row 116 3 out.length), (nameOf 42, .row 22 1 ds.length)])
        (fun j _ => n.deps.length - j) (fun j ds => j ≤ n.deps.length ∧ ds = (n.deps.take j).map (givenP out)) 0 [] rfl ⟨by omega, by simp⟩ ?_
      rintro j ds ⟨hj0, hds⟩ IH2
      have hdl := nums_length ds
      have hdj : ds.length = j := by rw [hds]; simp; omega
      (conv => whnf)
      refine br_intro (fun hc2 => ?_) (fun hc2 => ?_)
      · have hc2 := lt_of_decE hsd hc2
        (conv => whnf); (repeat ((with_reducible refine must_intro ?_ ?_); exact decide_eq_true (by omega); (conv => whnf)))
        refine idxK_map_intro (show (j : Int).toNat < n.deps.length by simpa using hc2) ?_
        rw [show n.deps[(j : Int).toNat]'(by simpa using hc2) = n.deps[j] from by congr 1]
        (conv => whnf)
        refine docGiven out (by omega) n.deps[j] fun d hd => ?_
        (conv => whnf)
        refine ⟨hdl.symm, (by rw [hdl]; show (ds.length + 1) * (8 + 1) ≤ _; omega), ?_⟩
        (conv => whnf)
        have e1 : nums ds ++ [[AV.val (Value.int IntKind.u64 (d.toNat : Int))]] = nums (ds ++ [d]) := by simp [nums, uv]
        have e2 : (nums ds).length + [[AV.val (Value.int IntKind.u64 (d.toNat : Int))]].length = (ds ++ [d]).length := by simp [hdl]
        rw [e1, e2, i64_nat (by omega)]
        refine IH2 (j + 1) (ds ++ [d]) ⟨by omega, ?_⟩ (by omega)
        rw [List.take_succ_eq_append_getElem hc2, hds, List.map_append, hd]
        rfl
      · have hc2 := ge_of_decE hsd hc2
        rw [List.take_of_length_le hc2] at hds
        (conv => whnf)
        refine refFold_calls n.rule ds (by omega) rfl fun d hd => ?_
        (conv => whnf)
        refine ⟨hpl.symm, (by rw [hpl]; show (out.length + 1) * (32 + 1) ≤ _; omega), ?_⟩
        (conv => whnf)
        have f1 : out ++ [⟨n.name, !n.source, d⟩] = cleanFrom l given (o.take (i + 1)) := by rw [hsn, hs, hd, hds]; simp
        have e1 : sps out ++ [[AV.val (Value.string (ofB n.name)), AV.val (Value.bool !n.source), AV.val (Value.int IntKind.u64 (d.toNat : Int))]] = sps (out ++ [⟨n.name, !n.source, d⟩]) := by simp [sps, stepC, Sp.v]
        have e2 : (sps out).length + [[AV.val (Value.string (ofB n.name)), AV.val (Value.bool !n.source), AV.val (Value.int IntKind.u64 (d.toNat : Int))]].length = (out ++ [(⟨n.name, !n.source, d⟩ : Sp)]).length := by simp [hpl]
        rw [e1, e2, i64_nat (by omega)]
        exact IH (i + 1) (out ++ [⟨n.name, !n.source, d⟩]) ⟨by omega, f1⟩ (by omega)
  · have hc := ge_of_decE hol hc
    rw [List.take_of_length_le hc, ho] at hout
    (conv => whnf)
    exact h out 0 hout hchk.symm
end Go.Abs
