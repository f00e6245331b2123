/- dirty.Trace, Hashes, and the document's. -/
import Derived.Test.YtlagdcbgkfaheaaF7
set_option maxRecDepth 100000
set_option linter.unusedVariables false
set_option linter.unusedSimpArgs false
namespace Go.Abs
open Go Go.Proofs Dig
attribute [local irreducible] ibits byteAt strLt firstIdx

theorem nums_len (l : List U) : (nums l).length = l.length := by simp [nums]
def depsOf : List B → List U → List Dp
  | n :: ns, h :: hs => ⟨n, h, false⟩ :: depsOf ns hs
  | _, _ => []
theorem depsOf_length {ns : List B} {hs : List U} (h : hs.length = ns.length) : (depsOf ns hs).length = ns.length := by
  induction ns generalizing hs with
  | nil => rfl
  | cons n ns ih =>
    cases hs with
    | nil => simp at h
    | cons x hs => simp [depsOf, ih (by simpa using h)]
theorem depsOf_take {ns : List B} {hs : List U} (h : hs.length = ns.length) {i : Nat} (hi : i < ns.length) :
    depsOf (ns.take (i + 1)) (hs.take (i + 1)) = depsOf (ns.take i) (hs.take i) ++ [⟨ns[i], hs[i], false⟩] := by
  induction ns generalizing hs i with
  | nil => simp at hi
  | cons n ns ih =>
    cases hs with
    | nil => simp at h
    | cons x hs =>
      cases i with
      | zero => simp [depsOf]
      | succ i => simp [depsOf, ih (hs := hs) (i := i) (by simpa using h) (by simpa using hi)]
def zeroR : Rc := ⟨0, [], 0, [], 0, 0, []⟩
def traceBad (n : Nd) (hs : List U) : Bool := n.source || decide (hs.length ≠ n.deps.length)
def traceP (n : Nd) (hs : List U) (c w : U) : Rc := if traceBad n hs = true then zeroR else ⟨1, n.name, n.rule, depsOf n.deps hs, dig c, w, []⟩
def traceE (n : Nd) (hs : List U) : Int := if traceBad n hs = true then 1 else 0
theorem le_zeroR : leL [.val (.int .i64 0), .val (.string ⟨#[]⟩), .val (.int .u64 0), .val (.slice none 0 0), .val (.int .u64 0), .val (.int .u64 0), .val (.string ⟨#[]⟩)] zeroR.enc :=
  leL.cons (.refl _) (leL.cons (.refl _) (leL.cons (.refl _) (leL.cons (le_nil 3) (leL.refl _))))

theorem Trace_calls (n : Nd) (hn : n.deps.length < 1000000) (hs : List U) (c w : U) {R} (h : ∀ r e, r = traceP n hs c w → e = traceE n hs → R (.tup [.agg r.enc, vi e]) []) :
    ACalls Try.prog 36 [.agg n.enc, .sl none 1 (nums hs), uv c, uv w] [] R := by
  refine ACalls.res ?_
  refine acalls_of_xwp (an := an36) tab_ok Try.func36 ?_
  have hsd := strs_length n.deps
  have hsh := nums_len hs
  have bad : traceBad n hs = true → ∃ r', AV.le (.tup [.agg [.val (.int .i64 0), .val (.string ⟨#[]⟩), .val (.int .u64 0), .val (.slice none 0 0), .val (.int .u64 0), .val (.int .u64 0), .val (.string ⟨#[]⟩)], vi 1]) r' ∧ (∀ m ∈ r'.names, m ∈ (AV.tup [.agg [.val (.int .i64 0), .val (.string ⟨#[]⟩), .val (.int .u64 0), .val (.slice none 0 0), .val (.int .u64 0), .val (.int .u64 0), .val (.string ⟨#[]⟩)], vi 1]).names) ∧ R r' [] := fun hb =>
    res_le (le_tup (leL.cons (le_agg le_zeroR) (leL.refl _))) rfl (h zeroR 1 (by rw [traceP, if_pos hb]) (by rw [traceE, if_pos hb]))
  (conv => whnf)
  refine br_intro (fun g1 => ?_) (fun g1 => ?_)
  · (conv => whnf)
    exact bad (by rw [traceBad, g1]; rfl)
  (conv => whnf)
  rw [hsh, hsd]
  refine br_intro (fun g2 => ?_) (fun g2 => ?_)
  · (conv => whnf)
    exact bad (by rw [traceBad, g1, Bool.false_or]; simp at g2; simp; omega)
  have g2 : hs.length = n.deps.length := by simp at g2; omega
  have hbad : traceBad n hs = false := by rw [traceBad, g1, Bool.false_or]; simp [g2]
  (conv => whnf)
  refine Of_calls c fun d hd => ?_
  (conv => whnf)
  refine LoopP.step ?_
  (conv => whnf)
  have hn0 : ∀ {i : Nat}, i < hs.length → i < n.deps.length := fun hi => by omega
  have done : ∀ ds, ds = depsOf n.deps hs → R (.tup [.agg [vi 1, vs n.name, uv n.rule, .sl none 3 (dpsA ds), uv d, uv w, vs []], vi 0]) [] := fun ds hds =>
    h ⟨1, n.name, n.rule, ds, d, w, []⟩ 0 (by rw [traceP, hbad, hds, hd]; rfl) (by rw [traceE, hbad]; rfl)
  refine br_intro (fun hc => ?_) (fun hc => ?_)
  · have hc : 0 < hs.length := lt_of_decE (i := 0) hsh hc
    have hc' := hn0 hc
    (conv => whnf); (repeat ((with_reducible refine must_intro ?_ ?_); exact decide_eq_true (by omega); (conv => whnf)))
    refine idxK_map_intro (show (0 : Int).toNat < hs.length by simpa using hc) ?_
    rw [show hs[(0 : Int).toNat]'(by simpa using hc) = hs[0] from by congr 1]
    (conv => whnf); (repeat ((with_reducible refine must_intro ?_ ?_); exact decide_eq_true (by omega); (conv => whnf)))
    refine idxK_map_intro (show (0 : Int).toNat < n.deps.length by simpa using hc') ?_
    rw [show n.deps[(0 : Int).toNat]'(by simpa using hc') = n.deps[0] from by congr 1]
    (conv => whnf)
    refine ⟨(show 1 * (32 + 1) ≤ 140737488355328 by decide), ?_⟩
    (conv => whnf)
    refine LoopP.ind2 (fun (i : Nat) (ds : List Dp) => [(34, vi i)])
      (fun i ds => [(nameOf 8, .cells 51 [.val (.int .i64 0), .val (.string ⟨#[]⟩), .val (.int .u64 0), .val (.slice none 0 0), .val (.int .u64 0), .val (.int .u64 0), .val (.string ⟨#[]⟩)]),
        (nameOf 10, .cells 51 [vi 1, vs n.name, uv n.rule, .sl (some (nameOf 49)) 3 (dpsA ds), uv d, uv w, vs []]), (nameOf 49, .row 104 3 ds.length)])
      (fun i _ => hs.length - i) (fun i ds => i ≤ hs.length ∧ ds = depsOf (n.deps.take i) (hs.take i)) 1 [⟨n.deps[0], hs[0], false⟩] rfl ⟨by omega, ?_⟩ ?_
    · rw [depsOf_take g2 hc']; rfl
    rintro i ds ⟨h0, hds⟩ IH
    have hdl := dpsA_length ds
    have hdi : ds.length = i := by rw [hds, depsOf_length (by simp; omega)]; simp; omega
    (conv => whnf)
    refine br_intro (fun hc => ?_) (fun hc => ?_)
    · have hc := lt_of_decE hsh hc
      have hc' := hn0 hc
      (conv => whnf); (repeat ((with_reducible refine must_intro ?_ ?_); exact decide_eq_true (by omega); (conv => whnf)))
      refine idxK_map_intro (show (i : Int).toNat < hs.length by simpa using hc) ?_
      rw [show hs[(i : Int).toNat]'(by simpa using hc) = hs[i] from by congr 1]
      (conv => whnf); (repeat ((with_reducible refine must_intro ?_ ?_); exact decide_eq_true (by omega); (conv => whnf)))
      refine idxK_map_intro (show (i : Int).toNat < n.deps.length by simpa using hc') ?_
      rw [show n.deps[(i : Int).toNat]'(by simpa using hc') = n.deps[i] from by congr 1]
      (conv => whnf)
      refine ⟨hdl.symm, (by rw [hdl]; show (ds.length + 1) * (32 + 1) ≤ _; omega), ?_⟩
      (conv => whnf)
      have e1 : dpsA ds ++ [[AV.val (Value.string (ofB n.deps[i])), AV.val (Value.int IntKind.u64 (hs[i].toNat : Int)), AV.val (Value.bool false)]] = dpsA (ds ++ [⟨n.deps[i], hs[i], false⟩]) := by simp [dpsA, Dp.enc, vs, uv]
      have e2 : (dpsA ds).length + [[AV.val (Value.string (ofB n.deps[i])), AV.val (Value.int IntKind.u64 (hs[i].toNat : Int)), AV.val (Value.bool false)]].length = (ds ++ [(⟨n.deps[i], hs[i], false⟩ : Dp)]).length := by simp [hdl]
      rw [e1, e2, i64_nat (by omega)]
      refine IH (i + 1) (ds ++ [⟨n.deps[i], hs[i], false⟩]) ⟨by omega, ?_⟩ (by omega)
      rw [depsOf_take g2 hc', hds]
    · have hc := ge_of_decE hsh hc
      rw [List.take_of_length_le (by omega), List.take_of_length_le hc] at hds
      (conv => whnf)
      refine res_same ?_
      exact done ds hds
  · have hc : hs.length ≤ 0 := ge_of_decE (i := 0) hsh hc
    have e1 : hs = [] := List.eq_nil_of_length_eq_zero (by omega)
    have e2 : n.deps = [] := List.eq_nil_of_length_eq_zero (by omega)
    (conv => whnf)
    refine res_le (le_tup (leL.cons (le_agg (leL.cons (.refl _) (leL.cons (.refl _) (leL.cons (.refl _) (leL.cons (le_nil 3) (leL.refl _)))))) (leL.refl _))) rfl (done [] ?_)
    rw [e1, e2]; rfl
theorem docTrace_calls (n : Nd) (hn : n.deps.length < 1000000) (hs : List U) (c w : U) {R} (h : ∀ r e, r = traceP n hs c w → e = traceE n hs → R (.tup [.agg r.enc, vi e]) []) :
    ACalls Try.prog 37 [.agg n.enc, .sl none 1 (nums hs), uv c, uv w] [] R := by
  refine ACalls.res ?_
  refine acalls_of_xwp (an := an37) tab_ok Try.func37 ?_
  have hsd := strs_length n.deps
  have hsh := nums_len hs
  have bad : traceBad n hs = true → ∃ r', AV.le (.tup [.agg [.val (.int .i64 0), .val (.string ⟨#[]⟩), .val (.int .u64 0), .val (.slice none 0 0), .val (.int .u64 0), .val (.int .u64 0), .val (.string ⟨#[]⟩)], vi 1]) r' ∧ (∀ m ∈ r'.names, m ∈ (AV.tup [.agg [.val (.int .i64 0), .val (.string ⟨#[]⟩), .val (.int .u64 0), .val (.slice none 0 0), .val (.int .u64 0), .val (.int .u64 0), .val (.string ⟨#[]⟩)], vi 1]).names) ∧ R r' [] := fun hb =>
    res_le (le_tup (leL.cons (le_agg le_zeroR) (leL.refl _))) rfl (h zeroR 1 (by rw [traceP, if_pos hb]) (by rw [traceE, if_pos hb]))
  (conv => whnf)
  refine br_intro (fun g1 => ?_) (fun g1 => ?_)
  · (conv => whnf)
    exact bad (by rw [traceBad, g1]; rfl)
  (conv => whnf)
  rw [hsh, hsd]
  refine br_intro (fun g2 => ?_) (fun g2 => ?_)
  · (conv => whnf)
    exact bad (by rw [traceBad, g1, Bool.false_or]; simp at g2; simp; omega)
  have g2 : hs.length = n.deps.length := by simp at g2; omega
  have hbad : traceBad n hs = false := by rw [traceBad, g1, Bool.false_or]; simp [g2]
  (conv => whnf)
  refine refOf_calls c fun d hd => ?_
  (conv => whnf)
  refine LoopP.step ?_
  (conv => whnf)
  have hn0 : ∀ {i : Nat}, i < hs.length → i < n.deps.length := fun hi => by omega
  have done : ∀ ds, ds = depsOf n.deps hs → R (.tup [.agg [vi 1, vs n.name, uv n.rule, .sl none 3 (dpsA ds), uv d, uv w, vs []], vi 0]) [] := fun ds hds =>
    h ⟨1, n.name, n.rule, ds, d, w, []⟩ 0 (by rw [traceP, hbad, hds, hd]; rfl) (by rw [traceE, hbad]; rfl)
  refine br_intro (fun hc => ?_) (fun hc => ?_)
  · have hc : 0 < hs.length := lt_of_decE (i := 0) hsh hc
    have hc' := hn0 hc
    (conv => whnf); (repeat ((with_reducible refine must_intro ?_ ?_); exact decide_eq_true (by omega); (conv => whnf)))
    refine idxK_map_intro (show (0 : Int).toNat < n.deps.length by simpa using hc') ?_
    rw [show n.deps[(0 : Int).toNat]'(by simpa using hc') = n.deps[0] from by congr 1]
    (conv => whnf); (repeat ((with_reducible refine must_intro ?_ ?_); exact decide_eq_true (by omega); (conv => whnf)))
    refine idxK_map_intro (show (0 : Int).toNat < hs.length by simpa using hc) ?_
    rw [show hs[(0 : Int).toNat]'(by simpa using hc) = hs[0] from by congr 1]
    (conv => whnf)
    refine ⟨(show 1 * (32 + 1) ≤ 140737488355328 by decide), ?_⟩
    (conv => whnf)
    refine LoopP.ind2 (fun (i : Nat) (ds : List Dp) => [(11, vi i)])
      (fun i ds => [(nameOf 8, .cells 51 [.val (.int .i64 0), .val (.string ⟨#[]⟩), .val (.int .u64 0), .val (.slice none 0 0), .val (.int .u64 0), .val (.int .u64 0), .val (.string ⟨#[]⟩)]),
        (nameOf 10, .cells 51 [vi 1, vs n.name, uv n.rule, .sl (some (nameOf 50)) 3 (dpsA ds), uv d, uv w, vs []]), (nameOf 50, .row 104 3 ds.length)])
      (fun i _ => hs.length - i) (fun i ds => i ≤ hs.length ∧ ds = depsOf (n.deps.take i) (hs.take i)) 1 [⟨n.deps[0], hs[0], false⟩] rfl ⟨by omega, ?_⟩ ?_
    · rw [depsOf_take g2 hc']; rfl
    rintro i ds ⟨h0, hds⟩ IH
    have hdl := dpsA_length ds
    have hdi : ds.length = i := by rw [hds, depsOf_length (by simp; omega)]; simp; omega
    (conv => whnf)
    refine br_intro (fun hc => ?_) (fun hc => ?_)
    · have hc := lt_of_decE hsh hc
      have hc' := hn0 hc
      (conv => whnf); (repeat ((with_reducible refine must_intro ?_ ?_); exact decide_eq_true (by omega); (conv => whnf)))
      refine idxK_map_intro (show (i : Int).toNat < n.deps.length by simpa using hc') ?_
      rw [show n.deps[(i : Int).toNat]'(by simpa using hc') = n.deps[i] from by congr 1]
      (conv => whnf); (repeat ((with_reducible refine must_intro ?_ ?_); exact decide_eq_true (by omega); (conv => whnf)))
      refine idxK_map_intro (show (i : Int).toNat < hs.length by simpa using hc) ?_
      rw [show hs[(i : Int).toNat]'(by simpa using hc) = hs[i] from by congr 1]
      (conv => whnf)
      refine ⟨hdl.symm, (by rw [hdl]; show (ds.length + 1) * (32 + 1) ≤ _; omega), ?_⟩
      (conv => whnf)
      have e1 : dpsA ds ++ [[AV.val (Value.string (ofB n.deps[i])), AV.val (Value.int IntKind.u64 (hs[i].toNat : Int)), AV.val (Value.bool false)]] = dpsA (ds ++ [⟨n.deps[i], hs[i], false⟩]) := by simp [dpsA, Dp.enc, vs, uv]
      have e2 : (dpsA ds).length + [[AV.val (Value.string (ofB n.deps[i])), AV.val (Value.int IntKind.u64 (hs[i].toNat : Int)), AV.val (Value.bool false)]].length = (ds ++ [(⟨n.deps[i], hs[i], false⟩ : Dp)]).length := by simp [hdl]
      rw [e1, e2, i64_nat (by omega)]
      refine IH (i + 1) (ds ++ [⟨n.deps[i], hs[i], false⟩]) ⟨by omega, ?_⟩ (by omega)
      rw [depsOf_take g2 hc', hds]
    · have hc := ge_of_decE hsh hc
      rw [List.take_of_length_le (by omega), List.take_of_length_le hc] at hds
      (conv => whnf)
      refine res_same ?_
      exact done ds hds
  · have hc : hs.length ≤ 0 := ge_of_decE (i := 0) hsh hc
    have e1 : hs = [] := List.eq_nil_of_length_eq_zero (by omega)
    have e2 : n.deps = [] := List.eq_nil_of_length_eq_zero (by omega)
    (conv => whnf)
    refine res_le (le_tup (leL.cons (le_agg (leL.cons (.refl _) (leL.cons (.refl _) (leL.cons (.refl _) (leL.cons (le_nil 3) (leL.refl _)))))) (leL.refl _))) rfl (done [] ?_)
    rw [e1, e2]; rfl

theorem Hashes_calls (l : List U) (hl : l.length < 1000000) {R} (h : ∀ r, r = l.map dig → R (.sl none 1 (nums r)) []) : ACalls Try.prog 40 [.sl none 1 (nums l)] [] R := by
  refine acalls_of_xwp (an := an40) tab_ok Try.func40 ?_
  have hsl := nums_len l
  (conv => whnf)
  refine LoopP.ind2 (fun (i : Nat) (out : List U) => [(3, .sl (some (nameOf 3)) 1 (nums out)), (8, vi i)]) (fun i out => [(nameOf 3, .row 22 1 out.length)]) (fun i _ => l.length - i) (fun i out => i ≤ l.length ∧ out = (l.take i).map dig) 0 [] rfl ⟨by omega, by simp⟩ ?_
  rintro i out ⟨h0, ho⟩ IH
  have hnl := nums_len out
  have hol : out.length = i := by rw [ho]; simp; omega
  (conv => whnf)
  refine br_intro (fun hc => ?_) (fun hc => ?_)
  · have hc := lt_of_decE hsl hc
    (conv => whnf); (repeat ((with_reducible refine must_intro ?_ ?_); exact decide_eq_true (by omega); (conv => whnf)))
    refine idxK_map_intro (show (i : Int).toNat < l.length by simpa using hc) ?_
    rw [show l[(i : Int).toNat]'(by simpa using hc) = l[i] from by congr 1]
    (conv => whnf)
    refine Of_calls l[i] fun d hd => ?_
    (conv => whnf)
    refine ⟨hnl.symm, (by rw [hnl]; show (out.length + 1) * (8 + 1) ≤ _; omega), ?_⟩
    (conv => whnf)
    have e1 : nums out ++ [[AV.val (Value.int IntKind.u64 (d.toNat : Int))]] = nums (out ++ [d]) := by simp [nums, uv]
    have e2 : (nums out).length + [[AV.val (Value.int IntKind.u64 (d.toNat : Int))]].length = (out ++ [d]).length := by simp [hnl]
    rw [e1, e2, i64_nat (by omega)]
    refine IH (i + 1) (out ++ [d]) ⟨by omega, ?_⟩ (by omega)
    rw [List.take_succ_eq_append_getElem hc, ho, List.map_append, hd]
    rfl
  · have hc := ge_of_decE hsl hc
    rw [List.take_of_length_le hc] at ho
    (conv => whnf)
    exact h _ ho
theorem docHashes_calls (l : List U) (hl : l.length < 1000000) {R} (h : ∀ r, r = l.map dig → R (.sl none 1 (nums r)) []) : ACalls Try.prog 41 [.sl none 1 (nums l)] [] R := by
  refine acalls_of_xwp (an := an41) tab_ok Try.func41 ?_
  have hsl := nums_len l
  (conv => whnf)
  refine LoopP.ind2 (fun (i : Nat) (out : List U) => [(3, .sl (some (nameOf 5)) 1 (nums out)), (4, vi i)]) (fun i out => [(nameOf 5, .row 22 1 out.length)]) (fun i _ => l.length - i) (fun i out => i ≤ l.length ∧ out = (l.take i).map dig) 0 [] rfl ⟨by omega, by simp⟩ ?_
  rintro i out ⟨h0, ho⟩ IH
  have hnl := nums_len out
  have hol : out.length = i := by rw [ho]; simp; omega
  (conv => whnf)
  refine br_intro (fun hc => ?_) (fun hc => ?_)
  · have hc := lt_of_decE hsl hc
    (conv => whnf); (repeat ((with_reducible refine must_intro ?_ ?_); exact decide_eq_true (by omega); (conv => whnf)))
    refine idxK_map_intro (show (i : Int).toNat < l.length by simpa using hc) ?_
    rw [show l[(i : Int).toNat]'(by simpa using hc) = l[i] from by congr 1]
    (conv => whnf)
    refine refOf_calls l[i] fun d hd => ?_
    (conv => whnf)
    refine ⟨hnl.symm, (by rw [hnl]; show (out.length + 1) * (8 + 1) ≤ _; omega), ?_⟩
    (conv => whnf)
    have e1 : nums out ++ [[AV.val (Value.int IntKind.u64 (d.toNat : Int))]] = nums (out ++ [d]) := by simp [nums, uv]
    have e2 : (nums out).length + [[AV.val (Value.int IntKind.u64 (d.toNat : Int))]].length = (out ++ [d]).length := by simp [hnl]
    rw [e1, e2, i64_nat (by omega)]
    refine IH (i + 1) (out ++ [d]) ⟨by omega, ?_⟩ (by omega)
    rw [List.take_succ_eq_append_getElem hc, ho, List.map_append, hd]
    rfl
  · have hc := ge_of_decE hsl hc
    rw [List.take_of_length_le hc] at ho
    (conv => whnf)
    exact h _ ho

theorem SameN_calls (a b : List U) (ha : a.length < 1000000) {R} (h : ∀ p, p = decide (a = b) → R (.val (.bool p)) []) : ACalls Try.prog 39 [.sl none 1 (nums a), .sl none 1 (nums b)] [] R := by
  refine acalls_of_xwp (an := an39) tab_ok Try.func39 ?_
  have hsa := nums_len a
  have hsb := nums_len b
  (conv => whnf)
  rw [hsa, hsb]
  refine br_intro (fun hc => ?_) (fun hc => ?_)
  · (conv => whnf)
    refine h false (decide_eq_false ?_).symm
    rintro rfl
    simp at hc
  have hlen : a.length = b.length := by simp at hc; omega
  (conv => whnf)
  refine LoopP.ind1 (fun (i : Nat) => [(5, vi i)]) (fun _ => []) (fun i => a.length - i) (fun i => i ≤ a.length ∧ a.take i = b.take i) 0 rfl ⟨by omega, by simp⟩ ?_
  rintro i ⟨h0, h1⟩ IH
  (conv => whnf)
  refine br_intro (fun hc => ?_) (fun hc => ?_)
  · have hc := lt_of_decE hsa hc
    have hcb : i < b.length := by omega
    (conv => whnf); (repeat ((with_reducible refine must_intro ?_ ?_); exact decide_eq_true (by omega); (conv => whnf)))
    refine idxK_map_intro (show (i : Int).toNat < a.length by simpa using hc) ?_
    rw [show a[(i : Int).toNat]'(by simpa using hc) = a[i] from by congr 1]
    (conv => whnf); (repeat ((with_reducible refine must_intro ?_ ?_); exact decide_eq_true (by omega); (conv => whnf)))
    refine idxK_map_intro (show (i : Int).toNat < b.length by simpa using hcb) ?_
    rw [show b[(i : Int).toNat]'(by simpa using hcb) = b[i] from by congr 1]
    (conv => whnf)
    refine br_intro (fun he => ?_) (fun he => ?_)
    · (conv => whnf)
      refine h false (decide_eq_false ?_).symm
      rintro rfl
      simp at he
    · have he : ((a[i]).toNat : Int) = ((b[i]).toNat : Int) := by simpa using he
      have he : a[i] = b[i] := BitVec.eq_of_toNat_eq (by omega)
      (conv => whnf)
      rw [i64_nat (by omega)]
      refine IH (i + 1) ⟨by omega, ?_⟩ (by omega)
      rw [List.take_succ_eq_append_getElem hc, List.take_succ_eq_append_getElem hcb, h1, he]
  · have hc := ge_of_decE hsa hc
    rw [List.take_of_length_le hc, List.take_of_length_le (by omega)] at h1
    (conv => whnf)
    exact h true (decide_eq_true h1).symm
end Go.Abs
