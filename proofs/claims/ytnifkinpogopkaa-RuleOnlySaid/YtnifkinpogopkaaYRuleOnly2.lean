/- Several texts of this claim, one behind the other: F6, F8, K7. -/
import Derived.Test.YtnifkinpogopkaaYRuleOnly1

section
/- rule.Clean and the document's Clean. -/
set_option maxRecDepth 100000
set_option linter.unusedVariables false
set_option linter.unusedSimpArgs false
namespace Go.Abs
open Go Go.Proofs Dig
attribute [local irreducible] ibits byteAt strLt firstIdx

theorem Clean_calls (l : List Nd) (hl : small l) (given : List Sp) (hg : given.length < 1000000) {R} (h : ∀ c e, c = cleanP l given → e = checkP l → R (.tup [.sl none 3 (sps c), vi e]) []) :
    ACalls Try.prog 46 [.sl none 4 (nds l), .sl none 3 (sps given)] [] R := by
  refine ACalls.res ?_
  refine acalls_of_xwp (an := an46) tab_ok Try.func46 ?_
  have hsl := nds_length l
  have hl' := hl
  obtain ⟨hlen, hsm⟩ := hl
  (conv => whnf)
  refine Order_calls l hl' fun o e ho he => ?_
  have hol := ints_length o
  have hbd : ∀ b ∈ o, b < l.length := fun b hb => orderP_bound (by rw [← ho]; exact hb)
  have hoL : o.length ≤ l.length := by rw [ho]; exact orderP_len l
  (conv => whnf)
  refine br_intro (fun g => ?_) (fun g => ?_)
  · have g : e ≠ 0 := by simpa using g
    have ho : o = [] := by rw [ho, orderP, if_neg (by rw [← he]; exact g)]
    (conv => whnf)
    refine res_le (le_tup (leL.cons (le_nil 3) (leL.cons (.refl _) leL.nil))) rfl (h [] e ?_ he)
    unfold cleanP
    rw [orderP, if_neg (by rw [← he]; exact g)]
    rfl
  have g : e = 0 := by simpa using g
  have hbt : (tab.ti 73).bytes = 32 := rfl
  (conv => whnf)
  refine LoopP.ind3 (fun (i : Nat) (out : List Sp) (es : List (ByteArray × AV)) => [(9, .sl (some (nameOf 9)) 3 (sps out)), (25, vi i)])
    (fun i out es => [(nameOf 8, .cells 115 [.mapv (nameOf 22)]), (nameOf 9, .row 73 3 out.length), (nameOf 22, .map es)])
    (fun i _ _ => o.length - i) (fun i out es => i ≤ o.length ∧ out = cleanFrom l given (o.take i) ∧ ConMap es (givenP out)) 0 [] [] rfl ⟨by omega, rfl, fun s => .inr ⟨rfl, rfl⟩⟩ ?_
  rintro i out es ⟨h0, hout, hk⟩ IH
  have hpl := sps_length out
  have hol2 : out.length ≤ i := by rw [hout]; have := clean_length l given (o.take i); simp at this; omega
  (conv => whnf)
  refine br_intro (fun hc => ?_) (fun hc => ?_)
  · have hc := lt_of_decE hol hc
    have hb := hbd _ (List.getElem_mem hc)
    have hsn := clean_snoc (l := l) given hc hb
    rw [← hout] at hsn
    (conv => whnf); (repeat ((with_reducible refine must_intro ?_ ?_); exact decide_eq_true (by omega); (conv => whnf)))
    refine idxK_map_intro (show (i : Int).toNat < o.length by simpa using hc) ?_
    rw [show o[(i : Int).toNat]'(by simpa using hc) = o[i] from by congr 1]
    (conv => whnf); (repeat ((with_reducible refine must_intro ?_ ?_); exact decide_eq_true (by omega); (conv => whnf)))
    refine idxK_map_intro (show ((o[i] : Nat) : Int).toNat < l.length by simpa using hb) ?_
    rw [show l[((o[i] : Nat) : Int).toNat]'(by simpa using hb) = l[o[i]] from by congr 1]
    generalize hn : l[o[i]] = n at hsn ⊢
    have hnd : n.deps.length < 10000 := by rw [← hn]; exact (hsm _ (List.getElem_mem hb)).1
    (conv => whnf)
    refine codeGiven given hg n.name fun d hd => ?_
    (conv => whnf)
    have fin : ∀ (x : U), ⟨n.name, !n.source, x⟩ = (⟨n.name, !n.source, if n.source = true then givenP given n.name else fold n.rule (n.deps.map (givenP out))⟩ : Sp) →
        out ++ [⟨n.name, !n.source, x⟩] = cleanFrom l given (o.take (i + 1)) ∧ ConMap (mapPut es (ofB n.name) (uv x)) (givenP (out ++ [⟨n.name, !n.source, x⟩])) := by
      intro x hx
      refine ⟨by rw [hsn, hx], ?_⟩
      have := hk.put n.name x
      have e : givenP (out ++ [⟨n.name, !n.source, x⟩]) = fun s => if n.name = s then x else givenP out s := by
        funext s
        rw [givenP_snoc]
      rw [e]
      exact this
    refine br_intro (fun hs => ?_) (fun hs => ?_)
    · have hs : n.source = false := by simpa using hs
      (conv => whnf)
      refine each_calls n.deps (by omega) es (givenP out) hk fun r hr => ?_
      (conv => whnf)
      refine Run_x n r (by rw [hr]; simp; omega) fun x hx => ?_
      (conv => whnf)
      refine ⟨hpl.symm, (by rw [hpl]; show (out.length + 1) * (32 + 1) ≤ _; omega), ?_⟩
      (conv => whnf)
      obtain ⟨f1, f2⟩ := fin x (by rw [hx, hr, hs]; simp)
      have e1 : sps out ++ [[AV.val (Value.string (ofB n.name)), AV.val (Value.bool !n.source), AV.val (Value.int IntKind.u64 (x.toNat : Int))]] = sps (out ++ [⟨n.name, !n.source, x⟩]) := by simp [sps, stepC, Sp.v]
      have e2 : (sps out).length + [[AV.val (Value.string (ofB n.name)), AV.val (Value.bool !n.source), AV.val (Value.int IntKind.u64 (x.toNat : Int))]].length = (out ++ [(⟨n.name, !n.source, x⟩ : Sp)]).length := by simp [hpl]
      rw [e1, e2, i64_nat (by omega)]
      exact IH (i + 1) (out ++ [⟨n.name, !n.source, x⟩]) (mapPut es (ofB n.name) (uv x)) ⟨by omega, f1, f2⟩ (by omega)
    · have hs : n.source = true := by simpa using hs
      (conv => whnf)
      refine ⟨hpl.symm, (by rw [hpl]; show (out.length + 1) * (32 + 1) ≤ _; omega), ?_⟩
      (conv => whnf)
      obtain ⟨f1, f2⟩ := fin d (by rw [hd, hs]; simp)
      have e1 : sps out ++ [[AV.val (Value.string (ofB n.name)), AV.val (Value.bool !n.source), AV.val (Value.int IntKind.u64 (d.toNat : Int))]] = sps (out ++ [⟨n.name, !n.source, d⟩]) := by simp [sps, stepC, Sp.v]
      have e2 : (sps out).length + [[AV.val (Value.string (ofB n.name)), AV.val (Value.bool !n.source), AV.val (Value.int IntKind.u64 (d.toNat : Int))]].length = (out ++ [(⟨n.name, !n.source, d⟩ : Sp)]).length := by simp [hpl]
      rw [e1, e2, i64_nat (by omega)]
      exact IH (i + 1) (out ++ [⟨n.name, !n.source, d⟩]) (mapPut es (ofB n.name) (uv d)) ⟨by omega, f1, f2⟩ (by omega)
  · have hc := ge_of_decE hol hc
    rw [List.take_of_length_le hc, ho] at hout
    (conv => whnf)
    refine res_same ?_
    exact h out 0 hout (by rw [← he, g])

end Go.Abs
end

section
/- Steps: the document's Same; Few; the chapter's example; arguments. -/
set_option maxRecDepth 100000
set_option linter.unusedVariables false
set_option linter.unusedSimpArgs false
namespace Go.Abs
open Go Go.Proofs Dig
attribute [local irreducible] ibits byteAt strLt firstIdx

theorem sp_ne (a b : Sp) (h : (!(true && decide (ofB a.name = ofB b.name) && (a.ran == b.ran) && ((a.con.toNat : Int) == (b.con.toNat : Int)))) = true) : a ≠ b := by
  rintro rfl
  simp at h
theorem sp_eq (a b : Sp) (h : (!(true && decide (ofB a.name = ofB b.name) && (a.ran == b.ran) && ((a.con.toNat : Int) == (b.con.toNat : Int)))) = false) : a = b := by
  simp [ofB_eq] at h
  obtain ⟨⟨h1, h2⟩, h3⟩ := h
  have h3 : a.con = b.con := BitVec.eq_of_toNat_eq (by omega)
  cases a; cases b
  simp_all

theorem SameS_calls (a b : List Sp) (ha : a.length < 1000000) {R} (h : ∀ p : Bool, (p = true ↔ a = b) → R (.val (.bool p)) []) : ACalls Try.prog 73 [.sl none 3 (sps a), .sl none 3 (sps b)] [] R := by
  refine acalls_of_xwp (an := an73) tab_ok Try.func73 ?_
  have hsa := sps_length a
  have hsb := sps_length b
  (conv => whnf)
  rw [hsa, hsb]
  refine br_intro (fun hc => ?_) (fun hc => ?_)
  · (conv => whnf)
    refine h false ⟨fun e => (by cases e), ?_⟩
    rintro rfl
    simp at hc
  have hlen : a.length = b.length := by simp at hc; omega
  (conv => whnf)
  refine LoopP.ind1 (fun (i : Nat) => [(5, vi i)]) (fun _ => []) (fun i => a.length - i) (fun i => i ≤ a.length ∧ a.take i = b.take i) 0 rfl ⟨by omega, by simp⟩ ?_
  rintro i ⟨h0, h1⟩ IH
  (conv => whnf)
  refine br_intro (fun hc => ?_) (fun hc => ?_)
  · have hc := lt_of_decE hsa hc
    have hcb : i < b.length := by omega
    (conv => whnf); (repeat ((with_reducible refine must_intro ?_ ?_); exact decide_eq_true (by omega); (conv => whnf)))
    refine idxK_map_intro (show (i : Int).toNat < (a.map Sp.v).length by simpa using hc) ?_
    rw [show (a.map Sp.v)[(i : Int).toNat]'(by simpa using hc) = a[i].v from by simp]
    (conv => whnf); (repeat ((with_reducible refine must_intro ?_ ?_); exact decide_eq_true (by omega); (conv => whnf)))
    refine idxK_map_intro (show (i : Int).toNat < (b.map Sp.v).length by simpa using hcb) ?_
    rw [show (b.map Sp.v)[(i : Int).toNat]'(by simpa using hcb) = b[i].v from by simp]
    (conv => whnf)
    refine br_intro (fun he => ?_) (fun he => ?_)
    · (conv => whnf)
      refine h false ⟨fun e => (by cases e), ?_⟩
      rintro rfl
      exact absurd rfl (sp_ne _ _ he)
    · (conv => whnf)
      rw [i64_nat (by omega)]
      refine IH (i + 1) ⟨by omega, ?_⟩ (by omega)
      rw [List.take_succ_eq_append_getElem hc, List.take_succ_eq_append_getElem hcb, h1, sp_eq _ _ he]
  · have hc := ge_of_decE hsa hc
    rw [List.take_of_length_le hc, List.take_of_length_le (by omega)] at h1
    (conv => whnf)
    exact h true ⟨fun _ => h1, fun _ => rfl⟩

def fixNd2 : List Nd := [⟨[98], false, 1, [[97]]⟩, ⟨[97], true, 0, []⟩]
def fixGiv : List Sp := [⟨[97], false, 5⟩]
theorem fix2_order : orderP fixNd2 = [1, 0] := by decide +kernel
theorem fix2_check : checkP fixNd2 = 0 := by decide +kernel
theorem fix2_small : small fixNd2 := by
  refine ⟨by decide, ?_⟩
  simp [fixNd2]
theorem fix2_clean : cleanP fixNd2 fixGiv = [⟨[97], false, 5⟩, ⟨[98], true, fold 1 [5]⟩] := by
  unfold cleanP
  rw [fix2_order]
  rfl
theorem rfixed_calls {R} (h : R (.val (.bool true)) []) : ACalls Try.prog 45 [] [] R := by
  refine acalls_of_xwp (an := an45) tab_ok Try.func45 ?_
  (conv => whnf)
  refine ACalls.args ?_ (Clean_calls fixNd2 fix2_small fixGiv (by decide) fun c e hc he => ?_)
  · refine leL.cons (le_sl _ _ (leE.cons (leL.refl _) rfl (leE.cons ?_ rfl leE.nil))) (leL.cons (.refl _) leL.nil)
    exact leL.cons (.refl _) (leL.cons (.refl _) (leL.cons (.refl _) (leL.cons (le_nil 1) leL.nil)))
  rw [fix2_clean] at hc
  rw [fix2_check] at he
  subst he
  (conv => whnf)
  refine refFold_calls 1 [5] (by simp) rfl fun d hd => ?_
  (conv => whnf)
  refine SameS_calls c [⟨[97], false, 5⟩, ⟨[98], true, d⟩] (by rw [hc]; simp) fun p hp => ?_
  have hp : p = true := hp.2 (by rw [hc, hd])
  subst hp
  (conv => whnf)
  exact h

theorem typed_step {n : Nat} {x : List AV} (h : Typed tab (n + 3) 73 x) : ∃ s : Sp, x = stepC s.v := by
  obtain ⟨a1, r1, rfl, ⟨s, rfl, hs⟩, a2, r2, rfl, ⟨b, rfl⟩, a3, r3, rfl, ⟨u, rfl, hu⟩, rfl⟩ : ∃ a r, x = a ++ r ∧ (∃ s : ByteArray, a = [.val (.string s)] ∧ s.size ≤ maxLen) ∧
      ∃ a r', r = a ++ r' ∧ (∃ b, a = [.val (.bool b)]) ∧ ∃ a r'', r' = a ++ r'' ∧ (∃ y, a = [.val (.int .u64 y)] ∧ (Lit.int .u64 y).wf = true) ∧ r'' = [] := h
  refine ⟨⟨bs s, b, BitVec.ofInt 64 u⟩, ?_⟩
  simp only [stepC, Sp.v, ofB_bs, List.cons_append, List.nil_append]
  rw [← wf_u64 hu]
theorem typed_steps {n : Nat} {l : List (List AV)} (h : ∀ x ∈ l, Typed tab (n + 3) 73 x) : ∃ m : List Sp, l = sps m := by
  induction l with
  | nil => exact ⟨[], rfl⟩
  | cons x l ih =>
    obtain ⟨m, rfl⟩ := ih fun y hy => h y (by simp [hy])
    obtain ⟨s, rfl⟩ := typed_step (h x (by simp))
    exact ⟨s :: m, rfl⟩
theorem args_steps {ts : List TypeId} {l : List AV} (h : Args tab 12 (71 :: ts) l) : ∃ (x : List Sp) (l' : List AV), l = .sl none 3 (sps x) :: l' ∧ x.length ≤ maxLen ∧ Args tab 12 ts l' := by
  obtain ⟨a, l', rfl, h1, h2⟩ := h
  obtain ⟨x, e, hl, hx⟩ : ∃ x : List (List AV), [a] = [.sl none 3 x] ∧ x.length ≤ maxLen ∧ ∀ y ∈ x, Typed tab 11 73 y := h1
  obtain ⟨m, rfl⟩ := typed_steps (n := 8) hx
  simp only [List.cons.injEq, and_true] at e
  subst e
  exact ⟨m, l', rfl, by simpa [sps] using hl, h2⟩
theorem FewS_calls (l : List Sp) (hl : l.length ≤ maxLen) {R} (h : ∀ b : Bool, (b = true → l.length ≤ 100 ∧ ∀ s ∈ l, s.name.length ≤ 100) → R (.val (.bool b)) []) :
    ACalls Try.prog 44 [.sl none 3 (sps l)] [] R := by
  refine acalls_of_xwp (an := an44) tab_ok Try.func44 ?_
  have hsl := sps_length l
  have hmx : maxLen ≤ 9223372036854775807 := by decide
  (conv => whnf)
  refine LoopP.ind1 (fun (i : Nat) => [(7, vi i)]) (fun _ => []) (fun i => l.length - i) (fun i => i ≤ l.length ∧ ∀ s ∈ l.take i, s.name.length ≤ 100) 0 rfl ⟨Nat.zero_le _, by simp⟩ ?_
  rintro i ⟨hi, hn⟩ IH
  (conv => whnf)
  refine br_intro (fun hc => ?_) (fun hc => ?_)
  · have hc := lt_of_decE hsl hc
    have hsn : l[i].v.name.size = l[i].name.length := size_ofB _
    (conv => whnf); (repeat ((with_reducible refine must_intro ?_ ?_); exact decide_eq_true (by omega); (conv => whnf)))
    refine idxK_map_intro (show (i : Int).toNat < (l.map Sp.v).length by simpa using hc) ?_
    rw [show (l.map Sp.v)[(i : Int).toNat]'(by simpa using hc) = l[i].v from by simp]
    (conv => whnf)
    rw [hsn]
    refine br_intro (fun hb => ?_) (fun hb => ?_)
    · (conv => whnf)
      exact h false (by simp)
    · (conv => whnf)
      rw [wrap_i64 (by omega) (by omega), show ((i : Int) + 1) = ((i + 1 : Nat) : Int) by omega]
      refine IH (i + 1) ⟨by omega, fun s hs => ?_⟩ (by omega)
      rw [List.take_succ_eq_append_getElem hc, List.mem_append, List.mem_singleton] at hs
      rcases hs with hs | rfl
      · exact hn s hs
      · simp at hb
        omega
  · have hc := ge_of_decE hsl hc
    rw [List.take_of_length_le hc] at hn
    (conv => whnf)
    rw [hsl]
    refine h _ fun hb => ⟨?_, hn⟩
    simp at hb
    omega

end Go.Abs
end

section
/- The statement RuleOnly. -/
set_option maxRecDepth 100000
set_option maxHeartbeats 1000000
set_option linter.unusedVariables false
set_option linter.unusedSimpArgs false
namespace Go.Abs
open Go Go.Proofs Dig
attribute [local irreducible] ibits byteAt strLt firstIdx

theorem sps_snoc (l : List Sp) (x : Sp) : sps l ++ [stepC x.v] = sps (l ++ [x]) := by simp [sps]
theorem RuleOnly_calls (l : List Nd) (hl : l.length ≤ maxLen) (hn : ∀ n ∈ l, n.deps.length ≤ maxLen) (given : List Sp) (hg : given.length ≤ maxLen) (x : Sp) {R} (h : R (.val (.bool true)) []) :
    ACalls Try.prog 12 [.sl none 4 (nds l), .sl none 3 (sps given), .agg (stepC x.v)] [] R := by
  refine acalls_of_xwp (an := an12) tab_ok Try.func12 ?_
  have hsx : x.v.name.size = x.name.length := size_ofB _
  have hsg := sps_length given
  (conv => whnf)
  refine Great_calls l hl hn fun b hb => ?_
  (conv => whnf)
  refine br_intro (fun g => ?_) (fun g => ?_)
  · (conv => whnf)
    refine rfixed_calls ?_
    (conv => whnf)
    exact h
  obtain ⟨b1, b2⟩ := hb g
  have hs : small l := ⟨by omega, fun n hn => by
    obtain ⟨g1, g2, g3⟩ := b2 n hn
    exact ⟨by omega, by omega, fun d hd => by have := g3 d hd; omega⟩⟩
  have hsl := nds_length l
  (conv => whnf)
  refine FewS_calls given hg fun b2 hb2 => ?_
  (conv => whnf)
  refine br_intro (fun g2 => ?_) (fun g2 => ?_)
  · (conv => whnf)
    refine rfixed_calls ?_
    (conv => whnf)
    exact h
  obtain ⟨f1, f2⟩ := hb2 (by simpa using g2)
  (conv => whnf)
  refine br_intro (fun g3 => ?_) (fun g3 => ?_)
  · (conv => whnf)
    refine rfixed_calls ?_
    (conv => whnf)
    exact h
  (conv => whnf)
  refine br_intro (fun g4 => ?_) (fun g4 => ?_)
  · (conv => whnf)
    refine rfixed_calls ?_
    (conv => whnf)
    exact h
  (conv => whnf)
  refine Clean_calls l hs given (by omega) fun c e hc he => ?_
  (conv => whnf)
  have hbt : (tab.ti 73).bytes = 32 := rfl
  refine ⟨rfl, (by rw [hbt]; simp only [List.length_nil]; omega), ?_⟩
  (conv => whnf)
  refine ⟨by simp, (by rw [hbt]; simp only [List.length_append, List.length_cons, List.length_nil, List.nil_append]; omega), ?_⟩
  (conv => whnf)
  rw [show [] ++ sps given ++ [[AV.val (Value.string x.v.name), AV.val (Value.bool x.v.ran), AV.val (Value.int IntKind.u64 x.v.con)]] = sps (given ++ [x]) from by rw [← sps_snoc]; rfl]
  refine Clean_calls l hs (given ++ [x]) (by simp; omega) fun c2 e2 hc2 he2 => ?_
  have hce : e = e2 := by rw [he, he2]
  subst hce
  have hpc := sps_length c
  have hpc2 := sps_length c2
  (conv => whnf)
  refine br_intro (fun g5 => ?_) (fun g5 => ?_)
  · have g5 : e ≠ 0 := by simpa using g5
    have hz : orderP l = [] := by rw [orderP, if_neg (by rw [← he]; exact g5)]
    have hc0 : c = [] := by rw [hc, cleanP, hz]; rfl
    have hc20 : c2 = [] := by rw [hc2, cleanP, hz]; rfl
    subst hc0 hc20
    (conv => whnf)
    refine rfixed_calls ?_
    (conv => whnf)
    refine br_true (by simp) ?_
    (conv => whnf)
    exact h
  have g5 : e = 0 := by simpa using g5
  have hz : checkP l = 0 := by rw [← he, g5]
  have hrl := (check_zero hz).2.1
  have hca : c = (List.range l.length).map (spAt l given) := by rw [hc, cleanP_at hz]
  have hcb : c2 = (List.range l.length).map (spAt l (given ++ [x])) := by rw [hc2, cleanP_at hz]
  have hcl : c.length = l.length := by rw [hca]; simp
  have hcl2 : c2.length = l.length := by rw [hcb]; simp
  have hci : ∀ i, ∀ (hi : i < c.length), c[i] = spAt l given i := fun i hi => by simp [hca]
  have hci2 : ∀ i, ∀ (hi : i < c2.length), c2[i] = spAt l (given ++ [x]) i := fun i hi => by simp [hcb]
  (conv => whnf)
  refine br_false (by rw [g5]; rfl) ?_
  (conv => whnf)
  refine Above_calls l hs x.name fun ss hss _ hsll => ?_
  have hssl := strs_length ss
  (conv => whnf)
  refine br_false (by rw [hpc, hsl, hcl]; simp) ?_
  (conv => whnf)
  refine br_false (by rw [hpc2, hsl, hcl2]; simp) ?_
  (conv => whnf)
  refine LoopP.ind2 (fun (i : Nat) (es : List (ByteArray × AV)) => [(92, vi i)]) (fun i es => [(nameOf 77, .map es)]) (fun i _ => l.length - i)
    (fun i es => i ≤ l.length ∧ ∀ j, j < i → mapFind es (ofB (nodeAt l j).name) = some (.val (.bool (decide (conAt l given j ≠ conAt l (given ++ [x]) j))))) 0 [] rfl ⟨by omega, fun j hj => by omega⟩ ?_
  rintro i es ⟨h0, hat⟩ IH
  (conv => whnf)
  refine br_intro (fun hc3 => ?_) (fun hc3 => ?_)
  · have hc3 := lt_of_decE hpc hc3
    have hcc : i < c.length := by omega
    have hcc2 : i < c2.length := by omega
    have hir : i < (rowP l).length := by omega
    have hA0 := hci i hcc
    have hB0 := hci2 i hcc2
    obtain ⟨A, hA⟩ : ∃ A, A = spAt l given i := ⟨_, rfl⟩
    obtain ⟨A2, hA2⟩ : ∃ A2, A2 = spAt l (given ++ [x]) i := ⟨_, rfl⟩
    rw [← hA] at hA0
    rw [← hA2] at hB0
    have hn1 : A.name = (nodeAt l i).name := by rw [hA]; rfl
    have hn2 : A2.name = A.name := by rw [hA, hA2]; rfl
    have hr2 : A2.ran = A.ran := by rw [hA, hA2]; rfl
    have hk1 : A.con = conAt l given i := by rw [hA]; rfl
    have hk2 : A2.con = conAt l (given ++ [x]) i := by rw [hA2]; rfl
    obtain ⟨q, hq⟩ : ∃ q : Bool, (A.v.con == A2.v.con) = q := ⟨_, rfl⟩
    have hq2 : q = decide (conAt l given i = conAt l (given ++ [x]) i) := by
      rw [← hq, ← hk1, ← hk2, show A.v.con = (A.con.toNat : Int) from rfl, show A2.v.con = (A2.con.toNat : Int) from rfl]
      by_cases e : A.con = A2.con
      · rw [e]; simp
      · rw [decide_eq_false e]
        have : A.con.toNat ≠ A2.con.toNat := fun x => e (BitVec.eq_of_toNat_eq x)
        simp; omega
    have onlyUp : q = false → A.name ≠ x.name → A.name ∈ ss := fun e1 e2 => by
      rw [e1] at hq2
      have := of_decide_eq_false hq2.symm
      rcases only_above given x i hir this with e | e
      · exact absurd (hn1.trans e) e2
      · rw [hn1]; exact (hss _).2 e
    have dep1 : ∀ n' ∈ l, n'.name = A.name → ∀ d, n'.deps = [d] → ∃ p : Bool, mapFind es (ofB d) = some (.val (.bool p)) ∧ p = !q := fun n' hn' he' d hd => by
      have hnn : n' = nodeAt l i := by
        obtain ⟨i1, hi1, rfl⟩ := List.getElem_of_mem hn'
        obtain ⟨i2, hi2, e2⟩ := List.getElem_of_mem (nodeAt_mem hir)
        rw [← e2] at hn1 ⊢
        have := (List.getElem_inj (h₀ := by simpa using hi1) (h₁ := by simpa using hi2) (check_zero hz).1).1 (by simpa using he'.trans hn1)
        subst this
        rfl
      rw [hnn] at hd
      obtain ⟨j, hj, hjn, hji⟩ := one_dep given hz (given ++ [x]) hir hd
      refine ⟨_, by rw [← hjn]; exact hat j hj, ?_⟩
      rw [hq2]
      by_cases e : conAt l given j = conAt l (given ++ [x]) j
      · rw [decide_eq_false (fun x => x e), decide_eq_true (hji.2 e)]; rfl
      · rw [decide_eq_true e, decide_eq_false (fun x => e (hji.1 x))]; rfl
    have hat2 : ∀ j, j < i + 1 → mapFind (mapPut es (ofB A.name) (.val (.bool (!q)))) (ofB (nodeAt l j).name) = some (.val (.bool (decide (conAt l given j ≠ conAt l (given ++ [x]) j)))) := fun j hj => by
      rw [mapFind_put]
      rcases Nat.lt_or_ge j i with hji | hji
      · rw [if_neg, hat j hji]
        intro e
        have e := ofB_inj e
        rw [hn1] at e
        have := nodeAt_inj hir (by omega) e
        omega
      · obtain rfl : j = i := by omega
        rw [if_pos (by rw [hn1]), hq2]
        congr 3
        by_cases e : conAt l given j = conAt l (given ++ [x]) j <;> simp [e]
    (conv => whnf); (repeat ((with_reducible refine must_intro ?_ ?_); exact decide_eq_true (by omega); (conv => whnf)))
    refine idxK_map_intro (show (i : Int).toNat < (c.map Sp.v).length by simpa using hcc) ?_
    rw [show (c.map Sp.v)[(i : Int).toNat]'(by simpa using hcc) = A.v from by simp [hA0]]
    (conv => whnf); (repeat ((with_reducible refine must_intro ?_ ?_); exact decide_eq_true (by omega); (conv => whnf)))
    refine idxK_map_intro (show (i : Int).toNat < (c2.map Sp.v).length by simpa using hcc2) ?_
    rw [show (c2.map Sp.v)[(i : Int).toNat]'(by simpa using hcc2) = A2.v from by simp [hB0]]
    (conv => whnf)
    refine br_false (by rw [show A2.v.name = A.v.name by show ofB A2.name = ofB A.name; rw [hn2]]; simp) ?_
    (conv => whnf)
    (conv => whnf); (repeat ((with_reducible refine must_intro ?_ ?_); exact decide_eq_true (by omega); (conv => whnf)))
    refine idxK_map_intro (show (i : Int).toNat < (c.map Sp.v).length by simpa using hcc) ?_
    rw [show (c.map Sp.v)[(i : Int).toNat]'(by simpa using hcc) = A.v from by simp [hA0]]
    (conv => whnf)
    (conv => whnf); (repeat ((with_reducible refine must_intro ?_ ?_); exact decide_eq_true (by omega); (conv => whnf)))
    refine idxK_map_intro (show (i : Int).toNat < (c2.map Sp.v).length by simpa using hcc2) ?_
    rw [show (c2.map Sp.v)[(i : Int).toNat]'(by simpa using hcc2) = A2.v from by simp [hB0]]
    (conv => whnf)
    refine br_false (by rw [show A2.v.ran = A.v.ran from hr2]; simp) ?_
    (conv => whnf)
    (conv => whnf); (repeat ((with_reducible refine must_intro ?_ ?_); exact decide_eq_true (by omega); (conv => whnf)))
    refine idxK_map_intro (show (i : Int).toNat < (c.map Sp.v).length by simpa using hcc) ?_
    rw [show (c.map Sp.v)[(i : Int).toNat]'(by simpa using hcc) = A.v from by simp [hA0]]
    (conv => whnf); (repeat ((with_reducible refine must_intro ?_ ?_); exact decide_eq_true (by omega); (conv => whnf)))
    refine idxK_map_intro (show (i : Int).toNat < (c2.map Sp.v).length by simpa using hcc2) ?_
    rw [show (c2.map Sp.v)[(i : Int).toNat]'(by simpa using hcc2) = A2.v from by simp [hB0]]
    (conv => whnf)
    rw [hq]
    cases q with
    | true =>
      (conv => whnf)
      refine LoopP.ind1 (fun (k : Nat) => [(154, vi k)]) (fun _ => [(nameOf 77, .map es)]) (fun k => l.length - k) (fun k => k ≤ l.length) 0 rfl (by omega) ?_
      rintro k hk0 IH2
      (conv => whnf)
      refine br_intro (fun hc4 => ?_) (fun hc4 => ?_)
      · have hc4 := lt_of_decE hsl hc4
        have hn' := List.getElem_mem hc4
        (conv => whnf); (repeat ((with_reducible refine must_intro ?_ ?_); exact decide_eq_true (by omega); (conv => whnf)))
        refine idxK_map_intro (show (k : Int).toNat < l.length by simpa using hc4) ?_
        rw [show l[(k : Int).toNat]'(by simpa using hc4) = l[k] from by congr 1]
        obtain ⟨n', hne⟩ : ∃ n', n' = l[k] := ⟨_, rfl⟩
        rw [← hne] at hn' ⊢
        have hsd := strs_length n'.deps
        (conv => whnf)
        (conv => whnf); (repeat ((with_reducible refine must_intro ?_ ?_); exact decide_eq_true (by omega); (conv => whnf)))
        refine idxK_map_intro (show (i : Int).toNat < (c.map Sp.v).length by simpa using hcc) ?_
        rw [show (c.map Sp.v)[(i : Int).toNat]'(by simpa using hcc) = A.v from by simp [hA0]]
        (conv => whnf)
        refine br_intro (fun hnm => ?_) (fun hnm => ?_)
        · have hnm : n'.name = A.name := ofB_inj (show ofB n'.name = A.v.name by simpa using hnm)
          (conv => whnf)
          rw [hsd]
          refine br_intro (fun hl1 => ?_) (fun hl1 => ?_)
          · have hl1 : n'.deps.length = 1 := by simp at hl1; omega
            obtain ⟨d, hd⟩ := List.length_eq_one_iff.1 hl1
            obtain ⟨p, hp1, hp2⟩ := dep1 n' hn' hnm d hd
            subst hp2
            rw [hd]
            (conv => whnf)
            rw [hp1]
            (conv => whnf)
            rw [i64_nat (by omega)]
            exact IH2 (k + 1) (by omega) (by omega)
          · (conv => whnf)
            rw [i64_nat (by omega)]
            exact IH2 (k + 1) (by omega) (by omega)
        · (conv => whnf)
          rw [i64_nat (by omega)]
          exact IH2 (k + 1) (by omega) (by omega)
      · (conv => whnf)
        (conv => whnf); (repeat ((with_reducible refine must_intro ?_ ?_); exact decide_eq_true (by omega); (conv => whnf)))
        refine idxK_map_intro (show (i : Int).toNat < (c.map Sp.v).length by simpa using hcc) ?_
        rw [show (c.map Sp.v)[(i : Int).toNat]'(by simpa using hcc) = A.v from by simp [hA0]]
        (conv => whnf)
        rw [i64_nat (by omega)]
        exact IH (i + 1) _ ⟨by omega, hat2⟩ (by omega)
    | false =>
      (conv => whnf)
      (conv => whnf); (repeat ((with_reducible refine must_intro ?_ ?_); exact decide_eq_true (by omega); (conv => whnf)))
      refine idxK_map_intro (show (i : Int).toNat < (c.map Sp.v).length by simpa using hcc) ?_
      rw [show (c.map Sp.v)[(i : Int).toNat]'(by simpa using hcc) = A.v from by simp [hA0]]
      (conv => whnf)
      refine br_intro (fun hx1 => ?_) (fun hx1 => ?_)
      · have hx1 : A.name ≠ x.name := by
          have : ¬ ofB A.name = ofB x.name := show ¬ A.v.name = x.v.name by simpa using hx1
          exact fun e => this (by rw [e])
        have hin := onlyUp rfl hx1
        (conv => whnf)
        (conv => whnf); (repeat ((with_reducible refine must_intro ?_ ?_); exact decide_eq_true (by omega); (conv => whnf)))
        refine idxK_map_intro (show (i : Int).toNat < (c.map Sp.v).length by simpa using hcc) ?_
        rw [show (c.map Sp.v)[(i : Int).toNat]'(by simpa using hcc) = A.v from by simp [hA0]]
        (conv => whnf)
        refine Place_calls ss A.name (by omega) rfl fun p hp => ?_
        have hp0 : ¬ p < 0 := fun e => by rw [hp] at e; exact placeI_neg.1 e hin
        (conv => whnf)
        refine br_false (by simpa using hp0) ?_
        (conv => whnf)
        refine LoopP.ind1 (fun (k : Nat) => [(154, vi k)]) (fun _ => [(nameOf 77, .map es)]) (fun k => l.length - k) (fun k => k ≤ l.length) 0 rfl (by omega) ?_
        rintro k hk0 IH2
        (conv => whnf)
        refine br_intro (fun hc4 => ?_) (fun hc4 => ?_)
        · have hc4 := lt_of_decE hsl hc4
          have hn' := List.getElem_mem hc4
          (conv => whnf); (repeat ((with_reducible refine must_intro ?_ ?_); exact decide_eq_true (by omega); (conv => whnf)))
          refine idxK_map_intro (show (k : Int).toNat < l.length by simpa using hc4) ?_
          rw [show l[(k : Int).toNat]'(by simpa using hc4) = l[k] from by congr 1]
          obtain ⟨n', hne⟩ : ∃ n', n' = l[k] := ⟨_, rfl⟩
          rw [← hne] at hn' ⊢
          have hsd := strs_length n'.deps
          (conv => whnf)
          (conv => whnf); (repeat ((with_reducible refine must_intro ?_ ?_); exact decide_eq_true (by omega); (conv => whnf)))
          refine idxK_map_intro (show (i : Int).toNat < (c.map Sp.v).length by simpa using hcc) ?_
          rw [show (c.map Sp.v)[(i : Int).toNat]'(by simpa using hcc) = A.v from by simp [hA0]]
          (conv => whnf)
          refine br_intro (fun hnm => ?_) (fun hnm => ?_)
          · have hnm : n'.name = A.name := ofB_inj (show ofB n'.name = A.v.name by simpa using hnm)
            (conv => whnf)
            rw [hsd]
            refine br_intro (fun hl1 => ?_) (fun hl1 => ?_)
            · have hl1 : n'.deps.length = 1 := by simp at hl1; omega
              obtain ⟨d, hd⟩ := List.length_eq_one_iff.1 hl1
              obtain ⟨p, hp1, hp2⟩ := dep1 n' hn' hnm d hd
              subst hp2
              rw [hd]
              (conv => whnf)
              rw [hp1]
              (conv => whnf)
              rw [i64_nat (by omega)]
              exact IH2 (k + 1) (by omega) (by omega)
            · (conv => whnf)
              rw [i64_nat (by omega)]
              exact IH2 (k + 1) (by omega) (by omega)
          · (conv => whnf)
            rw [i64_nat (by omega)]
            exact IH2 (k + 1) (by omega) (by omega)
        · (conv => whnf)
          (conv => whnf); (repeat ((with_reducible refine must_intro ?_ ?_); exact decide_eq_true (by omega); (conv => whnf)))
          refine idxK_map_intro (show (i : Int).toNat < (c.map Sp.v).length by simpa using hcc) ?_
          rw [show (c.map Sp.v)[(i : Int).toNat]'(by simpa using hcc) = A.v from by simp [hA0]]
          (conv => whnf)
          rw [i64_nat (by omega)]
          exact IH (i + 1) _ ⟨by omega, hat2⟩ (by omega)
      · (conv => whnf)
        refine LoopP.ind1 (fun (k : Nat) => [(154, vi k)]) (fun _ => [(nameOf 77, .map es)]) (fun k => l.length - k) (fun k => k ≤ l.length) 0 rfl (by omega) ?_
        rintro k hk0 IH2
        (conv => whnf)
        refine br_intro (fun hc4 => ?_) (fun hc4 => ?_)
        · have hc4 := lt_of_decE hsl hc4
          have hn' := List.getElem_mem hc4
          (conv => whnf); (repeat ((with_reducible refine must_intro ?_ ?_); exact decide_eq_true (by omega); (conv => whnf)))
          refine idxK_map_intro (show (k : Int).toNat < l.length by simpa using hc4) ?_
          rw [show l[(k : Int).toNat]'(by simpa using hc4) = l[k] from by congr 1]
          obtain ⟨n', hne⟩ : ∃ n', n' = l[k] := ⟨_, rfl⟩
          rw [← hne] at hn' ⊢
          have hsd := strs_length n'.deps
          (conv => whnf)
          (conv => whnf); (repeat ((with_reducible refine must_intro ?_ ?_); exact decide_eq_true (by omega); (conv => whnf)))
          refine idxK_map_intro (show (i : Int).toNat < (c.map Sp.v).length by simpa using hcc) ?_
          rw [show (c.map Sp.v)[(i : Int).toNat]'(by simpa using hcc) = A.v from by simp [hA0]]
          (conv => whnf)
          refine br_intro (fun hnm => ?_) (fun hnm => ?_)
          · have hnm : n'.name = A.name := ofB_inj (show ofB n'.name = A.v.name by simpa using hnm)
            (conv => whnf)
            rw [hsd]
            refine br_intro (fun hl1 => ?_) (fun hl1 => ?_)
            · have hl1 : n'.deps.length = 1 := by simp at hl1; omega
              obtain ⟨d, hd⟩ := List.length_eq_one_iff.1 hl1
              obtain ⟨p, hp1, hp2⟩ := dep1 n' hn' hnm d hd
              subst hp2
              rw [hd]
              (conv => whnf)
              rw [hp1]
              (conv => whnf)
              rw [i64_nat (by omega)]
              exact IH2 (k + 1) (by omega) (by omega)
            · (conv => whnf)
              rw [i64_nat (by omega)]
              exact IH2 (k + 1) (by omega) (by omega)
          · (conv => whnf)
            rw [i64_nat (by omega)]
            exact IH2 (k + 1) (by omega) (by omega)
        · (conv => whnf)
          (conv => whnf); (repeat ((with_reducible refine must_intro ?_ ?_); exact decide_eq_true (by omega); (conv => whnf)))
          refine idxK_map_intro (show (i : Int).toNat < (c.map Sp.v).length by simpa using hcc) ?_
          rw [show (c.map Sp.v)[(i : Int).toNat]'(by simpa using hcc) = A.v from by simp [hA0]]
          (conv => whnf)
          rw [i64_nat (by omega)]
          exact IH (i + 1) _ ⟨by omega, hat2⟩ (by omega)
  · (conv => whnf)
    refine rfixed_calls ?_
    (conv => whnf)
    exact h
theorem args_step {ts : List TypeId} {l : List AV} (h : Args tab 12 (73 :: ts) l) : ∃ (x : Sp) (l' : List AV), l = .agg (stepC x.v) :: l' ∧ Args tab 12 ts l' := by
  obtain ⟨a, l', rfl, h1, h2⟩ := h
  obtain ⟨x, rfl, hx⟩ : ∃ x, a = .agg x ∧ Typed tab 12 73 x := h1
  obtain ⟨n, rfl⟩ := typed_step (n := 9) hx
  exact ⟨n, l', rfl, h2⟩
theorem RuleOnly_row (l : List AV) (h : Args tab 12 [53, 71, 73] l) : ACalls Try.prog 12 l [] fun r _ => r = .val (.bool true) := by
  obtain ⟨a, l1, rfl, h1, h2, h3⟩ := args_nodes h
  obtain ⟨b, l2, rfl, h4, h5⟩ := args_steps h3
  obtain ⟨x, l3, rfl, h6⟩ := args_step h5
  obtain rfl := args_nil h6
  exact RuleOnly_calls a h1 h2 b h4 x rfl
end Go.Abs
end
