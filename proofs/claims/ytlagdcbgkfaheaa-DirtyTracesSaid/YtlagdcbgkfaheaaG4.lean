/- Why a node is to be run (dirty.Why), and the document's. -/
import Derived.Test.YtlagdcbgkfaheaaG3
set_option maxRecDepth 100000
set_option linter.unusedVariables false
set_option linter.unusedSimpArgs false
namespace Go.Abs
open Go Go.Proofs Dig
attribute [local irreducible] ibits byteAt strLt firstIdx

def hashBad : List Dp → List U → Bool
  | d :: ds, h :: hs => (!d.order && decide (d.hash ≠ h)) || hashBad ds hs
  | _, _ => false
def depsBad (n : Nd) (r : Rc) (hs : List U) : Bool := decide (hs.length ≠ n.deps.length) || decide (r.deps.map (·.name) ≠ n.deps)
def whyR (n : Nd) (r : Rc) (hs : List U) : Int := if r.rule ≠ n.rule then 2 else if depsBad n r hs = true then 3 else if hashBad r.deps hs = true then 4 else 0
def whyP (n : Nd) (l : List Rc) (hs : List U) : Int := if n.source = true then 0 else if (findP l n.name).isSome = false then 1 else whyR n (findR l n.name) hs
theorem hashBad_take {ds : List Dp} {hs : List U} (h : hs.length = ds.length) {i : Nat} (hi : i < ds.length) :
    hashBad (ds.take (i + 1)) (hs.take (i + 1)) = (hashBad (ds.take i) (hs.take i) || (!ds[i].order && decide (ds[i].hash ≠ hs[i]))) := by
  induction ds generalizing hs i with
  | nil => simp at hi
  | cons d ds ih =>
    cases hs with
    | nil => simp at h
    | cons x hs =>
      cases i with
      | zero => simp [hashBad]
      | succ i => simp [hashBad, ih (hs := hs) (i := i) (by simpa using h) (by simpa using hi), Bool.or_assoc]
theorem hashBad_drop {ds : List Dp} {hs : List U} (h : hs.length = ds.length) {i : Nat} (hi : i < ds.length) (hb : (!ds[i].order && decide (ds[i].hash ≠ hs[i])) = true) : hashBad ds hs = true := by
  induction ds generalizing hs i with
  | nil => simp at hi
  | cons d ds ih =>
    cases hs with
    | nil => simp at h
    | cons x hs =>
      cases i with
      | zero =>
        have hb : (!d.order && decide (d.hash ≠ x)) = true := hb
        rw [hashBad, hb]; rfl
      | succ i =>
        have := ih (hs := hs) (i := i) (by simpa using h) (by simpa using hi) hb
        rw [hashBad, this, Bool.or_true]
theorem u_ne (x y : U) : (!((x.toNat : Int) == (y.toNat : Int))) = decide (x ≠ y) := by
  by_cases h : x = y
  · subst h; simp
  · have : ¬ (x.toNat : Int) = y.toNat := fun e => h (BitVec.eq_of_toNat_eq (by omega))
    simp [h, this]

abbrev asked (n : Nd) (r : Rc) (b : Bool) (hs : List U) : List AV := n.enc ++ r.enc ++ [.val (.bool b), .sl none 1 (nums hs)]
theorem qnone (n : Nd) (r : Rc) (b : Bool) (hs : List U) {R} (h : R (.val (.bool (!b))) []) : ACalls Try.prog 92 [.agg (asked n r b hs)] [] R := by
  refine acalls_of_xwp (an := an92) tab_ok Try.func92 ?_
  (conv => whnf)
  exact h
theorem qrule (n : Nd) (r : Rc) (b : Bool) (hs : List U) {R} (h : R (.val (.bool (decide (r.rule ≠ n.rule)))) []) : ACalls Try.prog 93 [.agg (asked n r b hs)] [] R := by
  refine acalls_of_xwp (an := an93) tab_ok Try.func93 ?_
  rw [← u_ne] at h
  (conv => whnf)
  exact h
theorem depName (d : Dp) (s : B) {R} (h : R (.val (.bool (decide (d.name = s)))) []) : ACalls Try.prog 107 [.agg d.enc, vs s] [] R := by
  refine acalls_of_xwp (an := an107) tab_ok Try.func107 ?_
  have e : decide (ofB d.name = ofB s) = decide (d.name = s) := decide_eq_decide.2 ofB_eq
  rw [← e] at h
  (conv => whnf)
  exact h
theorem EqNames (ds : List Dp) (ns : List B) (hl : ds.length < 1000000) {R} (h : ∀ p, p = decide (ds.map (·.name) = ns) → R (.val (.bool p)) []) :
    ACalls Try.prog 108 [.sl none 3 (dpsA ds), .sl none 1 (strs ns), .fn (.func 107) [] []] [] R := by
  refine acalls_of_xwp (an := an108) tab_ok Try.func108 ?_
  have hsd := dpsA_length ds
  have hss := strs_length ns
  (conv => whnf)
  rw [hsd, hss]
  refine br_intro (fun hc => ?_) (fun hc => ?_)
  · (conv => whnf)
    refine h false (decide_eq_false fun e => ?_).symm
    have : ds.length = ns.length := by rw [← e]; simp
    simp [this] at hc
  have hlen : ds.length = ns.length := by simp at hc; omega
  (conv => whnf)
  refine LoopP.ind1 (fun (i : Nat) => [(17, vi i)]) (fun _ => []) (fun i => ds.length - i) (fun i => i ≤ ds.length ∧ (ds.take i).map (·.name) = ns.take i) 0 rfl ⟨by omega, by simp⟩ ?_
  rintro i ⟨h0, h1⟩ IH
  (conv => whnf)
  refine br_intro (fun hc => ?_) (fun hc => ?_)
  · have hc := lt_of_decE hsd hc
    have hcn : i < ns.length := by omega
    (conv => whnf); (repeat ((with_reducible refine must_intro ?_ ?_); exact decide_eq_true (by omega); (conv => whnf)))
    refine idxK_map_intro (show (i : Int).toNat < ds.length by simpa using hc) ?_
    rw [show ds[(i : Int).toNat]'(by simpa using hc) = ds[i] from by congr 1]
    (conv => whnf); (repeat ((with_reducible refine must_intro ?_ ?_); exact decide_eq_true (by omega); (conv => whnf)))
    refine idxK_map_intro (show (i : Int).toNat < ns.length by simpa using hcn) ?_
    rw [show ns[(i : Int).toNat]'(by simpa using hcn) = ns[i] from by congr 1]
    (conv => whnf)
    refine depName ds[i] ns[i] ?_
    (conv => whnf)
    refine br_intro (fun he => ?_) (fun he => ?_)
    · have he : ¬ ds[i].name = ns[i] := by simpa using he
      (conv => whnf)
      refine h false (decide_eq_false fun e => he ?_).symm
      have : (ds.map (·.name))[i]'(by simpa using hc) = ns[i] := by congr 1
      simpa using this
    · have he : ds[i].name = ns[i] := by simpa using he
      (conv => whnf)
      rw [i64_nat (by omega)]
      refine IH (i + 1) ⟨by omega, ?_⟩ (by omega)
      rw [List.take_succ_eq_append_getElem hc, List.take_succ_eq_append_getElem hcn, List.map_append, h1]
      simp [he]
  · have hc := ge_of_decE hsd hc
    rw [List.take_of_length_le hc, List.take_of_length_le (by omega)] at h1
    (conv => whnf)
    exact h true (decide_eq_true h1).symm
theorem qdeps (n : Nd) (r : Rc) (b : Bool) (hs : List U) (hl : r.deps.length < 1000000) {R} (h : ∀ p, p = depsBad n r hs → R (.val (.bool p)) []) : ACalls Try.prog 94 [.agg (asked n r b hs)] [] R := by
  refine acalls_of_xwp (an := an94) tab_ok Try.func94 ?_
  have hsd := strs_length n.deps
  have hsh := nums_len hs
  (conv => whnf)
  rw [hsh, hsd]
  refine br_intro (fun hc => ?_) (fun hc => ?_)
  · (conv => whnf)
    refine h true ?_
    have : hs.length ≠ n.deps.length := by simp at hc; omega
    simp [depsBad, this]
  · (conv => whnf)
    refine EqNames r.deps n.deps hl fun p hp => ?_
    (conv => whnf)
    refine h _ ?_
    have : hs.length = n.deps.length := by simp at hc; omega
    rw [hp]
    simp [depsBad, this]
theorem qhash (n : Nd) (r : Rc) (b : Bool) (hs : List U) (hl : r.deps.length < 1000000) (he : hs.length = r.deps.length) {R} (h : ∀ p, p = hashBad r.deps hs → R (.val (.bool p)) []) : ACalls Try.prog 95 [.agg (asked n r b hs)] [] R := by
  refine acalls_of_xwp (an := an95) tab_ok Try.func95 ?_
  have hsd := dpsA_length r.deps
  have hsh := nums_len hs
  (conv => whnf)
  refine LoopP.ind1 (fun (i : Nat) => [(9, vi i)]) (fun _ => []) (fun i => r.deps.length - i) (fun i => i ≤ r.deps.length ∧ hashBad (r.deps.take i) (hs.take i) = false) 0 rfl ⟨by omega, by simp [hashBad]⟩ ?_
  rintro i ⟨h0, h1⟩ IH
  (conv => whnf)
  refine br_intro (fun hc => ?_) (fun hc => ?_)
  · have hc := lt_of_decE hsd hc
    have hch : i < hs.length := by omega
    have htk := hashBad_take he hc
    (conv => whnf); (repeat ((with_reducible refine must_intro ?_ ?_); exact decide_eq_true (by omega); (conv => whnf)))
    refine idxK_map_intro (show (i : Int).toNat < r.deps.length by simpa using hc) ?_
    rw [show r.deps[(i : Int).toNat]'(by simpa using hc) = r.deps[i] from by congr 1]
    (conv => whnf)
    refine br_intro (fun ho => ?_) (fun ho => ?_)
    · (conv => whnf); (repeat ((with_reducible refine must_intro ?_ ?_); exact decide_eq_true (by omega); (conv => whnf)))
      refine idxK_map_intro (show (i : Int).toNat < hs.length by simpa using hch) ?_
      rw [show hs[(i : Int).toNat]'(by simpa using hch) = hs[i] from by congr 1]
      (conv => whnf)
      refine br_intro (fun hh => ?_) (fun hh => ?_)
      · have hh : decide (r.deps[i].hash ≠ hs[i]) = true := (u_ne _ _).symm.trans hh
        (conv => whnf)
        exact h true (hashBad_drop he hc (by rw [ho, hh]; rfl)).symm
      · have hh : decide (r.deps[i].hash ≠ hs[i]) = false := (u_ne _ _).symm.trans hh
        (conv => whnf)
        rw [i64_nat (by omega)]
        exact IH (i + 1) ⟨by omega, by rw [htk, h1, hh]; simp⟩ (by omega)
    · (conv => whnf)
      rw [i64_nat (by omega)]
      exact IH (i + 1) ⟨by omega, by rw [htk, h1, ho]; simp⟩ (by omega)
  · have hc := ge_of_decE hsd hc
    rw [List.take_of_length_le hc, List.take_of_length_le (by omega)] at h1
    (conv => whnf)
    exact h false h1.symm
theorem questions_calls {R} (h : R (.agg [.fn (.func 92) [] [], vi 1, .fn (.func 93) [] [], vi 2, .fn (.func 94) [] [], vi 3, .fn (.func 95) [] [], vi 4]) []) :
    ACalls Try.prog 69 [] [] R := by
  refine acalls_of_xwp (an := an69) tab_ok Try.func69 ?_
  (conv => whnf)
  exact h

theorem findR_deps {l : List Rc} (hd : ∀ r ∈ l, r.deps.length < 1000000) (t : B) : (findR l t).deps.length < 1000000 := by
  unfold findR findP
  cases h : l.reverse.find? (isOf t) with
  | none => decide
  | some r => exact hd r (by rw [← List.mem_reverse]; exact List.mem_of_find?_eq_some h)
theorem Why_calls (n : Nd) (l : List Rc) (hl : l.length < 1000000) (hd : ∀ r ∈ l, r.deps.length < 1000000) (hs : List U) {R} (h : ∀ e, e = whyP n l hs → R (vi e) []) :
    ACalls Try.prog 34 [.agg n.enc, .sl none 7 (recs l), .sl none 1 (nums hs)] [] R := by
  refine acalls_of_xwp (an := an34) tab_ok Try.func34 ?_
  have hrd := findR_deps hd n.name
  (conv => whnf)
  refine br_intro (fun g => ?_) (fun g => ?_)
  · (conv => whnf)
    exact h 0 (by rw [whyP, if_pos g])
  have g : ¬ n.source = true := by simp [g]
  (conv => whnf)
  refine Find_calls l hl hd n.name ?_
  generalize hr : findR l n.name = r at hrd ⊢
  generalize hb : (findP l n.name).isSome = b
  have hw : whyP n l hs = if b = false then 1 else whyR n r hs := by rw [whyP, if_neg g, hr, hb]
  (conv => whnf)
  refine questions_calls ?_
  (conv => whnf)
  refine LoopP.step ?_
  (conv => whnf)
  refine qnone n r b hs ?_
  (conv => whnf)
  refine br_intro (fun q1 => ?_) (fun q1 => ?_)
  · (conv => whnf)
    exact h 1 (by rw [hw, if_pos (by simpa using q1)])
  have q1 : b = true := by simpa using q1
  rw [if_neg (by simp [q1])] at hw
  (conv => whnf)
  refine LoopP.step ?_
  (conv => whnf)
  refine qrule n r b hs ?_
  (conv => whnf)
  refine br_intro (fun q2 => ?_) (fun q2 => ?_)
  · have q2 : r.rule ≠ n.rule := of_decide_eq_true q2
    (conv => whnf)
    exact h 2 (by rw [hw, whyR, if_pos q2])
  have q2 : r.rule = n.rule := Classical.not_not.1 (of_decide_eq_false q2)
  (conv => whnf)
  refine LoopP.step ?_
  (conv => whnf)
  refine qdeps n r b hs hrd fun p hp => ?_
  (conv => whnf)
  refine br_intro (fun q3 => ?_) (fun q3 => ?_)
  · (conv => whnf)
    exact h 3 (by rw [hw, whyR, if_neg (by simp [q2]), if_pos (by rw [← hp, q3])])
  have q3 : depsBad n r hs = false := by rw [← hp, q3]
  have hle : hs.length = r.deps.length := by
    unfold depsBad at q3
    simp at q3
    rw [q3.1, ← q3.2]; simp
  (conv => whnf)
  refine LoopP.step ?_
  (conv => whnf)
  refine qhash n r b hs hrd hle fun p hp => ?_
  (conv => whnf)
  refine br_intro (fun q4 => ?_) (fun q4 => ?_)
  · (conv => whnf)
    exact h 4 (by rw [hw, whyR, if_neg (by simp [q2]), if_neg (by simp [q3]), if_pos (by rw [← hp, q4])])
  have q4 : hashBad r.deps hs = false := by rw [← hp, q4]
  (conv => whnf)
  refine LoopP.step ?_
  (conv => whnf)
  exact h 0 (by rw [hw, whyR, if_neg (by simp [q2]), if_neg (by simp [q3]), if_neg (by simp [q4])])
end Go.Abs
