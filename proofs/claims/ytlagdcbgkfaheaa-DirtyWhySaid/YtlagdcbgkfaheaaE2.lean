/- Graphs: nodes; what is wrong with one by itself. -/
import Derived.Test.YtlagdcbgkfaheaaE1
import Derived.Test.YtlagdcbgkfaheaaC2
set_option maxRecDepth 100000
set_option linter.unusedVariables false
set_option linter.unusedSimpArgs false
namespace Go.Abs
open Go Go.Proofs
attribute [local irreducible] ibits byteAt strLt firstIdx

structure Nd where
  name : B
  source : Bool
  rule : U
  deps : List B
def Nd.enc (n : Nd) : List AV := [vs n.name, .val (.bool n.source), uv n.rule, .sl none 1 (strs n.deps)]
def nds (l : List Nd) : List (List AV) := l.map Nd.enc
theorem nds_length (l : List Nd) : (nds l).length = l.length := by simp [nds]
def ints (l : List Nat) : List (List AV) := l.map fun (i : Nat) => [vi (i : Int)]
theorem ints_length (l : List Nat) : (ints l).length = l.length := by simp [ints]

/-! ### names -/
def nameOk (s : B) : Bool := decide (1 ≤ s.length) && decide (s.length ≤ 64)
theorem Name_calls (s : B) {R} (h : R (.val (.bool (nameOk s))) []) : ACalls Try.prog 101 [vs s] [] R := by
  refine acalls_of_xwp (an := an101) tab_ok Try.func101 ?_
  have hsz : (ofB s).size = s.length := size_ofB s
  (conv => whnf)
  rw [hsz]
  refine br_intro (fun hc => ?_) (fun hc => ?_)
  · (conv => whnf)
    have : nameOk s = decide ((s.length : Int) ≤ 64) := by
      unfold nameOk
      rw [hsz] at *
      have hc : 1 ≤ s.length := by simp at hc; omega
      simp [hc]
      omega
    rw [hsz, ← this]
    exact h
  · (conv => whnf)
    have : nameOk s = false := by
      have hc : s.length = 0 := by simp at hc; omega
      simp [nameOk, hc]
    rw [this] at h
    exact h
theorem refName_calls (s : B) {R} (h : R (.val (.bool (nameOk s))) []) : ACalls Try.prog 98 [vs s] [] R := by
  refine acalls_of_xwp (an := an98) tab_ok Try.func98 ?_
  have hsz : (ofB s).size = s.length := size_ofB s
  (conv => whnf)
  refine br_intro (fun hc => ?_) (fun hc => ?_)
  · have hc : s ≠ [] := by
      rintro rfl
      simp at hc
      exact hc rfl
    have hl : 1 ≤ s.length := by cases s with | nil => exact absurd rfl hc | cons a s => simp
    (conv => whnf)
    have : nameOk s = decide ((s.length : Int) < 65) := by
      unfold nameOk
      simp [hl]
      omega
    rw [hsz, ← this]
    exact h
  · have hc : s = [] := by
      simp at hc
      have : ofB s = ofB [] := hc
      exact ofB_inj this
    subst hc
    (conv => whnf)
    exact h

/-! ### places -/
def placeOf : List B → B → Option Nat
  | [], _ => none
  | a :: l, s => if a = s then some 0 else (placeOf l s).map (· + 1)
def placeI (l : List B) (s : B) : Int := match placeOf l s with | some i => i | none => -1
theorem placeOf_none {l : List B} {s : B} : placeOf l s = none ↔ s ∉ l := by
  induction l with
  | nil => simp [placeOf]
  | cons a l ih =>
    simp only [placeOf]
    by_cases h : a = s
    · simp [h]
    · rw [if_neg h]
      simp only [Option.map_eq_none_iff, ih, List.mem_cons, not_or]
      exact ⟨fun h' => ⟨fun e => h e.symm, h'⟩, fun h' => h'.2⟩
theorem placeOf_some {l : List B} {s : B} {i : Nat} (h : placeOf l s = some i) : l[i]? = some s ∧ ∀ j, j < i → l[j]? ≠ some s := by
  induction l generalizing i with
  | nil => simp [placeOf] at h
  | cons a l ih =>
    simp only [placeOf] at h
    by_cases e : a = s
    · rw [if_pos e] at h
      cases h
      subst e
      exact ⟨rfl, fun j hj => by omega⟩
    · rw [if_neg e] at h
      obtain ⟨k, hk, rfl⟩ := Option.map_eq_some_iff.1 h
      obtain ⟨h1, h2⟩ := ih hk
      refine ⟨by simpa using h1, fun j hj => ?_⟩
      cases j with
      | zero => simpa using e
      | succ j => simpa using h2 j (by omega)
theorem placeI_neg {l : List B} {s : B} : placeI l s < 0 ↔ s ∉ l := by
  rw [← placeOf_none]
  unfold placeI
  cases placeOf l s with
  | none => simp
  | some i => simp
theorem placeOf_of {l : List B} {s : B} {i : Nat} (h : l[i]? = some s) (h' : ∀ j, j < i → l[j]? ≠ some s) : placeOf l s = some i := by
  cases e : placeOf l s with
  | none => exact absurd (List.mem_of_getElem? h) (placeOf_none.1 e)
  | some k =>
    obtain ⟨h1, h2⟩ := placeOf_some e
    rcases Nat.lt_trichotomy i k with hl | rfl | hl
    · exact absurd h (h2 _ hl)
    · rfl
    · exact absurd h1 (h' _ hl)

theorem i64_nat {i : Nat} (h : i < 1000000000) : IntKind.i64.wrap ((i : Int) + 1) = ((i + 1 : Nat) : Int) := wrap_i64 (by omega) (by omega)
theorem lt_of_dec {i n : Nat} (h : decide ((i : Int) < (n : Int)) = true) : i < n := by simpa using h
theorem ge_of_dec {i n : Nat} (h : decide ((i : Int) < (n : Int)) = false) : n ≤ i := by simp at h; omega

theorem lt_of_decE {i n m : Nat} (e : m = n) (h : decide ((i : Int) < (m : Int)) = true) : i < n := by subst e; simpa using h
theorem ge_of_decE {i n m : Nat} (e : m = n) (h : decide ((i : Int) < (m : Int)) = false) : n ≤ i := by subst e; simp at h; omega

theorem Place_calls (l : List B) (s : B) (hl : l.length < 1000000) {X : List (List AV)} (hX : X = strs l) {R} (h : ∀ p, p = placeI l s → R (vi p) []) : ACalls Try.prog 99 [.sl none 1 X, vs s] [] R := by
  subst hX
  refine acalls_of_xwp (an := an99) tab_ok Try.func99 ?_
  have hsl := strs_length l
  (conv => whnf)
  refine LoopP.ind1 (fun (i : Nat) => [(5, vi i)]) (fun _ => []) (fun i => l.length - i) (fun i => i ≤ l.length ∧ ∀ j, j < i → l[j]? ≠ some s) 0 rfl ⟨by omega, fun j hj => by omega⟩ ?_
  rintro i ⟨h0, h1⟩ IH
  (conv => whnf)
  rw [hsl]
  refine br_intro (fun hc => ?_) (fun hc => ?_)
  · have hc := lt_of_dec hc
    (conv => whnf); (repeat ((with_reducible refine must_intro ?_ ?_); exact decide_eq_true (by omega); (conv => whnf)))
    refine idxK_map_intro (show (i : Int).toNat < l.length by simpa using hc) ?_
    rw [show l[(i : Int).toNat]'(by simpa using hc) = l[i] from by congr 1]
    (conv => whnf)
    refine br_intro (fun he => ?_) (fun he => ?_)
    · have he : l[i] = s := by simpa [ofB_eq] using he
      (conv => whnf)
      refine h _ ?_
      rw [placeI, placeOf_of (i := i) (by rw [List.getElem?_eq_getElem hc, he]) h1]
    · have he : l[i] ≠ s := by simpa [ofB_eq] using he
      (conv => whnf)
      rw [i64_nat (by omega)]
      refine IH (i + 1) ⟨by omega, fun j hj => ?_⟩ (by omega)
      rcases Nat.lt_or_ge j i with hlt | hge
      · exact h1 j hlt
      · obtain rfl : j = i := by omega
        rw [List.getElem?_eq_getElem hc]
        simpa using he
  · have hc := ge_of_dec hc
    (conv => whnf)
    refine h (-1) ?_
    have : s ∉ l := by
      intro hm
      obtain ⟨j, hj, e⟩ := List.getElem_of_mem hm
      exact h1 j (by omega) (by rw [List.getElem?_eq_getElem hj, e])
    rw [placeI, placeOf_none.2 this]

theorem nPlace_calls (l : List Nd) (s : B) (hl : l.length < 1000000) {X : List (List AV)} (hX : X = nds l) {R} (h : ∀ p, p = placeI (l.map (·.name)) s → R (vi p) []) : ACalls Try.prog 72 [.sl none 4 X, vs s] [] R := by
  subst hX
  refine acalls_of_xwp (an := an72) tab_ok Try.func72 ?_
  have hsl := nds_length l
  (conv => whnf)
  refine LoopP.ind1 (fun (i : Nat) => [(5, vi i)]) (fun _ => []) (fun i => l.length - i) (fun i => i ≤ l.length ∧ ∀ j, j < i → (l.map (·.name))[j]? ≠ some s) 0 rfl ⟨by omega, fun j hj => by omega⟩ ?_
  rintro i ⟨h0, h1⟩ IH
  (conv => whnf)
  rw [hsl]
  refine br_intro (fun hc => ?_) (fun hc => ?_)
  · have hc := lt_of_dec hc
    (conv => whnf); (repeat ((with_reducible refine must_intro ?_ ?_); exact decide_eq_true (by omega); (conv => whnf)))
    refine idxK_map_intro (show (i : Int).toNat < l.length by simpa using hc) ?_
    rw [show l[(i : Int).toNat]'(by simpa using hc) = l[i] from by congr 1]
    (conv => whnf)
    refine br_intro (fun he => ?_) (fun he => ?_)
    · have he : l[i].name = s := by simpa [ofB_eq] using he
      (conv => whnf)
      refine h _ ?_
      rw [placeI, placeOf_of (i := i) (by rw [List.getElem?_map, List.getElem?_eq_getElem hc]; simp [he]) h1]
    · have he : l[i].name ≠ s := by simpa [ofB_eq] using he
      (conv => whnf)
      rw [i64_nat (by omega)]
      refine IH (i + 1) ⟨by omega, fun j hj => ?_⟩ (by omega)
      rcases Nat.lt_or_ge j i with hlt | hge
      · exact h1 j hlt
      · obtain rfl : j = i := by omega
        rw [List.getElem?_map, List.getElem?_eq_getElem hc]
        simpa using he
  · have hc := ge_of_dec hc
    (conv => whnf)
    refine h (-1) ?_
    have : s ∉ l.map (·.name) := by
      intro hm
      obtain ⟨j, hj, e⟩ := List.getElem_of_mem hm
      exact h1 j (by simp at hj; omega) (by rw [List.getElem?_eq_getElem hj, e])
    rw [placeI, placeOf_none.2 this]

theorem in_calls (l : List Nat) (x : Int) (hl : l.length < 1000000) {X : List (List AV)} (hX : X = ints l) {R} (h : ∀ b, b = decide (∃ i ∈ l, (i : Int) = x) → R (.val (.bool b)) []) : ACalls Try.prog 78 [.sl none 1 X, vi x] [] R := by
  subst hX
  refine acalls_of_xwp (an := an78) tab_ok Try.func78 ?_
  have hsl := ints_length l
  (conv => whnf)
  refine LoopP.ind1 (fun (i : Nat) => [(5, vi i)]) (fun _ => []) (fun i => l.length - i) (fun i => i ≤ l.length ∧ ∀ j (hj : j < l.length), j < i → ((l[j] : Nat) : Int) ≠ x) 0 rfl ⟨by omega, fun j hj hlt => by omega⟩ ?_
  rintro i ⟨h0, h1⟩ IH
  (conv => whnf)
  rw [hsl]
  refine br_intro (fun hc => ?_) (fun hc => ?_)
  · have hc := lt_of_dec hc
    (conv => whnf); (repeat ((with_reducible refine must_intro ?_ ?_); exact decide_eq_true (by omega); (conv => whnf)))
    refine idxK_map_intro (show (i : Int).toNat < l.length by simpa using hc) ?_
    rw [show l[(i : Int).toNat]'(by simpa using hc) = l[i] from by congr 1]
    (conv => whnf)
    refine br_intro (fun he => ?_) (fun he => ?_)
    · have he : ((l[i] : Nat) : Int) = x := by simpa using he
      (conv => whnf)
      exact h true (decide_eq_true ⟨l[i], List.getElem_mem hc, he⟩).symm
    · have he : ((l[i] : Nat) : Int) ≠ x := by simpa using he
      (conv => whnf)
      rw [i64_nat (by omega)]
      refine IH (i + 1) ⟨by omega, fun j hj hlt => ?_⟩ (by omega)
      rcases Nat.lt_or_ge j i with hlt | hge
      · exact h1 j hj hlt
      · obtain rfl : j = i := by omega
        exact he
  · have hc := ge_of_dec hc
    (conv => whnf)
    refine h false (decide_eq_false ?_).symm
    rintro ⟨a, ha, e⟩
    obtain ⟨j, hj, rfl⟩ := List.getElem_of_mem ha
    exact h1 j hj (by omega) e

/-! ### which text stands ahead -/
def ltB (a b : B) : Bool := Op.bytesLess a b
theorem strLt_ofB (a b : B) : strLt (ofB a) (ofB b) = ltB a b := by
  unfold strLt ltB
  rw [ByteArray.toList_eq, ByteArray.toList_eq]
  show Op.bytesLess (bs (ofB a)) (bs (ofB b)) = _
  rw [bs_ofB, bs_ofB]
theorem ltB_drop {a b : B} : ∀ {i : Nat}, (∀ j, j < i → a[j]? = b[j]?) → i ≤ a.length → i ≤ b.length → ltB (a.drop i) (b.drop i) = ltB a b := by
  intro i
  induction i generalizing a b with
  | zero => intro _ _ _; simp
  | succ i ih =>
    intro h ha hb
    cases a with
    | nil => simp at ha
    | cons x a =>
      cases b with
      | nil => simp at hb
      | cons y b =>
        have h0 : x = y := by simpa using h 0 (by omega)
        subst h0
        simp only [List.drop_succ_cons]
        rw [ih (fun j hj => by simpa using h (j + 1) (by omega)) (by simpa using ha) (by simpa using hb)]
        simp [ltB, Op.bytesLess]
theorem u8_lt {a b : UInt8} : decide (((a.toNat : Nat) : Int) < ((b.toNat : Nat) : Int)) = decide (a < b) := by
  apply decide_eq_decide.2
  rw [UInt8.lt_iff_toNat_lt]
  omega

theorem Less_calls (a b : B) (ha : a.length < 1000000) (hb : b.length < 1000000) {R} (h : ∀ p, p = ltB a b → R (.val (.bool p)) []) : ACalls Try.prog 79 [vs a, vs b] [] R := by
  refine acalls_of_xwp (an := an79) tab_ok Try.func79 ?_
  have hsa := size_ofB a
  have hsb := size_ofB b
  (conv => whnf)
  refine LoopP.ind1 (fun (i : Nat) => [(5, vi i)]) (fun _ => []) (fun i => a.length - i) (fun i => i ≤ a.length ∧ i ≤ b.length ∧ ∀ j, j < i → a[j]? = b[j]?) 0 rfl ⟨by omega, by omega, fun j hj => by omega⟩ ?_
  rintro i ⟨h0, h0', h1⟩ IH
  have hend : (a.length ≤ i ∨ b.length ≤ i) → ltB a b = decide ((a.length : Int) < (b.length : Int)) := by
    intro hc
    rw [← ltB_drop h1 h0 h0']
    rcases hc with hc | hc
    · rw [List.drop_eq_nil_of_le hc]
      cases hd : b.drop i with
      | nil =>
        have := List.drop_eq_nil_iff.1 hd
        simp [ltB, Op.bytesLess]; omega
      | cons y l =>
        have : i < b.length := by
          rcases Nat.lt_or_ge i b.length with h | h
          · exact h
          · rw [List.drop_eq_nil_of_le h] at hd; cases hd
        simp [ltB, Op.bytesLess]; omega
    · rw [List.drop_eq_nil_of_le hc]
      have : ltB (a.drop i) [] = false := by cases a.drop i <;> rfl
      rw [this]
      simp; omega
  (conv => whnf)
  rw [hsa]
  refine br_intro (fun hc => ?_) (fun hc => ?_)
  · have hc := lt_of_dec hc
    (conv => whnf)
    rw [hsb]
    refine br_intro (fun hc' => ?_) (fun hc' => ?_)
    · have hc' := lt_of_dec hc'
      have ea : byteAt (ofB a) (i : Int).toNat = ((a[i]).toNat : Int) := by rw [Int.toNat_natCast, byteAt_ofB a hc]
      have eb : byteAt (ofB b) (i : Int).toNat = ((b[i]).toNat : Int) := by rw [Int.toNat_natCast, byteAt_ofB b hc']
      (conv => whnf); (repeat ((with_reducible refine must_intro ?_ ?_); exact decide_eq_true (by omega); (conv => whnf)))
      rw [ea, eb]
      refine br_intro (fun he => ?_) (fun he => ?_)
      · have he : a[i] ≠ b[i] := by
          intro e
          rw [e] at he
          simp at he
        (conv => whnf); (repeat ((with_reducible refine must_intro ?_ ?_); exact decide_eq_true (by omega); (conv => whnf)))
        rw [ea, eb, u8_lt]
        refine h _ ?_
        rw [← ltB_drop h1 h0 h0', List.drop_eq_getElem_cons hc, List.drop_eq_getElem_cons hc']
        simp [ltB, Op.bytesLess, he]
      · have he : a[i] = b[i] := by
          simp at he
          exact u8_inj.1 he
        (conv => whnf)
        rw [i64_nat (by omega)]
        refine IH (i + 1) ⟨by omega, by omega, fun j hj => ?_⟩ (by omega)
        rcases Nat.lt_or_ge j i with hlt | hge
        · exact h1 j hlt
        · obtain rfl : j = i := by omega
          rw [List.getElem?_eq_getElem hc, List.getElem?_eq_getElem hc', he]
    · have hc' := ge_of_dec hc'
      (conv => whnf)
      rw [hsa, hsb]
      exact h _ (hend (.inr hc')).symm
  · have hc := ge_of_dec hc
    (conv => whnf)
    rw [hsa, hsb]
    exact h _ (hend (.inl hc)).symm
end Go.Abs
