/- The clean build, and the document's (rule.Clean). -/
import Derived.Test.YtlagdcbgkfaheaaF4
import Derived.Test.YtlagdcbgkfaheaaE7
set_option maxRecDepth 100000
set_option linter.unusedVariables false
set_option linter.unusedSimpArgs false
namespace Go.Abs
open Go Go.Proofs Dig
attribute [local irreducible] ibits byteAt strLt firstIdx

structure Sp where
  name : B
  ran : Bool
  con : U
def Sp.v (s : Sp) : StepV := ⟨ofB s.name, s.ran, (s.con.toNat : Int)⟩
def sps (l : List Sp) : List (List AV) := (l.map Sp.v).map stepC
theorem sps_length (l : List Sp) : (sps l).length = l.length := by simp [sps]
def givenP (l : List Sp) (name : B) : U := match l.reverse.find? (fun s => decide (s.name = name)) with | some s => s.con | none => 0
theorem given_eq (l : List Sp) (name : B) : givenOf (l.map Sp.v) (ofB name) = ((givenP l name).toNat : Int) := by
  unfold givenOf givenP
  have e : (fun s : StepV => decide (s.name = ofB name)) ∘ Sp.v = fun s : Sp => decide (s.name = name) := by
    funext s
    simp only [Function.comp, Sp.v, ofB_eq]
  rw [← List.map_reverse, List.find?_map, e]
  cases l.reverse.find? (fun s => decide (s.name = name)) <;> rfl
theorem givenP_snoc (l : List Sp) (s : Sp) (name : B) : givenP (l ++ [s]) name = if s.name = name then s.con else givenP l name := by
  unfold givenP
  rw [List.reverse_append]
  simp only [List.reverse_cons, List.reverse_nil, List.nil_append, List.cons_append, List.find?_cons]
  by_cases h : s.name = name <;> simp [h]

theorem codeGiven (l : List Sp) (hl : l.length < 1000000) (name : B) {R} (h : ∀ d, d = givenP l name → R (uv d) []) : ACalls Try.prog 55 [.sl none 3 (sps l), vs name] [] R :=
  Given_x (l.map Sp.v) (by simpa using hl) (ofB name) fun d hd => by
    have hd : d = givenOf (l.map Sp.v) (ofB name) := hd
    rw [hd, given_eq]; exact h _ rfl
theorem docGiven (l : List Sp) (hl : l.length < 1000000) (name : B) {R} (h : ∀ d, d = givenP l name → R (uv d) []) : ACalls Try.prog 56 [.sl none 3 (sps l), vs name] [] R :=
  refGiven_x (l.map Sp.v) (by simpa using hl) (ofB name) fun d hd => by rw [hd, given_eq]; exact h _ rfl

/-- A step of the clean build. -/
def cstep (l : List Nd) (given out : List Sp) (i : Nat) : List Sp :=
  match l[i]? with
  | some n => out ++ [⟨n.name, !n.source, if n.source = true then givenP given n.name else fold n.rule (n.deps.map (givenP out))⟩]
  | none => out
def cleanFrom (l : List Nd) (given : List Sp) (o : List Nat) : List Sp := o.foldl (cstep l given) []
def cleanP (l : List Nd) (given : List Sp) : List Sp := cleanFrom l given (orderP l)
theorem clean_snoc {l : List Nd} (given : List Sp) {o : List Nat} {i : Nat} (hi : i < o.length) (hl : o[i] < l.length) :
    cleanFrom l given (o.take (i + 1)) = cleanFrom l given (o.take i) ++ [⟨l[o[i]].name, !l[o[i]].source, if l[o[i]].source = true then givenP given l[o[i]].name else fold l[o[i]].rule (l[o[i]].deps.map (givenP (cleanFrom l given (o.take i))))⟩] := by
  unfold cleanFrom
  rw [List.take_succ_eq_append_getElem hi, List.foldl_append]
  simp only [List.foldl_cons, List.foldl_nil, cstep, List.getElem?_eq_getElem hl]
theorem clean_length (l : List Nd) (given : List Sp) (o : List Nat) : (cleanFrom l given o).length ≤ o.length := by
  unfold cleanFrom
  have : ∀ (o : List Nat) (out : List Sp), (o.foldl (cstep l given) out).length ≤ out.length + o.length := by
    intro o
    induction o with
    | nil => intro out; simp
    | cons i o ih =>
      intro out
      have := ih (cstep l given out i)
      have h2 : (cstep l given out i).length ≤ out.length + 1 := by
        unfold cstep
        split <;> simp
      simp only [List.foldl_cons, List.length_cons]
      omega
  simpa using this o []
theorem rowFrom_bound (l : List Nd) : ∀ (k : Nat) (out : List Nat), (∀ b ∈ out, b < l.length) → ∀ b ∈ rowFrom l k out, b < l.length := by
  intro k
  induction k with
  | zero => intro out h; simpa [rowFrom] using h
  | succ k ih =>
    intro out h
    unfold rowFrom
    split
    · exact h
    · rename_i b hb
      refine ih _ fun c hc => ?_
      rw [List.mem_append, List.mem_singleton] at hc
      rcases hc with hc | rfl
      · exact h c hc
      · exact (best_some hb).1
theorem rowFrom_len (l : List Nd) : ∀ (k : Nat) (out : List Nat), (rowFrom l k out).length ≤ out.length + k := by
  intro k
  induction k with
  | zero => intro out; simp [rowFrom]
  | succ k ih =>
    intro out
    unfold rowFrom
    split
    · omega
    · have := ih (out ++ [‹Nat›])
      simp at this
      omega
theorem orderP_bound {l : List Nd} {b : Nat} (h : b ∈ orderP l) : b < l.length := by
  unfold orderP at h
  split at h
  · exact rowFrom_bound l l.length [] (by simp) b h
  · simp at h
theorem orderP_len (l : List Nd) : (orderP l).length ≤ l.length := by
  unfold orderP
  split
  · simpa [rowP] using rowFrom_len l l.length []
  · simp

theorem nums_length (l : List U) : (nums l).length = l.length := by simp [nums]
/-! ### what was made of names -/
def ConMap (es : List (ByteArray × AV)) (F : B → U) : Prop := ∀ s, mapFind es (ofB s) = some (uv (F s)) ∨ (mapFind es (ofB s) = none ∧ F s = 0)
theorem ConMap.put {es : List (ByteArray × AV)} {F : B → U} (h : ConMap es F) (k : B) (x : U) : ConMap (mapPut es (ofB k) (uv x)) (fun s => if k = s then x else F s) := by
  intro s
  rw [mapFind_put]
  by_cases hk : k = s
  · subst hk; simp
  · have : ofB k ≠ ofB s := fun e => hk (ofB_inj e)
    simp only [this, if_false, hk]
    exact h s
theorem look_calls (s : B) (es : List (ByteArray × AV)) (F : B → U) (hk : ConMap es F) {R} (h : R (uv (F s)) [.cells 117 [.mapv 1], .map es]) :
    ACalls Try.prog 81 [vs s, .ptr 0 0] [.cells 117 [.mapv 1], .map es] R := by
  refine acalls_of_xwp (an := an81) tab_ok Try.func81 ?_
  rcases hk s with hs | ⟨hs, h0⟩
  · (conv => whnf)
    rw [hs]
    (conv => whnf)
    exact h
  · rw [h0] at h
    (conv => whnf)
    rw [hs]
    (conv => whnf)
    exact h
theorem each_calls (l : List B) (hl : l.length < 1000000) (es : List (ByteArray × AV)) (F : B → U) (hk : ConMap es F) {R} (h : ∀ r, r = l.map F → R (.sl none 1 (nums r)) [.cells 117 [.mapv 1], .map es]) :
    ACalls Try.prog 80 [.sl none 1 (strs l), .fn (.func 81) [] [.ptr 0 0]] [.cells 117 [.mapv 1], .map es] R := by
  refine acalls_of_xwp (an := an80) tab_ok Try.func80 ?_
  have hsl := strs_length l
  (conv => whnf)
  refine LoopP.ind2 (fun (i : Nat) (out : List U) => [(5, .sl (some (nameOf 5)) 1 (nums out)), (10, vi i)]) (fun i out => [(0, .cells 117 [.mapv 1]), (1, .map es), (nameOf 5, .row 22 1 out.length)]) (fun i _ => l.length - i) (fun i out => i ≤ l.length ∧ out = (l.take i).map F) 0 [] rfl ⟨by omega, by simp⟩ ?_
  rintro i out ⟨h0, ho⟩ IH
  have hnl := nums_length out
  have hol : out.length = i := by rw [ho]; simp; omega
  (conv => whnf)
  refine br_intro (fun hc => ?_) (fun hc => ?_)
  · have hc := lt_of_decE hsl hc
    (conv => whnf); (repeat ((with_reducible refine must_intro ?_ ?_); exact decide_eq_true (by omega); (conv => whnf)))
    refine idxK_map_intro (show (i : Int).toNat < l.length by simpa using hc) ?_
    rw [show l[(i : Int).toNat]'(by simpa using hc) = l[i] from by congr 1]
    (conv => whnf)
    refine look_calls l[i] es F hk ?_
    (conv => whnf)
    refine ⟨hnl.symm, (by rw [hnl]; show (out.length + 1) * (8 + 1) ≤ _; omega), ?_⟩
    (conv => whnf)
    have e1 : nums out ++ [[AV.val (Value.int IntKind.u64 ((F l[i]).toNat : Int))]] = nums (out ++ [F l[i]]) := by simp [nums, uv]
    have e2 : (nums out).length + [[AV.val (Value.int IntKind.u64 ((F l[i]).toNat : Int))]].length = (out ++ [F l[i]]).length := by simp [hnl]
    rw [e1, e2, i64_nat (by omega)]
    refine IH (i + 1) (out ++ [F l[i]]) ⟨by omega, ?_⟩ (by omega)
    rw [List.take_succ_eq_append_getElem hc, ho, List.map_append]
    rfl
  · have hc := ge_of_decE hsl hc
    rw [List.take_of_length_le hc] at ho
    (conv => whnf)
    exact h _ ho
end Go.Abs
