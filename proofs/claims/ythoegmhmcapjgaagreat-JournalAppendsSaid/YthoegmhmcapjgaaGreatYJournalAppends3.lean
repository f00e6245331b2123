/- Several texts of this claim, one behind the other: PE, L6, L7, L8, L9, LA, LB, LC, PF, PG, PH, PI, PJ, PK, PL, PM, H8, MC, PO. -/
import Derived.Test.YthoegmhmcapjgaaGreatYJournalAppends2
import Derived.Test.YthoegmhmcapjgaaGreatC1

section
/- codec.Get reads what was laid. -/
set_option maxRecDepth 100000
set_option maxHeartbeats 8000000
set_option linter.unusedVariables false
set_option linter.unusedSimpArgs false
namespace Go.Abs
open Go Go.Proofs Dig
attribute [local irreducible] ibits byteAt strLt firstIdx

/-- Where records end. -/
def endsR (v : Int) (l : List Rc) : List Nat := (List.range l.length).map fun i => (fileP v (l.take (i + 1))).length
theorem endsR_length (v : Int) (l : List Rc) : (endsR v l).length = l.length := by simp [endsR]
theorem endsR_at {v : Int} {l : List Rc} {i : Nat} (h : i < l.length) : (endsR v l)[i]'(by rw [endsR_length]; exact h) = (fileP v (l.take (i + 1))).length := by simp [endsR]
theorem fileP_len (v : Int) (l : List Rc) : (fileP v l).length = 8 + (framesP (paysP v [] l)).length := by
  unfold fileP
  rw [List.length_append, headP_length]
/-- What is read of a file. -/
def fileA (v : Int) (l : List Rc) : List AV := [vi v, .sl none 7 (recs l), .sl none 1 (ints (endsR v l)), vi (((fileP v l).length : Nat) : Int)]
theorem cRecords_calls (v : Int) (P : List B) {R} (h : R (.fn (.func 149) [] [.cptr [vi v] 0, .cptr [.sl none 1 (rowsB P)] 0]) []) : ACalls Tryz.prog 115 [vi v, .sl none 1 (rowsB P)] [] R := by
  refine acalls_of_xwp (an := an115) tab_ok Tryz.func115 ?_
  (conv => whnf)
  exact h
theorem bytes_rec : (tab.ti 45).bytes = 88 := rfl
theorem recs_take {l : List Rc} {i : Nat} (h : i < l.length) : recs (l.take (i + 1)) = recs (l.take i) ++ [l[i].enc] := by
  rw [List.take_succ_eq_append_getElem h]
  unfold recs
  rw [List.map_append]
  rfl
theorem endsP_at' (l : List B) (o i : Nat) (h : i < l.length) : (endsP o l)[i]'(by rw [endsP_length]; exact h) = o + (framesP (l.take (i + 1))).length := by
  have h1 := endsP_at l o i h
  rw [List.getElem?_eq_getElem (by rw [endsP_length]; exact h)] at h1
  exact Option.some.inj h1
def cgS (E : List Nat) : List AV := [.junk, .junk, .ptr (nameOf 2) 0, .junk, .junk, .junk, .ptr (nameOf 6) 0, .junk, .cptr [.sl none 1 (ints E)] 0, .junk, .junk, .junk, .junk, .junk, .junk, .junk, .junk, .junk, .junk, .junk, .junk, .junk, .junk, .junk, .junk, .junk, .junk, .junk, .junk, .junk, .junk, .junk, .junk, .junk, .junk, .junk, .junk, .junk, .junk, .junk, .junk, .junk, .junk, .junk, .junk, .junk, .junk, .junk, .junk, .junk, .junk, .junk]
def flO (v : Int) (a b : AV) (n : Nat) : AObj := .cells 37 [vi v, a, b, vi (n : Int)]
abbrev nlA : AV := .val (.slice none 0 0)
theorem cGetT_2 (l : List Rc) (hm : ∀ r ∈ l, mayP 2 r = true) (hl : l.length ≤ 300) (ms : List B) (hms : (2 : Int) = 1 → ms = []) (hml : ms.length < 100) (hmf : ∀ m ∈ ms, m.length ≤ 64) (t : B) (ht : EndAt t) (htl : t.length < 3000) {R} (h : R (.tup [.agg (fileA 2 l), vi 0]) []) : ACalls Tryz.prog 67 [.sl none 1 (byteEls (fileP 2 l ++ framesP (ms.map defP) ++ t))] [] R := by
  obtain ⟨Ps, hPs⟩ : ∃ Ps, Ps = paysP 2 [] l ++ ms.map defP := ⟨_, rfl⟩
  have hbytes : fileP 2 l ++ framesP (ms.map defP) ++ t = headP 2 ++ (framesP Ps ++ t) := by rw [hPs, framesP_append]; simp [fileP]
  rw [hbytes]
  clear hbytes
  refine ACalls.res ?_
  refine acalls_of_xwp (an := an67) tab_ok Tryz.func67 ?_
  have hM : ∀ r ∈ l, MayR 2 r := fun r hr => may_all (hm r hr)
  have hfl := paysP_frames (v := 2) (l := l) (t := []) hM (by simp; omega)
  have hpl := paysP_len (v := 2) (l := l) (t := []) fun r hr => (hM r hr).deps
  have hlens := paysP_lens (v := 2) (l := l) (t := []) hM (by simp; omega)
  have hh8 := headP_length 2
  have hit := records_iter 2 (by decide) l hm (by omega) ms hms (by omega)
  rw [← hPs] at hit
  have hfm := framesP_len (l := ms.map defP) (k := 65) (fun p hp => by
    obtain ⟨m, hm1, rfl⟩ := List.mem_map.1 hp
    have := hmf m hm1
    simp [defP]; omega) (by omega)
  rw [List.length_map] at hfm
  have hPl : Ps.length = (paysP 2 [] l).length + ms.length := by rw [hPs]; simp
  have hPf : (framesP Ps).length = (framesP (paysP 2 [] l)).length + (framesP (ms.map defP)).length := by rw [hPs, framesP_append, List.length_append]
  have hlensP : ∀ p ∈ Ps, 1 ≤ p.length ∧ p.length ≤ 2048 := by
    intro p hp
    rw [hPs] at hp
    rcases List.mem_append.1 hp with hp | hp
    · exact hlens p hp
    · obtain ⟨m, hm1, rfl⟩ := List.mem_map.1 hp
      have := hmf m hm1
      simp [defP]; omega
  have hlA := recsA_length 2 l [] 0
  have hEl := endsR_length 2 l
  have hEp := endsP_length Ps 8
  have hend : ∀ i (hi : i < l.length), (IntKind.i64.wrap (((plP 2 l (i + 1) : Nat) : Int) - 1)).toNat < (endsP 8 Ps).length ∧ ∀ hj, (endsP 8 Ps)[(IntKind.i64.wrap (((plP 2 l (i + 1) : Nat) : Int) - 1)).toNat]'hj = (fileP 2 (l.take (i + 1))).length := by
    intro i hi
    have h1 := payP_len (v := 2) (t := tbP 2 l i) (r := l[i]) (hM _ (List.getElem_mem hi)).deps
    have h2 := plP_succ (v := 2) hi
    have h3 : plP 2 l (i + 1) ≤ (paysP 2 [] l).length := by
      rw [paysP_split hi, List.length_append, List.length_append, h2]
      show (paysP 2 [] (l.take i)).length + _ ≤ _
      omega
    have h4 : (IntKind.i64.wrap (((plP 2 l (i + 1) : Nat) : Int) - 1)).toNat = plP 2 l (i + 1) - 1 := by
      rw [wrap_i64 (by omega) (by omega)]
      omega
    have h5 : Ps.take (plP 2 l (i + 1)) = paysP 2 [] (l.take (i + 1)) := by
      have e : Ps = paysP 2 [] (l.take (i + 1)) ++ (paysP 2 (tblL 2 [] (l.take (i + 1))) (l.drop (i + 1)) ++ ms.map defP) := by rw [hPs, ← List.append_assoc, ← paysP_append, List.take_append_drop]
      rw [e]
      exact List.take_left
    refine ⟨by rw [h4, hEp]; omega, fun hj => ?_⟩
    have h6 := endsP_at' Ps 8 (plP 2 l (i + 1) - 1) (by omega)
    rw [show plP 2 l (i + 1) - 1 + 1 = plP 2 l (i + 1) by omega, h5] at h6
    rw [fileP_len, ← h6]
    congr 1
  have hnn : ∀ i, 0 ≤ i → i < l.length → 0 ≤ IntKind.i64.wrap (((plP 2 l (i + 1) : Nat) : Int) - 1) := by
    intro i _ hi
    have h1 := payP_len (v := 2) (t := tbP 2 l i) (r := l[i]) (hM _ (List.getElem_mem hi)).deps
    have h2 := plP_succ (v := 2) hi
    have h3 : plP 2 l (i + 1) ≤ (paysP 2 [] l).length := by
      rw [paysP_split hi, List.length_append, List.length_append, h2]
      show (paysP 2 [] (l.take i)).length + _ ≤ _
      omega
    rw [wrap_i64 (by omega) (by omega)]
    omega
  (conv => whnf)
  refine Version_2 _ (by rw [List.length_append]; omega) ?_
  (conv => whnf)
  have hrun := fun R hR => Run_calls (headP 2) Ps t ht hlensP (by omega) (by omega) (R := R) hR
  rw [hh8] at hrun
  refine hrun _ ?_
  (conv => whnf)
  refine cRecords_calls 2 Ps ?_
  (conv => whnf)
  refine .inr ?_
  (conv => whnf)
  refine ⟨recsA 2 [] 0 l, hit, ?_, ?_⟩
  · intro x hx
    obtain ⟨i, hi, rfl⟩ := List.getElem_of_mem hx
    have h1 := recsA_at 2 l [] 0 i (by omega)
    rw [List.getElem?_eq_getElem hi] at h1
    rw [Option.some.inj h1]
    rfl
  refine ⟨fun i s => (i = 0 ∧ s = ⟨cgS (endsP 8 Ps), [(nameOf 2, flO 0 nlA nlA 0), (nameOf 6, flO 2 nlA nlA 8)]⟩) ∨
    (0 < i ∧ i ≤ l.length ∧ s = ⟨cgS (endsP 8 Ps), [(nameOf 2, flO 0 nlA nlA 0), (nameOf 6, flO 2 (.sl (some (nameOf 42)) 7 (recs (l.take i))) (.sl (some (nameOf 48)) 1 (ints ((endsR 2 l).take i))) (fileP 2 (l.take i)).length), (nameOf 42, .row 45 7 i), (nameOf 48, .row 3 1 i)]⟩), .inl ⟨rfl, rfl⟩, ?_, ?_⟩
  · rintro i x s hx hs
    have hi : i < l.length := by
      have := (List.getElem?_eq_some_iff.1 hx).1
      omega
    have hx2 := recsA_at 2 l [] 0 i hi
    rw [Nat.zero_add] at hx2
    rw [hx] at hx2
    cases hx2
    obtain ⟨he1, he2⟩ := hend i hi
    have hn0 := hnn i (Nat.zero_le i) hi
    have hie : i < (endsR 2 l).length := by omega
    have e1 := recs_take hi
    have e2 := ints_take hie
    rw [endsR_at hi] at e2
    have hpl2 : (paysP 2 [] (l.take (i + 1))).length = plP 2 l (i + 1) := rfl
    rw [hpl2]
    have l1 : (recs (l.take i)).length = i := by rw [recs_length, List.length_take]; omega
    have l2 : (ints ((endsR 2 l).take i)).length = i := by rw [ints_length, List.length_take]; omega
    clear hit hx
    rcases hs with ⟨rfl, rfl⟩ | ⟨h1, h2, rfl⟩
    · (conv => whnf)
      refine must_intro (decide_eq_true hn0) ?_
      refine idxK_map_intro he1 ?_
      rw [he2 he1]
      (conv => whnf)
      refine ⟨?_, ?_, ?_, trivial⟩
      · (conv => whnf)
        refine ⟨?_, ?_, ?_, trivial⟩
        · (conv => whnf)
          refine ⟨by rw [bytes_rec]; simp, ?_⟩
          (conv => whnf)
          refine ⟨?_, ?_, trivial⟩
          · (conv => whnf)
            refine ⟨?_, trivial⟩
            (conv => whnf)
            refine ⟨?_, trivial⟩
            (conv => whnf)
            refine ⟨by rw [bytes_int]; simp, ?_⟩
            (conv => whnf)
            refine ⟨?_, trivial⟩
            (conv => whnf)
            refine ⟨?_, trivial⟩
            (conv => whnf)
            refine .inr ⟨by omega, by omega, ?_⟩
            rw [e1, e2]
            rfl
          · (conv => whnf)
            refine ⟨?_, trivial⟩
            (conv => whnf)
            refine ⟨?_, trivial⟩
            (conv => whnf)
            refine ⟨by rw [bytes_int]; simp, ?_⟩
            (conv => whnf)
            refine ⟨?_, trivial⟩
            (conv => whnf)
            refine ⟨?_, trivial⟩
            (conv => whnf)
            refine .inr ⟨by omega, by omega, ?_⟩
            rw [e1, e2]
            rfl
        · (conv => whnf)
          refine ⟨?_, ?_, trivial⟩
          · (conv => whnf)
            refine ⟨by rw [bytes_rec]; simp, ?_⟩
            (conv => whnf)
            refine ⟨?_, trivial⟩
            (conv => whnf)
            refine ⟨?_, trivial⟩
            (conv => whnf)
            refine ⟨by rw [bytes_int]; simp, ?_⟩
            (conv => whnf)
            refine ⟨?_, trivial⟩
            (conv => whnf)
            refine ⟨?_, trivial⟩
            (conv => whnf)
            refine .inr ⟨by omega, by omega, ?_⟩
            rw [e1, e2]
            rfl
          · (conv => whnf)
            refine ⟨?_, trivial⟩
            (conv => whnf)
            refine ⟨by rw [bytes_rec]; simp, ?_⟩
            (conv => whnf)
            refine ⟨?_, trivial⟩
            (conv => whnf)
            refine ⟨by rw [bytes_int]; simp, ?_⟩
            (conv => whnf)
            refine ⟨?_, trivial⟩
            (conv => whnf)
            refine ⟨?_, trivial⟩
            (conv => whnf)
            refine .inr ⟨by omega, by omega, ?_⟩
            rw [e1, e2]
            rfl
        · (conv => whnf)
          refine ⟨?_, ?_, trivial⟩
          · (conv => whnf)
            refine ⟨by rw [bytes_rec]; simp, ?_⟩
            (conv => whnf)
            refine ⟨?_, trivial⟩
            (conv => whnf)
            refine ⟨?_, trivial⟩
            (conv => whnf)
            refine ⟨by rw [bytes_int]; simp, ?_⟩
            (conv => whnf)
            refine ⟨?_, trivial⟩
            (conv => whnf)
            refine ⟨?_, trivial⟩
            (conv => whnf)
            refine .inr ⟨by omega, by omega, ?_⟩
            rw [e1, e2]
            rfl
          · (conv => whnf)
            refine ⟨?_, trivial⟩
            (conv => whnf)
            refine ⟨by rw [bytes_rec]; simp, ?_⟩
            (conv => whnf)
            refine ⟨?_, trivial⟩
            (conv => whnf)
            refine ⟨by rw [bytes_int]; simp, ?_⟩
            (conv => whnf)
            refine ⟨?_, trivial⟩
            (conv => whnf)
            refine ⟨?_, trivial⟩
            (conv => whnf)
            refine .inr ⟨by omega, by omega, ?_⟩
            rw [e1, e2]
            rfl
      · (conv => whnf)
        refine ⟨?_, ?_, trivial⟩
        · (conv => whnf)
          refine ⟨?_, ?_, trivial⟩
          · (conv => whnf)
            refine ⟨by rw [bytes_rec]; simp, ?_⟩
            (conv => whnf)
            refine ⟨?_, trivial⟩
            (conv => whnf)
            refine ⟨?_, trivial⟩
            (conv => whnf)
            refine ⟨by rw [bytes_int]; simp, ?_⟩
            (conv => whnf)
            refine ⟨?_, trivial⟩
            (conv => whnf)
            refine ⟨?_, trivial⟩
            (conv => whnf)
            refine .inr ⟨by omega, by omega, ?_⟩
            rw [e1, e2]
            rfl
          · (conv => whnf)
            refine ⟨?_, trivial⟩
            (conv => whnf)
            refine ⟨by rw [bytes_rec]; simp, ?_⟩
            (conv => whnf)
            refine ⟨?_, trivial⟩
            (conv => whnf)
            refine ⟨by rw [bytes_int]; simp, ?_⟩
            (conv => whnf)
            refine ⟨?_, trivial⟩
            (conv => whnf)
            refine ⟨?_, trivial⟩
            (conv => whnf)
            refine .inr ⟨by omega, by omega, ?_⟩
            rw [e1, e2]
            rfl
        · (conv => whnf)
          refine ⟨?_, trivial⟩
          (conv => whnf)
          refine ⟨?_, trivial⟩
          (conv => whnf)
          refine ⟨by rw [bytes_rec]; simp, ?_⟩
          (conv => whnf)
          refine ⟨?_, trivial⟩
          (conv => whnf)
          refine ⟨by rw [bytes_int]; simp, ?_⟩
          (conv => whnf)
          refine ⟨?_, trivial⟩
          (conv => whnf)
          refine ⟨?_, trivial⟩
          (conv => whnf)
          refine .inr ⟨by omega, by omega, ?_⟩
          rw [e1, e2]
          rfl
      · (conv => whnf)
        refine ⟨?_, ?_, trivial⟩
        · (conv => whnf)
          refine ⟨?_, ?_, trivial⟩
          · (conv => whnf)
            refine ⟨by rw [bytes_rec]; simp, ?_⟩
            (conv => whnf)
            refine ⟨?_, trivial⟩
            (conv => whnf)
            refine ⟨?_, trivial⟩
            (conv => whnf)
            refine ⟨by rw [bytes_int]; simp, ?_⟩
            (conv => whnf)
            refine ⟨?_, trivial⟩
            (conv => whnf)
            refine ⟨?_, trivial⟩
            (conv => whnf)
            refine .inr ⟨by omega, by omega, ?_⟩
            rw [e1, e2]
            rfl
          · (conv => whnf)
            refine ⟨?_, trivial⟩
            (conv => whnf)
            refine ⟨by rw [bytes_rec]; simp, ?_⟩
            (conv => whnf)
            refine ⟨?_, trivial⟩
            (conv => whnf)
            refine ⟨by rw [bytes_int]; simp, ?_⟩
            (conv => whnf)
            refine ⟨?_, trivial⟩
            (conv => whnf)
            refine ⟨?_, trivial⟩
            (conv => whnf)
            refine .inr ⟨by omega, by omega, ?_⟩
            rw [e1, e2]
            rfl
        · (conv => whnf)
          refine ⟨?_, trivial⟩
          (conv => whnf)
          refine ⟨?_, trivial⟩
          (conv => whnf)
          refine ⟨by rw [bytes_rec]; simp, ?_⟩
          (conv => whnf)
          refine ⟨?_, trivial⟩
          (conv => whnf)
          refine ⟨by rw [bytes_int]; simp, ?_⟩
          (conv => whnf)
          refine ⟨?_, trivial⟩
          (conv => whnf)
          refine ⟨?_, trivial⟩
          (conv => whnf)
          refine .inr ⟨by omega, by omega, ?_⟩
          rw [e1, e2]
          rfl
    · (conv => whnf)
      refine must_intro (decide_eq_true hn0) ?_
      refine idxK_map_intro he1 ?_
      rw [he2 he1]
      (conv => whnf)
      refine ⟨?_, ?_, ?_, trivial⟩
      · (conv => whnf)
        refine ⟨?_, ?_, ?_, trivial⟩
        · (conv => whnf)
          refine ⟨l1.symm, by rw [l1, bytes_rec]; simp; omega, ?_⟩
          (conv => whnf)
          refine ⟨?_, ?_, trivial⟩
          · (conv => whnf)
            refine ⟨?_, trivial⟩
            (conv => whnf)
            refine ⟨?_, trivial⟩
            (conv => whnf)
            refine ⟨l2.symm, by rw [l2, bytes_int]; simp; omega, ?_⟩
            (conv => whnf)
            refine ⟨?_, trivial⟩
            (conv => whnf)
            refine ⟨?_, trivial⟩
            (conv => whnf)
            refine .inr ⟨by omega, by omega, ?_⟩
            rw [e1, e2, l1, l2]
            rfl
          · (conv => whnf)
            refine ⟨?_, trivial⟩
            (conv => whnf)
            refine ⟨?_, trivial⟩
            (conv => whnf)
            refine ⟨l2.symm, by rw [l2, bytes_int]; simp; omega, ?_⟩
            (conv => whnf)
            refine ⟨?_, trivial⟩
            (conv => whnf)
            refine ⟨?_, trivial⟩
            (conv => whnf)
            refine .inr ⟨by omega, by omega, ?_⟩
            rw [e1, e2, l1, l2]
            rfl
        · (conv => whnf)
          refine ⟨?_, ?_, trivial⟩
          · (conv => whnf)
            refine ⟨l1.symm, by rw [l1, bytes_rec]; simp; omega, ?_⟩
            (conv => whnf)
            refine ⟨?_, trivial⟩
            (conv => whnf)
            refine ⟨?_, trivial⟩
            (conv => whnf)
            refine ⟨l2.symm, by rw [l2, bytes_int]; simp; omega, ?_⟩
            (conv => whnf)
            refine ⟨?_, trivial⟩
            (conv => whnf)
            refine ⟨?_, trivial⟩
            (conv => whnf)
            refine .inr ⟨by omega, by omega, ?_⟩
            rw [e1, e2, l1, l2]
            rfl
          · (conv => whnf)
            refine ⟨?_, trivial⟩
            (conv => whnf)
            refine ⟨l1.symm, by rw [l1, bytes_rec]; simp; omega, ?_⟩
            (conv => whnf)
            refine ⟨?_, trivial⟩
            (conv => whnf)
            refine ⟨l2.symm, by rw [l2, bytes_int]; simp; omega, ?_⟩
            (conv => whnf)
            refine ⟨?_, trivial⟩
            (conv => whnf)
            refine ⟨?_, trivial⟩
            (conv => whnf)
            refine .inr ⟨by omega, by omega, ?_⟩
            rw [e1, e2, l1, l2]
            rfl
        · (conv => whnf)
          refine ⟨?_, ?_, trivial⟩
          · (conv => whnf)
            refine ⟨l1.symm, by rw [l1, bytes_rec]; simp; omega, ?_⟩
            (conv => whnf)
            refine ⟨?_, trivial⟩
            (conv => whnf)
            refine ⟨?_, trivial⟩
            (conv => whnf)
            refine ⟨l2.symm, by rw [l2, bytes_int]; simp; omega, ?_⟩
            (conv => whnf)
            refine ⟨?_, trivial⟩
            (conv => whnf)
            refine ⟨?_, trivial⟩
            (conv => whnf)
            refine .inr ⟨by omega, by omega, ?_⟩
            rw [e1, e2, l1, l2]
            rfl
          · (conv => whnf)
            refine ⟨?_, trivial⟩
            (conv => whnf)
            refine ⟨l1.symm, by rw [l1, bytes_rec]; simp; omega, ?_⟩
            (conv => whnf)
            refine ⟨?_, trivial⟩
            (conv => whnf)
            refine ⟨l2.symm, by rw [l2, bytes_int]; simp; omega, ?_⟩
            (conv => whnf)
            refine ⟨?_, trivial⟩
            (conv => whnf)
            refine ⟨?_, trivial⟩
            (conv => whnf)
            refine .inr ⟨by omega, by omega, ?_⟩
            rw [e1, e2, l1, l2]
            rfl
      · (conv => whnf)
        refine ⟨?_, ?_, trivial⟩
        · (conv => whnf)
          refine ⟨?_, ?_, trivial⟩
          · (conv => whnf)
            refine ⟨l1.symm, by rw [l1, bytes_rec]; simp; omega, ?_⟩
            (conv => whnf)
            refine ⟨?_, trivial⟩
            (conv => whnf)
            refine ⟨?_, trivial⟩
            (conv => whnf)
            refine ⟨l2.symm, by rw [l2, bytes_int]; simp; omega, ?_⟩
            (conv => whnf)
            refine ⟨?_, trivial⟩
            (conv => whnf)
            refine ⟨?_, trivial⟩
            (conv => whnf)
            refine .inr ⟨by omega, by omega, ?_⟩
            rw [e1, e2, l1, l2]
            rfl
          · (conv => whnf)
            refine ⟨?_, trivial⟩
            (conv => whnf)
            refine ⟨l1.symm, by rw [l1, bytes_rec]; simp; omega, ?_⟩
            (conv => whnf)
            refine ⟨?_, trivial⟩
            (conv => whnf)
            refine ⟨l2.symm, by rw [l2, bytes_int]; simp; omega, ?_⟩
            (conv => whnf)
            refine ⟨?_, trivial⟩
            (conv => whnf)
            refine ⟨?_, trivial⟩
            (conv => whnf)
            refine .inr ⟨by omega, by omega, ?_⟩
            rw [e1, e2, l1, l2]
            rfl
        · (conv => whnf)
          refine ⟨?_, trivial⟩
          (conv => whnf)
          refine ⟨?_, trivial⟩
          (conv => whnf)
          refine ⟨l1.symm, by rw [l1, bytes_rec]; simp; omega, ?_⟩
          (conv => whnf)
          refine ⟨?_, trivial⟩
          (conv => whnf)
          refine ⟨l2.symm, by rw [l2, bytes_int]; simp; omega, ?_⟩
          (conv => whnf)
          refine ⟨?_, trivial⟩
          (conv => whnf)
          refine ⟨?_, trivial⟩
          (conv => whnf)
          refine .inr ⟨by omega, by omega, ?_⟩
          rw [e1, e2, l1, l2]
          rfl
      · (conv => whnf)
        refine ⟨?_, ?_, trivial⟩
        · (conv => whnf)
          refine ⟨?_, ?_, trivial⟩
          · (conv => whnf)
            refine ⟨l1.symm, by rw [l1, bytes_rec]; simp; omega, ?_⟩
            (conv => whnf)
            refine ⟨?_, trivial⟩
            (conv => whnf)
            refine ⟨?_, trivial⟩
            (conv => whnf)
            refine ⟨l2.symm, by rw [l2, bytes_int]; simp; omega, ?_⟩
            (conv => whnf)
            refine ⟨?_, trivial⟩
            (conv => whnf)
            refine ⟨?_, trivial⟩
            (conv => whnf)
            refine .inr ⟨by omega, by omega, ?_⟩
            rw [e1, e2, l1, l2]
            rfl
          · (conv => whnf)
            refine ⟨?_, trivial⟩
            (conv => whnf)
            refine ⟨l1.symm, by rw [l1, bytes_rec]; simp; omega, ?_⟩
            (conv => whnf)
            refine ⟨?_, trivial⟩
            (conv => whnf)
            refine ⟨l2.symm, by rw [l2, bytes_int]; simp; omega, ?_⟩
            (conv => whnf)
            refine ⟨?_, trivial⟩
            (conv => whnf)
            refine ⟨?_, trivial⟩
            (conv => whnf)
            refine .inr ⟨by omega, by omega, ?_⟩
            rw [e1, e2, l1, l2]
            rfl
        · (conv => whnf)
          refine ⟨?_, trivial⟩
          (conv => whnf)
          refine ⟨?_, trivial⟩
          (conv => whnf)
          refine ⟨l1.symm, by rw [l1, bytes_rec]; simp; omega, ?_⟩
          (conv => whnf)
          refine ⟨?_, trivial⟩
          (conv => whnf)
          refine ⟨l2.symm, by rw [l2, bytes_int]; simp; omega, ?_⟩
          (conv => whnf)
          refine ⟨?_, trivial⟩
          (conv => whnf)
          refine ⟨?_, trivial⟩
          (conv => whnf)
          refine .inr ⟨by omega, by omega, ?_⟩
          rw [e1, e2, l1, l2]
          rfl
  · rintro s (⟨h1, rfl⟩ | ⟨h1, h2, rfl⟩)
    · have hl0 : l = [] := List.length_eq_zero_iff.1 (by omega)
      subst hl0
      (conv => whnf)
      exact res_le (le_tup (.cons (le_agg (.cons (.refl _) (.cons (le_nil 7) (.cons (le_nil 1) (leL.refl _))))) (leL.refl _))) rfl h
    · have hE : (endsR 2 l).take (recsA 2 [] 0 l).length = endsR 2 l := by rw [hlA, ← hEl, List.take_length]
      rw [hE, hlA, List.take_length]
      (conv => whnf)
      exact res_same h
theorem cGet_2 (l : List Rc) (hm : ∀ r ∈ l, mayP 2 r = true) (hl : l.length ≤ 300) {R} (h : R (.tup [.agg (fileA 2 l), vi 0]) []) : ACalls Tryz.prog 67 [.sl none 1 (byteEls (fileP 2 l))] [] R := by
  have h1 := cGetT_2 l hm hl [] (fun _ => rfl) (by simp) (by simp) [] (.inl rfl) (by simp) h
  rw [List.map_nil, show framesP [] = [] from rfl, List.append_nil, List.append_nil] at h1
  exact h1
theorem cGetT_3 (l : List Rc) (hm : ∀ r ∈ l, mayP 3 r = true) (hl : l.length ≤ 300) (ms : List B) (hms : (3 : Int) = 1 → ms = []) (hml : ms.length < 100) (hmf : ∀ m ∈ ms, m.length ≤ 64) (t : B) (ht : EndAt t) (htl : t.length < 3000) {R} (h : R (.tup [.agg (fileA 3 l), vi 0]) []) : ACalls Tryz.prog 67 [.sl none 1 (byteEls (fileP 3 l ++ framesP (ms.map defP) ++ t))] [] R := by
  obtain ⟨Ps, hPs⟩ : ∃ Ps, Ps = paysP 3 [] l ++ ms.map defP := ⟨_, rfl⟩
  have hbytes : fileP 3 l ++ framesP (ms.map defP) ++ t = headP 3 ++ (framesP Ps ++ t) := by rw [hPs, framesP_append]; simp [fileP]
  rw [hbytes]
  clear hbytes
  refine ACalls.res ?_
  refine acalls_of_xwp (an := an67) tab_ok Tryz.func67 ?_
  have hM : ∀ r ∈ l, MayR 3 r := fun r hr => may_all (hm r hr)
  have hfl := paysP_frames (v := 3) (l := l) (t := []) hM (by simp; omega)
  have hpl := paysP_len (v := 3) (l := l) (t := []) fun r hr => (hM r hr).deps
  have hlens := paysP_lens (v := 3) (l := l) (t := []) hM (by simp; omega)
  have hh8 := headP_length 3
  have hit := records_iter 3 (by decide) l hm (by omega) ms hms (by omega)
  rw [← hPs] at hit
  have hfm := framesP_len (l := ms.map defP) (k := 65) (fun p hp => by
    obtain ⟨m, hm1, rfl⟩ := List.mem_map.1 hp
    have := hmf m hm1
    simp [defP]; omega) (by omega)
  rw [List.length_map] at hfm
  have hPl : Ps.length = (paysP 3 [] l).length + ms.length := by rw [hPs]; simp
  have hPf : (framesP Ps).length = (framesP (paysP 3 [] l)).length + (framesP (ms.map defP)).length := by rw [hPs, framesP_append, List.length_append]
  have hlensP : ∀ p ∈ Ps, 1 ≤ p.length ∧ p.length ≤ 2048 := by
    intro p hp
    rw [hPs] at hp
    rcases List.mem_append.1 hp with hp | hp
    · exact hlens p hp
    · obtain ⟨m, hm1, rfl⟩ := List.mem_map.1 hp
      have := hmf m hm1
      simp [defP]; omega
  have hlA := recsA_length 3 l [] 0
  have hEl := endsR_length 3 l
  have hEp := endsP_length Ps 8
  have hend : ∀ i (hi : i < l.length), (IntKind.i64.wrap (((plP 3 l (i + 1) : Nat) : Int) - 1)).toNat < (endsP 8 Ps).length ∧ ∀ hj, (endsP 8 Ps)[(IntKind.i64.wrap (((plP 3 l (i + 1) : Nat) : Int) - 1)).toNat]'hj = (fileP 3 (l.take (i + 1))).length := by
    intro i hi
    have h1 := payP_len (v := 3) (t := tbP 3 l i) (r := l[i]) (hM _ (List.getElem_mem hi)).deps
    have h2 := plP_succ (v := 3) hi
    have h3 : plP 3 l (i + 1) ≤ (paysP 3 [] l).length := by
      rw [paysP_split hi, List.length_append, List.length_append, h2]
      show (paysP 3 [] (l.take i)).length + _ ≤ _
      omega
    have h4 : (IntKind.i64.wrap (((plP 3 l (i + 1) : Nat) : Int) - 1)).toNat = plP 3 l (i + 1) - 1 := by
      rw [wrap_i64 (by omega) (by omega)]
      omega
    have h5 : Ps.take (plP 3 l (i + 1)) = paysP 3 [] (l.take (i + 1)) := by
      have e : Ps = paysP 3 [] (l.take (i + 1)) ++ (paysP 3 (tblL 3 [] (l.take (i + 1))) (l.drop (i + 1)) ++ ms.map defP) := by rw [hPs, ← List.append_assoc, ← paysP_append, List.take_append_drop]
      rw [e]
      exact List.take_left
    refine ⟨by rw [h4, hEp]; omega, fun hj => ?_⟩
    have h6 := endsP_at' Ps 8 (plP 3 l (i + 1) - 1) (by omega)
    rw [show plP 3 l (i + 1) - 1 + 1 = plP 3 l (i + 1) by omega, h5] at h6
    rw [fileP_len, ← h6]
    congr 1
  have hnn : ∀ i, 0 ≤ i → i < l.length → 0 ≤ IntKind.i64.wrap (((plP 3 l (i + 1) : Nat) : Int) - 1) := by
    intro i _ hi
    have h1 := payP_len (v := 3) (t := tbP 3 l i) (r := l[i]) (hM _ (List.getElem_mem hi)).deps
    have h2 := plP_succ (v := 3) hi
    have h3 : plP 3 l (i + 1) ≤ (paysP 3 [] l).length := by
      rw [paysP_split hi, List.length_append, List.length_append, h2]
      show (paysP 3 [] (l.take i)).length + _ ≤ _
      omega
    rw [wrap_i64 (by omega) (by omega)]
    omega
  (conv => whnf)
  refine Version_3 _ (by rw [List.length_append]; omega) ?_
  (conv => whnf)
  have hrun := fun R hR => Run_calls (headP 3) Ps t ht hlensP (by omega) (by omega) (R := R) hR
  rw [hh8] at hrun
  refine hrun _ ?_
  (conv => whnf)
  refine cRecords_calls 3 Ps ?_
  (conv => whnf)
  refine .inr ?_
  (conv => whnf)
  refine ⟨recsA 3 [] 0 l, hit, ?_, ?_⟩
  · intro x hx
    obtain ⟨i, hi, rfl⟩ := List.getElem_of_mem hx
    have h1 := recsA_at 3 l [] 0 i (by omega)
    rw [List.getElem?_eq_getElem hi] at h1
    rw [Option.some.inj h1]
    rfl
  refine ⟨fun i s => (i = 0 ∧ s = ⟨cgS (endsP 8 Ps), [(nameOf 2, flO 0 nlA nlA 0), (nameOf 6, flO 3 nlA nlA 8)]⟩) ∨
    (0 < i ∧ i ≤ l.length ∧ s = ⟨cgS (endsP 8 Ps), [(nameOf 2, flO 0 nlA nlA 0), (nameOf 6, flO 3 (.sl (some (nameOf 42)) 7 (recs (l.take i))) (.sl (some (nameOf 48)) 1 (ints ((endsR 3 l).take i))) (fileP 3 (l.take i)).length), (nameOf 42, .row 45 7 i), (nameOf 48, .row 3 1 i)]⟩), .inl ⟨rfl, rfl⟩, ?_, ?_⟩
  · rintro i x s hx hs
    have hi : i < l.length := by
      have := (List.getElem?_eq_some_iff.1 hx).1
      omega
    have hx2 := recsA_at 3 l [] 0 i hi
    rw [Nat.zero_add] at hx2
    rw [hx] at hx2
    cases hx2
    obtain ⟨he1, he2⟩ := hend i hi
    have hn0 := hnn i (Nat.zero_le i) hi
    have hie : i < (endsR 3 l).length := by omega
    have e1 := recs_take hi
    have e2 := ints_take hie
    rw [endsR_at hi] at e2
    have hpl2 : (paysP 3 [] (l.take (i + 1))).length = plP 3 l (i + 1) := rfl
    rw [hpl2]
    have l1 : (recs (l.take i)).length = i := by rw [recs_length, List.length_take]; omega
    have l2 : (ints ((endsR 3 l).take i)).length = i := by rw [ints_length, List.length_take]; omega
    clear hit hx
    rcases hs with ⟨rfl, rfl⟩ | ⟨h1, h2, rfl⟩
    · (conv => whnf)
      refine must_intro (decide_eq_true hn0) ?_
      refine idxK_map_intro he1 ?_
      rw [he2 he1]
      (conv => whnf)
      refine ⟨?_, ?_, ?_, trivial⟩
      · (conv => whnf)
        refine ⟨?_, ?_, ?_, trivial⟩
        · (conv => whnf)
          refine ⟨by rw [bytes_rec]; simp, ?_⟩
          (conv => whnf)
          refine ⟨?_, ?_, trivial⟩
          · (conv => whnf)
            refine ⟨?_, trivial⟩
            (conv => whnf)
            refine ⟨?_, trivial⟩
            (conv => whnf)
            refine ⟨by rw [bytes_int]; simp, ?_⟩
            (conv => whnf)
            refine ⟨?_, trivial⟩
            (conv => whnf)
            refine ⟨?_, trivial⟩
            (conv => whnf)
            refine .inr ⟨by omega, by omega, ?_⟩
            rw [e1, e2]
            rfl
          · (conv => whnf)
            refine ⟨?_, trivial⟩
            (conv => whnf)
            refine ⟨?_, trivial⟩
            (conv => whnf)
            refine ⟨by rw [bytes_int]; simp, ?_⟩
            (conv => whnf)
            refine ⟨?_, trivial⟩
            (conv => whnf)
            refine ⟨?_, trivial⟩
            (conv => whnf)
            refine .inr ⟨by omega, by omega, ?_⟩
            rw [e1, e2]
            rfl
        · (conv => whnf)
          refine ⟨?_, ?_, trivial⟩
          · (conv => whnf)
            refine ⟨by rw [bytes_rec]; simp, ?_⟩
            (conv => whnf)
            refine ⟨?_, trivial⟩
            (conv => whnf)
            refine ⟨?_, trivial⟩
            (conv => whnf)
            refine ⟨by rw [bytes_int]; simp, ?_⟩
            (conv => whnf)
            refine ⟨?_, trivial⟩
            (conv => whnf)
            refine ⟨?_, trivial⟩
            (conv => whnf)
            refine .inr ⟨by omega, by omega, ?_⟩
            rw [e1, e2]
            rfl
          · (conv => whnf)
            refine ⟨?_, trivial⟩
            (conv => whnf)
            refine ⟨by rw [bytes_rec]; simp, ?_⟩
            (conv => whnf)
            refine ⟨?_, trivial⟩
            (conv => whnf)
            refine ⟨by rw [bytes_int]; simp, ?_⟩
            (conv => whnf)
            refine ⟨?_, trivial⟩
            (conv => whnf)
            refine ⟨?_, trivial⟩
            (conv => whnf)
            refine .inr ⟨by omega, by omega, ?_⟩
            rw [e1, e2]
            rfl
        · (conv => whnf)
          refine ⟨?_, ?_, trivial⟩
          · (conv => whnf)
            refine ⟨by rw [bytes_rec]; simp, ?_⟩
            (conv => whnf)
            refine ⟨?_, trivial⟩
            (conv => whnf)
            refine ⟨?_, trivial⟩
            (conv => whnf)
            refine ⟨by rw [bytes_int]; simp, ?_⟩
            (conv => whnf)
            refine ⟨?_, trivial⟩
            (conv => whnf)
            refine ⟨?_, trivial⟩
            (conv => whnf)
            refine .inr ⟨by omega, by omega, ?_⟩
            rw [e1, e2]
            rfl
          · (conv => whnf)
            refine ⟨?_, trivial⟩
            (conv => whnf)
            refine ⟨by rw [bytes_rec]; simp, ?_⟩
            (conv => whnf)
            refine ⟨?_, trivial⟩
            (conv => whnf)
            refine ⟨by rw [bytes_int]; simp, ?_⟩
            (conv => whnf)
            refine ⟨?_, trivial⟩
            (conv => whnf)
            refine ⟨?_, trivial⟩
            (conv => whnf)
            refine .inr ⟨by omega, by omega, ?_⟩
            rw [e1, e2]
            rfl
      · (conv => whnf)
        refine ⟨?_, ?_, trivial⟩
        · (conv => whnf)
          refine ⟨?_, ?_, trivial⟩
          · (conv => whnf)
            refine ⟨by rw [bytes_rec]; simp, ?_⟩
            (conv => whnf)
            refine ⟨?_, trivial⟩
            (conv => whnf)
            refine ⟨?_, trivial⟩
            (conv => whnf)
            refine ⟨by rw [bytes_int]; simp, ?_⟩
            (conv => whnf)
            refine ⟨?_, trivial⟩
            (conv => whnf)
            refine ⟨?_, trivial⟩
            (conv => whnf)
            refine .inr ⟨by omega, by omega, ?_⟩
            rw [e1, e2]
            rfl
          · (conv => whnf)
            refine ⟨?_, trivial⟩
            (conv => whnf)
            refine ⟨by rw [bytes_rec]; simp, ?_⟩
            (conv => whnf)
            refine ⟨?_, trivial⟩
            (conv => whnf)
            refine ⟨by rw [bytes_int]; simp, ?_⟩
            (conv => whnf)
            refine ⟨?_, trivial⟩
            (conv => whnf)
            refine ⟨?_, trivial⟩
            (conv => whnf)
            refine .inr ⟨by omega, by omega, ?_⟩
            rw [e1, e2]
            rfl
        · (conv => whnf)
          refine ⟨?_, trivial⟩
          (conv => whnf)
          refine ⟨?_, trivial⟩
          (conv => whnf)
          refine ⟨by rw [bytes_rec]; simp, ?_⟩
          (conv => whnf)
          refine ⟨?_, trivial⟩
          (conv => whnf)
          refine ⟨by rw [bytes_int]; simp, ?_⟩
          (conv => whnf)
          refine ⟨?_, trivial⟩
          (conv => whnf)
          refine ⟨?_, trivial⟩
          (conv => whnf)
          refine .inr ⟨by omega, by omega, ?_⟩
          rw [e1, e2]
          rfl
      · (conv => whnf)
        refine ⟨?_, ?_, trivial⟩
        · (conv => whnf)
          refine ⟨?_, ?_, trivial⟩
          · (conv => whnf)
            refine ⟨by rw [bytes_rec]; simp, ?_⟩
            (conv => whnf)
            refine ⟨?_, trivial⟩
            (conv => whnf)
            refine ⟨?_, trivial⟩
            (conv => whnf)
            refine ⟨by rw [bytes_int]; simp, ?_⟩
            (conv => whnf)
            refine ⟨?_, trivial⟩
            (conv => whnf)
            refine ⟨?_, trivial⟩
            (conv => whnf)
            refine .inr ⟨by omega, by omega, ?_⟩
            rw [e1, e2]
            rfl
          · (conv => whnf)
            refine ⟨?_, trivial⟩
            (conv => whnf)
            refine ⟨by rw [bytes_rec]; simp, ?_⟩
            (conv => whnf)
            refine ⟨?_, trivial⟩
            (conv => whnf)
            refine ⟨by rw [bytes_int]; simp, ?_⟩
            (conv => whnf)
            refine ⟨?_, trivial⟩
            (conv => whnf)
            refine ⟨?_, trivial⟩
            (conv => whnf)
            refine .inr ⟨by omega, by omega, ?_⟩
            rw [e1, e2]
            rfl
        · (conv => whnf)
          refine ⟨?_, trivial⟩
          (conv => whnf)
          refine ⟨?_, trivial⟩
          (conv => whnf)
          refine ⟨by rw [bytes_rec]; simp, ?_⟩
          (conv => whnf)
          refine ⟨?_, trivial⟩
          (conv => whnf)
          refine ⟨by rw [bytes_int]; simp, ?_⟩
          (conv => whnf)
          refine ⟨?_, trivial⟩
          (conv => whnf)
          refine ⟨?_, trivial⟩
          (conv => whnf)
          refine .inr ⟨by omega, by omega, ?_⟩
          rw [e1, e2]
          rfl
    · (conv => whnf)
      refine must_intro (decide_eq_true hn0) ?_
      refine idxK_map_intro he1 ?_
      rw [he2 he1]
      (conv => whnf)
      refine ⟨?_, ?_, ?_, trivial⟩
      · (conv => whnf)
        refine ⟨?_, ?_, ?_, trivial⟩
        · (conv => whnf)
          refine ⟨l1.symm, by rw [l1, bytes_rec]; simp; omega, ?_⟩
          (conv => whnf)
          refine ⟨?_, ?_, trivial⟩
          · (conv => whnf)
            refine ⟨?_, trivial⟩
            (conv => whnf)
            refine ⟨?_, trivial⟩
            (conv => whnf)
            refine ⟨l2.symm, by rw [l2, bytes_int]; simp; omega, ?_⟩
            (conv => whnf)
            refine ⟨?_, trivial⟩
            (conv => whnf)
            refine ⟨?_, trivial⟩
            (conv => whnf)
            refine .inr ⟨by omega, by omega, ?_⟩
            rw [e1, e2, l1, l2]
            rfl
          · (conv => whnf)
            refine ⟨?_, trivial⟩
            (conv => whnf)
            refine ⟨?_, trivial⟩
            (conv => whnf)
            refine ⟨l2.symm, by rw [l2, bytes_int]; simp; omega, ?_⟩
            (conv => whnf)
            refine ⟨?_, trivial⟩
            (conv => whnf)
            refine ⟨?_, trivial⟩
            (conv => whnf)
            refine .inr ⟨by omega, by omega, ?_⟩
            rw [e1, e2, l1, l2]
            rfl
        · (conv => whnf)
          refine ⟨?_, ?_, trivial⟩
          · (conv => whnf)
            refine ⟨l1.symm, by rw [l1, bytes_rec]; simp; omega, ?_⟩
            (conv => whnf)
            refine ⟨?_, trivial⟩
            (conv => whnf)
            refine ⟨?_, trivial⟩
            (conv => whnf)
            refine ⟨l2.symm, by rw [l2, bytes_int]; simp; omega, ?_⟩
            (conv => whnf)
            refine ⟨?_, trivial⟩
            (conv => whnf)
            refine ⟨?_, trivial⟩
            (conv => whnf)
            refine .inr ⟨by omega, by omega, ?_⟩
            rw [e1, e2, l1, l2]
            rfl
          · (conv => whnf)
            refine ⟨?_, trivial⟩
            (conv => whnf)
            refine ⟨l1.symm, by rw [l1, bytes_rec]; simp; omega, ?_⟩
            (conv => whnf)
            refine ⟨?_, trivial⟩
            (conv => whnf)
            refine ⟨l2.symm, by rw [l2, bytes_int]; simp; omega, ?_⟩
            (conv => whnf)
            refine ⟨?_, trivial⟩
            (conv => whnf)
            refine ⟨?_, trivial⟩
            (conv => whnf)
            refine .inr ⟨by omega, by omega, ?_⟩
            rw [e1, e2, l1, l2]
            rfl
        · (conv => whnf)
          refine ⟨?_, ?_, trivial⟩
          · (conv => whnf)
            refine ⟨l1.symm, by rw [l1, bytes_rec]; simp; omega, ?_⟩
            (conv => whnf)
            refine ⟨?_, trivial⟩
            (conv => whnf)
            refine ⟨?_, trivial⟩
            (conv => whnf)
            refine ⟨l2.symm, by rw [l2, bytes_int]; simp; omega, ?_⟩
            (conv => whnf)
            refine ⟨?_, trivial⟩
            (conv => whnf)
            refine ⟨?_, trivial⟩
            (conv => whnf)
            refine .inr ⟨by omega, by omega, ?_⟩
            rw [e1, e2, l1, l2]
            rfl
          · (conv => whnf)
            refine ⟨?_, trivial⟩
            (conv => whnf)
            refine ⟨l1.symm, by rw [l1, bytes_rec]; simp; omega, ?_⟩
            (conv => whnf)
            refine ⟨?_, trivial⟩
            (conv => whnf)
            refine ⟨l2.symm, by rw [l2, bytes_int]; simp; omega, ?_⟩
            (conv => whnf)
            refine ⟨?_, trivial⟩
            (conv => whnf)
            refine ⟨?_, trivial⟩
            (conv => whnf)
            refine .inr ⟨by omega, by omega, ?_⟩
            rw [e1, e2, l1, l2]
            rfl
      · (conv => whnf)
        refine ⟨?_, ?_, trivial⟩
        · (conv => whnf)
          refine ⟨?_, ?_, trivial⟩
          · (conv => whnf)
            refine ⟨l1.symm, by rw [l1, bytes_rec]; simp; omega, ?_⟩
            (conv => whnf)
            refine ⟨?_, trivial⟩
            (conv => whnf)
            refine ⟨?_, trivial⟩
            (conv => whnf)
            refine ⟨l2.symm, by rw [l2, bytes_int]; simp; omega, ?_⟩
            (conv => whnf)
            refine ⟨?_, trivial⟩
            (conv => whnf)
            refine ⟨?_, trivial⟩
            (conv => whnf)
            refine .inr ⟨by omega, by omega, ?_⟩
            rw [e1, e2, l1, l2]
            rfl
          · (conv => whnf)
            refine ⟨?_, trivial⟩
            (conv => whnf)
            refine ⟨l1.symm, by rw [l1, bytes_rec]; simp; omega, ?_⟩
            (conv => whnf)
            refine ⟨?_, trivial⟩
            (conv => whnf)
            refine ⟨l2.symm, by rw [l2, bytes_int]; simp; omega, ?_⟩
            (conv => whnf)
            refine ⟨?_, trivial⟩
            (conv => whnf)
            refine ⟨?_, trivial⟩
            (conv => whnf)
            refine .inr ⟨by omega, by omega, ?_⟩
            rw [e1, e2, l1, l2]
            rfl
        · (conv => whnf)
          refine ⟨?_, trivial⟩
          (conv => whnf)
          refine ⟨?_, trivial⟩
          (conv => whnf)
          refine ⟨l1.symm, by rw [l1, bytes_rec]; simp; omega, ?_⟩
          (conv => whnf)
          refine ⟨?_, trivial⟩
          (conv => whnf)
          refine ⟨l2.symm, by rw [l2, bytes_int]; simp; omega, ?_⟩
          (conv => whnf)
          refine ⟨?_, trivial⟩
          (conv => whnf)
          refine ⟨?_, trivial⟩
          (conv => whnf)
          refine .inr ⟨by omega, by omega, ?_⟩
          rw [e1, e2, l1, l2]
          rfl
      · (conv => whnf)
        refine ⟨?_, ?_, trivial⟩
        · (conv => whnf)
          refine ⟨?_, ?_, trivial⟩
          · (conv => whnf)
            refine ⟨l1.symm, by rw [l1, bytes_rec]; simp; omega, ?_⟩
            (conv => whnf)
            refine ⟨?_, trivial⟩
            (conv => whnf)
            refine ⟨?_, trivial⟩
            (conv => whnf)
            refine ⟨l2.symm, by rw [l2, bytes_int]; simp; omega, ?_⟩
            (conv => whnf)
            refine ⟨?_, trivial⟩
            (conv => whnf)
            refine ⟨?_, trivial⟩
            (conv => whnf)
            refine .inr ⟨by omega, by omega, ?_⟩
            rw [e1, e2, l1, l2]
            rfl
          · (conv => whnf)
            refine ⟨?_, trivial⟩
            (conv => whnf)
            refine ⟨l1.symm, by rw [l1, bytes_rec]; simp; omega, ?_⟩
            (conv => whnf)
            refine ⟨?_, trivial⟩
            (conv => whnf)
            refine ⟨l2.symm, by rw [l2, bytes_int]; simp; omega, ?_⟩
            (conv => whnf)
            refine ⟨?_, trivial⟩
            (conv => whnf)
            refine ⟨?_, trivial⟩
            (conv => whnf)
            refine .inr ⟨by omega, by omega, ?_⟩
            rw [e1, e2, l1, l2]
            rfl
        · (conv => whnf)
          refine ⟨?_, trivial⟩
          (conv => whnf)
          refine ⟨?_, trivial⟩
          (conv => whnf)
          refine ⟨l1.symm, by rw [l1, bytes_rec]; simp; omega, ?_⟩
          (conv => whnf)
          refine ⟨?_, trivial⟩
          (conv => whnf)
          refine ⟨l2.symm, by rw [l2, bytes_int]; simp; omega, ?_⟩
          (conv => whnf)
          refine ⟨?_, trivial⟩
          (conv => whnf)
          refine ⟨?_, trivial⟩
          (conv => whnf)
          refine .inr ⟨by omega, by omega, ?_⟩
          rw [e1, e2, l1, l2]
          rfl
  · rintro s (⟨h1, rfl⟩ | ⟨h1, h2, rfl⟩)
    · have hl0 : l = [] := List.length_eq_zero_iff.1 (by omega)
      subst hl0
      (conv => whnf)
      exact res_le (le_tup (.cons (le_agg (.cons (.refl _) (.cons (le_nil 7) (.cons (le_nil 1) (leL.refl _))))) (leL.refl _))) rfl h
    · have hE : (endsR 3 l).take (recsA 3 [] 0 l).length = endsR 3 l := by rw [hlA, ← hEl, List.take_length]
      rw [hE, hlA, List.take_length]
      (conv => whnf)
      exact res_same h
theorem cGet_3 (l : List Rc) (hm : ∀ r ∈ l, mayP 3 r = true) (hl : l.length ≤ 300) {R} (h : R (.tup [.agg (fileA 3 l), vi 0]) []) : ACalls Tryz.prog 67 [.sl none 1 (byteEls (fileP 3 l))] [] R := by
  have h1 := cGetT_3 l hm hl [] (fun _ => rfl) (by simp) (by simp) [] (.inl rfl) (by simp) h
  rw [List.map_nil, show framesP [] = [] from rfl, List.append_nil, List.append_nil] at h1
  exact h1
end Go.Abs
end

section
/- The file system's own functions. -/
set_option maxRecDepth 100000
set_option maxHeartbeats 2000000
set_option linter.unusedVariables false
set_option linter.unusedSimpArgs false
namespace Go.Abs
open Go Go.Proofs
attribute [local irreducible] ibits byteAt strLt firstIdx

def fsC (s : FSt) (m : Nm) : AObj := .cells 104 [.mapv m, vi s.fail, vi s.fall, .val (.bool s.down)]
def fsM (s : FSt) : AObj := .map (amap fEnc s.fs)
theorem fsNew_calls {R} (h : R (.ptr 0 0) [fsC fs0 1, fsM fs0]) : ACalls Tryz.prog 29 [] [] R := by
  refine acalls_of_xwp (an := an29) tab_ok Tryz.func29 ?_
  (conv => whnf)
  exact h
theorem cnt_wrap {a : Int} (ha : okN a) : (if IntKind.i64.wrap (a - 1) < -1 then -1 else IntKind.i64.wrap (a - 1)) = cnt a := by
  unfold okN at ha
  rw [wrap_i64 (by omega) (by omega)]
  rfl
theorem count_calls (a : Int) (ha : okN a) {R} (h : R (.tup [vi (cnt a), .val (.bool (a == 0))]) []) : ACalls Tryz.prog 102 [vi a] [] R := by
  refine acalls_of_xwp (an := an102) tab_ok Tryz.func102 ?_
  (conv => whnf)
  rw [cnt_wrap ha]
  exact h
theorem Fall_calls (s : FSt) (n : Int) {R} (h : R (.tup []) [fsC ⟨s.fs, s.fail, capN n, s.down⟩ 1, fsM s]) : ACalls Tryz.prog 17 [.ptr 0 0, vi n] [fsC s 1, fsM s] R := by
  refine acalls_of_xwp (an := an17) tab_ok Tryz.func17 ?_
  (conv => whnf)
  exact h
theorem fsNames_calls (s : FSt) (hl : s.fs.length < 1000000) (hs : ∀ n ∈ kys s.fs, n.length < 1000000) (hnd : (kys s.fs).Nodup) {R} (h : R (.sl none 1 (strs s.names)) [fsC s 1, fsM s]) : ACalls Tryz.prog 59 [.ptr 0 0] [fsC s 1, fsM s] R := by
  refine acalls_of_xwp (an := an59) tab_ok Tryz.func59 ?_
  (conv => whnf)
  refine fKeys_calls (amap fEnc s.fs) ?_
  (conv => whnf)
  refine fSorted_calls s.fs (by simpa [kys] using hl) hs hnd ?_
  (conv => whnf)
  exact h
theorem fsRead_calls (s : FSt) (name : B) (hb : (gF s.fs name).b.length < 100000000) {R} (h1 : name ∈ kys s.fs → R (.tup [.sl none 1 (byteEls (gF s.fs name).b), vi 0]) [fsC s 1, fsM s]) (h2 : name ∉ kys s.fs → R (.tup [nilV, vi 6]) [fsC s 1, fsM s]) : ACalls Tryz.prog 26 [.ptr 0 0, vs name] [fsC s 1, fsM s] R := by
  refine acalls_of_xwp (an := an26) tab_ok Tryz.func26 ?_
  (conv => whnf)
  rw [amap_find]
  cases e : lk s.fs name with
  | none =>
    have h2 := h2 (lk_none.1 e)
    (conv => whnf)
    exact h2
  | some v =>
    have h1 := h1 (lk_key e)
    unfold gF at h1 hb
    rw [e] at h1 hb
    (conv => whnf)
    refine bClone_calls v.b hb ?_
    (conv => whnf)
    exact h1
theorem may_calls (s : FSt) (name : B) {R} (h : R (vi (s.may name)) [fsC s 1, fsM s]) : ACalls Tryz.prog 76 [.ptr 0 0, vs name] [fsC s 1, fsM s] R := by
  refine acalls_of_xwp (an := an76) tab_ok Tryz.func76 ?_
  (conv => whnf)
  refine br_intro (fun g => ?_) (fun g => ?_)
  · have g : s.down = true := g
    rw [show s.may name = 7 by simp [FSt.may, g]] at h
    (conv => whnf)
    exact h
  have g : s.down = false := g
  (conv => whnf)
  rw [amap_find]
  cases e : lk s.fs name with
  | none =>
    rw [show s.may name = 6 by simp [FSt.may, g, e]] at h
    (conv => whnf)
    exact h
  | some v =>
    rw [show s.may name = 0 by simp [FSt.may, g, e]] at h
    (conv => whnf)
    exact h
theorem bel_take (l : B) (n : Nat) : (byteEls l).take n = byteEls (l.take n) := by simp [byteEls, List.map_take]
theorem le_two {b : B} : leE [[nilV], [AV.sl none 1 (byteEls b)]] [[AV.sl none 1 (byteEls [])], [AV.sl none 1 (byteEls b)]] :=
  leE.cons (leL.cons (le_nil 1) leL.nil) rfl (leE.cons (leL.refl _) rfl leE.nil)

theorem clA_calls (s : FSt) (name b : B) (hb : b.length < 100000000) (hg : (gF s.fs name).b.length < 100000000) {R} (h : R (.tup []) [.cells 26 [.ptr 1 0], fsC ⟨(addF name b) s.fs, s.fail, s.fall, s.down⟩ 2, fsM ⟨(addF name b) s.fs, s.fail, s.fall, s.down⟩, .cells 31 [.sl none 1 (byteEls b)]]) :
    ACalls Tryz.prog 55 [.ptr 0 0, .cptr [vs name] 0, .ptr 3 0] [.cells 26 [.ptr 1 0], fsC s 2, fsM s, .cells 31 [.sl none 1 (byteEls b)]] R := by
  refine acalls_of_xwp (an := an55) tab_ok Tryz.func55 ?_
  (conv => whnf)
  rw [amap_find]
  cases e : lk s.fs name with
  | none =>
    have e0 : gF s.fs name = flZ := by simp [gF, e]
    have e1 : addF name b s.fs = pt s.fs name ⟨[] ++ b, 0⟩ := by unfold addF; rw [e0]; rfl
    (conv => whnf)
    refine ACalls.args (leL.cons (le_sl _ _ le_two) leL.nil) (Concat_calls [] b (by simp) hb ?_)
    (conv => whnf)
    rw [show AV.agg (List.map AV.strip [AV.sl none 1 (byteEls ([] ++ b)), AV.val (Value.int IntKind.i64 0)]) = fEnc ⟨[] ++ b, 0⟩ from rfl, amap_put, ← e1]
    (conv => whnf)
    exact h
  | some v =>
    have e0 : gF s.fs name = v := by simp [gF, e]
    rw [e0] at hg
    have e1 : addF name b s.fs = pt s.fs name ⟨v.b ++ b, v.safe⟩ := by unfold addF; rw [e0]
    (conv => whnf)
    refine Concat_calls v.b b hg hb ?_
    (conv => whnf)
    rw [show AV.agg (List.map AV.strip [AV.sl none 1 (byteEls (v.b ++ b)), AV.val (Value.int IntKind.i64 v.safe)]) = fEnc ⟨v.b ++ b, v.safe⟩ from rfl, amap_put, ← e1]
    (conv => whnf)
    exact h

theorem actA_calls (s : FSt) (name b : B) (hb : b.length < 100000000) (hg : (gF s.fs name).b.length < 100000000) (late : Bool) (h1 : okN s.fail) (h2 : okN s.fall) {R} (h : R (vi (s.act late (addF name b)).2) (fsC (s.act late (addF name b)).1 1 :: fsM (s.act late (addF name b)).1 :: [.cells 26 [.ptr 0 0], .cells 31 [.sl none 1 (byteEls b)]])) :
    ACalls Tryz.prog 54 [.ptr 0 0, .val (.bool late), .fn (.func 55) [] [.ptr 2 0, .cptr [vs name] 0, .ptr 3 0]] (fsC s 1 :: fsM s :: [.cells 26 [.ptr 0 0], .cells 31 [.sl none 1 (byteEls b)]]) R := by
  refine acalls_of_xwp (an := an54) tab_ok Tryz.func54 ?_
  (conv => whnf)
  refine count_calls s.fail h1 ?_
  (conv => whnf)
  refine count_calls s.fall h2 ?_
  (conv => whnf)
  refine br_intro (fun g => ?_) (fun g => ?_)
  · have g : s.fall = 0 := by simpa using g
    (conv => whnf)
    refine br_intro (fun g2 => ?_) (fun g2 => ?_)
    · have g2 : late = true := g2
      rw [show s.act late (addF name b) = (⟨(addF name b) s.fs, cnt s.fail, cnt s.fall, true⟩, 7) by simp [FSt.act, g, g2]] at h
      (conv => whnf)
      refine clA_calls ⟨s.fs, cnt s.fail, cnt s.fall, true⟩ name b hb hg ?_
      (conv => whnf)
      exact h
    · have g2 : late = false := g2
      rw [show s.act late (addF name b) = (⟨s.fs, cnt s.fail, cnt s.fall, true⟩, 7) by simp [FSt.act, g, g2]] at h
      (conv => whnf)
      exact h
  have g : s.fall ≠ 0 := by simpa using g
  (conv => whnf)
  refine br_intro (fun g2 => ?_) (fun g2 => ?_)
  · have g2 : s.fail = 0 := by simpa using g2
    rw [show s.act late (addF name b) = (⟨s.fs, cnt s.fail, cnt s.fall, s.down⟩, 8) by simp [FSt.act, g, g2]] at h
    (conv => whnf)
    exact h
  have g2 : s.fail ≠ 0 := by simpa using g2
  rw [show s.act late (addF name b) = (⟨(addF name b) s.fs, cnt s.fail, cnt s.fall, s.down⟩, 0) by simp [FSt.act, g, g2]] at h
  (conv => whnf)
  refine clA_calls ⟨s.fs, cnt s.fail, cnt s.fall, s.down⟩ name b hb hg ?_
  (conv => whnf)
  exact h

theorem clS_calls (s : FSt) (name : B) (v : Fl) (hv : gF s.fs name = v) {R} (h : R (.tup []) [.cells 108 [.sl none 1 (byteEls v.b), vi v.safe], .cells 26 [.ptr 2 0], fsC ⟨(syncF name) s.fs, s.fail, s.fall, s.down⟩ 3, fsM ⟨(syncF name) s.fs, s.fail, s.fall, s.down⟩]) :
    ACalls Tryz.prog 77 [.ptr 0 0, .ptr 1 0, .cptr [vs name] 0] [.cells 108 [.sl none 1 (byteEls v.b), vi v.safe], .cells 26 [.ptr 2 0], fsC s 3, fsM s] R := by
  refine acalls_of_xwp (an := an77) tab_ok Tryz.func77 ?_
  have hl := bel_length v.b
  have e1 : syncF name s.fs = pt s.fs name ⟨v.b, v.b.length⟩ := by unfold syncF; rw [hv]
  (conv => whnf)
  show R (.tup []) [.cells 108 [.sl none 1 (byteEls v.b), vi v.safe], .cells 26 [.ptr 2 0], fsC s 3, .map (mapPut (amap fEnc s.fs) (ofB name) (.agg [.sl none 1 (byteEls v.b), vi ((byteEls v.b).length : Nat)]))]
  rw [hl, show AV.agg [.sl none 1 (byteEls v.b), vi (v.b.length : Nat)] = fEnc ⟨v.b, v.b.length⟩ from rfl, amap_put, ← e1]
  exact h

theorem actS_calls (s : FSt) (name : B) (v : Fl) (hv : gF s.fs name = v) (late : Bool) (h1 : okN s.fail) (h2 : okN s.fall) {R} (h : R (vi (s.act late (syncF name)).2) (fsC (s.act late (syncF name)).1 1 :: fsM (s.act late (syncF name)).1 :: [.cells 108 [.sl none 1 (byteEls v.b), vi v.safe], .cells 26 [.ptr 0 0]])) :
    ACalls Tryz.prog 54 [.ptr 0 0, .val (.bool late), .fn (.func 77) [] [.ptr 2 0, .ptr 3 0, .cptr [vs name] 0]] (fsC s 1 :: fsM s :: [.cells 108 [.sl none 1 (byteEls v.b), vi v.safe], .cells 26 [.ptr 0 0]]) R := by
  refine acalls_of_xwp (an := an54) tab_ok Tryz.func54 ?_
  (conv => whnf)
  refine count_calls s.fail h1 ?_
  (conv => whnf)
  refine count_calls s.fall h2 ?_
  (conv => whnf)
  refine br_intro (fun g => ?_) (fun g => ?_)
  · have g : s.fall = 0 := by simpa using g
    (conv => whnf)
    refine br_intro (fun g2 => ?_) (fun g2 => ?_)
    · have g2 : late = true := g2
      rw [show s.act late (syncF name) = (⟨(syncF name) s.fs, cnt s.fail, cnt s.fall, true⟩, 7) by simp [FSt.act, g, g2]] at h
      (conv => whnf)
      refine clS_calls ⟨s.fs, cnt s.fail, cnt s.fall, true⟩ name v hv ?_
      (conv => whnf)
      exact h
    · have g2 : late = false := g2
      rw [show s.act late (syncF name) = (⟨s.fs, cnt s.fail, cnt s.fall, true⟩, 7) by simp [FSt.act, g, g2]] at h
      (conv => whnf)
      exact h
  have g : s.fall ≠ 0 := by simpa using g
  (conv => whnf)
  refine br_intro (fun g2 => ?_) (fun g2 => ?_)
  · have g2 : s.fail = 0 := by simpa using g2
    rw [show s.act late (syncF name) = (⟨s.fs, cnt s.fail, cnt s.fall, s.down⟩, 8) by simp [FSt.act, g, g2]] at h
    (conv => whnf)
    exact h
  have g2 : s.fail ≠ 0 := by simpa using g2
  rw [show s.act late (syncF name) = (⟨(syncF name) s.fs, cnt s.fail, cnt s.fall, s.down⟩, 0) by simp [FSt.act, g, g2]] at h
  (conv => whnf)
  refine clS_calls ⟨s.fs, cnt s.fail, cnt s.fall, s.down⟩ name v hv ?_
  (conv => whnf)
  exact h

theorem clT_calls (s : FSt) (name : B) (v : Fl) (size : Nat) (hv : gF s.fs name = v) (hsz : size ≤ v.b.length) (hvb : v.b.length < 100000000) {R} (h : R (.tup []) [.cells 108 [.sl none 1 (byteEls v.b), vi v.safe], .cells 26 [.ptr 2 0], fsC ⟨(cutF name size) s.fs, s.fail, s.fall, s.down⟩ 3, fsM ⟨(cutF name size) s.fs, s.fail, s.fall, s.down⟩]) :
    ACalls Tryz.prog 116 [.ptr 0 0, .cptr [vi size] 0, .ptr 1 0, .cptr [vs name] 0] [.cells 108 [.sl none 1 (byteEls v.b), vi v.safe], .cells 26 [.ptr 2 0], fsC s 3, fsM s] R := by
  refine acalls_of_xwp (an := an116) tab_ok Tryz.func116 ?_
  have hl := bel_length v.b
  have e1 : cutF name size s.fs = pt s.fs name ⟨v.b.take size, min v.safe size⟩ := by unfold cutF; rw [hv]
  (conv => whnf)
  refine must_intro (decide_eq_true (by omega)) ?_
  (conv => whnf)
  refine must_intro (decide_eq_true (by omega)) ?_
  (conv => whnf)
  show R (.tup []) [.cells 108 [.sl none 1 (byteEls v.b), vi v.safe], .cells 26 [.ptr 2 0], fsC s 3, .map (mapPut (amap fEnc s.fs) (ofB name) (.agg [.sl none 1 ((byteEls v.b).take size), vi (if (size : Int) < (v.safe : Int) then (size : Int) else (v.safe : Int))]))]
  rw [show (if (size : Int) < (v.safe : Int) then (size : Int) else (v.safe : Int)) = ((min v.safe size : Nat) : Int) by split <;> omega, bel_take, show AV.agg [.sl none 1 (byteEls (v.b.take size)), vi (min v.safe size : Nat)] = fEnc ⟨v.b.take size, min v.safe size⟩ from rfl, amap_put, ← e1]
  exact h

theorem actT_calls (s : FSt) (name : B) (v : Fl) (size : Nat) (hv : gF s.fs name = v) (hsz : size ≤ v.b.length) (hvb : v.b.length < 100000000) (late : Bool) (h1 : okN s.fail) (h2 : okN s.fall) {R} (h : R (vi (s.act late (cutF name size)).2) (fsC (s.act late (cutF name size)).1 1 :: fsM (s.act late (cutF name size)).1 :: [.cells 108 [.sl none 1 (byteEls v.b), vi v.safe], .cells 26 [.ptr 0 0]])) :
    ACalls Tryz.prog 54 [.ptr 0 0, .val (.bool late), .fn (.func 116) [] [.ptr 2 0, .cptr [vi size] 0, .ptr 3 0, .cptr [vs name] 0]] (fsC s 1 :: fsM s :: [.cells 108 [.sl none 1 (byteEls v.b), vi v.safe], .cells 26 [.ptr 0 0]]) R := by
  refine acalls_of_xwp (an := an54) tab_ok Tryz.func54 ?_
  (conv => whnf)
  refine count_calls s.fail h1 ?_
  (conv => whnf)
  refine count_calls s.fall h2 ?_
  (conv => whnf)
  refine br_intro (fun g => ?_) (fun g => ?_)
  · have g : s.fall = 0 := by simpa using g
    (conv => whnf)
    refine br_intro (fun g2 => ?_) (fun g2 => ?_)
    · have g2 : late = true := g2
      rw [show s.act late (cutF name size) = (⟨(cutF name size) s.fs, cnt s.fail, cnt s.fall, true⟩, 7) by simp [FSt.act, g, g2]] at h
      (conv => whnf)
      refine clT_calls ⟨s.fs, cnt s.fail, cnt s.fall, true⟩ name v size hv hsz hvb ?_
      (conv => whnf)
      exact h
    · have g2 : late = false := g2
      rw [show s.act late (cutF name size) = (⟨s.fs, cnt s.fail, cnt s.fall, true⟩, 7) by simp [FSt.act, g, g2]] at h
      (conv => whnf)
      exact h
  have g : s.fall ≠ 0 := by simpa using g
  (conv => whnf)
  refine br_intro (fun g2 => ?_) (fun g2 => ?_)
  · have g2 : s.fail = 0 := by simpa using g2
    rw [show s.act late (cutF name size) = (⟨s.fs, cnt s.fail, cnt s.fall, s.down⟩, 8) by simp [FSt.act, g, g2]] at h
    (conv => whnf)
    exact h
  have g2 : s.fail ≠ 0 := by simpa using g2
  rw [show s.act late (cutF name size) = (⟨(cutF name size) s.fs, cnt s.fail, cnt s.fall, s.down⟩, 0) by simp [FSt.act, g, g2]] at h
  (conv => whnf)
  refine clT_calls ⟨s.fs, cnt s.fail, cnt s.fall, s.down⟩ name v size hv hsz hvb ?_
  (conv => whnf)
  exact h

theorem clR_calls (s : FSt) (a b : B) (hka : a ∈ kys s.fs) {R} (h : R (.tup []) [.cells 26 [.ptr 1 0], fsC ⟨(renF a b) s.fs, s.fail, s.fall, s.down⟩ 2, fsM ⟨(renF a b) s.fs, s.fail, s.fall, s.down⟩]) :
    ACalls Tryz.prog 112 [.ptr 0 0, .cptr [vs a] 0, .cptr [vs b] 0] [.cells 26 [.ptr 1 0], fsC s 2, fsM s] R := by
  refine acalls_of_xwp (an := an112) tab_ok Tryz.func112 ?_
  obtain ⟨v, e⟩ := lk_mem hka
  have e0 : gF s.fs a = v := by simp [gF, e]
  have e1 : renF a b s.fs = pt (dl s.fs a) b v := by unfold renF; rw [e0]
  (conv => whnf)
  rw [amap_find, e]
  (conv => whnf)
  rw [amap_del]
  (conv => whnf)
  rw [show AV.agg (List.map AV.strip [AV.sl none 1 (byteEls v.b), AV.val (Value.int IntKind.i64 v.safe)]) = fEnc v from rfl, amap_put, ← e1]
  (conv => whnf)
  exact h

theorem actR_calls (s : FSt) (a b : B) (hka : a ∈ kys s.fs) (late : Bool) (h1 : okN s.fail) (h2 : okN s.fall) {R} (h : R (vi (s.act late (renF a b)).2) (fsC (s.act late (renF a b)).1 1 :: fsM (s.act late (renF a b)).1 :: [.cells 26 [.ptr 0 0]])) :
    ACalls Tryz.prog 54 [.ptr 0 0, .val (.bool late), .fn (.func 112) [] [.ptr 2 0, .cptr [vs a] 0, .cptr [vs b] 0]] (fsC s 1 :: fsM s :: [.cells 26 [.ptr 0 0]]) R := by
  refine acalls_of_xwp (an := an54) tab_ok Tryz.func54 ?_
  (conv => whnf)
  refine count_calls s.fail h1 ?_
  (conv => whnf)
  refine count_calls s.fall h2 ?_
  (conv => whnf)
  refine br_intro (fun g => ?_) (fun g => ?_)
  · have g : s.fall = 0 := by simpa using g
    (conv => whnf)
    refine br_intro (fun g2 => ?_) (fun g2 => ?_)
    · have g2 : late = true := g2
      rw [show s.act late (renF a b) = (⟨(renF a b) s.fs, cnt s.fail, cnt s.fall, true⟩, 7) by simp [FSt.act, g, g2]] at h
      (conv => whnf)
      refine clR_calls ⟨s.fs, cnt s.fail, cnt s.fall, true⟩ a b hka ?_
      (conv => whnf)
      exact h
    · have g2 : late = false := g2
      rw [show s.act late (renF a b) = (⟨s.fs, cnt s.fail, cnt s.fall, true⟩, 7) by simp [FSt.act, g, g2]] at h
      (conv => whnf)
      exact h
  have g : s.fall ≠ 0 := by simpa using g
  (conv => whnf)
  refine br_intro (fun g2 => ?_) (fun g2 => ?_)
  · have g2 : s.fail = 0 := by simpa using g2
    rw [show s.act late (renF a b) = (⟨s.fs, cnt s.fail, cnt s.fall, s.down⟩, 8) by simp [FSt.act, g, g2]] at h
    (conv => whnf)
    exact h
  have g2 : s.fail ≠ 0 := by simpa using g2
  rw [show s.act late (renF a b) = (⟨(renF a b) s.fs, cnt s.fail, cnt s.fall, s.down⟩, 0) by simp [FSt.act, g, g2]] at h
  (conv => whnf)
  refine clR_calls ⟨s.fs, cnt s.fail, cnt s.fall, s.down⟩ a b hka ?_
  (conv => whnf)
  exact h

theorem clD_calls (s : FSt) (name : B) {R} (h : R (.tup []) [.cells 26 [.ptr 1 0], fsC ⟨(fun m => dl m name) s.fs, s.fail, s.fall, s.down⟩ 2, fsM ⟨(fun m => dl m name) s.fs, s.fail, s.fall, s.down⟩]) :
    ACalls Tryz.prog 111 [.ptr 0 0, .cptr [vs name] 0] [.cells 26 [.ptr 1 0], fsC s 2, fsM s] R := by
  refine acalls_of_xwp (an := an111) tab_ok Tryz.func111 ?_
  (conv => whnf)
  rw [amap_del]
  (conv => whnf)
  exact h

theorem actD_calls (s : FSt) (name : B) (late : Bool) (h1 : okN s.fail) (h2 : okN s.fall) {R} (h : R (vi (s.act late (fun m => dl m name)).2) (fsC (s.act late (fun m => dl m name)).1 1 :: fsM (s.act late (fun m => dl m name)).1 :: [.cells 26 [.ptr 0 0]])) :
    ACalls Tryz.prog 54 [.ptr 0 0, .val (.bool late), .fn (.func 111) [] [.ptr 2 0, .cptr [vs name] 0]] (fsC s 1 :: fsM s :: [.cells 26 [.ptr 0 0]]) R := by
  refine acalls_of_xwp (an := an54) tab_ok Tryz.func54 ?_
  (conv => whnf)
  refine count_calls s.fail h1 ?_
  (conv => whnf)
  refine count_calls s.fall h2 ?_
  (conv => whnf)
  refine br_intro (fun g => ?_) (fun g => ?_)
  · have g : s.fall = 0 := by simpa using g
    (conv => whnf)
    refine br_intro (fun g2 => ?_) (fun g2 => ?_)
    · have g2 : late = true := g2
      rw [show s.act late (fun m => dl m name) = (⟨(fun m => dl m name) s.fs, cnt s.fail, cnt s.fall, true⟩, 7) by simp [FSt.act, g, g2]] at h
      (conv => whnf)
      refine clD_calls ⟨s.fs, cnt s.fail, cnt s.fall, true⟩ name ?_
      (conv => whnf)
      exact h
    · have g2 : late = false := g2
      rw [show s.act late (fun m => dl m name) = (⟨s.fs, cnt s.fail, cnt s.fall, true⟩, 7) by simp [FSt.act, g, g2]] at h
      (conv => whnf)
      exact h
  have g : s.fall ≠ 0 := by simpa using g
  (conv => whnf)
  refine br_intro (fun g2 => ?_) (fun g2 => ?_)
  · have g2 : s.fail = 0 := by simpa using g2
    rw [show s.act late (fun m => dl m name) = (⟨s.fs, cnt s.fail, cnt s.fall, s.down⟩, 8) by simp [FSt.act, g, g2]] at h
    (conv => whnf)
    exact h
  have g2 : s.fail ≠ 0 := by simpa using g2
  rw [show s.act late (fun m => dl m name) = (⟨(fun m => dl m name) s.fs, cnt s.fail, cnt s.fall, s.down⟩, 0) by simp [FSt.act, g, g2]] at h
  (conv => whnf)
  refine clD_calls ⟨s.fs, cnt s.fail, cnt s.fall, s.down⟩ name ?_
  (conv => whnf)
  exact h
end Go.Abs
end

section
/- The file system's acts. -/
set_option maxRecDepth 100000
set_option maxHeartbeats 2000000
set_option linter.unusedVariables false
set_option linter.unusedSimpArgs false
namespace Go.Abs
open Go Go.Proofs
attribute [local irreducible] ibits byteAt strLt firstIdx

theorem Append_calls (s : FSt) (name b : B) (h1 : okN s.fail) (h2 : okN s.fall) (hb : b.length < 1000000) (hg : (gF s.fs name).b.length < 100000000) {R} (h : R (vi (s.append name b).2) [fsC (s.append name b).1 1, fsM (s.append name b).1]) : ACalls Tryz.prog 15 [.ptr 0 0, vs name, .sl none 1 (byteEls b)] [fsC s 1, fsM s] R := by
  refine acalls_of_xwp (an := an15) tab_ok Tryz.func15 ?_
  (conv => whnf)
  refine br_intro (fun g => ?_) (fun g => ?_)
  · have g : s.down = true := g
    rw [show s.append name b = (s, 7) by simp [FSt.append, g]] at h
    (conv => whnf)
    exact h
  have g : s.down = false := g
  rw [show s.append name b = s.act true (addF name b) by simp [FSt.append, g]] at h
  (conv => whnf)
  refine bClone_calls b (by omega) ?_
  (conv => whnf)
  refine actA_calls s name b (by omega) hg true h1 h2 ?_
  (conv => whnf)
  exact h
theorem Sync_calls (s : FSt) (name : B) (h1 : okN s.fail) (h2 : okN s.fall) {R} (h : R (vi (s.sync name).2) [fsC (s.sync name).1 1, fsM (s.sync name).1]) : ACalls Tryz.prog 25 [.ptr 0 0, vs name] [fsC s 1, fsM s] R := by
  refine acalls_of_xwp (an := an25) tab_ok Tryz.func25 ?_
  (conv => whnf)
  refine may_calls s name ?_
  (conv => whnf)
  refine br_intro (fun g => ?_) (fun g => ?_)
  · have g : s.may name ≠ 0 := by simpa using g
    rw [show s.sync name = (s, s.may name) by simp [FSt.sync, g]] at h
    (conv => whnf)
    exact h
  have g : ¬ s.may name ≠ 0 := by simpa using g
  rw [show s.sync name = s.act false (syncF name) by unfold FSt.sync; rw [if_neg g]] at h
  obtain ⟨v, e⟩ := lk_mem (may_mem g).2
  (conv => whnf)
  rw [amap_find, e]
  (conv => whnf)
  refine actS_calls s name v (by simp [gF, e]) false h1 h2 ?_
  (conv => whnf)
  exact h
theorem Truncate_calls (s : FSt) (name : B) (n : Int) (h1 : okN s.fail) (h2 : okN s.fall) (hg : (gF s.fs name).b.length < 100000000) {R} (h : R (vi (s.truncate name n).2) [fsC (s.truncate name n).1 1, fsM (s.truncate name n).1]) : ACalls Tryz.prog 68 [.ptr 0 0, vs name, vi n] [fsC s 1, fsM s] R := by
  refine acalls_of_xwp (an := an68) tab_ok Tryz.func68 ?_
  (conv => whnf)
  refine may_calls s name ?_
  (conv => whnf)
  refine br_intro (fun g => ?_) (fun g => ?_)
  · have g : s.may name ≠ 0 := by simpa using g
    rw [show s.truncate name n = (s, s.may name) by simp [FSt.truncate, g]] at h
    (conv => whnf)
    exact h
  have g : ¬ s.may name ≠ 0 := by simpa using g
  obtain ⟨v, e⟩ := lk_mem (may_mem g).2
  have ev : gF s.fs name = v := by simp [gF, e]
  have hl := bel_length v.b
  rw [ev] at hg
  (conv => whnf)
  rw [amap_find, e]
  (conv => whnf)
  refine br_intro (fun g1 => ?_) (fun g1 => ?_)
  · have g1 : n < 0 := by simpa using g1
    rw [show s.truncate name n = (s, 1) by unfold FSt.truncate; rw [if_neg g, if_pos (.inl g1)]] at h
    (conv => whnf)
    exact h
  have g1 : ¬ n < 0 := by simpa using g1
  (conv => whnf)
  refine br_intro (fun g2 => ?_) (fun g2 => ?_)
  · have g2 : (v.b.length : Int) < n := by rw [hl] at g2; simpa using g2
    rw [show s.truncate name n = (s, 1) by unfold FSt.truncate; rw [if_neg g, if_pos (.inr (by rw [ev]; exact g2))]] at h
    (conv => whnf)
    exact h
  have g2 : ¬ (v.b.length : Int) < n := by rw [hl] at g2; simpa using g2
  rw [show s.truncate name n = s.act false (cutF name n.toNat) by unfold FSt.truncate; rw [if_neg g, if_neg (by rw [ev]; omega)]] at h
  obtain ⟨k, rfl⟩ := Int.eq_ofNat_of_zero_le (show 0 ≤ n by omega)
  rw [Int.toNat_natCast] at h
  (conv => whnf)
  refine actT_calls s name v k ev (by omega) hg false h1 h2 ?_
  (conv => whnf)
  exact h
theorem Rename_calls (s : FSt) (a b : B) (h1 : okN s.fail) (h2 : okN s.fall) {R} (h : R (vi (s.rename a b).2) [fsC (s.rename a b).1 1, fsM (s.rename a b).1]) : ACalls Tryz.prog 65 [.ptr 0 0, vs a, vs b] [fsC s 1, fsM s] R := by
  refine acalls_of_xwp (an := an65) tab_ok Tryz.func65 ?_
  (conv => whnf)
  refine may_calls s a ?_
  (conv => whnf)
  refine br_intro (fun g => ?_) (fun g => ?_)
  · have g : s.may a ≠ 0 := by simpa using g
    rw [show s.rename a b = (s, s.may a) by simp [FSt.rename, g]] at h
    (conv => whnf)
    exact h
  have g : ¬ s.may a ≠ 0 := by simpa using g
  rw [show s.rename a b = s.act false (renF a b) by unfold FSt.rename; rw [if_neg g]] at h
  (conv => whnf)
  refine actR_calls s a b (may_mem g).2 false h1 h2 ?_
  (conv => whnf)
  exact h
theorem Remove_calls (s : FSt) (name : B) (h1 : okN s.fail) (h2 : okN s.fall) {R} (h : R (vi (s.remove name).2) [fsC (s.remove name).1 1, fsM (s.remove name).1]) : ACalls Tryz.prog 61 [.ptr 0 0, vs name] [fsC s 1, fsM s] R := by
  refine acalls_of_xwp (an := an61) tab_ok Tryz.func61 ?_
  (conv => whnf)
  refine may_calls s name ?_
  (conv => whnf)
  refine br_intro (fun g => ?_) (fun g => ?_)
  · have g : s.may name ≠ 0 := by simpa using g
    rw [show s.remove name = (s, s.may name) by simp [FSt.remove, g]] at h
    (conv => whnf)
    exact h
  have g : ¬ s.may name ≠ 0 := by simpa using g
  rw [show s.remove name = s.act false (fun m => dl m name) by unfold FSt.remove; rw [if_neg g]] at h
  (conv => whnf)
  refine actD_calls s name false h1 h2 ?_
  (conv => whnf)
  exact h
end Go.Abs
end

section
/- The file system's crash. -/
set_option maxRecDepth 100000
set_option maxHeartbeats 2000000
set_option linter.unusedVariables false
set_option linter.unusedSimpArgs false
namespace Go.Abs
open Go Go.Proofs
attribute [local irreducible] ibits byteAt strLt firstIdx

theorem crashF_same {n : B} {l : List B} {keep : List Int} {m : FM} (h : (gF m n).safe = (gF m n).b.length) : crashF (n :: l) keep m = crashF l keep m := by
  conv => lhs; unfold crashF
  rw [if_pos h]
theorem crashF_none {n : B} {l : List B} {m : FM} (h : ¬ (gF m n).safe = (gF m n).b.length) : crashF (n :: l) [] m = crashF l [] (pt m n ⟨(gF m n).b.take (gF m n).safe, (gF m n).safe⟩) := by
  conv => lhs; unfold crashF
  rw [if_neg h]
theorem crashF_more {n : B} {l : List B} {k : Int} {keep : List Int} {m : FM} (h : ¬ (gF m n).safe = (gF m n).b.length) (hs : (gF m n).safe ≤ (gF m n).b.length) {z : Nat} (hz : (z : Int) = (gF m n).safe + min (max k 0) ((gF m n).b.length - (gF m n).safe : Int)) :
    crashF (n :: l) (k :: keep) m = crashF l keep (pt m n ⟨(gF m n).b.take z, z⟩) := by
  conv => lhs; unfold crashF
  rw [if_neg h]
  have : z = (gF m n).safe + (min (max k 0) ((gF m n).b.length - (gF m n).safe : Int)).toNat := by omega
  rw [this]
theorem Crash_calls (s : FSt) (keep : List Int) {nb fb : Nat} (ho : FOk s nb fb) (hnb : nb < 1000000) (hfb : fb < 100000000) (hk : keep.length < 1000000) {R} (h : R (.tup []) [fsC (s.crash keep) 1, fsM (s.crash keep)]) : ACalls Tryz.prog 19 [.ptr 0 0, .sl none 1 (intsZ keep)] [fsC s 1, fsM s] R := by
  refine acalls_of_xwp (an := an19) tab_ok Tryz.func19 ?_
  have hsl := strs_length s.names
  have hnl : s.names.length = s.fs.length := by rw [(names_perm s).length_eq]; simp [kys]
  have hll := ho.m.len
  (conv => whnf)
  refine fsNames_calls s (by omega) ho.m.names ho.m.nodup ?_
  (conv => whnf)
  refine LoopP.ind3 (fun (i : Nat) (kp : List Int) (m : FM) => [(1, .sl none 1 (intsZ kp)), (12, vi i)]) (fun i kp m => [(0, fsC s 1), (1, .map (amap fEnc m))]) (fun i _ _ => s.names.length - i)
    (fun i kp m => i ≤ s.names.length ∧ FMOk m nb fb ∧ kys m = kys s.fs ∧ kp.length ≤ keep.length ∧ crashF (s.names.drop i) kp m = crashF s.names keep s.fs) 0 keep s.fs rfl ⟨by omega, ho.m, rfl, by omega, rfl⟩ ?_
  rintro i kp m ⟨h0, hm, hky, hkl, hcr⟩ IH
  have hil := intsZ_length kp
  (conv => whnf)
  refine br_intro (fun hc => ?_) (fun hc => ?_)
  · have hc := lt_of_decE hsl hc
    rw [List.drop_eq_getElem_cons hc] at hcr
    have hin : s.names[i] ∈ kys m := by rw [hky]; exact (names_perm s).mem_iff.1 (List.getElem_mem hc)
    obtain ⟨v, e⟩ := lk_mem hin
    have ev : gF m s.names[i] = v := by simp [gF, e]
    have hg := hm.get s.names[i]
    rw [ev] at hg
    have hvl := bel_length v.b
    (conv => whnf); (repeat ((with_reducible refine must_intro ?_ ?_); exact decide_eq_true (by omega); (conv => whnf)))
    refine idxK_map_intro (show (i : Int).toNat < s.names.length by simpa using hc) ?_
    rw [show s.names[(i : Int).toNat]'(by simpa using hc) = s.names[i] from by congr 1]
    (conv => whnf)
    rw [amap_find, e]
    (conv => whnf)
    rw [hvl]
    refine br_intro (fun g => ?_) (fun g => ?_)
    · have g : (v.safe : Int) = (v.b.length : Int) := by simpa using g
      rw [crashF_same (by rw [ev]; omega)] at hcr
      (conv => whnf)
      rw [i64_nat (by omega)]
      exact IH (i + 1) kp m ⟨by omega, hm, hky, hkl, hcr⟩ (by omega)
    have g : ¬ (v.safe : Int) = (v.b.length : Int) := by simpa using g
    have g' : ¬ (gF m s.names[i]).safe = (gF m s.names[i]).b.length := by rw [ev]; omega
    have put : ∀ (z : Nat), v.safe ≤ z → z ≤ v.b.length → FMOk (pt m s.names[i] ⟨v.b.take z, z⟩) nb fb ∧ kys (pt m s.names[i] ⟨v.b.take z, z⟩) = kys s.fs := fun z z1 z2 =>
      ⟨hm.put_old hin (by simp; omega) (by simp; omega) (by omega), by rw [kys_pt hin, hky]⟩
    cases kp with
    | nil =>
      rw [crashF_none g', ev] at hcr
      have ew : IntKind.i64.wrap ((v.safe : Int) + 0) = v.safe := by rw [wrap_i64 (by omega) (by omega)]; omega
      have eqm := amap_put fEnc m s.names[i] ⟨v.b.take v.safe, v.safe⟩
      have hnx := IH (i + 1) [] (pt m s.names[i] ⟨v.b.take v.safe, v.safe⟩) ⟨by omega, (put v.safe (by omega) hg.1).1, (put v.safe (by omega) hg.1).2, by simp, hcr⟩ (by omega)
      dsimp only at hnx
      rw [← eqm] at hnx
      (conv => whnf)
      refine must_intro (decide_eq_true (by rw [ew]; omega)) ?_
      (conv => whnf)
      refine must_intro (decide_eq_true (by rw [ew]; omega)) ?_
      (conv => whnf)
      refine must_intro (decide_eq_true (by rw [ew]; omega)) ?_
      rw [ew]
      (conv => whnf)
      rw [i64_nat (by omega)]
      simp only [fEnc, ← bel_take] at hnx
      exact hnx
    | cons k kp =>
      have w1 : IntKind.i64.wrap (((byteEls v.b).length : Int) - v.safe) = (v.b.length : Int) - v.safe := by rw [hvl, wrap_i64 (by omega) (by omega)]
      obtain ⟨z, hz⟩ : ∃ z : Nat, (z : Int) = v.safe + min (max k 0) (v.b.length - v.safe : Int) := ⟨((v.safe : Int) + min (max k 0) (v.b.length - v.safe : Int)).toNat, by omega⟩
      have hz1 : v.safe ≤ z ∧ z ≤ v.b.length := by omega
      have ew : IntKind.i64.wrap ((v.safe : Int) + if IntKind.i64.wrap (((byteEls v.b).length : Int) - v.safe) < if k < 0 then 0 else k then IntKind.i64.wrap (((byteEls v.b).length : Int) - v.safe) else if k < 0 then 0 else k) = z := by
        rw [w1]
        have : ((v.safe : Int) + if ((v.b.length : Int) - v.safe) < if k < 0 then 0 else k then ((v.b.length : Int) - v.safe) else if k < 0 then 0 else k) = z := by
          rw [hz]
          split <;> split <;> omega
        rw [this, wrap_i64 (by omega) (by omega)]
      have et : List.drop (Int.toNat 1) (List.take (((intsZ (k :: kp)).length : Int)).toNat (intsZ (k :: kp))) = intsZ kp := by
        rw [Int.toNat_natCast, List.take_length]; rfl
      rw [crashF_more g' (by rw [ev]; exact hg.1) (z := z) (by rw [ev]; exact hz), ev] at hcr
      have eqm := amap_put fEnc m s.names[i] ⟨v.b.take z, z⟩
      have hnx := IH (i + 1) kp (pt m s.names[i] ⟨v.b.take z, z⟩) ⟨by omega, (put z hz1.1 hz1.2).1, (put z hz1.1 hz1.2).2, by simp at hkl; omega, hcr⟩ (by omega)
      dsimp only at hnx
      rw [← eqm] at hnx
      (conv => whnf)
      refine br_true (decide_eq_true (by rw [hil]; simp)) ?_
      (conv => whnf)
      refine must_intro (decide_eq_true (by rw [hil]; simp; omega)) ?_
      (conv => whnf)
      refine must_intro (decide_eq_true (by omega)) ?_
      (conv => whnf)
      refine must_intro (decide_eq_true (by rw [ew]; omega)) ?_
      (conv => whnf)
      refine must_intro (decide_eq_true (by rw [ew]; omega)) ?_
      (conv => whnf)
      refine must_intro (decide_eq_true (by rw [ew]; omega)) ?_
      rw [ew, et]
      (conv => whnf)
      rw [i64_nat (by omega)]
      simp only [fEnc, ← bel_take] at hnx
      exact hnx
  · have hc := ge_of_decE hsl hc
    rw [List.drop_eq_nil_of_le hc] at hcr
    have hcr : m = crashF s.names keep s.fs := hcr
    (conv => whnf)
    rw [hcr]
    exact h
end Go.Abs
end

section
/- Acts upon a file system; are two the same. -/
set_option maxRecDepth 100000
set_option maxHeartbeats 4000000
set_option linter.unusedVariables false
set_option linter.unusedSimpArgs false
namespace Go.Abs
open Go Go.Proofs
attribute [local irreducible] ibits byteAt strLt firstIdx

end Go.Abs
end

section
/- The statements of vfs: how much is gone through; the chapter's example; arguments. -/
set_option maxRecDepth 100000
set_option maxHeartbeats 4000000
set_option linter.unusedVariables false
set_option linter.unusedSimpArgs false
namespace Go.Abs
open Go Go.Proofs
attribute [local irreducible] ibits byteAt strLt firstIdx

/-! ### arguments -/
/-! ### the chapter's example -/
end Go.Abs
end

section
/- The statements VfsSafe and VfsFails. -/
set_option maxRecDepth 100000
set_option maxHeartbeats 8000000
set_option linter.unusedVariables false
set_option linter.unusedSimpArgs false
namespace Go.Abs
open Go Go.Proofs
attribute [local irreducible] ibits byteAt strLt firstIdx

end Go.Abs
end

section
/- The statement VfsFails. -/
set_option maxRecDepth 100000
set_option maxHeartbeats 8000000
set_option linter.unusedVariables false
set_option linter.unusedSimpArgs false
namespace Go.Abs
open Go Go.Proofs
attribute [local irreducible] ibits byteAt strLt firstIdx

end Go.Abs
end

section
/- journal.Start. -/
set_option maxRecDepth 100000
set_option maxHeartbeats 4000000
set_option linter.unusedVariables false
set_option linter.unusedSimpArgs false
namespace Go.Abs
open Go Go.Proofs Dig
attribute [local irreducible] ibits byteAt strLt firstIdx

theorem sIndex_calls (l : List B) (s : B) (hl : l.length < 1000000) {R} (h : ∀ p, p = placeI l s → R (vi p) []) : ACalls Tryz.prog 108 [.sl none 1 (strs l), vs s] [] R := by
  refine acalls_of_xwp (an := an108) tab_ok Tryz.func108 ?_
  have hsl := strs_length l
  (conv => whnf)
  refine LoopP.ind1 (fun (i : Nat) => [(8, vi i)]) (fun i => []) (fun i => l.length - i) (fun i => i ≤ l.length ∧ ∀ j, j < i → l[j]? ≠ some s) 0 rfl ⟨by omega, fun j hj => by omega⟩ ?_
  rintro i ⟨h0, h1⟩ IH
  (conv => whnf)
  refine br_intro (fun hc => ?_) (fun hc => ?_)
  · have hc := lt_of_decE hsl hc
    (conv => whnf); (repeat ((with_reducible refine must_intro ?_ ?_); exact decide_eq_true (by omega); (conv => whnf)))
    refine idxK_map_intro (show (i : Int).toNat < l.length by simpa using hc) ?_
    rw [show l[(i : Int).toNat]'(by simpa using hc) = l[i] from by congr 1]
    (conv => whnf)
    refine br_intro (fun g => ?_) (fun g => ?_)
    · have g : s = l[i] := by
        have g : ofB s = ofB l[i] := of_decide_eq_true g
        exact ofB_inj g
      (conv => whnf)
      refine h _ ?_
      rw [placeI, placeOf_of (by rw [List.getElem?_eq_getElem hc, g]) h1]
    · have g : s ≠ l[i] := by
        have g : ¬ ofB s = ofB l[i] := of_decide_eq_false g
        exact fun e => g (by rw [e])
      (conv => whnf)
      rw [i64_nat (by omega)]
      refine IH (i + 1) ⟨hc, fun j hj => ?_⟩ (by omega)
      rcases Nat.lt_succ_iff_lt_or_eq.1 hj with hj | rfl
      · exact h1 j hj
      · rw [List.getElem?_eq_getElem hc]
        exact fun e => g (Option.some.inj e).symm
  · have hc := ge_of_decE hsl hc
    (conv => whnf)
    refine h _ ?_
    rw [placeI, placeOf_none.2]
    intro hm
    obtain ⟨j, hj, e⟩ := List.getElem_of_mem hm
    exact h1 j (by omega) (by rw [List.getElem?_eq_getElem hj, e])
theorem sContains_calls (l : List B) (s : B) (hl : l.length < 1000000) {R} (h : R (.val (.bool (decide (s ∈ l)))) []) : ACalls Tryz.prog 58 [.sl none 1 (strs l), vs s] [] R := by
  refine acalls_of_xwp (an := an58) tab_ok Tryz.func58 ?_
  (conv => whnf)
  refine sIndex_calls l s hl fun p hp => ?_
  have e : decide (p ≥ 0) = decide (s ∈ l) := by
    have := placeI_neg (l := l) (s := s)
    rw [← hp] at this
    by_cases hm : s ∈ l
    · rw [decide_eq_true hm, decide_eq_true]
      refine Classical.byContradiction fun hn => this.1 (by omega) hm
    · rw [decide_eq_false hm, decide_eq_false]
      have := this.2 hm
      omega
  (conv => whnf)
  rw [e]
  exact h

/-! ### the acts -/
def bxO : AObj := .cells 26 [.ptr 1 0]
def byO (b : B) : AObj := .cells 31 [.sl none 1 (byteEls b)]
theorem st1_calls (s : FSt) (aside : B) (h1 : okN s.fail) (h2 : okN s.fall) {R} (h : R (vi (s.remove aside).2) [bxO, fsC (s.remove aside).1 2, fsM (s.remove aside).1]) :
    ACalls Tryz.prog 60 [.ptr 0 0, .cptr [vs aside] 0] [bxO, fsC s 2, fsM s] R := by
  refine acalls_of_xwp (an := an60) tab_ok Tryz.func60 ?_
  (conv => whnf)
  refine Remove_calls s aside h1 h2 ?_
  (conv => whnf)
  exact h
theorem st2_calls (s : FSt) (aside b : B) (h1 : okN s.fail) (h2 : okN s.fall) (hb : b.length < 1000000) (hg : (gF s.fs aside).b.length < 100000000) {R} (h : R (vi (s.append aside b).2) [bxO, fsC (s.append aside b).1 2, fsM (s.append aside b).1, byO b]) :
    ACalls Tryz.prog 62 [.ptr 0 0, .cptr [vs aside] 0, .ptr 3 0] [bxO, fsC s 2, fsM s, byO b] R := by
  refine acalls_of_xwp (an := an62) tab_ok Tryz.func62 ?_
  (conv => whnf)
  refine Append_calls s aside b h1 h2 hb hg ?_
  (conv => whnf)
  exact h
theorem st3_calls (s : FSt) (aside : B) (h1 : okN s.fail) (h2 : okN s.fall) {R} (h : R (vi (s.sync aside).2) [bxO, fsC (s.sync aside).1 2, fsM (s.sync aside).1]) :
    ACalls Tryz.prog 63 [.ptr 0 0, .cptr [vs aside] 0] [bxO, fsC s 2, fsM s] R := by
  refine acalls_of_xwp (an := an63) tab_ok Tryz.func63 ?_
  (conv => whnf)
  refine Sync_calls s aside h1 h2 ?_
  (conv => whnf)
  exact h
theorem st4_calls (s : FSt) (aside name : B) (h1 : okN s.fail) (h2 : okN s.fall) {R} (h : R (vi (s.rename aside name).2) [bxO, fsC (s.rename aside name).1 2, fsM (s.rename aside name).1]) :
    ACalls Tryz.prog 64 [.ptr 0 0, .cptr [vs aside] 0, .cptr [vs name] 0] [bxO, fsC s 2, fsM s] R := by
  refine acalls_of_xwp (an := an64) tab_ok Tryz.func64 ?_
  (conv => whnf)
  refine Rename_calls s aside name h1 h2 ?_
  (conv => whnf)
  exact h
/-- The acts, up to the first that answers an error. -/
def run3 (s : FSt) (name aside b : B) : FSt × Int :=
  if (s.append aside b).2 ≠ 0 then s.append aside b
  else if ((s.append aside b).1.sync aside).2 ≠ 0 then (s.append aside b).1.sync aside
  else ((s.append aside b).1.sync aside).1.rename aside name
def startP (s : FSt) (name aside b : B) : FSt × Int :=
  if aside ∈ s.names then (if (s.remove aside).2 ≠ 0 then s.remove aside else run3 (s.remove aside).1 name aside b) else run3 s name aside b
def fn1 (aside : B) : AV := .fn (.func 60) [] [.ptr 1 0, .cptr [vs aside] 0]
def fn2 (aside : B) : AV := .fn (.func 62) [] [.ptr 1 0, .cptr [vs aside] 0, .ptr 4 0]
def fn3 (aside : B) : AV := .fn (.func 63) [] [.ptr 1 0, .cptr [vs aside] 0]
def fn4 (aside name : B) : AV := .fn (.func 64) [] [.ptr 1 0, .cptr [vs aside] 0, .cptr [vs name] 0]
def bx1 : AObj := .cells 26 [.ptr 2 0]
theorem run3_calls (s : FSt) (name aside b : B) {nb fb : Nat} (hk : FOk s nb fb) (hfb : fb ≤ 90000000) (hna : aside.length < 1000000) (hb : b.length < 1000000) {R}
    (h : R (vi (run3 s name aside b).2) [.fns 95 [fn2 aside, fn3 aside, fn4 aside name] 0, bx1, fsC (run3 s name aside b).1 3, fsM (run3 s name aside b).1, byO b]) :
    ACalls Tryz.prog 66 [.slv 0 0 0 0 3] [.fns 95 [fn2 aside, fn3 aside, fn4 aside name] 0, bx1, fsC s 3, fsM s, byO b] R := by
  refine acalls_of_xwp (an := an66) tab_ok Tryz.func66 ?_
  (conv => whnf)
  refine LoopP.step ?_
  (conv => whnf)
  refine ⟨rfl, ?_⟩
  (conv => whnf)
  refine st2_calls s aside b hk.fail hk.fall hb (by have := (hk.m.get aside).2; omega) ?_
  have hk2 := append_ok hk (name := aside) (b := b) hna
  (conv => whnf)
  refine br_intro (fun g => ?_) (fun g => ?_)
  · have g : (s.append aside b).2 ≠ 0 := by simpa using g
    rw [run3, if_pos g] at h
    (conv => whnf)
    exact h
  have g : ¬ (s.append aside b).2 ≠ 0 := by simpa using g
  rw [run3, if_neg g] at h
  generalize (s.append aside b).1 = s1 at h hk2 ⊢
  (conv => whnf)
  refine LoopP.step ?_
  (conv => whnf)
  refine ⟨rfl, ?_⟩
  (conv => whnf)
  refine st3_calls s1 aside hk2.fail hk2.fall ?_
  have hk3 := sync_ok hk2 (name := aside)
  (conv => whnf)
  refine br_intro (fun g2 => ?_) (fun g2 => ?_)
  · have g2 : (s1.sync aside).2 ≠ 0 := by simpa using g2
    rw [if_pos g2] at h
    (conv => whnf)
    exact h
  have g2 : ¬ (s1.sync aside).2 ≠ 0 := by simpa using g2
  rw [if_neg g2] at h
  generalize (s1.sync aside).1 = s2 at h hk3 ⊢
  (conv => whnf)
  refine LoopP.step ?_
  (conv => whnf)
  refine ⟨rfl, ?_⟩
  (conv => whnf)
  refine st4_calls s2 aside name hk3.fail hk3.fall ?_
  (conv => whnf)
  refine br_intro (fun g3 => ?_) (fun g3 => ?_)
  · (conv => whnf)
    exact h
  have g3 : (s2.rename aside name).2 = 0 := by simpa using g3
  rw [g3] at h
  (conv => whnf)
  refine LoopP.step ?_
  (conv => whnf)
  exact h
theorem run4_calls (s : FSt) (name aside b : B) {nb fb : Nat} (hk : FOk s nb fb) (hfb : fb ≤ 90000000) (hna : aside.length < 1000000) (hb : b.length < 1000000) {R}
    (h : R (vi (if (s.remove aside).2 ≠ 0 then s.remove aside else run3 (s.remove aside).1 name aside b).2) [.fns 95 [fn1 aside, fn2 aside, fn3 aside, fn4 aside name] 1, bx1, fsC (if (s.remove aside).2 ≠ 0 then s.remove aside else run3 (s.remove aside).1 name aside b).1 3, fsM (if (s.remove aside).2 ≠ 0 then s.remove aside else run3 (s.remove aside).1 name aside b).1, byO b]) :
    ACalls Tryz.prog 66 [.slv 0 0 1 0 4] [.fns 95 [fn1 aside, fn2 aside, fn3 aside, fn4 aside name] 1, bx1, fsC s 3, fsM s, byO b] R := by
  refine acalls_of_xwp (an := an66) tab_ok Tryz.func66 ?_
  (conv => whnf)
  refine LoopP.step ?_
  (conv => whnf)
  refine ⟨rfl, ?_⟩
  (conv => whnf)
  refine st1_calls s aside hk.fail hk.fall ?_
  have hk0 := remove_ok hk (name := aside)
  (conv => whnf)
  refine br_intro (fun g => ?_) (fun g => ?_)
  · have g : (s.remove aside).2 ≠ 0 := by simpa using g
    rw [if_pos g] at h
    (conv => whnf)
    exact h
  have g : ¬ (s.remove aside).2 ≠ 0 := by simpa using g
  rw [if_neg g] at h
  clear hk
  generalize (s.remove aside).1 = s at h hk0 ⊢
  have hk := hk0
  clear hk0
  (conv => whnf)
  refine LoopP.step ?_
  (conv => whnf)
  refine ⟨rfl, ?_⟩
  (conv => whnf)
  refine st2_calls s aside b hk.fail hk.fall hb (by have := (hk.m.get aside).2; omega) ?_
  have hk2 := append_ok hk (name := aside) (b := b) hna
  (conv => whnf)
  refine br_intro (fun g => ?_) (fun g => ?_)
  · have g : (s.append aside b).2 ≠ 0 := by simpa using g
    rw [run3, if_pos g] at h
    (conv => whnf)
    exact h
  have g : ¬ (s.append aside b).2 ≠ 0 := by simpa using g
  rw [run3, if_neg g] at h
  generalize (s.append aside b).1 = s1 at h hk2 ⊢
  (conv => whnf)
  refine LoopP.step ?_
  (conv => whnf)
  refine ⟨rfl, ?_⟩
  (conv => whnf)
  refine st3_calls s1 aside hk2.fail hk2.fall ?_
  have hk3 := sync_ok hk2 (name := aside)
  (conv => whnf)
  refine br_intro (fun g2 => ?_) (fun g2 => ?_)
  · have g2 : (s1.sync aside).2 ≠ 0 := by simpa using g2
    rw [if_pos g2] at h
    (conv => whnf)
    exact h
  have g2 : ¬ (s1.sync aside).2 ≠ 0 := by simpa using g2
  rw [if_neg g2] at h
  generalize (s1.sync aside).1 = s2 at h hk3 ⊢
  (conv => whnf)
  refine LoopP.step ?_
  (conv => whnf)
  refine ⟨rfl, ?_⟩
  (conv => whnf)
  refine st4_calls s2 aside name hk3.fail hk3.fall ?_
  (conv => whnf)
  refine br_intro (fun g3 => ?_) (fun g3 => ?_)
  · (conv => whnf)
    exact h
  have g3 : (s2.rename aside name).2 = 0 := by simpa using g3
  rw [g3] at h
  (conv => whnf)
  refine LoopP.step ?_
  (conv => whnf)
  exact h
theorem Start_err (s : FSt) (name aside : B) (v : Int) (l : List Rc) (e : Int) (he : e ≠ 0) (hput : ∀ {R : AV → List AObj → Prop}, R (.tup [.val (.slice none 0 0), vi e]) [] → ACalls Tryz.prog 57 [vi v, .sl none 7 (recs l)] [] R) {R} (h : R (vi e) [fsC s 1, fsM s]) :
    ACalls Tryz.prog 18 [.ptr 0 0, vs name, vs aside, vi v, .sl none 7 (recs l)] [fsC s 1, fsM s] R := by
  refine acalls_of_xwp (an := an18) tab_ok Tryz.func18 ?_
  (conv => whnf)
  refine hput ?_
  (conv => whnf)
  refine br_true (by simpa using he) ?_
  (conv => whnf)
  exact h
theorem Start_ok (s : FSt) (name aside b : B) (hne : name ≠ aside) (v : Int) (l : List Rc) {nb fb : Nat} (hk : FOk s nb fb) (hnb : nb ≤ 900000) (hfb : fb ≤ 80000000) (hna : aside.length < 1000000) (hb : b.length < 1000000)
    (hput : ∀ {R : AV → List AObj → Prop}, R (.tup [.sl none 1 (byteEls b), vi 0]) [] → ACalls Tryz.prog 57 [vi v, .sl none 7 (recs l)] [] R) {R} (h : R (vi (startP s name aside b).2) [fsC (startP s name aside b).1 1, fsM (startP s name aside b).1]) :
    ACalls Tryz.prog 18 [.ptr 0 0, vs name, vs aside, vi v, .sl none 7 (recs l)] [fsC s 1, fsM s] R := by
  refine acalls_of_xwp (an := an18) tab_ok Tryz.func18 ?_
  have hlen := hk.m.len
  have hnl : s.names.length ≤ nb := by
    rw [(names_perm s).length_eq]
    simpa [kys] using hlen
  (conv => whnf)
  refine hput ?_
  (conv => whnf)
  refine br_false (decide_eq_false (fun e => hne (ofB_inj e))) ?_
  (conv => whnf)
  refine fsNames_calls s (by omega) hk.m.names hk.m.nodup ?_
  (conv => whnf)
  refine sContains_calls s.names aside (by omega) ?_
  (conv => whnf)
  refine br_intro (fun g => ?_) (fun g => ?_)
  · have g := of_decide_eq_true g
    unfold startP at h
    rw [if_pos g] at h
    (conv => whnf)
    refine ⟨by simp only [List.length_cons, List.length_nil]; decide, ?_⟩
    (conv => whnf)
    refine ⟨⟨rfl, rfl⟩, by simp only [List.length_cons, List.length_nil]; decide, ?_⟩
    (conv => whnf)
    refine run4_calls s name aside b hk (by omega) hna hb ?_
    (conv => whnf)
    exact h
  · have g := of_decide_eq_false g
    unfold startP at h
    rw [if_neg g] at h
    (conv => whnf)
    refine ⟨by simp only [List.length_cons, List.length_nil]; decide, ?_⟩
    (conv => whnf)
    refine run3_calls s name aside b hk (by omega) hna hb ?_
    (conv => whnf)
    exact h
end Go.Abs
end

section
/- journal.Open; the chapter's example; JournalNil. -/
set_option maxRecDepth 100000
set_option maxHeartbeats 4000000
set_option linter.unusedVariables false
set_option linter.unusedSimpArgs false
namespace Go.Abs
open Go Go.Proofs Dig
attribute [local irreducible] ibits byteAt strLt firstIdx

/-- No file. -/
def zF : AV := .agg [vi 0, nlA, nlA, vi 0]
theorem Open_ok (s : FSt) (name : B) (v : Int) (l : List Rc) (hin : name ∈ kys s.fs) (hb : (gF s.fs name).b = fileP v l) (hlen : (fileP v l).length < 1000000)
    (hget : ∀ {R : AV → List AObj → Prop}, R (.tup [.agg (fileA v l), vi 0]) [] → ACalls Tryz.prog 67 [.sl none 1 (byteEls (fileP v l))] [] R) {R} (h : R (.tup [.agg (fileA v l), vi 0]) [fsC s 1, fsM s]) :
    ACalls Tryz.prog 20 [.ptr 0 0, vs name] [fsC s 1, fsM s] R := by
  refine acalls_of_xwp (an := an20) tab_ok Tryz.func20 ?_
  have hbl := bel_length (fileP v l)
  (conv => whnf)
  refine fsRead_calls s name (by rw [hb]; omega) (fun _ => ?_) (fun hno => absurd hin hno)
  rw [hb]
  (conv => whnf)
  refine hget ?_
  (conv => whnf)
  refine br_false (decide_eq_false (by rw [hbl]; omega)) ?_
  (conv => whnf)
  exact h
def jr : Rc := ⟨1, [97], 0, [], 7, 0, []⟩
theorem jr_may : ∀ r ∈ [jr], mayP 2 r = true := by decide +kernel
theorem jr_len : (fileP 2 [jr]).length < 1000000 := by
  have h := paysP_frames (v := 2) (l := [jr]) (t := []) (fun r hr => may_all (jr_may r hr)) (by simp)
  rw [fileP_len]
  simp at h
  omega
theorem fs0_fok : FOk fs0 0 0 := ⟨⟨by decide, by simp [fs0], by simp [fs0], by simp [fs0], by simp [fs0, kys]⟩, (by decide : -1 ≤ (-1 : Int) ∧ (-1 : Int) < 9223372036854775808), (by decide : -1 ≤ (-1 : Int) ∧ (-1 : Int) < 9223372036854775808)⟩
/-- A journal begun on an empty file system. -/
theorem start_fs0 (name aside b : B) (hne : name ≠ aside) : startP fs0 name aside b = (⟨[(name, ⟨b, b.length⟩)], -1, -1, false⟩, 0) := by
  have h1 : fs0.append aside b = (⟨[(aside, ⟨b, 0⟩)], -1, -1, false⟩, 0) := rfl
  have h2 : (FSt.mk [(aside, ⟨b, 0⟩)] (-1) (-1) false).sync aside = (⟨[(aside, ⟨b, b.length⟩)], -1, -1, false⟩, 0) := by
    simp [FSt.sync, FSt.may, FSt.act, lk, syncF, pt, gF, cnt]
  have h3 : (FSt.mk [(aside, ⟨b, b.length⟩)] (-1) (-1) false).rename aside name = (⟨[(name, ⟨b, b.length⟩)], -1, -1, false⟩, 0) := by
    simp [FSt.rename, FSt.may, FSt.act, lk, renF, pt, dl, gF, cnt]
  have hn : aside ∉ fs0.names := by simp [FSt.names, sortB, fs0, kys]
  unfold startP run3
  rw [if_neg hn, h1]
  simp only [h2, h3, ne_eq, not_true_eq_false, if_false]
theorem fixed14_calls {R} (h : R (.val (.bool true)) []) : ACalls Tryz.prog 13 [] [] R := by
  refine acalls_of_xwp (an := an13) tab_ok Tryz.func13 ?_
  have hle := leE.cons (le_rec2 1 [97] 0 7 0 []) rfl leE.nil
  have hs := start_fs0 [120] [121] (fileP 2 [jr]) (by decide)
  have hl := jr_len
  (conv => whnf)
  refine fsNew_calls ?_
  (conv => whnf)
  refine ACalls.args ?_ (Start_ok fs0 [120] [121] (fileP 2 [jr]) (by decide) 2 [jr] fs0_fok (by omega) (by omega) (by simp) hl (fun hR => cPut_2 [jr] (by simp) (by simp [jr]) (fun _ => hR) (fun hno => absurd jr_may hno)) ?_)
  · exact leL.cons (.refl _) (leL.cons (.refl _) (leL.cons (.refl _) (leL.cons (.refl _) (leL.cons (le_sl _ _ hle) leL.nil))))
  rw [hs]
  (conv => whnf)
  refine Open_ok ⟨[([120], ⟨fileP 2 [jr], (fileP 2 [jr]).length⟩)], -1, -1, false⟩ [120] 2 [jr] (by simp [kys]) rfl hl (fun hR => cGet_2 [jr] jr_may (by simp) hR) ?_
  (conv => whnf)
  exact h
end Go.Abs
end

section
/- Whatever act of Start fails, or falls: the journal that was there, or the new one, whole (plain; no program in sight). -/
set_option maxRecDepth 100000
set_option linter.unusedVariables false
set_option linter.unusedSimpArgs false
namespace Go.Abs
open Go Go.Proofs Dig

/-- A file that is there, all of it safe. -/
def Whole (s : FSt) (name : B) (b : B) : Prop := lk s.fs name = some ⟨b, b.length⟩
end Go.Abs
end

section
/- JournalStart. -/
set_option maxRecDepth 100000
set_option maxHeartbeats 4000000
set_option linter.unusedVariables false
set_option linter.unusedSimpArgs false
namespace Go.Abs
open Go Go.Proofs Dig
attribute [local irreducible] ibits byteAt strLt firstIdx

def logB : B := [108, 111, 103]
def newB : B := [110, 101, 119]
def is3 (v : Int) : Prop := v = 1 ∨ v = 2 ∨ v = 3
theorem cPut_any {v : Int} (hv : is3 v) (l : List Rc) (hl : l.length ≤ 1000) (hd : ∀ r ∈ l, r.deps.length < 100000) {R} (hy : (∀ r ∈ l, mayP v r = true) → R (.tup [.sl none 1 (byteEls (fileP v l)), vi 0]) []) (hn : (¬ ∀ r ∈ l, mayP v r = true) → R (.tup [.val (.slice none 0 0), vi 1]) []) :
    ACalls Tryz.prog 57 [vi v, .sl none 7 (recs l)] [] R := by
  rcases hv with rfl | rfl | rfl
  · exact cPut_1 l hl hd hy hn
  · exact cPut_2 l hl hd hy hn
  · exact cPut_3 l hl hd hy hn
theorem fileP_small {v : Int} {l : List Rc} (hm : ∀ r ∈ l, mayP v r = true) (hl : l.length ≤ 300) : (fileP v l).length < 1000000 := by
  have h := paysP_frames (v := v) (l := l) (t := []) (fun r hr => may_all (hm r hr)) (by simp; omega)
  rw [fileP_len]
  omega
theorem log_new : logB ≠ newB := by decide
def fsL (F : B) : FSt := ⟨[(logB, ⟨F, F.length⟩)], -1, -1, false⟩
theorem fsL_ok (F : B) : FOk (fsL F) 1 F.length := ⟨⟨by simp [fsL, kys], by simp [fsL], by simp [fsL], by simp [fsL], by simp [fsL, kys, logB]⟩, (by decide : -1 ≤ (-1 : Int) ∧ (-1 : Int) < 9223372036854775808), (by decide : -1 ≤ (-1 : Int) ∧ (-1 : Int) < 9223372036854775808)⟩
theorem fsL_whole (F : B) : Whole (fsL F) logB F := by simp [Whole, fsL, lk]
theorem begun_calls {v : Int} (hv : is3 v) (l : List Rc) (hl : l.length ≤ 300) (hd : ∀ r ∈ l, r.deps.length < 100000) {R}
    (hy : (∀ r ∈ l, mayP v r = true) → R (.tup [.ptr 0 0, .val (.bool true)]) [fsC (fsL (fileP v l)) 1, fsM (fsL (fileP v l))]) (hn : (¬ ∀ r ∈ l, mayP v r = true) → R (.tup [.ptr 0 0, .val (.bool false)]) [fsC fs0 1, fsM fs0]) :
    ACalls Tryz.prog 14 [vi v, .sl none 7 (recs l)] [] R := by
  refine acalls_of_xwp (an := an14) tab_ok Tryz.func14 ?_
  (conv => whnf)
  refine fsNew_calls ?_
  (conv => whnf)
  by_cases hm : ∀ r ∈ l, mayP v r = true
  · have hs := fileP_small hm hl
    have hst := start_fs0 logB newB (fileP v l) log_new
    refine Start_ok fs0 logB newB (fileP v l) log_new v l fs0_fok (by omega) (by omega) (by decide) hs (fun hR => cPut_any hv l (by omega) hd (fun _ => hR) (fun hno => absurd hm hno)) ?_
    rw [hst]
    (conv => whnf)
    exact hy hm
  · refine Start_err fs0 logB newB v l 1 (by decide) (fun hR => cPut_any hv l (by omega) hd (fun hy => absurd hy hm) (fun _ => hR)) ?_
    (conv => whnf)
    exact hn hm
theorem fall_ok {s : FSt} {nb fb : Nat} (h : FOk s nb fb) {n : Int} (hn : -9223372036854775808 ≤ n ∧ n < 9223372036854775808) : FOk ⟨s.fs, s.fail, capN n, s.down⟩ nb fb := ⟨h.m, h.fail, capN_ok hn⟩
theorem typed_four {x : List AV} (h : Typed tab 12 23 x) : ∃ a b c d : Int, x = [.val (.int .u8 a), .val (.int .u8 b), .val (.int .u8 c), .val (.int .u8 d)] ∧ (0 ≤ a ∧ a ≤ 255) ∧ (0 ≤ b ∧ b ≤ 255) ∧ (0 ≤ c ∧ c ≤ 255) ∧ (0 ≤ d ∧ d ≤ 255) := by
  have h : TypedF (Typed tab 11) [5, 5, 5, 5] x := h
  have k : ∀ z : List AV, Typed tab 11 5 z → ∃ a : Int, z = [.val (.int .u8 a)] ∧ (0 ≤ a ∧ a ≤ 255) := fun z hz => by
    obtain ⟨x, e, hx⟩ : ∃ x, z = [.val (.int .u8 x)] ∧ (Lit.int .u8 x).wf = true := hz
    simp only [Lit.wf, Bool.and_eq_true, decide_eq_true_eq] at hx
    have e1 : IntKind.u8.min = 0 := rfl
    have e2 : IntKind.u8.max = 255 := rfl
    rw [e1, e2] at hx
    exact ⟨x, e, hx⟩
  obtain ⟨p, q, rfl, h1, r, s, rfl, h2, t, u, rfl, h3, v, w, rfl, h4, rfl⟩ := h
  obtain ⟨a, rfl, ha⟩ := k p h1
  obtain ⟨b, rfl, hb⟩ := k r h2
  obtain ⟨c, rfl, hc⟩ := k t h3
  obtain ⟨d, rfl, hd⟩ := k v h4
  exact ⟨a, b, c, d, rfl, ha, hb, hc, hd⟩
end Go.Abs
end

section
/- journal.table, frames, Append. -/
set_option maxRecDepth 100000
set_option maxHeartbeats 4000000
set_option linter.unusedVariables false
set_option linter.unusedSimpArgs false
namespace Go.Abs
open Go Go.Proofs Dig
attribute [local irreducible] ibits byteAt strLt firstIdx

theorem table_3 (l : List Rc) (hl : l.length ≤ 1000) (hm : ∀ r ∈ l, mayP 3 r = true) (x : AV) (hx : x = .sl none 1 (ints (endsR 3 l))) (n : Int) {R} (h : R (.tup [.ptr 0 0, vi 0]) (tblS (tblL 3 [] l))) :
    ACalls Tryz.prog 70 [.agg [vi 3, .sl none 7 (recs l), x, vi n]] [] R := by
  subst hx
  refine acalls_of_xwp (an := an70) tab_ok Tryz.func70 ?_
  have hsl := recs_length l
  (conv => whnf)
  refine New_nil ?_
  (conv => whnf)
  by_cases hl0 : l = []
  · subst hl0
    refine LoopP.step ?_
    (conv => whnf)
    exact h
  have hi : 0 < l.length := List.length_pos_iff.2 hl0
  rw [tblS_ne (show tblL 3 [] l ≠ [] from by
    obtain ⟨j, hj⟩ : ∃ j, l.length = j + 1 := ⟨l.length - 1, by omega⟩
    have e : tblL 3 [] l = tbP 3 l (j + 1) := by unfold tbP; rw [← hj, List.take_length]
    rw [e, tbP_succ (by omega)]
    exact addT_ne (by decide) _ _)] at h
  refine LoopP.step ?_
  (conv => whnf)
  refine br_true (by rw [hsl]; exact decide_eq_true (by omega)) ?_
  (conv => whnf); (repeat ((with_reducible refine must_intro ?_ ?_); exact decide_eq_true (by omega); (conv => whnf)))
  refine idxK_map_intro (show (0 : Int).toNat < l.length by simpa using hi) ?_
  rw [show l[(0 : Int).toNat]'(by simpa using hi) = l[0] from rfl]
  (conv => whnf)
  refine sPut_3F l[0] (hm _ (List.getElem_mem hi)) ?_
  (conv => whnf)
  rw [show IntKind.i64.wrap ((0 : Int) + 1) = ((1 : Nat) : Int) from rfl]
  have hT1 : addT 3 [] l[0] = tbP 3 l 1 := (tbP_succ hi).symm
  rw [hT1]
  refine LoopP.ind2 (fun (i : Nat) (T : List B) => [(13, vi i)]) (fun i T => [(freshN 9 0, tblO (freshN 22 0) (freshN 22 1) T), (freshN 22 0, tblR T), (freshN 22 1, tblM T)]) (fun i _ => l.length - i) (fun i T => 1 ≤ i ∧ i ≤ l.length ∧ T = tbP 3 l i) 1 _ rfl ⟨by omega, hi, rfl⟩ ?_
  rintro i T ⟨h00, h0, hT⟩ IH
  (conv => whnf)
  refine br_intro (fun hc => ?_) (fun hc => ?_)
  · have hi := lt_of_decE hsl hc
    have hmt : ∀ r ∈ l.take i, mayP 3 r = true := fun r hr => hm r (List.mem_of_mem_take hr)
    have hTl : T.length ≤ 18000 := by rw [hT]; exact tbP_len hl hmt
    have IH := IH (i + 1) _ ⟨by omega, hi, rfl⟩ (by omega)
    rw [tbP_succ hi, ← hT] at IH
    (conv => whnf); (repeat ((with_reducible refine must_intro ?_ ?_); exact decide_eq_true (by omega); (conv => whnf)))
    refine idxK_map_intro (show (i : Int).toNat < l.length by simpa using hi) ?_
    rw [show l[(i : Int).toNat]'(by simpa using hi) = l[i] from by congr 1]
    (conv => whnf)
    refine sPut_3O l[i] T (by omega) (hm _ (List.getElem_mem hi)) ?_
    (conv => whnf)
    rw [i64_nat (by omega)]
    exact IH
  · have hi := ge_of_decE hsl hc
    rw [show tbP 3 l i = tblL 3 [] l from by unfold tbP; rw [List.take_of_length_le hi]] at hT
    subst hT
    (conv => whnf)
    exact h
theorem jframes_3 (r : Rc) (hm : mayP 3 r = true) (t : List B) (ht : t.length < 80000) {R} (h : R (.tup [.sl none 1 (byteEls (framesP (payP 3 t r))), vi 0]) (tblS (addT 3 t r))) :
    ACalls Tryz.prog 71 [vi 3, .ptr 0 0, .agg r.enc] (tblS t) R := by
  refine acalls_of_xwp (an := { an71 with keep := [(4, [1, 9, 10, 20, 21, 22])] }) tab_ok Tryz.func71 ?_
  rw [tblS_ne (addT_ne (by decide) t r)] at h
  by_cases h0 : t = []
  · subst h0
    obtain ⟨t, ht0⟩ : ∃ t : List B, t = [] := ⟨_, rfl⟩
    rw [show tblS [] = [tblF] from rfl]
    (conv => whnf)
    refine sPut_3F r hm ?_
    rw [← ht0] at h ⊢
    have ht : t.length < 80000 := by rw [ht0]; simp
    have hpl := payP_lens (t := t) (may_all hm) (by omega)
    have hpf := payP_frames (t := t) (may_all hm) (by omega)
    have hpc := payP_len (v := 3) (t := t) (may_all hm).deps
    generalize hps : payP 3 t r = ps at hpl hpf hpc h ⊢
    have hrl := rowsB_length ps
    (conv => whnf)
    refine LoopP.step ?_
    (conv => whnf)
    refine br_true (by rw [hrl]; exact decide_eq_true (by omega)) ?_
    (conv => whnf); (repeat ((with_reducible refine must_intro ?_ ?_); exact decide_eq_true (by omega); (conv => whnf)))
    refine idxK_map_intro (show (0 : Int).toNat < ps.length from by show 0 < ps.length; omega) ?_
    rw [show ps[(0 : Int).toNat]'(by show 0 < ps.length; omega) = ps[0] from rfl]
    (conv => whnf)
    refine ACalls.args (leL.cons (le_nil 1) (leL.refl _)) (framePut_calls [] ps[0] (by simp) (hpl _ (List.getElem_mem _)).1 (hpl _ (List.getElem_mem _)).2 ?_)
    have h1 : frameP ps[0] = framesP (ps.take 1) := by
      rw [show ps.take 1 = [] ++ [ps[0]] from by cases ps with | nil => simp at hpc | cons a l => rfl, framesP_snoc]
      rfl
    rw [List.nil_append, h1]
    (conv => whnf)
    rw [show IntKind.i64.wrap ((0 : Int) + 1) = ((1 : Nat) : Int) from rfl]
    refine LoopP.ind2 (fun (k : Nat) (c : B) => [(10, .sl none 1 (byteEls c)), (22, vi k)]) (fun k c => [(0, tblO (freshN 17 0) (freshN 17 1) (addT 3 t r)), (freshN 17 0, tblR (addT 3 t r)), (freshN 17 1, tblM (addT 3 t r))]) (fun k _ => ps.length - k) (fun k c => k ≤ ps.length ∧ c = framesP (ps.take k)) 1 _ rfl ⟨by omega, rfl⟩ ?_
    rintro k c ⟨hk0, hc0⟩ IH2
    have hcl : c.length ≤ 3008 := by have := framesP_part ps k; rw [hc0]; omega
    (conv => whnf)
    refine br_intro (fun hk => ?_) (fun hk => ?_)
    · have hk := lt_of_decE hrl hk
      have hp := hpl _ (List.getElem_mem hk)
      have hS : c ++ frameP ps[k] = framesP (ps.take (k + 1)) := by
        rw [hc0, List.take_succ_eq_append_getElem hk, framesP_snoc]
      have IH2 := IH2 (k + 1) _ ⟨hk, hS⟩ (by omega)
      (conv => whnf); (repeat ((with_reducible refine must_intro ?_ ?_); exact decide_eq_true (by omega); (conv => whnf)))
      refine idxK_map_intro (show (k : Int).toNat < ps.length by simpa using hk) ?_
      rw [show ps[(k : Int).toNat]'(by simpa using hk) = ps[k] from by congr 1]
      (conv => whnf)
      refine framePut_calls c ps[k] (by omega) hp.1 hp.2 ?_
      (conv => whnf)
      rw [i64_nat (by omega)]
      exact IH2
    · have hk := ge_of_decE hrl hk
      rw [List.take_of_length_le hk] at hc0
      subst hc0
      (conv => whnf)
      exact h
  · rw [tblS_ne h0]
    (conv => whnf)
    refine sPut_3O r t (by omega) hm ?_
    have hpl := payP_lens (t := t) (may_all hm) (by omega)
    have hpf := payP_frames (t := t) (may_all hm) (by omega)
    have hpc := payP_len (v := 3) (t := t) (may_all hm).deps
    generalize hps : payP 3 t r = ps at hpl hpf hpc h ⊢
    have hrl := rowsB_length ps
    (conv => whnf)
    refine LoopP.step ?_
    (conv => whnf)
    refine br_true (by rw [hrl]; exact decide_eq_true (by omega)) ?_
    (conv => whnf); (repeat ((with_reducible refine must_intro ?_ ?_); exact decide_eq_true (by omega); (conv => whnf)))
    refine idxK_map_intro (show (0 : Int).toNat < ps.length from by show 0 < ps.length; omega) ?_
    rw [show ps[(0 : Int).toNat]'(by show 0 < ps.length; omega) = ps[0] from rfl]
    (conv => whnf)
    refine ACalls.args (leL.cons (le_nil 1) (leL.refl _)) (framePut_calls [] ps[0] (by simp) (hpl _ (List.getElem_mem _)).1 (hpl _ (List.getElem_mem _)).2 ?_)
    have h1 : frameP ps[0] = framesP (ps.take 1) := by
      rw [show ps.take 1 = [] ++ [ps[0]] from by cases ps with | nil => simp at hpc | cons a l => rfl, framesP_snoc]
      rfl
    rw [List.nil_append, h1]
    (conv => whnf)
    rw [show IntKind.i64.wrap ((0 : Int) + 1) = ((1 : Nat) : Int) from rfl]
    refine LoopP.ind2 (fun (k : Nat) (c : B) => [(10, .sl none 1 (byteEls c)), (22, vi k)]) (fun k c => [(0, tblO 1 2 (addT 3 t r)), (1, tblR (addT 3 t r)), (2, tblM (addT 3 t r))]) (fun k _ => ps.length - k) (fun k c => k ≤ ps.length ∧ c = framesP (ps.take k)) 1 _ rfl ⟨by omega, rfl⟩ ?_
    rintro k c ⟨hk0, hc0⟩ IH2
    have hcl : c.length ≤ 3008 := by have := framesP_part ps k; rw [hc0]; omega
    (conv => whnf)
    refine br_intro (fun hk => ?_) (fun hk => ?_)
    · have hk := lt_of_decE hrl hk
      have hp := hpl _ (List.getElem_mem hk)
      have hS : c ++ frameP ps[k] = framesP (ps.take (k + 1)) := by
        rw [hc0, List.take_succ_eq_append_getElem hk, framesP_snoc]
      have IH2 := IH2 (k + 1) _ ⟨hk, hS⟩ (by omega)
      (conv => whnf); (repeat ((with_reducible refine must_intro ?_ ?_); exact decide_eq_true (by omega); (conv => whnf)))
      refine idxK_map_intro (show (k : Int).toNat < ps.length by simpa using hk) ?_
      rw [show ps[(k : Int).toNat]'(by simpa using hk) = ps[k] from by congr 1]
      (conv => whnf)
      refine framePut_calls c ps[k] (by omega) hp.1 hp.2 ?_
      (conv => whnf)
      rw [i64_nat (by omega)]
      exact IH2
    · have hk := ge_of_decE hrl hk
      rw [List.take_of_length_le hk] at hc0
      subst hc0
      (conv => whnf)
      exact h
theorem rCloneO_calls (l : List Rc) (hl : l.length < 1000000) {R} (h1 : l = [] → R (.val (.slice none 0 0)) []) (h2 : R (.sl (some 0) 7 (recs l)) [.row 45 7 (recs l).length]) :
    ACalls Tryz.prog 72 [.sl none 7 (recs l)] [] R := by
  refine acalls_of_xwp (an := an72) tab_ok Tryz.func72 ?_
  have hsl := recs_length l
  (conv => whnf)
  intro b hb
  refine br_intro (fun g => ?_) (fun g => ?_)
  · have e := hb g
    have e : l = [] := by
      cases l with
      | nil => rfl
      | cons r l => simp [recs] at e
    (conv => whnf)
    exact h1 e
  · (conv => whnf)
    refine ⟨rfl, (by show (0 + (recs l).length) * (88 + 1) ≤ _; omega), ?_⟩
    (conv => whnf)
    rw [show [].length + (recs l).length = (recs l).length by simp, show [] ++ recs l = recs l from rfl]
    exact h2
theorem iCloneO_calls (b : List Nat) (hb : b.length < 1000000) {R} (h1 : b = [] → R (.val (.slice none 0 0)) []) (h : R (.sl (some 0) 1 (ints b)) [.row 3 1 b.length]) : ACalls Tryz.prog 74 [.sl none 1 (ints b)] [] R := by
  refine acalls_of_xwp (an := { an74 with keepRes := true }) tab_ok Tryz.func74 ?_
  have hsl := ints_length b
  (conv => whnf)
  intro p hp
  refine br_intro (fun g => ?_) (fun g => ?_)
  · have e := hp g
    have e : b = [] := by cases b with | nil => rfl | cons a b => cases e
    (conv => whnf)
    exact h1 e
  · (conv => whnf)
    refine ⟨rfl, (by show (0 + (ints b).length) * (8 + 1) ≤ _; omega), ?_⟩
    (conv => whnf)
    rw [show [] ++ ints b = ints b from rfl, hsl, show [].length + b.length = b.length by simp]
    exact h
end Go.Abs
end

section
/- journal.Append. -/
set_option maxRecDepth 100000
set_option maxHeartbeats 4000000
set_option linter.unusedVariables false
set_option linter.unusedSimpArgs false
namespace Go.Abs
open Go Go.Proofs Dig
attribute [local irreducible] ibits byteAt strLt firstIdx

/-- What is laid behind a file for one record more. -/
def moreP (v : Int) (l : List Rc) (r : Rc) : B := framesP (payP v (tblL v [] l) r)
theorem fileP_snoc (v : Int) (l : List Rc) (r : Rc) : fileP v (l ++ [r]) = fileP v l ++ moreP v l r := by
  unfold fileP moreP
  rw [paysP_append, framesP_append, List.append_assoc]
  simp [paysP]
theorem endsR_snoc (v : Int) (l : List Rc) (r : Rc) : endsR v (l ++ [r]) = endsR v l ++ [(fileP v (l ++ [r])).length] := by
  unfold endsR
  rw [List.length_append, List.length_singleton, List.range_succ, List.map_append]
  congr 1
  · refine List.map_congr_left fun i hi => ?_
    have hi := List.mem_range.1 hi
    rw [List.take_append_of_le_length (by omega)]
  · rw [List.map_singleton, show l.length + 1 = (l ++ [r]).length by simp, List.take_length]
theorem recs_snoc (l : List Rc) (r : Rc) : recs (l ++ [r]) = recs l ++ [r.enc] := by simp [recs]
theorem ints_snoc (l : List Nat) (n : Nat) : ints (l ++ [n]) = ints l ++ [[vi (n : Int)]] := by simp [ints]
theorem jframes_F (r : Rc) (hm : mayP 3 r = true) (t : List B) (ht : t = []) {R} (h : R (.tup [.sl none 1 (byteEls (framesP (payP 3 t r))), vi 0]) [tblO 1 2 (addT 3 t r), tblR (addT 3 t r), tblM (addT 3 t r)]) :
    ACalls Tryz.prog 71 [vi 3, .ptr 0 0, .agg r.enc] [tblF] R := by
  have h1 := jframes_3 r hm t (by rw [ht]; simp) (R := R)
  rw [tblS_ne (addT_ne (by decide) t r)] at h1
  have h2 := h1 h
  rw [ht] at h2
  exact h2
theorem jframes_O (r : Rc) (hm : mayP 3 r = true) (t : List B) (ht : t ≠ []) (hl : t.length < 80000) {R} (h : R (.tup [.sl none 1 (byteEls (framesP (payP 3 t r))), vi 0]) [tblO 1 2 (addT 3 t r), tblR (addT 3 t r), tblM (addT 3 t r)]) :
    ACalls Tryz.prog 71 [vi 3, .ptr 0 0, .agg r.enc] [tblO 1 2 t, tblR t, tblM t] R := by
  have h1 := jframes_3 r hm t hl (R := R)
  rw [tblS_ne (addT_ne (by decide) t r)] at h1
  have h2 := h1 h
  rw [tblS_ne ht] at h2
  exact h2
theorem jAppend_3 (s : FSt) (name : B) (hn : name.length < 1000000) {nb fb : Nat} (hk : FOk s nb fb) (hfb : fb ≤ 80000000) (l : List Rc) (hl : l.length ≤ 300) (hm : ∀ r ∈ l, mayP 3 r = true) (r : Rc) (hr : mayP 3 r = true) {R}
    (h1 : (s.append name (moreP 3 l r)).2 ≠ 0 → R (.tup [zF, vi (s.append name (moreP 3 l r)).2]) [fsC (s.append name (moreP 3 l r)).1 1, fsM (s.append name (moreP 3 l r)).1])
    (h2 : (s.append name (moreP 3 l r)).2 = 0 → R (.tup [.agg (fileA 3 (l ++ [r])), vi 0]) [fsC (s.append name (moreP 3 l r)).1 1, fsM (s.append name (moreP 3 l r)).1]) :
    ACalls Tryz.prog 23 [.ptr 0 0, vs name, .agg (fileA 3 l), .agg r.enc] [fsC s 1, fsM s] R := by
  refine ACalls.res ?_
  refine acalls_of_xwp (an := an23) tab_ok Tryz.func23 ?_
  have hM : ∀ x ∈ l, MayR 3 x := fun x hx => may_all (hm x hx)
  have hMr := may_all hr
  have hfl := fileP_small hm hl
  have htl := tblL_len (v := 3) (l := l) (t := []) hM
  simp at htl
  have hpf := payP_frames (v := 3) (t := tblL 3 [] l) hMr (by omega)
  have hsl := recs_length l
  have hel := endsR_length 3 l
  have hil := ints_length (endsR 3 l)
  have hml : (moreP 3 l r).length ≤ 3000 := hpf
  (conv => whnf)
  refine table_3 l (by omega) hm _ rfl _ ?_
  obtain ⟨T, hT⟩ : ∃ T, T = tblL 3 [] l := ⟨_, rfl⟩
  have hmo : moreP 3 l r = framesP (payP 3 T r) := by rw [hT]; rfl
  rw [← hT] at htl ⊢
  rw [hmo] at h1 h2 hml
  have hend : IntKind.i64.wrap (((fileP 3 l).length : Int) + ((byteEls (framesP (payP 3 T r))).length : Int)) = ((fileP 3 (l ++ [r])).length : Int) := by
    rw [fileP_snoc, hmo, List.length_append, bel_length, wrap_i64 (by omega) (by omega)]
    omega
  by_cases hl0 : T = []
  · rw [show tblS T = [tblF] from by rw [hl0]; rfl]
    (conv => whnf)
    refine jframes_F r hr T hl0 ?_
    (conv => whnf)
    refine Append_calls s name (framesP (payP 3 T r)) hk.fail hk.fall (by omega) (by have := (hk.m.get name).2; omega) ?_
    (conv => whnf)
    refine br_intro (fun g => ?_) (fun g => ?_)
    · (conv => whnf)
      exact res_same (h1 (by simpa using g))
    have h2 := h2 (by simpa using g)
    generalize framesP (payP 3 T r) = F at hml hend h2 ⊢
    (conv => whnf)
    rw [hend]
    refine rCloneO_calls l (by omega) (fun e => ?_) ?_
    · (conv => whnf)
      refine Clone_calls r (by have := hMr.deps; omega) ?_
      (conv => whnf)
      refine ⟨by rw [bytes_rec]; simp only [List.length_cons, List.length_nil]; decide, ?_⟩
      (conv => whnf)
      obtain ⟨X, hXX⟩ : ∃ X, X = [r.enc] := ⟨_, rfl⟩
      have hX : recs (l ++ [r]) = X := by rw [recs_snoc, e, hXX]; rfl
      refine iCloneO_calls (endsR 3 l) (by omega) (fun e2 => ?_) ?_
      · (conv => whnf)
        refine ⟨by rw [bytes_int]; simp only [List.length_cons, List.length_nil]; decide, ?_⟩
        (conv => whnf)
        have er : fileA 3 (l ++ [r]) = [vi 3, .sl none 7 X, .sl none 1 [[vi ((fileP 3 (l ++ [r])).length : Int)]], vi ((fileP 3 (l ++ [r])).length : Int)] := by
          unfold fileA
          rw [endsR_snoc, e2, ← hX]
          rfl
        rw [er, hXX] at h2
        exact res_same h2
      · (conv => whnf)
        refine ⟨hil.symm, by rw [hil, hel, bytes_int]; simp only [List.length_cons, List.length_nil]; omega, ?_⟩
        (conv => whnf)
        have er : fileA 3 (l ++ [r]) = [vi 3, .sl none 7 X, .sl none 1 (ints (endsR 3 l) ++ [[vi ((fileP 3 (l ++ [r])).length : Int)]]), vi ((fileP 3 (l ++ [r])).length : Int)] := by
          unfold fileA
          rw [← hX, endsR_snoc, ints_snoc]
        rw [er, hXX] at h2
        exact res_same h2
    · (conv => whnf)
      refine Clone_calls r (by have := hMr.deps; omega) ?_
      (conv => whnf)
      refine ⟨rfl, by rw [bytes_rec, hsl]; simp only [List.length_cons, List.length_nil]; omega, ?_⟩
      (conv => whnf)
      obtain ⟨X, hXX⟩ : ∃ X, X = recs l ++ [r.enc] := ⟨_, rfl⟩
      have hX : recs (l ++ [r]) = X := by rw [recs_snoc, hXX]
      refine iCloneO_calls (endsR 3 l) (by omega) (fun e2 => ?_) ?_
      · (conv => whnf)
        refine ⟨by rw [bytes_int]; simp only [List.length_cons, List.length_nil]; decide, ?_⟩
        (conv => whnf)
        have er : fileA 3 (l ++ [r]) = [vi 3, .sl none 7 X, .sl none 1 [[vi ((fileP 3 (l ++ [r])).length : Int)]], vi ((fileP 3 (l ++ [r])).length : Int)] := by
          unfold fileA
          rw [endsR_snoc, e2, ← hX]
          rfl
        rw [er, hXX] at h2
        exact res_same h2
      · (conv => whnf)
        refine ⟨hil.symm, by rw [hil, hel, bytes_int]; simp only [List.length_cons, List.length_nil]; omega, ?_⟩
        (conv => whnf)
        have er : fileA 3 (l ++ [r]) = [vi 3, .sl none 7 X, .sl none 1 (ints (endsR 3 l) ++ [[vi ((fileP 3 (l ++ [r])).length : Int)]]), vi ((fileP 3 (l ++ [r])).length : Int)] := by
          unfold fileA
          rw [← hX, endsR_snoc, ints_snoc]
        rw [er, hXX] at h2
        exact res_same h2
  · rw [tblS_ne hl0]
    (conv => whnf)
    refine jframes_O r hr T hl0 (by omega) ?_
    (conv => whnf)
    refine Append_calls s name (framesP (payP 3 T r)) hk.fail hk.fall (by omega) (by have := (hk.m.get name).2; omega) ?_
    (conv => whnf)
    refine br_intro (fun g => ?_) (fun g => ?_)
    · (conv => whnf)
      exact res_same (h1 (by simpa using g))
    have h2 := h2 (by simpa using g)
    generalize framesP (payP 3 T r) = F at hml hend h2 ⊢
    (conv => whnf)
    rw [hend]
    refine rCloneO_calls l (by omega) (fun e => ?_) ?_
    · (conv => whnf)
      refine Clone_calls r (by have := hMr.deps; omega) ?_
      (conv => whnf)
      refine ⟨by rw [bytes_rec]; simp only [List.length_cons, List.length_nil]; decide, ?_⟩
      (conv => whnf)
      obtain ⟨X, hXX⟩ : ∃ X, X = [r.enc] := ⟨_, rfl⟩
      have hX : recs (l ++ [r]) = X := by rw [recs_snoc, e, hXX]; rfl
      refine iCloneO_calls (endsR 3 l) (by omega) (fun e2 => ?_) ?_
      · (conv => whnf)
        refine ⟨by rw [bytes_int]; simp only [List.length_cons, List.length_nil]; decide, ?_⟩
        (conv => whnf)
        have er : fileA 3 (l ++ [r]) = [vi 3, .sl none 7 X, .sl none 1 [[vi ((fileP 3 (l ++ [r])).length : Int)]], vi ((fileP 3 (l ++ [r])).length : Int)] := by
          unfold fileA
          rw [endsR_snoc, e2, ← hX]
          rfl
        rw [er, hXX] at h2
        exact res_same h2
      · (conv => whnf)
        refine ⟨hil.symm, by rw [hil, hel, bytes_int]; simp only [List.length_cons, List.length_nil]; omega, ?_⟩
        (conv => whnf)
        have er : fileA 3 (l ++ [r]) = [vi 3, .sl none 7 X, .sl none 1 (ints (endsR 3 l) ++ [[vi ((fileP 3 (l ++ [r])).length : Int)]]), vi ((fileP 3 (l ++ [r])).length : Int)] := by
          unfold fileA
          rw [← hX, endsR_snoc, ints_snoc]
        rw [er, hXX] at h2
        exact res_same h2
    · (conv => whnf)
      refine Clone_calls r (by have := hMr.deps; omega) ?_
      (conv => whnf)
      refine ⟨rfl, by rw [bytes_rec, hsl]; simp only [List.length_cons, List.length_nil]; omega, ?_⟩
      (conv => whnf)
      obtain ⟨X, hXX⟩ : ∃ X, X = recs l ++ [r.enc] := ⟨_, rfl⟩
      have hX : recs (l ++ [r]) = X := by rw [recs_snoc, hXX]
      refine iCloneO_calls (endsR 3 l) (by omega) (fun e2 => ?_) ?_
      · (conv => whnf)
        refine ⟨by rw [bytes_int]; simp only [List.length_cons, List.length_nil]; decide, ?_⟩
        (conv => whnf)
        have er : fileA 3 (l ++ [r]) = [vi 3, .sl none 7 X, .sl none 1 [[vi ((fileP 3 (l ++ [r])).length : Int)]], vi ((fileP 3 (l ++ [r])).length : Int)] := by
          unfold fileA
          rw [endsR_snoc, e2, ← hX]
          rfl
        rw [er, hXX] at h2
        exact res_same h2
      · (conv => whnf)
        refine ⟨hil.symm, by rw [hil, hel, bytes_int]; simp only [List.length_cons, List.length_nil]; omega, ?_⟩
        (conv => whnf)
        have er : fileA 3 (l ++ [r]) = [vi 3, .sl none 7 X, .sl none 1 (ints (endsR 3 l) ++ [[vi ((fileP 3 (l ++ [r])).length : Int)]]), vi ((fileP 3 (l ++ [r])).length : Int)] := by
          unfold fileA
          rw [← hX, endsR_snoc, ints_snoc]
        rw [er, hXX] at h2
        exact res_same h2
end Go.Abs
end

section
/- A file that is cut off (plain; no program in sight). -/
set_option maxRecDepth 100000
set_option linter.unusedVariables false
set_option linter.unusedSimpArgs false
namespace Go.Abs
open Go Go.Proofs Dig
attribute [local irreducible] ibits byteAt strLt firstIdx

theorem framesP_cons (p : B) (P : List B) : framesP (p :: P) = frameP p ++ framesP P := rfl
theorem cut_frames : ∀ (P : List B) (m : Nat), (∀ p ∈ P, 1 ≤ p.length ∧ p.length ≤ 2048) → m ≤ (framesP P).length →
    ∃ (c : Nat) (t : B), c ≤ P.length ∧ (framesP P).take m = framesP (P.take c) ++ t ∧ EndAt t ∧ t.length < 3000 ∧ (c < P.length → m < (framesP (P.take (c + 1))).length) := by
  intro P
  induction P with
  | nil =>
    intro m _ hm
    exact ⟨0, [], by simp, by simp [framesP], .inl rfl, by simp, fun h => by simp at h⟩
  | cons p P ih =>
    intro m hP hm
    have hp := hP p List.mem_cons_self
    have hfl := frameP_len hp.2
    rw [framesP_cons] at hm ⊢
    by_cases hlt : m < (frameP p).length
    · refine ⟨0, (frameP p).take m, by simp, ?_, ?_, by rw [List.length_take]; omega, fun _ => ?_⟩
      · rw [List.take_append_of_le_length (by omega)]
        simp [framesP]
      · by_cases h0 : m = 0
        · exact .inl (by rw [h0]; rfl)
        · exact .inr ⟨p, m, hp.1, hp.2, by omega, hlt, rfl⟩
      · rw [List.take_succ_cons, List.take_zero, framesP_cons, List.length_append]
        omega
    · obtain ⟨m', rfl⟩ : ∃ m', m = (frameP p).length + m' := ⟨m - (frameP p).length, by omega⟩
      rw [List.length_append] at hm
      obtain ⟨c, t, h1, h2, h3, h4, h5⟩ := ih m' (fun q hq => hP q (List.mem_cons_of_mem _ hq)) (by omega)
      refine ⟨c + 1, t, by simpa using h1, ?_, h3, h4, fun h => ?_⟩
      · rw [List.take_length_add_append, h2, List.take_succ_cons, framesP_cons, List.append_assoc]
      · rw [List.take_succ_cons, framesP_cons, List.length_append]
        have := h5 (by simpa using h)
        omega
theorem cut_recs {v : Int} (hv : v ≠ 1) : ∀ (l : List Rc) (T : List B) (c : Nat), (∀ r ∈ l, MayR v r) → c ≤ (paysP v T l).length →
    ∃ (j : Nat) (ms : List B), j ≤ l.length ∧ (paysP v T l).take c = paysP v T (l.take j) ++ ms.map defP ∧ ms.length < 100 ∧ (∀ m ∈ ms, m.length ≤ 64) ∧ ∀ i, i ≤ l.length → (paysP v T (l.take i)).length ≤ c → i ≤ j := by
  intro l
  induction l with
  | nil =>
    intro T c _ hc
    exact ⟨0, [], by simp, by simp [paysP], by simp, by simp, fun i hi _ => by simpa using hi⟩
  | cons r l ih =>
    intro T c hM hc
    have hMr := hM r List.mem_cons_self
    have hd := hMr.deps
    rw [paysP] at hc ⊢
    by_cases hlt : c < (payP v T r).length
    · have hnl := news_len (namesR r) T
      have hnr := namesR_len r
      have hpp : payP v T r = (newsP T (namesR r)).map defP ++ [lastW v (addT v T r) r] := by
        unfold payP defsP
        rw [if_neg hv]
      have hcl : c ≤ (newsP T (namesR r)).length := by
        rw [hpp] at hlt
        simp at hlt
        omega
      refine ⟨0, (newsP T (namesR r)).take c, by simp, ?_, by rw [List.length_take]; omega, ?_, fun i hi hle => ?_⟩
      · rw [List.take_append_of_le_length (by omega), hpp, List.take_append_of_le_length (by simpa using hcl)]
        simp [paysP, List.map_take]
      · intro m hm
        have h1 := news_sub (namesR r) T m (List.mem_of_mem_take hm)
        have h2 : m ∈ textsR r := tblN_mem.1 h1
        exact (textsR_lens hMr m h2).2
      · cases i with
        | zero => omega
        | succ i =>
          exfalso
          rw [List.take_succ_cons, paysP, List.length_append] at hle
          omega
    · obtain ⟨c', rfl⟩ : ∃ c', c = (payP v T r).length + c' := ⟨c - (payP v T r).length, by omega⟩
      rw [List.length_append] at hc
      obtain ⟨j, ms, h1, h2, h3, h4, h5⟩ := ih (addT v T r) c' (fun q hq => hM q (List.mem_cons_of_mem _ hq)) (by omega)
      refine ⟨j + 1, ms, by simpa using h1, ?_, h3, h4, fun i hi hle => ?_⟩
      · rw [List.take_length_add_append, h2, List.take_succ_cons, paysP, List.append_assoc]
      · cases i with
        | zero => omega
        | succ i =>
          rw [List.take_succ_cons, paysP, List.length_append] at hle
          have := h5 i (by simpa using hi) (by omega)
          omega
theorem cut_file {v : Int} (hv : v ≠ 1) {l : List Rc} (hm : ∀ r ∈ l, mayP v r = true) (hl : l.length ≤ 300) {m : Nat} (h8 : 8 ≤ m) (hle : m ≤ (fileP v l).length) :
    ∃ (j : Nat) (ms : List B) (t : B), j ≤ l.length ∧ (fileP v l).take m = fileP v (l.take j) ++ framesP (ms.map defP) ++ t ∧ ms.length < 100 ∧ (∀ m ∈ ms, m.length ≤ 64) ∧ EndAt t ∧ t.length < 3000 ∧ ∀ i, i ≤ l.length → (fileP v (l.take i)).length ≤ m → i ≤ j := by
  have hM : ∀ r ∈ l, MayR v r := fun r hr => may_all (hm r hr)
  have hlens := paysP_lens (v := v) (l := l) (t := []) hM (by simp; omega)
  obtain ⟨m', rfl⟩ : ∃ m', m = 8 + m' := ⟨m - 8, by omega⟩
  rw [fileP_len] at hle
  obtain ⟨c, t, c1, c2, c3, c4, c5⟩ := cut_frames (paysP v [] l) m' hlens (by omega)
  obtain ⟨j, ms, j1, j2, j3, j4, j5⟩ := cut_recs hv l [] c hM c1
  refine ⟨j, ms, t, j1, ?_, j3, j4, c3, c4, fun i hi hil => j5 i hi ?_⟩
  · unfold fileP
    rw [show 8 + m' = (headP v).length + m' from by rw [headP_length], List.take_length_add_append, c2, j2, framesP_append]
    simp only [List.append_assoc]
  · refine Nat.le_of_not_lt fun hlt => ?_
    have e : paysP v [] l = paysP v [] (l.take i) ++ paysP v (tblL v [] (l.take i)) (l.drop i) := by rw [← paysP_append, List.take_append_drop]
    have hlen : (paysP v [] (l.take i)).length ≤ (paysP v [] l).length := by rw [e, List.length_append]; omega
    have h1 := c5 (by omega)
    have h2 : (paysP v [] l).take (c + 1) = (paysP v [] (l.take i)).take (c + 1) := by
      rw [e, List.take_append_of_le_length (by omega)]
    rw [h2] at h1
    have h3 := framesP_part (paysP v [] (l.take i)) (c + 1)
    rw [fileP_len] at hil
    omega
end Go.Abs
end

section
/- journal.Open on a file that was cut off. -/
set_option maxRecDepth 100000
set_option maxHeartbeats 4000000
set_option linter.unusedVariables false
set_option linter.unusedSimpArgs false
namespace Go.Abs
open Go Go.Proofs Dig
attribute [local irreducible] ibits byteAt strLt firstIdx

theorem Whole.key {s : FSt} {name b : B} (h : Whole s name b) : name ∈ kys s.fs := lk_key h
theorem Whole.get {s : FSt} {name b : B} (h : Whole s name b) : gF s.fs name = ⟨b, b.length⟩ := by unfold gF; rw [show lk s.fs name = _ from h]; rfl
/-- Nothing fails any more. -/
def Calm (s : FSt) : Prop := s.fail = -1 ∧ s.fall = -1 ∧ s.down = false
theorem crash_calm (s : FSt) (keep : List Int) : Calm (s.crash keep) := ⟨rfl, rfl, rfl⟩
theorem trunc_spec {s : FSt} (hc : Calm s) {name b : B} (hw : Whole s name b) {n : Nat} (hn : n ≤ b.length) : (s.truncate name (n : Int)).2 = 0 ∧ Whole (s.truncate name (n : Int)).1 name (b.take n) ∧ Calm (s.truncate name (n : Int)).1 := by
  obtain ⟨h1, h2, h3⟩ := hc
  have hm : s.may name = 0 := by unfold FSt.may; rw [h3, show lk s.fs name = _ from hw]; rfl
  have hg := hw.get
  unfold FSt.truncate
  rw [if_neg (by rw [hm]; simp), if_neg (by rw [hg]; show ¬ ((n : Int) < 0 ∨ ((b.length : Nat) : Int) < (n : Int)); omega)]
  unfold FSt.act
  rw [if_neg (by rw [h2]; decide), if_neg (by rw [h1]; decide)]
  refine ⟨rfl, ?_, by show cnt s.fail = -1; rw [h1]; rfl, by show cnt s.fall = -1; rw [h2]; rfl, h3⟩
  unfold Whole
  show lk (cutF name (n : Int).toNat s.fs) name = _
  unfold cutF
  rw [lk_pt, if_pos rfl, hg, Int.toNat_natCast]
  simp only [List.length_take, Option.some.injEq, Fl.mk.injEq, true_and]
  omega
theorem OpenCut_3 (s : FSt) (name : B) {nb fb : Nat} (hk : FOk s nb fb) (hc : Calm s) (l : List Rc) (hm : ∀ r ∈ l, mayP 3 r = true) (hl : l.length ≤ 300) (ms : List B) (hml : ms.length < 100) (hmf : ∀ m ∈ ms, m.length ≤ 64) (t : B) (ht : EndAt t) (htl : t.length < 3000)
    (hw : Whole s name (fileP 3 l ++ framesP (ms.map defP) ++ t)) {R} (h : ∀ s', FOk s' nb fb → Calm s' → Whole s' name (fileP 3 l) → R (.tup [.agg (fileA 3 l), vi 0]) [fsC s' 1, fsM s']) :
    ACalls Tryz.prog 20 [.ptr 0 0, vs name] [fsC s 1, fsM s] R := by
  refine acalls_of_xwp (an := an20) tab_ok Tryz.func20 ?_
  have hs := fileP_small hm hl
  have hfm := framesP_len (l := ms.map defP) (k := 65) (fun p hp => by
    obtain ⟨m, hm1, rfl⟩ := List.mem_map.1 hp
    have := hmf m hm1
    simp [defP]; omega) (by omega)
  rw [List.length_map] at hfm
  have hin := hw.key
  have hg := hw.get
  obtain ⟨b, hb⟩ : ∃ b, b = fileP 3 l ++ framesP (ms.map defP) ++ t := ⟨_, rfl⟩
  have hblen : b.length = (fileP 3 l).length + (framesP (ms.map defP)).length + t.length := by rw [hb, List.length_append, List.length_append]
  have hget := fun R hR => cGetT_3 l hm hl ms (fun e => by cases e) hml hmf t ht htl (R := R) hR
  rw [← hb] at hget hg hw
  have hbl := bel_length b
  (conv => whnf)
  refine fsRead_calls s name (by rw [hg]; show b.length < _; omega) (fun _ => ?_) (fun hno => absurd hin hno)
  rw [hg]
  show _
  (conv => whnf)
  refine hget _ ?_
  (conv => whnf)
  refine br_intro (fun g => ?_) (fun g => ?_)
  · have g := of_decide_eq_true g
    obtain ⟨e1, e2, e3⟩ := trunc_spec hc hw (n := (fileP 3 l).length) (by omega)
    have htk : b.take (fileP 3 l).length = fileP 3 l := by rw [hb, List.append_assoc]; exact List.take_left
    rw [htk] at e2
    have hk2 := truncate_ok hk (name := name) (size := ((fileP 3 l).length : Int))
    (conv => whnf)
    refine Truncate_calls s name _ hk.fail hk.fall (by rw [hg]; show b.length < _; omega) ?_
    rw [e1]
    have hh := h _ hk2 e3 e2
    generalize (s.truncate name ((fileP 3 l).length : Int)).1 = s2 at hh ⊢
    (conv => whnf)
    exact hh
  · have g := of_decide_eq_false g
    rw [hbl] at g
    have e1 : framesP (ms.map defP) = [] := List.length_eq_zero_iff.1 (by omega)
    have e2 : t = [] := List.length_eq_zero_iff.1 (by omega)
    have e3 : b = fileP 3 l := by rw [hb, e1, e2]; simp
    rw [e3] at hw
    (conv => whnf)
    exact h s hk hc hw
end Go.Abs
end

section
/- fold.Right; FoldParts. -/
set_option maxRecDepth 100000
set_option maxHeartbeats 1000000
set_option linter.unusedVariables false
set_option linter.unusedSimpArgs false
namespace Go.Abs
open Go Go.Proofs Dig
attribute [local irreducible] ibits byteAt strLt firstIdx

end Go.Abs
end

section
/- The document's May. -/
set_option maxRecDepth 100000
set_option maxHeartbeats 2000000
set_option linter.unusedVariables false
set_option linter.unusedSimpArgs false
namespace Go.Abs
open Go Go.Proofs Dig
attribute [local irreducible] ibits byteAt strLt firstIdx

theorem wz0 (n : U) : ((n.toNat : Int) == 0) = decide (n = 0) := by
  by_cases e : n = 0
  · simp [e]
  · have : n.toNat ≠ 0 := fun x => e (BitVec.eq_of_toNat_eq (by simpa using x))
    rw [decide_eq_false e]; simp; omega
theorem wz1 (n : U) : ((n.toNat : Int) != 0) = decide (n ≠ 0) := by
  show (!((n.toNat : Int) == 0)) = _
  rw [wz0]; by_cases e : n = 0 <;> simp [e]
theorem dz0 (l : List Dp) : ((((dpsA l).length : Nat) : Int) == 0) = decide (l = []) := by
  rw [dpsA_length]
  cases l with
  | nil => rfl
  | cons a l => simp; omega
def preN (r : Rc) (i : Nat) : List B := r.target :: (r.deps.take i).map (·.name)
theorem preN_mem (r : Rc) {i : Nat} (hi : i ≤ r.deps.length) (s : B) : s ∉ preN r i ↔ s ≠ r.target ∧ ∀ (j : Nat) (hj : j < r.deps.length), j < i → r.deps[j].name ≠ s := by
  unfold preN
  simp only [List.mem_cons, List.mem_map, not_or, not_exists, not_and]
  refine and_congr Iff.rfl ⟨fun h j hj hji e => h r.deps[j] ?_ e, fun h d hd e => ?_⟩
  · have : (r.deps.take i)[j]'(by simp; omega) = r.deps[j] := by simp
    rw [← this]; exact List.getElem_mem _
  · obtain ⟨j, hj, rfl⟩ := List.getElem_of_mem hd
    simp only [List.length_take] at hj
    rw [List.getElem_take] at e
    exact h j (by omega) (by omega) e
theorem preN_succ (r : Rc) {i : Nat} (hi : i < r.deps.length) : preN r (i + 1) = preN r i ++ [r.deps[i].name] := by
  unfold preN
  rw [List.take_succ_eq_append_getElem hi, List.map_append, List.cons_append]
  rfl
theorem refMay_calls (v : Int) (r : Rc) (hd : r.deps.length < 100000) {R} (h : ∀ p, p = mayP v r → R (.val (.bool p)) []) : ACalls Tryz.prog 24 [vi v, .agg r.enc] [] R := by
  refine acalls_of_xwp (an := an24) tab_ok Tryz.func24 ?_
  have hst := size_ofB r.tag
  have hsl := dpsA_length r.deps
  (conv => whnf)
  refine br_intro (fun g1 => ?_) (fun g1 => ?_)
  · (conv => whnf)
    exact h false (by rw [mayP, if_pos (by rw [g1]; rfl)])
  (conv => whnf)
  refine br_intro (fun g2 => ?_) (fun g2 => ?_)
  · have g2 : 3 < v := by simpa using g2
    (conv => whnf)
    exact h false (by rw [mayP, if_pos (by rw [g1, decide_eq_true g2]; rfl)])
  have g2 : ¬ 3 < v := by simpa using g2
  have g1' : ¬ v < 1 := by simpa using g1
  (conv => whnf)
  refine refName_calls r.target ?_
  (conv => whnf)
  refine br_intro (fun g3 => ?_) (fun g3 => ?_)
  · (conv => whnf)
    exact h false (by rw [mayP, if_pos (by rw [g3]; simp)])
  have hm : mayP v r = if r.kind = 1 then !earlyP v r && (decide (r.tag.length ≤ 64) && depsP v r) else if r.kind = 2 then decide (r = goneR r) else false := by
    rw [mayP, if_neg (by rw [g1, decide_eq_false g2, g3]; simp)]
  (conv => whnf)
  refine br_intro (fun k2 => ?_) (fun k2 => ?_)
  · have k2 : r.kind = 2 := by simpa using k2
    have hm2 : mayP v r = (decide (r.rule = 0) && (decide (r.deps = []) && (decide (r.out = 0) && (decide (r.wen = 0) && decide (r.tag = []))))) := by
      rw [hm, if_neg (by rw [k2]; decide), if_pos k2]
      have : (r = goneR r) ↔ (r.rule = 0 ∧ r.deps = [] ∧ r.out = 0 ∧ r.wen = 0 ∧ r.tag = []) := by
        constructor
        · intro e
          have := congrArg Rc.rule e
          have := congrArg Rc.deps e
          have := congrArg Rc.out e
          have := congrArg Rc.wen e
          have := congrArg Rc.tag e
          simp only [goneR] at *
          refine ⟨?_, ?_, ?_, ?_, ?_⟩ <;> assumption
        · rintro ⟨h1, h2, h3, h4, h5⟩
          cases r
          simp only [goneR] at *
          subst k2 h1 h2 h3 h4 h5
          rfl
      by_cases e : r = goneR r
      · obtain ⟨a1, a2, a3, a4, a5⟩ := this.1 e
        rw [decide_eq_true e, decide_eq_true a1, decide_eq_true a2, decide_eq_true a3, decide_eq_true a4, decide_eq_true a5]; rfl
      · rw [decide_eq_false e]
        refine (Bool.eq_false_iff.2 fun hx => e (this.2 ?_)).symm
        simpa using hx
    clear hm
    (conv => whnf)
    rw [wz0]
    refine br_intro (fun e1 => ?_) (fun e1 => ?_)
    · rw [e1, Bool.true_and] at hm2
      (conv => whnf)
      rw [dz0]
      refine br_intro (fun e2 => ?_) (fun e2 => ?_)
      · rw [e2, Bool.true_and] at hm2
        (conv => whnf)
        rw [wz0]
        refine br_intro (fun e3 => ?_) (fun e3 => ?_)
        · rw [e3, Bool.true_and] at hm2
          (conv => whnf)
          rw [wz0]
          refine br_intro (fun e4 => ?_) (fun e4 => ?_)
          · rw [e4, Bool.true_and] at hm2
            (conv => whnf)
            refine h _ ?_
            rw [hm2]
            exact decide_eq_decide.2 ⟨fun e => ofB_inj e, fun e => by rw [e]; rfl⟩
          · (conv => whnf)
            exact h false (by rw [hm2, e4]; rfl)
        · (conv => whnf)
          exact h false (by rw [hm2, e3]; rfl)
      · (conv => whnf)
        exact h false (by rw [hm2, e2]; rfl)
    · (conv => whnf)
      exact h false (by rw [hm2, e1]; rfl)
  have k2 : ¬ r.kind = 2 := by simpa using k2
  rw [if_neg k2] at hm
  (conv => whnf)
  refine br_intro (fun k1 => ?_) (fun k1 => ?_)
  · have k1 : ¬ r.kind = 1 := by simpa using k1
    (conv => whnf)
    exact h false (by rw [hm, if_neg k1])
  have k1 : r.kind = 1 := by simpa using k1
  rw [if_pos k1] at hm
  (conv => whnf)
  rw [hsl]
  refine br_intro (fun q1 => ?_) (fun q1 => ?_)
  · have hbad : decide (r.deps.length ≤ 16) = false := by simp at q1 ⊢; omega
    (conv => whnf)
    exact h false (by rw [hm, depsP, hbad]; simp)
  have hdl : decide (r.deps.length ≤ 16) = true := by simp at q1 ⊢; omega
  (conv => whnf)
  rw [hst]
  refine br_intro (fun q2 => ?_) (fun q2 => ?_)
  · have hbad : decide (r.tag.length ≤ 64) = false := by simp at q2 ⊢; omega
    (conv => whnf)
    exact h false (by rw [hm, hbad]; simp)
  have htl : decide (r.tag.length ≤ 64) = true := by simp at q2 ⊢; omega
  rw [htl, Bool.true_and, depsP, hdl, Bool.and_true] at hm
  have hv12 : v = 1 ↔ v < 2 := by omega
  (conv => whnf)
  refine br_intro (fun v1 => ?_) (fun v1 => ?_)
  · have v1 : v = 1 := by simpa using v1
    have e1 : decide (v < 2) = true := decide_eq_true (by omega)
    have e3 : decide (v < 3) = true := decide_eq_true (by omega)
    (conv => whnf)
    rw [wz1]
    refine br_intro (fun w1 => ?_) (fun w1 => ?_)
    · (conv => whnf)
      exact h false (by rw [hm, earlyP, e1, w1]; rfl)
    · (conv => whnf)
      refine br_true e3 ?_
      (conv => whnf)
      refine br_intro (fun t1 => ?_) (fun t1 => ?_)
      · have t1 : r.tag ≠ [] := by intro e; rw [e] at t1; simp [ofB] at t1
        have t1 : decide (r.tag ≠ []) = true := decide_eq_true t1
        (conv => whnf)
        exact h false (by rw [hm, earlyP, e3, t1]; simp)
      · have t1 : r.tag = [] := by
          have : ofB r.tag = { data := #[] } := by simpa using t1
          exact ofB_inj (this.trans nilB.symm)
        have he : earlyP v r = false := by rw [earlyP, w1, t1]; simp
        rw [he, Bool.not_false, Bool.true_and] at hm
        rw [hm] at h
        (conv => whnf)
        refine LoopP.ind1 (fun (i : Nat) => [(5, vi i)]) (fun _ => []) (fun i => r.deps.length - i) (fun i => i ≤ r.deps.length ∧ depsGo v (r.deps.drop i) (preN r i) = depsGo v r.deps [r.target]) 0 rfl ⟨by omega, rfl⟩ ?_
        rintro i ⟨h0, hD⟩ IH
        (conv => whnf)
        refine br_intro (fun hc => ?_) (fun hc => ?_)
        · have hc := lt_of_decE hsl hc
          have hIH := IH (i + 1)
          clear IH
          rw [List.drop_eq_getElem_cons hc, depsGo] at hD
          rw [preN_succ r hc] at hIH
          have hmem := preN_mem r h0 r.deps[i].name
          (conv => whnf); (repeat ((with_reducible refine must_intro ?_ ?_); exact decide_eq_true (by omega); (conv => whnf)))
          refine idxK_map_intro (show (i : Int).toNat < r.deps.length by simpa using hc) ?_
          rw [show r.deps[(i : Int).toNat]'(by simpa using hc) = r.deps[i] from by congr 1]
          generalize r.deps[i] = d at hD hIH hmem ⊢
          (conv => whnf)
          refine refName_calls d.name ?_
          (conv => whnf)
          refine br_intro (fun n1 => ?_) (fun n1 => ?_)
          · have n1 : nameOk d.name = false := by simpa using n1
            (conv => whnf)
            exact h false (by rw [← hD, n1]; rfl)
          have n1 : nameOk d.name = true := by simpa using n1
          rw [n1, Bool.true_and] at hD
          (conv => whnf)
          refine br_intro (fun n2 => ?_) (fun n2 => ?_)
          · have n2 : d.name = r.target := by simpa [ofB_eq] using n2
            have hb : decide (d.name ∉ preN r i) = false := decide_eq_false fun hx => (hmem.1 hx).1 n2
            (conv => whnf)
            exact h false (by rw [← hD, hb]; rfl)
          have n2 : d.name ≠ r.target := by simpa [ofB_eq] using n2
          (conv => whnf)
          refine br_intro (fun o1 => ?_) (fun o1 => ?_)
          · rw [o1, Bool.true_and] at hD
            (conv => whnf)
            refine br_intro (fun o2 => ?_) (fun o2 => ?_)
            · rw [o2] at hD
              (conv => whnf)
              exact h false (by rw [← hD]; simp)
            · rw [o2, Bool.not_false, Bool.true_and] at hD
              (conv => whnf)
              refine LoopP.ind1 (fun (k : Nat) => [(7, vi k)]) (fun _ => []) (fun k => i - k) (fun k => k ≤ i ∧ ∀ (j : Nat) (hj : j < r.deps.length), j < k → r.deps[j].name ≠ d.name) 0 rfl ⟨by omega, fun j hj h => by omega⟩ ?_
              rintro k ⟨hk0, hk1⟩ IH2
              (conv => whnf)
              refine br_intro (fun hk => ?_) (fun hk => ?_)
              · have hk : k < i := by simp at hk; omega
                have hkl : k < r.deps.length := by omega
                (conv => whnf); (repeat ((with_reducible refine must_intro ?_ ?_); exact decide_eq_true (by omega); (conv => whnf)))
                refine idxK_map_intro (show (k : Int).toNat < r.deps.length by simpa using hkl) ?_
                rw [show r.deps[(k : Int).toNat]'(by simpa using hkl) = r.deps[k] from by congr 1]
                (conv => whnf)
                refine br_intro (fun q => ?_) (fun q => ?_)
                · have q : r.deps[k].name = d.name := by simpa [ofB_eq] using q
                  have hb : decide (d.name ∉ preN r i) = false := decide_eq_false fun hx => (hmem.1 hx).2 k hkl hk q
                  (conv => whnf)
                  exact h false (by rw [← hD, hb]; rfl)
                · have q : r.deps[k].name ≠ d.name := by simpa [ofB_eq] using q
                  have IH3 := IH2 (k + 1) ⟨by omega, fun j hj hjk => (Nat.lt_succ_iff_lt_or_eq.1 hjk).elim (fun e => hk1 j hj e) (fun e => by subst e; exact q)⟩ (by omega)
                  (conv => whnf)
                  rw [i64_nat (by omega)]
                  exact IH3
              · have hk : k = i := by simp at hk; omega
                have hb : decide (d.name ∉ preN r i) = true := decide_eq_true (hmem.2 ⟨n2, fun j hj hji => hk1 j hj (by omega)⟩)
                rw [hb, Bool.true_and] at hD
                (conv => whnf)
                rw [i64_nat (by omega)]
                exact hIH ⟨by omega, hD⟩ (by omega)
          · rw [o1, Bool.false_and, Bool.not_false, Bool.true_and] at hD
            (conv => whnf)
            refine LoopP.ind1 (fun (k : Nat) => [(7, vi k)]) (fun _ => []) (fun k => i - k) (fun k => k ≤ i ∧ ∀ (j : Nat) (hj : j < r.deps.length), j < k → r.deps[j].name ≠ d.name) 0 rfl ⟨by omega, fun j hj h => by omega⟩ ?_
            rintro k ⟨hk0, hk1⟩ IH2
            (conv => whnf)
            refine br_intro (fun hk => ?_) (fun hk => ?_)
            · have hk : k < i := by simp at hk; omega
              have hkl : k < r.deps.length := by omega
              (conv => whnf); (repeat ((with_reducible refine must_intro ?_ ?_); exact decide_eq_true (by omega); (conv => whnf)))
              refine idxK_map_intro (show (k : Int).toNat < r.deps.length by simpa using hkl) ?_
              rw [show r.deps[(k : Int).toNat]'(by simpa using hkl) = r.deps[k] from by congr 1]
              (conv => whnf)
              refine br_intro (fun q => ?_) (fun q => ?_)
              · have q : r.deps[k].name = d.name := by simpa [ofB_eq] using q
                have hb : decide (d.name ∉ preN r i) = false := decide_eq_false fun hx => (hmem.1 hx).2 k hkl hk q
                (conv => whnf)
                exact h false (by rw [← hD, hb]; rfl)
              · have q : r.deps[k].name ≠ d.name := by simpa [ofB_eq] using q
                have IH3 := IH2 (k + 1) ⟨by omega, fun j hj hjk => (Nat.lt_succ_iff_lt_or_eq.1 hjk).elim (fun e => hk1 j hj e) (fun e => by subst e; exact q)⟩ (by omega)
                (conv => whnf)
                rw [i64_nat (by omega)]
                exact IH3
            · have hk : k = i := by simp at hk; omega
              have hb : decide (d.name ∉ preN r i) = true := decide_eq_true (hmem.2 ⟨n2, fun j hj hji => hk1 j hj (by omega)⟩)
              rw [hb, Bool.true_and] at hD
              (conv => whnf)
              rw [i64_nat (by omega)]
              exact hIH ⟨by omega, hD⟩ (by omega)
        · have hc := ge_of_decE hsl hc
          rw [List.drop_eq_nil_of_le hc, depsGo] at hD
          (conv => whnf)
          exact h true hD
  · have v1 : ¬ v = 1 := by simpa using v1
    have e1 : decide (v < 2) = false := decide_eq_false (by omega)
    (conv => whnf)
    refine br_intro (fun e3 => ?_) (fun e3 => ?_)
    · (conv => whnf)
      refine br_intro (fun t1 => ?_) (fun t1 => ?_)
      · have t1 : r.tag ≠ [] := by intro e; rw [e] at t1; simp [ofB] at t1
        have t1 : decide (r.tag ≠ []) = true := decide_eq_true t1
        (conv => whnf)
        exact h false (by rw [hm, earlyP, e3, t1]; simp)
      · have t1 : r.tag = [] := by
          have : ofB r.tag = { data := #[] } := by simpa using t1
          exact ofB_inj (this.trans nilB.symm)
        have he : earlyP v r = false := by rw [earlyP, e1, t1]; simp
        rw [he, Bool.not_false, Bool.true_and] at hm
        rw [hm] at h
        (conv => whnf)
        refine LoopP.ind1 (fun (i : Nat) => [(5, vi i)]) (fun _ => []) (fun i => r.deps.length - i) (fun i => i ≤ r.deps.length ∧ depsGo v (r.deps.drop i) (preN r i) = depsGo v r.deps [r.target]) 0 rfl ⟨by omega, rfl⟩ ?_
        rintro i ⟨h0, hD⟩ IH
        (conv => whnf)
        refine br_intro (fun hc => ?_) (fun hc => ?_)
        · have hc := lt_of_decE hsl hc
          have hIH := IH (i + 1)
          clear IH
          rw [List.drop_eq_getElem_cons hc, depsGo] at hD
          rw [preN_succ r hc] at hIH
          have hmem := preN_mem r h0 r.deps[i].name
          (conv => whnf); (repeat ((with_reducible refine must_intro ?_ ?_); exact decide_eq_true (by omega); (conv => whnf)))
          refine idxK_map_intro (show (i : Int).toNat < r.deps.length by simpa using hc) ?_
          rw [show r.deps[(i : Int).toNat]'(by simpa using hc) = r.deps[i] from by congr 1]
          generalize r.deps[i] = d at hD hIH hmem ⊢
          (conv => whnf)
          refine refName_calls d.name ?_
          (conv => whnf)
          refine br_intro (fun n1 => ?_) (fun n1 => ?_)
          · have n1 : nameOk d.name = false := by simpa using n1
            (conv => whnf)
            exact h false (by rw [← hD, n1]; rfl)
          have n1 : nameOk d.name = true := by simpa using n1
          rw [n1, Bool.true_and] at hD
          (conv => whnf)
          refine br_intro (fun n2 => ?_) (fun n2 => ?_)
          · have n2 : d.name = r.target := by simpa [ofB_eq] using n2
            have hb : decide (d.name ∉ preN r i) = false := decide_eq_false fun hx => (hmem.1 hx).1 n2
            (conv => whnf)
            exact h false (by rw [← hD, hb]; rfl)
          have n2 : d.name ≠ r.target := by simpa [ofB_eq] using n2
          (conv => whnf)
          refine br_intro (fun o1 => ?_) (fun o1 => ?_)
          · rw [o1, Bool.true_and] at hD
            (conv => whnf)
            refine br_intro (fun o2 => ?_) (fun o2 => ?_)
            · rw [o2] at hD
              (conv => whnf)
              exact h false (by rw [← hD]; simp)
            · rw [o2, Bool.not_false, Bool.true_and] at hD
              (conv => whnf)
              refine LoopP.ind1 (fun (k : Nat) => [(7, vi k)]) (fun _ => []) (fun k => i - k) (fun k => k ≤ i ∧ ∀ (j : Nat) (hj : j < r.deps.length), j < k → r.deps[j].name ≠ d.name) 0 rfl ⟨by omega, fun j hj h => by omega⟩ ?_
              rintro k ⟨hk0, hk1⟩ IH2
              (conv => whnf)
              refine br_intro (fun hk => ?_) (fun hk => ?_)
              · have hk : k < i := by simp at hk; omega
                have hkl : k < r.deps.length := by omega
                (conv => whnf); (repeat ((with_reducible refine must_intro ?_ ?_); exact decide_eq_true (by omega); (conv => whnf)))
                refine idxK_map_intro (show (k : Int).toNat < r.deps.length by simpa using hkl) ?_
                rw [show r.deps[(k : Int).toNat]'(by simpa using hkl) = r.deps[k] from by congr 1]
                (conv => whnf)
                refine br_intro (fun q => ?_) (fun q => ?_)
                · have q : r.deps[k].name = d.name := by simpa [ofB_eq] using q
                  have hb : decide (d.name ∉ preN r i) = false := decide_eq_false fun hx => (hmem.1 hx).2 k hkl hk q
                  (conv => whnf)
                  exact h false (by rw [← hD, hb]; rfl)
                · have q : r.deps[k].name ≠ d.name := by simpa [ofB_eq] using q
                  have IH3 := IH2 (k + 1) ⟨by omega, fun j hj hjk => (Nat.lt_succ_iff_lt_or_eq.1 hjk).elim (fun e => hk1 j hj e) (fun e => by subst e; exact q)⟩ (by omega)
                  (conv => whnf)
                  rw [i64_nat (by omega)]
                  exact IH3
              · have hk : k = i := by simp at hk; omega
                have hb : decide (d.name ∉ preN r i) = true := decide_eq_true (hmem.2 ⟨n2, fun j hj hji => hk1 j hj (by omega)⟩)
                rw [hb, Bool.true_and] at hD
                (conv => whnf)
                rw [i64_nat (by omega)]
                exact hIH ⟨by omega, hD⟩ (by omega)
          · rw [o1, Bool.false_and, Bool.not_false, Bool.true_and] at hD
            (conv => whnf)
            refine LoopP.ind1 (fun (k : Nat) => [(7, vi k)]) (fun _ => []) (fun k => i - k) (fun k => k ≤ i ∧ ∀ (j : Nat) (hj : j < r.deps.length), j < k → r.deps[j].name ≠ d.name) 0 rfl ⟨by omega, fun j hj h => by omega⟩ ?_
            rintro k ⟨hk0, hk1⟩ IH2
            (conv => whnf)
            refine br_intro (fun hk => ?_) (fun hk => ?_)
            · have hk : k < i := by simp at hk; omega
              have hkl : k < r.deps.length := by omega
              (conv => whnf); (repeat ((with_reducible refine must_intro ?_ ?_); exact decide_eq_true (by omega); (conv => whnf)))
              refine idxK_map_intro (show (k : Int).toNat < r.deps.length by simpa using hkl) ?_
              rw [show r.deps[(k : Int).toNat]'(by simpa using hkl) = r.deps[k] from by congr 1]
              (conv => whnf)
              refine br_intro (fun q => ?_) (fun q => ?_)
              · have q : r.deps[k].name = d.name := by simpa [ofB_eq] using q
                have hb : decide (d.name ∉ preN r i) = false := decide_eq_false fun hx => (hmem.1 hx).2 k hkl hk q
                (conv => whnf)
                exact h false (by rw [← hD, hb]; rfl)
              · have q : r.deps[k].name ≠ d.name := by simpa [ofB_eq] using q
                have IH3 := IH2 (k + 1) ⟨by omega, fun j hj hjk => (Nat.lt_succ_iff_lt_or_eq.1 hjk).elim (fun e => hk1 j hj e) (fun e => by subst e; exact q)⟩ (by omega)
                (conv => whnf)
                rw [i64_nat (by omega)]
                exact IH3
            · have hk : k = i := by simp at hk; omega
              have hb : decide (d.name ∉ preN r i) = true := decide_eq_true (hmem.2 ⟨n2, fun j hj hji => hk1 j hj (by omega)⟩)
              rw [hb, Bool.true_and] at hD
              (conv => whnf)
              rw [i64_nat (by omega)]
              exact hIH ⟨by omega, hD⟩ (by omega)
        · have hc := ge_of_decE hsl hc
          rw [List.drop_eq_nil_of_le hc, depsGo] at hD
          (conv => whnf)
          exact h true hD
    · have he : earlyP v r = false := by rw [earlyP, e1, e3]; simp
      rw [he, Bool.not_false, Bool.true_and] at hm
      rw [hm] at h
      (conv => whnf)
      refine LoopP.ind1 (fun (i : Nat) => [(5, vi i)]) (fun _ => []) (fun i => r.deps.length - i) (fun i => i ≤ r.deps.length ∧ depsGo v (r.deps.drop i) (preN r i) = depsGo v r.deps [r.target]) 0 rfl ⟨by omega, rfl⟩ ?_
      rintro i ⟨h0, hD⟩ IH
      (conv => whnf)
      refine br_intro (fun hc => ?_) (fun hc => ?_)
      · have hc := lt_of_decE hsl hc
        have hIH := IH (i + 1)
        clear IH
        rw [List.drop_eq_getElem_cons hc, depsGo] at hD
        rw [preN_succ r hc] at hIH
        have hmem := preN_mem r h0 r.deps[i].name
        (conv => whnf); (repeat ((with_reducible refine must_intro ?_ ?_); exact decide_eq_true (by omega); (conv => whnf)))
        refine idxK_map_intro (show (i : Int).toNat < r.deps.length by simpa using hc) ?_
        rw [show r.deps[(i : Int).toNat]'(by simpa using hc) = r.deps[i] from by congr 1]
        generalize r.deps[i] = d at hD hIH hmem ⊢
        (conv => whnf)
        refine refName_calls d.name ?_
        (conv => whnf)
        refine br_intro (fun n1 => ?_) (fun n1 => ?_)
        · have n1 : nameOk d.name = false := by simpa using n1
          (conv => whnf)
          exact h false (by rw [← hD, n1]; rfl)
        have n1 : nameOk d.name = true := by simpa using n1
        rw [n1, Bool.true_and] at hD
        (conv => whnf)
        refine br_intro (fun n2 => ?_) (fun n2 => ?_)
        · have n2 : d.name = r.target := by simpa [ofB_eq] using n2
          have hb : decide (d.name ∉ preN r i) = false := decide_eq_false fun hx => (hmem.1 hx).1 n2
          (conv => whnf)
          exact h false (by rw [← hD, hb]; rfl)
        have n2 : d.name ≠ r.target := by simpa [ofB_eq] using n2
        (conv => whnf)
        refine br_intro (fun o1 => ?_) (fun o1 => ?_)
        · rw [o1, Bool.true_and] at hD
          (conv => whnf)
          refine br_intro (fun o2 => ?_) (fun o2 => ?_)
          · rw [o2] at hD
            (conv => whnf)
            exact h false (by rw [← hD]; simp)
          · rw [o2, Bool.not_false, Bool.true_and] at hD
            (conv => whnf)
            refine LoopP.ind1 (fun (k : Nat) => [(7, vi k)]) (fun _ => []) (fun k => i - k) (fun k => k ≤ i ∧ ∀ (j : Nat) (hj : j < r.deps.length), j < k → r.deps[j].name ≠ d.name) 0 rfl ⟨by omega, fun j hj h => by omega⟩ ?_
            rintro k ⟨hk0, hk1⟩ IH2
            (conv => whnf)
            refine br_intro (fun hk => ?_) (fun hk => ?_)
            · have hk : k < i := by simp at hk; omega
              have hkl : k < r.deps.length := by omega
              (conv => whnf); (repeat ((with_reducible refine must_intro ?_ ?_); exact decide_eq_true (by omega); (conv => whnf)))
              refine idxK_map_intro (show (k : Int).toNat < r.deps.length by simpa using hkl) ?_
              rw [show r.deps[(k : Int).toNat]'(by simpa using hkl) = r.deps[k] from by congr 1]
              (conv => whnf)
              refine br_intro (fun q => ?_) (fun q => ?_)
              · have q : r.deps[k].name = d.name := by simpa [ofB_eq] using q
                have hb : decide (d.name ∉ preN r i) = false := decide_eq_false fun hx => (hmem.1 hx).2 k hkl hk q
                (conv => whnf)
                exact h false (by rw [← hD, hb]; rfl)
              · have q : r.deps[k].name ≠ d.name := by simpa [ofB_eq] using q
                have IH3 := IH2 (k + 1) ⟨by omega, fun j hj hjk => (Nat.lt_succ_iff_lt_or_eq.1 hjk).elim (fun e => hk1 j hj e) (fun e => by subst e; exact q)⟩ (by omega)
                (conv => whnf)
                rw [i64_nat (by omega)]
                exact IH3
            · have hk : k = i := by simp at hk; omega
              have hb : decide (d.name ∉ preN r i) = true := decide_eq_true (hmem.2 ⟨n2, fun j hj hji => hk1 j hj (by omega)⟩)
              rw [hb, Bool.true_and] at hD
              (conv => whnf)
              rw [i64_nat (by omega)]
              exact hIH ⟨by omega, hD⟩ (by omega)
        · rw [o1, Bool.false_and, Bool.not_false, Bool.true_and] at hD
          (conv => whnf)
          refine LoopP.ind1 (fun (k : Nat) => [(7, vi k)]) (fun _ => []) (fun k => i - k) (fun k => k ≤ i ∧ ∀ (j : Nat) (hj : j < r.deps.length), j < k → r.deps[j].name ≠ d.name) 0 rfl ⟨by omega, fun j hj h => by omega⟩ ?_
          rintro k ⟨hk0, hk1⟩ IH2
          (conv => whnf)
          refine br_intro (fun hk => ?_) (fun hk => ?_)
          · have hk : k < i := by simp at hk; omega
            have hkl : k < r.deps.length := by omega
            (conv => whnf); (repeat ((with_reducible refine must_intro ?_ ?_); exact decide_eq_true (by omega); (conv => whnf)))
            refine idxK_map_intro (show (k : Int).toNat < r.deps.length by simpa using hkl) ?_
            rw [show r.deps[(k : Int).toNat]'(by simpa using hkl) = r.deps[k] from by congr 1]
            (conv => whnf)
            refine br_intro (fun q => ?_) (fun q => ?_)
            · have q : r.deps[k].name = d.name := by simpa [ofB_eq] using q
              have hb : decide (d.name ∉ preN r i) = false := decide_eq_false fun hx => (hmem.1 hx).2 k hkl hk q
              (conv => whnf)
              exact h false (by rw [← hD, hb]; rfl)
            · have q : r.deps[k].name ≠ d.name := by simpa [ofB_eq] using q
              have IH3 := IH2 (k + 1) ⟨by omega, fun j hj hjk => (Nat.lt_succ_iff_lt_or_eq.1 hjk).elim (fun e => hk1 j hj e) (fun e => by subst e; exact q)⟩ (by omega)
              (conv => whnf)
              rw [i64_nat (by omega)]
              exact IH3
          · have hk : k = i := by simp at hk; omega
            have hb : decide (d.name ∉ preN r i) = true := decide_eq_true (hmem.2 ⟨n2, fun j hj hji => hk1 j hj (by omega)⟩)
            rw [hb, Bool.true_and] at hD
            (conv => whnf)
            rw [i64_nat (by omega)]
            exact hIH ⟨by omega, hD⟩ (by omega)
      · have hc := ge_of_decE hsl hc
        rw [List.drop_eq_nil_of_le hc, depsGo] at hD
        (conv => whnf)
        exact h true hD
end Go.Abs
end

section
/- JournalAppends. -/
set_option maxRecDepth 100000
set_option maxHeartbeats 4000000
set_option linter.unusedVariables false
set_option linter.unusedSimpArgs false
namespace Go.Abs
open Go Go.Proofs Dig
attribute [local irreducible] ibits byteAt strLt firstIdx

theorem mod32 {c : Int} (h : 0 ≤ c ∧ c ≤ 255) : -9223372036854775808 ≤ IntKind.i64.wrap (c.tmod 32) ∧ IntKind.i64.wrap (c.tmod 32) < 9223372036854775808 := by
  obtain ⟨n, rfl⟩ := Int.eq_ofNat_of_zero_le h.1
  have e : (n : Int).tmod 32 = ((n % 32 : Nat) : Int) := by
    rw [Int.tmod_eq_emod_of_nonneg (Int.natCast_nonneg _)]
    omega
  rw [e, wrap_i64 (x := ((n % 32 : Nat) : Int)) (by omega) (by omega)]
  omega
theorem act_calm {s : FSt} (hf : s.fail = -1) (late : Bool) (g : FM → FM) : (s.act late g).1.fail = -1 ∧ (((s.act late g).2 = 0 ∧ (s.act late g).1.fs = g s.fs) ∨ ((s.act late g).2 = 7 ∧ ((s.act late g).1.fs = s.fs ∨ (late = true ∧ (s.act late g).1.fs = g s.fs)))) := by
  unfold FSt.act
  have hc : cnt s.fail = -1 := by rw [hf]; rfl
  split
  · refine ⟨hc, .inr ⟨rfl, ?_⟩⟩
    cases late
    · exact .inl rfl
    · exact .inr ⟨rfl, rfl⟩
  · rw [if_neg (by rw [hf]; decide)]
    exact ⟨hc, .inl ⟨rfl, rfl⟩⟩
theorem append_more {s : FSt} (hf : s.fail = -1) {log F b : B} {k : Nat} (h : lk s.fs log = some ⟨F, k⟩) :
    (s.append log b).1.fail = -1 ∧ (((s.append log b).2 = 0 ∧ lk (s.append log b).1.fs log = some ⟨F ++ b, k⟩) ∨ ((s.append log b).2 = 7 ∧ (lk (s.append log b).1.fs log = some ⟨F, k⟩ ∨ lk (s.append log b).1.fs log = some ⟨F ++ b, k⟩))) := by
  have hg : lk (addF log b s.fs) log = some ⟨F ++ b, k⟩ := by
    unfold addF
    rw [lk_pt, if_pos rfl]
    simp [gF, h]
  unfold FSt.append
  split
  · exact ⟨hf, .inr ⟨rfl, .inl h⟩⟩
  · obtain ⟨h1, ⟨e, f⟩ | ⟨e, f | ⟨_, f⟩⟩⟩ := act_calm hf true (addF log b)
    · exact ⟨h1, .inl ⟨e, by rw [f]; exact hg⟩⟩
    · exact ⟨h1, .inr ⟨e, .inl (by rw [f]; exact h)⟩⟩
    · exact ⟨h1, .inr ⟨e, .inr (by rw [f]; exact hg)⟩⟩
theorem sync_more {s : FSt} (hf : s.fail = -1) {log F : B} {k : Nat} (h : lk s.fs log = some ⟨F, k⟩) :
    (s.sync log).1.fail = -1 ∧ (((s.sync log).2 = 0 ∧ lk (s.sync log).1.fs log = some ⟨F, F.length⟩) ∨ ((s.sync log).2 ≠ 0 ∧ lk (s.sync log).1.fs log = some ⟨F, k⟩)) := by
  have hg : lk (syncF log s.fs) log = some ⟨F, F.length⟩ := by
    unfold syncF
    rw [lk_pt, if_pos rfl]
    simp [gF, h]
  unfold FSt.sync
  split
  · rename_i hm
    exact ⟨hf, .inr ⟨hm, h⟩⟩
  · obtain ⟨h1, ⟨e, f⟩ | ⟨e, f | ⟨hl, _⟩⟩⟩ := act_calm hf false (syncF log)
    · exact ⟨h1, .inl ⟨e, by rw [f]; exact hg⟩⟩
    · exact ⟨h1, .inr ⟨by rw [e]; decide, by rw [f]; exact h⟩⟩
    · cases hl
/-- What stands ahead of each round. -/
structure JInv (x : List Rc) (n i : Nat) (s : FSt) (sy : Nat) : Prop where
  hi : i ≤ (x.drop n).length
  hok : FOk s (2 + i) (1000000 + 3000 * i)
  hfail : s.fail = -1
  hsy : sy ≤ n + i
  hmay : ∀ r ∈ x.take (n + i), mayP 3 r = true
  hlog : ∃ k, lk s.fs logB = some ⟨fileP 3 (x.take (n + i)), k⟩ ∧ (fileP 3 (x.take sy)).length ≤ k
/-- What stands behind the rounds: the first 'w' were appended, of which the first 'j' are in the file. -/
structure JEnd (x : List Rc) (s : FSt) (j w sy : Nat) : Prop where
  hok : FOk s 100 2000000
  hsy : sy ≤ j
  hj : j ≤ w
  hw : w ≤ x.length
  hmay : ∀ r ∈ x.take j, mayP 3 r = true
  hlog : ∃ k, lk s.fs logB = some ⟨fileP 3 (x.take j), k⟩ ∧ (fileP 3 (x.take sy)).length ≤ k
/-- Behind a crash. -/
theorem JEnd.crash {x : List Rc} {s : FSt} {j w sy : Nat} (h : JEnd x s j w sy) (hx : x.length ≤ 30) (keep : List Int) :
    ∃ (m : Nat) (ms : List B) (t : B), sy ≤ m ∧ m ≤ w ∧ (∀ r ∈ x.take m, mayP 3 r = true) ∧ ms.length < 100 ∧ (∀ m ∈ ms, m.length ≤ 64) ∧ EndAt t ∧ t.length < 3000 ∧ Whole (s.crash keep) logB (fileP 3 (x.take m) ++ framesP (ms.map defP) ++ t) ∧ FOk (s.crash keep) 100 2000000 := by
  obtain ⟨k, hk, hsy⟩ := h.hlog
  obtain ⟨c1, c2, c3⟩ := crash_spec h.hok keep
  obtain ⟨m, m1, m2, m3⟩ := c3 logB (lk_key hk)
  have hg : gF s.fs logB = ⟨fileP 3 (x.take j), k⟩ := by unfold gF; rw [hk]; rfl
  rw [hg] at m1 m2 m3
  have hjl : (x.take j).length = j := by rw [List.length_take]; have := h.hj; have := h.hw; omega
  have h8 : 8 ≤ m := by
    have := fileP_len 3 (x.take sy)
    have m1 : k ≤ m := m1
    omega
  obtain ⟨m', ms, t, e1, e2, e3, e4, e5, e6, e7⟩ := cut_file (v := 3) (by decide) h.hmay (by rw [hjl]; have := h.hj; have := h.hw; omega) h8 m2
  have htt : ∀ i, i ≤ j → (x.take j).take i = x.take i := fun i hi => by rw [List.take_take, Nat.min_eq_left hi]
  rw [hjl] at e1 e7
  rw [htt m' e1] at e2
  refine ⟨m', ms, t, ?_, Nat.le_trans e1 h.hj, ?_, e3, e4, e5, e6, ?_, c1⟩
  · refine e7 sy h.hsy ?_
    rw [htt sy h.hsy]
    have m1 : k ≤ m := m1
    omega
  · intro r hr
    rw [← htt m' e1] at hr
    exact h.hmay r (List.mem_of_mem_take hr)
  · have hin : logB ∈ kys (s.crash keep).fs := by rw [c2]; exact lk_key hk
    unfold Whole
    rw [← e2]
    cases e : lk (s.crash keep).fs logB with
    | none => exact absurd hin (lk_none.1 e)
    | some f =>
      have : gF (s.crash keep).fs logB = f := by unfold gF; rw [e]; rfl
      rw [this] at m3
      rw [m3]
      have m2 : m ≤ (fileP 3 (x.take j)).length := m2
      simp only [List.length_take, Option.some.injEq, Fl.mk.injEq, true_and]
      omega
theorem JournalAppends_calls (x : List Rc) (hx : x.length ≤ maxLen) (hxd : ∀ r ∈ x, r.deps.length ≤ maxLen) (a b c d : Int) (ha : 0 ≤ a ∧ a ≤ 255) (hb : 0 ≤ b ∧ b ≤ 255) (hc : 0 ≤ c ∧ c ≤ 255) (hd : 0 ≤ d ∧ d ≤ 255) (q : Int) {R} (h : R (.val (.bool true)) []) :
    ACalls Tryz.prog 5 [.sl none 7 (recs x), .agg [.val (.int .u8 a), .val (.int .u8 b), .val (.int .u8 c), .val (.int .u8 d)], .val (.int .u16 q)] [] R := by
  refine acalls_of_xwp (an := an5) tab_ok Tryz.func5 ?_
  have hsx := recs_length x
  (conv => whnf)
  refine Great10_calls x hx hxd fun g1 hg1 => ?_
  cases g1 with
  | true =>
    (conv => whnf)
    refine fixed14_calls ?_
    (conv => whnf)
    exact h
  | false =>
  obtain ⟨hx30, hxl⟩ := hg1 rfl
  clear hg1
  (conv => whnf)
  obtain ⟨n, hn, hne⟩ : ∃ n : Nat, n ≤ x.length ∧ (if (((recs x).length : Nat) : Int) < IntKind.i64.wrap a then (((recs x).length : Nat) : Int) else IntKind.i64.wrap a) = (n : Int) := by
    have e : IntKind.i64.wrap a = a := wrap_i64 (by omega) (by omega)
    rw [e, hsx]
    split
    · exact ⟨x.length, Nat.le_refl _, rfl⟩
    · exact ⟨a.toNat, by omega, by omega⟩
  rw [hne]
  refine must_intro (decide_eq_true (by rw [hsx]; omega)) ?_
  (conv => whnf)
  have htk : List.drop ((0 : Nat) : Int).toNat (List.take (((n : Nat) : Int)).toNat (recs x)) = recs (x.take n) := by rw [Int.toNat_natCast, Int.toNat_natCast, List.drop_zero]; unfold recs; rw [List.map_take]
  have hxt : ∀ i, ∀ r ∈ x.take i, r ∈ x := fun i r hr => List.mem_of_mem_take hr
  have hln : (x.take n).length = n := by rw [List.length_take]; omega
  refine (show ACalls Tryz.prog 14 [vi 3, .sl none 7 (List.drop ((0 : Nat) : Int).toNat (List.take (((n : Nat) : Int)).toNat (recs x)))] [] _ from ?_)
  rw [htk]
  refine begun_calls (v := 3) (.inr (.inr rfl)) (x.take n) (by omega) (fun r hr => by have := (hxl r (hxt n r hr)).1; omega) ?_ ?_
  · intro hmo
    have hwh := fsL_whole (fileP 3 (x.take n))
    have hk := fsL_ok (fileP 3 (x.take n))
    have hfs := fileP_small hmo (show (x.take n).length ≤ 300 by omega)
    have hk0 := hk.mono (nb' := 1) (fb' := 1000000) (by omega) (by omega)
    clear hk
    have hcalm : Calm (fsL (fileP 3 (x.take n))) := ⟨rfl, rfl, rfl⟩
    generalize fsL (fileP 3 (x.take n)) = s at hwh hk0 hcalm ⊢
    (conv => whnf)
    refine Open_ok s logB 3 (x.take n) hwh.key (by rw [hwh.get]) hfs (fun hR => cGet_3 (x.take n) hmo (by omega) hR) ?_
    have hsn := recs_length (x.take n)
    rw [hln] at hsn
    (conv => whnf)
    refine br_intro (fun g => ?_) (fun g => ?_)
    · exfalso
      rw [hsn] at g
      simp at g
    clear g
    (conv => whnf)
    refine Fall_calls s _ ?_
    have hk1 := fall_ok hk0 (mod32 hb)
    have hwh1 : Whole ⟨s.fs, s.fail, capN (IntKind.i64.wrap (b.tmod 32)), s.down⟩ logB (fileP 3 (x.take n)) := hwh
    generalize hs1 : (FSt.mk s.fs s.fail (capN (IntKind.i64.wrap (b.tmod 32))) s.down) = s1 at hk1 hwh1 ⊢
    have hsf : fsM s = fsM s1 := by rw [← hs1]; rfl
    have hfl1 : s.fail = s1.fail := by rw [← hs1]
    have hfail0 := hcalm.1
    rw [hsf]
    clear hk0 hwh hs1 hsf hcalm
    rw [hfl1] at hfail0
    (conv => whnf)
    refine must_intro (decide_eq_true (by rw [hsx]; omega)) ?_
    (conv => whnf)
    refine ⟨rfl, by rw [htk, hsn, bytes_rec]; simp only [List.length_nil]; omega, ?_⟩
    have hdr : List.drop (((n : Nat) : Int)).toNat (List.take (((recs x).length : Nat) : Int).toNat (recs x)) = recs (x.drop n) := by
      rw [Int.toNat_natCast, Int.toNat_natCast, List.take_length]; unfold recs; rw [List.map_drop]
    have hsd := recs_length (x.drop n)
    (conv => whnf)
    refine must_intro (decide_eq_true (by rw [hsx]; omega)) ?_
    (conv => whnf)
    refine must_intro (decide_eq_true (Int.le_refl _)) ?_
    (conv => whnf)
    rw [hdr, htk, List.nil_append, hsn, show ([] : List (List AV)).length + n = n from Nat.zero_add n]
    have hsub : ∀ i, ∀ r ∈ x.take i, r ∈ x := fun i r hr => List.mem_of_mem_take hr
    refine LoopP.ind3 (fun (i : Nat) (s : FSt) (sy : Nat) => [(12, vi sy), (13, .sl (some (nameOf 66)) 7 (recs (x.take (n + i)))), (75, vi i)]) (fun i s sy => [(nameOf 10, .cells 37 (fileA 3 (x.take (n + i)))), (nameOf 66, .row 45 7 (n + i)), (freshN 37 0, fsC s (freshN 37 1)), (freshN 37 1, fsM s)]) (fun i _ _ => (x.drop n).length - i) (fun i s sy => JInv x n i s sy) 0 s1 n rfl
      ⟨by omega, hk1.mono (by omega) (by omega), hfail0, by omega, hmo, _, hwh1, Nat.le_refl _⟩ ?_
    clear hk1 hwh1 hmo hfs hfl1 hfail0
    rintro i s sy hI IH
    (conv => whnf)
    refine br_intro (fun hc => ?_) (fun hc => ?_)
    · have hi := lt_of_decE hsd hc
      have hil : n + i < x.length := by rw [List.length_drop] at hi; omega
      (conv => whnf); (repeat ((with_reducible refine must_intro ?_ ?_); exact decide_eq_true (by omega); (conv => whnf)))
      refine idxK_map_intro (show (i : Int).toNat < (x.drop n).length by simpa using hi) ?_
      rw [show (x.drop n)[(i : Int).toNat]'(by simpa using hi) = x[n + i] from by simp]
      have hrx : x[n + i] ∈ x := List.getElem_mem hil
      have hsn1 : x.take (n + (i + 1)) = x.take (n + i) ++ [x[n + i]] := by rw [show n + (i + 1) = n + i + 1 by omega, List.take_succ_eq_append_getElem hil]
      generalize x[n + i] = r at hrx hsn1 ⊢
      obtain ⟨hrd, hrl⟩ := hxl r hrx
      have hlt : (x.take (n + i)).length = n + i := by rw [List.length_take]; omega
      have hst := recs_length (x.take (n + i))
      rw [hlt] at hst
      (conv => whnf)
      refine refMay_calls 3 r (by omega) fun p hp => ?_
      cases p with
      | false =>
        obtain ⟨w, hw⟩ : ∃ w, w = n + i := ⟨_, rfl⟩
        obtain ⟨j, hj⟩ : ∃ j, j = w := ⟨_, rfl⟩
        have hE : JEnd x s j w sy := ⟨hI.hok.mono (by omega) (by omega), by have := hI.hsy; omega, by omega, by omega, by rw [hj, hw]; exact hI.hmay, by rw [hj, hw]; exact hI.hlog⟩
        rw [← hw]
        clear hI IH hi hc hw hsn1 hlt hst
        (conv => whnf)
        refine Crash_calls s [_] hE.hok (by omega) (by omega) (by simp) ?_
        obtain ⟨m, ms, t, hsym, hmw, hmm, hms1, hms2, ht, htl, hwc, hkc⟩ := hE.crash hx30 [IntKind.i64.wrap q]
        have hcc := crash_calm s [IntKind.i64.wrap q]
        generalize s.crash [IntKind.i64.wrap q] = s2 at hwc hkc hcc ⊢
        have hwl2 := hE.hw
        clear hE
        have hlm : (x.take m).length = m := by rw [List.length_take]; omega
        have hsm := recs_length (x.take m)
        have hsw := recs_length (x.take w)
        have hlw : (x.take w).length = w := by rw [List.length_take]; omega
        rw [hlm] at hsm
        rw [hlw] at hsw
        (conv => whnf)
        refine OpenCut_3 s2 logB hkc hcc (x.take m) hmm (by omega) ms hms1 hms2 t ht htl hwc fun s3 hk3 hc3 hw3 => ?_
        have hcut : List.drop ((0 : Nat) : Int).toNat (List.take (((recs (x.take m)).length : Nat) : Int).toNat (recs (x.take w))) = recs (x.take m) := by
          rw [Int.toNat_natCast, Int.toNat_natCast, List.drop_zero, hsm]
          unfold recs
          rw [← List.map_take, List.take_take, Nat.min_eq_left hmw]
        have hdm : ∀ r ∈ x.take m, r.deps.length < 1000000 := fun r hr => by have := (hxl r (hxt m r hr)).1; omega
        have hsmall := fileP_small hmm (show (x.take m).length ≤ 300 by omega)
        (conv => whnf)
        refine br_false (decide_eq_false (by rw [hsm]; omega)) ?_
        (conv => whnf)
        refine br_false (decide_eq_false (by rw [hsm, hsw]; omega)) ?_
        (conv => whnf)
        refine must_intro (decide_eq_true (by rw [hsm, hsw]; omega)) ?_
        (conv => whnf)
        refine (show ACalls Tryz.prog 21 [.sl none 7 (recs (x.take m)), .sl none 7 (List.drop ((0 : Nat) : Int).toNat (List.take (((recs (x.take m)).length : Nat) : Int).toNat (recs (x.take w))))] [] _ from ?_)
        rw [hcut]
        refine All_calls (x.take m) (x.take m) (by omega) hdm fun p hp => ?_
        obtain rfl : p = true := by simp [hp]
        (conv => whnf)
        refine Open_ok s3 logB 3 (x.take m) hw3.key (by rw [hw3.get]) hsmall (fun hR => cGet_3 (x.take m) hmm (by omega) hR) ?_
        (conv => whnf)
        refine fsRead_calls s3 logB (by rw [hw3.get]; show (fileP 3 (x.take m)).length < _; omega) (fun _ => ?_) (fun hno => absurd hw3.key hno)
        rw [hw3.get]
        show _
        (conv => whnf)
        refine fixed14_calls ?_
        (conv => whnf)
        refine All_calls (x.take m) (x.take m) (by omega) hdm fun p hp => ?_
        obtain rfl : p = true := by simp [hp]
        (conv => whnf)
        rw [show (⟨fileP 3 (x.take m), (fileP 3 (x.take m)).length⟩ : Fl).b = fileP 3 (x.take m) from rfl, bel_length, beq_self_eq_true]
        exact h
      | true =>
      have hmr : mayP 3 r = true := hp.symm
      clear hp
      have hmn : ∀ r ∈ x.take (n + (i + 1)), mayP 3 r = true := by
        rw [hsn1]
        intro y hy
        rcases List.mem_append.1 hy with hy | hy
        · exact hI.hmay y hy
        · rw [List.mem_singleton.1 hy]; exact hmr
      (conv => whnf)
      refine ⟨hst.symm, by rw [hst, bytes_rec]; simp only [List.length_cons, List.length_nil]; omega, ?_⟩
      have hrs : recs (x.take (n + i)) ++ [[AV.val (Value.int IntKind.i64 r.kind), AV.val (Value.string (ofB r.target)), AV.val (Value.int IntKind.u64 (r.rule.toNat : Int)), AV.sl none 3 (dpsA r.deps), AV.val (Value.int IntKind.u64 (r.out.toNat : Int)), AV.val (Value.int IntKind.u64 (r.wen.toNat : Int)), AV.val (Value.string (ofB r.tag))]] = recs (x.take (n + (i + 1))) := by
        rw [hsn1, recs_snoc]
        rfl
      have hfn : fileP 3 (x.take (n + i)) ++ moreP 3 (x.take (n + i)) r = fileP 3 (x.take (n + (i + 1))) := by rw [hsn1, fileP_snoc]
      have hml : (moreP 3 (x.take (n + i)) r).length ≤ 3000 := by
        have htl := tblL_len (v := 3) (l := x.take (n + i)) (t := []) (fun y hy => may_all (hI.hmay y hy))
        simp at htl
        exact payP_frames (may_all hmr) (by omega)
      obtain ⟨k, hk, hsyk⟩ := hI.hlog
      obtain ⟨hf', hcase⟩ := append_more hI.hfail (b := moreP 3 (x.take (n + i)) r) hk
      rw [hfn] at hcase
      have hok' := append_ok hI.hok (name := logB) (b := moreP 3 (x.take (n + i)) r) (by decide)
      have hsy := hI.hsy
      (conv => whnf)
      refine jAppend_3 s logB (by decide) hI.hok (by omega) (x.take (n + i)) (by omega) hI.hmay r hmr ?_ ?_
      all_goals generalize (s.append logB (moreP 3 (x.take (n + i)) r)) = se at hf' hcase hok' ⊢
      all_goals obtain ⟨s', e⟩ := se
      · intro he
        have he : e ≠ 0 := he
        obtain rfl : e = 7 := by rcases hcase with ⟨h1, _⟩ | ⟨h1, _⟩; exact absurd h1 he; exact h1
        have hlg := (hcase.resolve_left fun hx => by cases hx.1).2
        clear hcase
        obtain ⟨w, hw⟩ : ∃ w, w = n + (i + 1) := ⟨_, rfl⟩
        obtain ⟨j, hj⟩ : ∃ j, j ≤ w ∧ sy ≤ j ∧ (∀ r ∈ x.take j, mayP 3 r = true) ∧ ∃ k, lk s'.fs logB = some ⟨fileP 3 (x.take j), k⟩ ∧ (fileP 3 (x.take sy)).length ≤ k := by
          rcases hlg with hlg | hlg
          · exact ⟨n + i, by omega, hsy, hI.hmay, k, hlg, hsyk⟩
          · exact ⟨n + (i + 1), by omega, by omega, hmn, k, hlg, hsyk⟩
        obtain ⟨hj1, hj2, hj3, hj4⟩ := hj
        have hE : JEnd x s' j w sy := ⟨hok'.mono (by omega) (by omega), hj2, hj1, by omega, hj3, hj4⟩
        rw [hrs, ← hw]
        clear hI IH hi hc hw hsn1 hlt hst hrs hfn hml hk hsyk hf' hok' hsy hj1 hj2 hj3 hj4 hlg hmn
        rename FSt => s
        (conv => whnf)
        refine Crash_calls s [_] hE.hok (by omega) (by omega) (by simp) ?_
        obtain ⟨m, ms, t, hsym, hmw, hmm, hms1, hms2, ht, htl, hwc, hkc⟩ := hE.crash hx30 [IntKind.i64.wrap q]
        have hcc := crash_calm s [IntKind.i64.wrap q]
        generalize s.crash [IntKind.i64.wrap q] = s2 at hwc hkc hcc ⊢
        have hwl2 := hE.hw
        clear hE
        have hlm : (x.take m).length = m := by rw [List.length_take]; omega
        have hsm := recs_length (x.take m)
        have hsw := recs_length (x.take w)
        have hlw : (x.take w).length = w := by rw [List.length_take]; omega
        rw [hlm] at hsm
        rw [hlw] at hsw
        (conv => whnf)
        refine OpenCut_3 s2 logB hkc hcc (x.take m) hmm (by omega) ms hms1 hms2 t ht htl hwc fun s3 hk3 hc3 hw3 => ?_
        have hcut : List.drop ((0 : Nat) : Int).toNat (List.take (((recs (x.take m)).length : Nat) : Int).toNat (recs (x.take w))) = recs (x.take m) := by
          rw [Int.toNat_natCast, Int.toNat_natCast, List.drop_zero, hsm]
          unfold recs
          rw [← List.map_take, List.take_take, Nat.min_eq_left hmw]
        have hdm : ∀ r ∈ x.take m, r.deps.length < 1000000 := fun r hr => by have := (hxl r (hxt m r hr)).1; omega
        have hsmall := fileP_small hmm (show (x.take m).length ≤ 300 by omega)
        (conv => whnf)
        refine br_false (decide_eq_false (by rw [hsm]; omega)) ?_
        (conv => whnf)
        refine br_false (decide_eq_false (by rw [hsm, hsw]; omega)) ?_
        (conv => whnf)
        refine must_intro (decide_eq_true (by rw [hsm, hsw]; omega)) ?_
        (conv => whnf)
        refine (show ACalls Tryz.prog 21 [.sl none 7 (recs (x.take m)), .sl none 7 (List.drop ((0 : Nat) : Int).toNat (List.take (((recs (x.take m)).length : Nat) : Int).toNat (recs (x.take w))))] [] _ from ?_)
        rw [hcut]
        refine All_calls (x.take m) (x.take m) (by omega) hdm fun p hp => ?_
        obtain rfl : p = true := by simp [hp]
        (conv => whnf)
        refine Open_ok s3 logB 3 (x.take m) hw3.key (by rw [hw3.get]) hsmall (fun hR => cGet_3 (x.take m) hmm (by omega) hR) ?_
        (conv => whnf)
        refine fsRead_calls s3 logB (by rw [hw3.get]; show (fileP 3 (x.take m)).length < _; omega) (fun _ => ?_) (fun hno => absurd hw3.key hno)
        rw [hw3.get]
        show _
        (conv => whnf)
        refine fixed14_calls ?_
        (conv => whnf)
        refine All_calls (x.take m) (x.take m) (by omega) hdm fun p hp => ?_
        obtain rfl : p = true := by simp [hp]
        (conv => whnf)
        rw [show (⟨fileP 3 (x.take m), (fileP 3 (x.take m)).length⟩ : Fl).b = fileP 3 (x.take m) from rfl, bel_length, beq_self_eq_true]
        exact h
      · intro he
        have he : e = 0 := he
        subst he
        have hlg := (hcase.resolve_right fun hx => by cases hx.1).2
        clear hcase
        have hf' : s'.fail = -1 := hf'
        have hok' : FOk s' (2 + (i + 1)) (1000000 + 3000 * (i + 1)) := hok'.mono (by omega) (by omega)
        have hlg : lk s'.fs logB = some ⟨fileP 3 (x.take (n + (i + 1))), k⟩ := hlg
        have e8 : (recs (x.take (n + i)) ++ [r.enc]).length = n + (i + 1) := by rw [List.length_append, hst]; rfl
        have hSame := IH (i + 1) s' sy ⟨hi, hok', hf', by omega, hmn, k, hlg, hsyk⟩ (by omega)
        have hNew := fun s'' h => IH (i + 1) s'' (n + (i + 1)) h (by omega)
        have hSame' := fun s'' h => IH (i + 1) s'' sy h (by omega)
        rw [hsn1, recs_snoc] at hSame
        simp only [hsn1, recs_snoc] at hNew hSame'
        clear IH
        (conv => whnf)
        refine br_intro (fun g5 => ?_) (fun g5 => ?_)
        · (conv => whnf)
          have hsk := sync_ok hok' (name := logB)
          obtain ⟨hsf, hscase⟩ := sync_more hf' hlg
          refine Sync_calls s' logB hok'.fail hok'.fall ?_
          generalize (s'.sync logB) = se at hsk hsf hscase ⊢
          obtain ⟨s2, e2⟩ := se
          (conv => whnf)
          refine br_intro (fun g6 => ?_) (fun g6 => ?_)
          · have g6 : e2 = 0 := by simpa using g6
            have hl2 := (hscase.resolve_right fun hx => hx.1 g6).2
            have hN := hNew s2 ⟨hi, hsk, hsf, Nat.le_refl _, hmn, _, hl2, by rw [hsn1]; exact Nat.le_refl _⟩
            (conv => whnf)
            rw [i64_nat (by omega)]
            rw [show (recs (x.take (n + i)) ++ [[AV.val (Value.int IntKind.i64 r.kind), AV.val (Value.string (ofB r.target)), AV.val (Value.int IntKind.u64 (r.rule.toNat : Int)), AV.sl none 3 (dpsA r.deps), AV.val (Value.int IntKind.u64 (r.out.toNat : Int)), AV.val (Value.int IntKind.u64 (r.wen.toNat : Int)), AV.val (Value.string (ofB r.tag))]]).length = n + (i + 1) from e8, hst]
            exact hN
          · have g6 : e2 ≠ 0 := by simpa using g6
            have hl2 := (hscase.resolve_left fun hx => g6 hx.1).2
            have hS := hSame' s2 ⟨hi, hsk, hsf, by omega, hmn, _, hl2, hsyk⟩
            (conv => whnf)
            rw [i64_nat (by omega), hst]
            exact hS
        · (conv => whnf)
          rw [i64_nat (by omega), hst]
          exact hSame
    · have hi := ge_of_decE hsd hc
      obtain ⟨w, hw⟩ : ∃ w, w = n + i := ⟨_, rfl⟩
      have hwl : w ≤ x.length := by have := hI.hi; rw [List.length_drop] at this; omega
      obtain ⟨j, hj⟩ : ∃ j, j = w := ⟨_, rfl⟩
      have hE : JEnd x s j w sy := ⟨hI.hok.mono (by omega) (by omega), by have := hI.hsy; omega, by omega, hwl, by rw [hj, hw]; exact hI.hmay, by rw [hj, hw]; exact hI.hlog⟩
      rw [← hw]
      clear hI IH hi hc hw
      (conv => whnf)
      refine Crash_calls s [_] hE.hok (by omega) (by omega) (by simp) ?_
      obtain ⟨m, ms, t, hsym, hmw, hmm, hms1, hms2, ht, htl, hwc, hkc⟩ := hE.crash hx30 [IntKind.i64.wrap q]
      have hcc := crash_calm s [IntKind.i64.wrap q]
      generalize s.crash [IntKind.i64.wrap q] = s2 at hwc hkc hcc ⊢
      have hwl2 := hE.hw
      clear hE
      have hlm : (x.take m).length = m := by rw [List.length_take]; omega
      have hsm := recs_length (x.take m)
      have hsw := recs_length (x.take w)
      have hlw : (x.take w).length = w := by rw [List.length_take]; omega
      rw [hlm] at hsm
      rw [hlw] at hsw
      (conv => whnf)
      refine OpenCut_3 s2 logB hkc hcc (x.take m) hmm (by omega) ms hms1 hms2 t ht htl hwc fun s3 hk3 hc3 hw3 => ?_
      have hcut : List.drop ((0 : Nat) : Int).toNat (List.take (((recs (x.take m)).length : Nat) : Int).toNat (recs (x.take w))) = recs (x.take m) := by
        rw [Int.toNat_natCast, Int.toNat_natCast, List.drop_zero, hsm]
        unfold recs
        rw [← List.map_take, List.take_take, Nat.min_eq_left hmw]
      have hdm : ∀ r ∈ x.take m, r.deps.length < 1000000 := fun r hr => by have := (hxl r (hxt m r hr)).1; omega
      have hsmall := fileP_small hmm (show (x.take m).length ≤ 300 by omega)
      (conv => whnf)
      refine br_false (decide_eq_false (by rw [hsm]; omega)) ?_
      (conv => whnf)
      refine br_false (decide_eq_false (by rw [hsm, hsw]; omega)) ?_
      (conv => whnf)
      refine must_intro (decide_eq_true (by rw [hsm, hsw]; omega)) ?_
      (conv => whnf)
      refine (show ACalls Tryz.prog 21 [.sl none 7 (recs (x.take m)), .sl none 7 (List.drop ((0 : Nat) : Int).toNat (List.take (((recs (x.take m)).length : Nat) : Int).toNat (recs (x.take w))))] [] _ from ?_)
      rw [hcut]
      refine All_calls (x.take m) (x.take m) (by omega) hdm fun p hp => ?_
      obtain rfl : p = true := by simp [hp]
      (conv => whnf)
      refine Open_ok s3 logB 3 (x.take m) hw3.key (by rw [hw3.get]) hsmall (fun hR => cGet_3 (x.take m) hmm (by omega) hR) ?_
      (conv => whnf)
      refine fsRead_calls s3 logB (by rw [hw3.get]; show (fileP 3 (x.take m)).length < _; omega) (fun _ => ?_) (fun hno => absurd hw3.key hno)
      rw [hw3.get]
      show _
      (conv => whnf)
      refine fixed14_calls ?_
      (conv => whnf)
      refine All_calls (x.take m) (x.take m) (by omega) hdm fun p hp => ?_
      obtain rfl : p = true := by simp [hp]
      (conv => whnf)
      rw [show (⟨fileP 3 (x.take m), (fileP 3 (x.take m)).length⟩ : Fl).b = fileP 3 (x.take m) from rfl, bel_length, beq_self_eq_true]
      exact h
  · intro hno
    (conv => whnf)
    refine fixed14_calls ?_
    (conv => whnf)
    exact h
theorem args_u16 {ts : List TypeId} {l : List AV} (h : Args tab 12 (49 :: ts) l) : ∃ (x : Int) (l' : List AV), l = .val (.int .u16 x) :: l' ∧ Args tab 12 ts l' := by
  obtain ⟨a, l', rfl, h1, h2⟩ := h
  obtain ⟨x, e, hx⟩ : ∃ x, [a] = [.val (.int .u16 x)] ∧ (Lit.int .u16 x).wf = true := h1
  simp only [List.cons.injEq, and_true] at e
  exact ⟨x, l', by rw [e], h2⟩
theorem JournalAppends_row (l : List AV) (h : Args tab 12 [22, 23, 49] l) : ACalls Tryz.prog 5 l [] fun r _ => r = .val (.bool true) := by
  obtain ⟨a, l1, rfl, h1, h2, h3⟩ := args_recs h
  obtain ⟨v, l3, rfl, ⟨w, rfl, hw⟩, h4⟩ := h3
  obtain ⟨x, y, z, u, rfl, hx, hy, hz, hu⟩ := typed_four hw
  obtain ⟨q, l4, rfl, h5⟩ := args_u16 h4
  obtain rfl := args_nil h5
  exact JournalAppends_calls a h1 h2 x y z u hx hy hz hu q rfl
end Go.Abs
end
