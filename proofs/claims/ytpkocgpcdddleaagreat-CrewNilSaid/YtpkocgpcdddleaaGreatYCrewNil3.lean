/- Several texts of this claim, one behind the other: P7, P8, NC, NA, P9, PA, PB, PD, PC, PE, LA, LB, LC, PF, PG, PH, PI, PJ, PK, UE, UI, UJ, UK, PL. -/
import Derived.Test.YtpkocgpcdddleaaGreatYCrewNil2
import Derived.Test.YtpkocgpcdddleaaGreatC1
set_option maxRecDepth 100000
set_option maxHeartbeats 4000000
set_option linter.unusedVariables false
set_option linter.unusedSimpArgs false
section
namespace Go.Abs
open Go Go.Proofs Dig
attribute [local irreducible] ibits byteAt strLt firstIdx
theorem num_pre {P A : B} {n : Nat} (hP : A ++ vrn n <+: P) (hn : n < 18446744073709551616) (hl : P.length < 1000000) {R} (h : R (un n) [cO P (A ++ vrn n).length]) :
  ACalls Tryz.prog 251 [.ptr 0 0] [cO P A.length] R := by
 obtain ⟨Q, hQ⟩ := hP
 exact num_at hQ.symm hn hl h
theorem byte1_at {P q : B} (hP : P = 1 :: q) (hl : P.length < 1000000) {R} (h : R (.val (.int .u8 1)) [cO P ([1] : B).length]) : ACalls Tryz.prog 250 [.ptr 0 0] [cO P 0] R := by
 subst hP
 exact Byte_calls 1 q (by simp at hl; omega) h
theorem byte2_at {P q : B} (hP : P = 2 :: q) (hl : P.length < 1000000) {R} (h : R (.val (.int .u8 2)) [cO P ([2] : B).length]) : ACalls Tryz.prog 250 [.ptr 0 0] [cO P 0] R := by
 subst hP
 exact Byte_calls 2 q (by simp at hl; omega) h
theorem rknown_pre {P A : B} {l : List B} {s : B} (hs : s ∈ l) (hP : A ++ vrn (l.idxOf s) <+: P) (hl : P.length < 1000000) (hll : l.length < 1000000) {R} (h : R (vs s) [cO P (A ++ vrn (l.idxOf s)).length, tblO 2 3 l, tblR l, tblM l]) :
  ACalls Tryz.prog 248 [rdr] [cO P A.length, tblO 2 3 l, tblR l, tblM l] R := by
 obtain ⟨Q, hQ⟩ := hP
 exact rknown_O hs hQ.symm hl hll h
theorem rblob_pre {P A s : B} (hs : s.length ≤ 64) (hP : A ++ blobP s <+: P) (hl : P.length < 1000000) {R} (h : R (vs s) [cO P (A ++ blobP s).length, tblF]) :
  ACalls Tryz.prog 249 [rdr] [cO P A.length, tblF] R := by
 obtain ⟨Q, hQ⟩ := hP
 exact rblob_F hs hQ.symm hl h
def rO (k : Int) (tg : B) (ru : Nat) (deps : AV) (ou we : Nat) (ta : B) : AObj := .cells 64 [vi k, vs tg, un ru, deps, un ou, un we, vs ta]
def rdO : AObj := .cells 333 [.ptr 0 0, .ptr 1 0]
theorem depsW_split {v : Int} {t : List B} {l : List Dp} {i : Nat} (hi : i < l.length) : depsW v t l = depsW v t (l.take i) ++ (depW v t l[i] ++ depsW v t (l.drop (i + 1))) := by
 have e : l.take i ++ (l[i] :: l.drop (i + 1)) = l := by rw [← List.drop_eq_getElem_cons hi, List.take_append_drop]
 have e2 : depsW v t (l.take i ++ (l[i] :: l.drop (i + 1))) = depsW v t (l.take i) ++ (depW v t l[i] ++ depsW v t (l.drop (i + 1))) := by
  unfold depsW
  rw [List.map_append, List.map_cons, List.flatten_append, List.flatten_cons]
 rw [e] at e2
 exact e2
theorem le_rec3 (k : Int) (t : B) (u o w : Nat) (g : B) : AV.le (.agg [vi k, vs t, un u, .val (.slice none 0 0), un o, un w, vs g]) (.agg [vi k, vs t, un u, .sl none 3 [], un o, un w, vs g]) :=
 le_agg (.cons (.refl _) (.cons (.refl _) (.cons (.refl _) (.cons (le_nil 3) (leL.refl _)))))
theorem bytes_dep : (tab.ti 143).bytes = 32 := rfl
theorem dpsA_take {l : List Dp} {i : Nat} (hi : i < l.length) : dpsA (l.take (i + 1)) = dpsA (l.take i) ++ [l[i].enc] := by
 rw [List.take_succ_eq_append_getElem hi]
 unfold dpsA
 rw [List.map_append]
 rfl
theorem rdep_pre1 {P A : B} {d : Dp} (hs : d.name.length ≤ 64) (ho : d.order = false) (hP : A ++ blobP d.name <+: P) (hl : P.length < 1000000) {R} (h : R (.agg [vs d.name, un 0, .val (.bool d.order)]) [cO P (A ++ blobP d.name).length, tblF]) :
  ACalls Tryz.prog 253 [rdr, vi 1, .fn (.func 249) [rdr] []] [cO P A.length, tblF] R := by
 obtain ⟨Q, hQ⟩ := hP
 exact rdep_1 hs ho hQ.symm hl h
theorem rdep_pre2 {P A : B} {l : List B} {d : Dp} (hs : d.name ∈ l) (ho : d.order = false) (hP : A ++ vrn (l.idxOf d.name) <+: P) (hl : P.length < 1000000) (hll : l.length < 1000000) {R} (h : R (.agg [vs d.name, un 0, .val (.bool d.order)]) [cO P (A ++ vrn (l.idxOf d.name)).length, tblO 2 3 l, tblR l, tblM l]) :
  ACalls Tryz.prog 253 [rdr, vi 2, .fn (.func 248) [rdr] []] [cO P A.length, tblO 2 3 l, tblR l, tblM l] R := by
 obtain ⟨Q, hQ⟩ := hP
 exact rdep_2 hs ho hQ.symm hl hll h
theorem rdep_pre3 {P A : B} {l : List B} {d : Dp} (hs : d.name ∈ l) (hP : A ++ vrn (depN l d) <+: P) (hl : P.length < 1000000) (hll : l.length < 1000000) {R} (h : R (.agg [vs d.name, un 0, .val (.bool d.order)]) [cO P (A ++ vrn (depN l d)).length, tblO 2 3 l, tblR l, tblM l]) :
  ACalls Tryz.prog 253 [rdr, vi 3, .fn (.func 248) [rdr] []] [cO P A.length, tblO 2 3 l, tblR l, tblM l] R := by
 obtain ⟨Q, hQ⟩ := hP
 exact rdep_3 hs hQ.symm hl hll h
theorem rlast_1 (r : Rc) (hm : MayR 1 r) {R} (h : R (.agg r.enc) [cO (lastW 1 [] r) (lastW 1 [] r).length, tblF]) :
  ACalls Tryz.prog 235 [rdr, vi 1] [cO (lastW 1 [] r) 0, tblF] R := by
 have hk := hm.kind.imp id goneR_kind
 have hF := frontW_len (v := 1) (t := []) hm (by simp)
 have hD := depsW_take (v := 1) (t := []) hm (by simp)
 have hPl := (lastW_len (v := 1) (t := []) hm (by simp)).2
 have hd16 := hm.deps
 have hnm := hm.names
 have ht2 := hm.t2
 have hw0 := hm.wen
 have htg3 := hm.tag3
 have hord := hm.order
 refine ACalls.res ?_
 refine acalls_of_xwp (an := an235) tab_ok Tryz.func235 ?_
 rcases hk with hk | hk
 ·have e1 := lastW_trace (v := 1) (t := []) hk
  have eF : frontW 1 [] r = [1] ++ blobP r.target ++ vrn r.rule.toNat ++ vrn r.deps.length := by unfold frontW textW; simp
  have eE : endW 1 [] r = vrn r.out.toNat := by simp [endW]
  rw [eE] at e1
  generalize lastW 1 [] r = P at h hPl e1 ⊢
  obtain ⟨k, tg, ru, ds, ou, we, ta⟩ := r
  dsimp only at hk hF hD hd16 hnm ht2 h eF e1 hw0 htg3 hord
  subst hk
  have q0 : ∃ q, P = 1 :: q := ⟨_, by rw [e1, eF]; simp only [List.append_assoc, List.cons_append, List.nil_append]; rfl⟩
  have q1 : [1] ++ blobP tg <+: P := ⟨_, by rw [e1, eF]; simp only [List.append_assoc, List.cons_append, List.nil_append]; rfl⟩
  have q2 : [1] ++ blobP tg ++ vrn ru.toNat <+: P := ⟨_, by rw [e1, eF]; simp only [List.append_assoc, List.cons_append, List.nil_append]; rfl⟩
  have q3 : [1] ++ blobP tg ++ vrn ru.toNat ++ vrn ds.length <+: P := ⟨_, by rw [e1, eF]; simp only [List.append_assoc, List.cons_append, List.nil_append]; rfl⟩
  obtain ⟨q, q0⟩ := q0
  conv => whnf
  refine byte1_at q0 (by omega) ?_
  conv => whnf
  refine rblob_pre ht2 q1 (by omega) ?_
  conv => whnf
  refine num_pre q2 ru.isLt (by omega) ?_
  conv => whnf
  refine num_pre q3 (by omega) (by omega) ?_
  rw [← eF]
  generalize frontW 1 [] (Rc.mk 1 tg ru ds ou we ta) = F at h hF e1 ⊢
  clear q1 q2 q3 q0 eF
  have p1 : F ++ depsW 1 [] ds ++ vrn ou.toNat <+: P := ⟨[], by rw [List.append_nil, e1]⟩
  have e1' := e1
  by_cases hds : ds = []
  ·subst hds
   have hz : depsW 1 [] [] = [] := rfl
   rw [hz, List.append_nil] at p1 e1
   conv => whnf
   refine LoopP.step ?_
   conv => whnf
   have hw : we = 0 := hw0 rfl
   have hta : ta = [] := htg3 (by decide)
   subst hw hta
   have pe : F ++ vrn ou.toNat = P := e1.symm
   refine num_pre p1 ou.isLt (by omega) ?_
   rw [pe]
   conv => whnf
   exact res_le (le_rec3 1 tg ru.toNat ou.toNat 0 []) rfl h
  ·have hpos : 0 < ds.length := List.length_pos_iff.2 hds
   have hstep : ∀ (i : Nat) (hi : i < ds.length) (A : B), A = F ++ depsW 1 [] (ds.take i) → (A ++ blobP ds[i].name <+: P) ∧ (A ++ blobP ds[i].name ++ vrn ds[i].hash.toNat <+: P) ∧ A ++ blobP ds[i].name ++ vrn ds[i].hash.toNat = F ++ depsW 1 [] (ds.take (i + 1)) := by
    intro i hi A hA
    have e2 := depsW_split (v := 1) (t := []) hi
    have e3 : depW 1 [] ds[i] = blobP ds[i].name ++ vrn ds[i].hash.toNat := by simp [depW, textW]
    refine ⟨⟨_, by rw [e1, hA, e2, e3]; simp only [List.append_assoc]; rfl⟩, ⟨_, by rw [e1, hA, e2, e3]; simp only [List.append_assoc]; rfl⟩, ?_⟩
    rw [hA, depsW_snoc hi, e3]
    simp
   have h00 := hstep 0 hpos F (by simp [depsW])
   obtain ⟨w1, w2, w3⟩ := h00
   have hn0 := hnm ds[0] (List.getElem_mem hpos)
   have ho := hord (by decide) ds[0] (List.getElem_mem hpos)
   have hn := hn0
   have eN : IntKind.u64.wrap (((ds.length : Nat) : Int) - 1) = ((ds.length - 1 : Nat) : Int) := by
    show (((ds.length : Nat) : Int) - 1) % 18446744073709551616 = _
    omega
   have ed : dpsA (ds.take 1) = [ds[0].enc] := by rw [dpsA_take hpos]; rfl
   have hB2 : F ++ blobP ds[0].name ++ vrn ds[0].hash.toNat = F ++ depsW 1 [] (ds.take 1) := w3
   generalize hd0 : ds[0] = d at w1 w2 w3 hn0 ed hB2 ho hn
   conv => whnf
   refine LoopP.step ?_
   conv => whnf
   refine br_true (decide_eq_true (by omega)) ?_
   conv => whnf
   refine Err_calls P _ ?_
   conv => whnf
   refine rdep_pre1 hn.2 ho w1 (by omega) ?_
   conv => whnf
   refine num_pre w2 d.hash.isLt (by omega) ?_
   conv => whnf
   refine ⟨(by rw [bytes_dep]; decide : 1 * ((tab.ti 143).bytes + 1) ≤ 140737488355328), ?_⟩
   conv => whnf
   rw [eN, show [[AV.val (Value.string (ofB d.name)), AV.val (Value.int IntKind.u64 ((d.hash.toNat : Nat) : Int)), AV.val (Value.bool d.order)]] = dpsA (ds.take 1) from ed.symm, show (dpsA (ds.take 1)).length = 1 by rw [ed]; rfl]
   refine LoopP.ind2 (fun (i : Nat) (A : B) => [(6, un (ds.length - i))]) (fun i A => [(0, cO P A.length), (1, tblF), (nameOf 2, rdO), (nameOf 4, rO 1 tg ru.toNat (.sl (some (nameOf 56)) 3 (dpsA (ds.take i))) 0 0 []), (nameOf 56, .row 143 3 i)]) (fun i _ => ds.length - i) (fun i A => 1 ≤ i ∧ i ≤ ds.length ∧ A = F ++ depsW 1 [] (ds.take i)) 1 (F ++ blobP d.name ++ vrn d.hash.toNat) rfl ⟨by omega, by omega, hB2⟩ ?_
   rintro i A ⟨h1, h2, hA⟩ IH
   have hlA : (dpsA (ds.take i)).length = i := by rw [dpsA_length, List.length_take]; omega
   conv => whnf
   refine br_intro (fun hc => ?_) (fun hc => ?_)
   ·have hc : i < ds.length := by have hc := of_decide_eq_true hc; omega
    obtain ⟨v1, v2, v3⟩ := hstep i hc A hA
    have hni := hnm ds[i] (List.getElem_mem hc)
    have ho := hord (by decide) ds[i] (List.getElem_mem hc)
    have hn := hni
    have IH := IH (i + 1) _ ⟨by omega, by omega, v3⟩ (by omega)
    rw [dpsA_take hc] at IH
    have eN2 : IntKind.u64.wrap (((ds.length - i : Nat) : Int) - 1) = ((ds.length - (i + 1) : Nat) : Int) := by
     show (((ds.length - i : Nat) : Int) - 1) % 18446744073709551616 = _
     omega
    generalize ds[i] = e at v1 v2 v3 hni IH ho hn
    conv => whnf
    refine Err_calls P _ ?_
    conv => whnf
    refine rdep_pre1 hn.2 ho v1 (by omega) ?_
    conv => whnf
    refine num_pre v2 e.hash.isLt (by omega) ?_
    conv => whnf
    refine ⟨hlA.symm, by rw [hlA, bytes_dep]; simp; omega, ?_⟩
    conv => whnf
    rw [eN2, hlA]
    exact IH
   ·have hc : i = ds.length := by have hc := of_decide_eq_false hc; omega
    subst hc
    rw [List.take_length] at hA
    rw [← hA] at p1 e1
    rw [List.take_length]
    conv => whnf
    have hw : we = 0 := hw0 rfl
    have hta : ta = [] := htg3 (by decide)
    subst hw hta
    have pe : A ++ vrn ou.toNat = P := e1.symm
    refine num_pre p1 ou.isLt (by omega) ?_
    rw [pe]
    conv => whnf
    exact res_same h
 ·have e1 := lastW_gone (v := 1) (t := []) hk
  have eg : r.enc = [vi 2, vs r.target, un 0, .sl none 3 [], un 0, un 0, vs []] := by
   rcases hm.kind with e | e
   ·rw [e] at hk; cases hk
   ·rw [e]; rfl
  have e2 : textW 1 [] r.target = blobP r.target := by simp [textW]
  rw [e2] at e1
  rw [eg] at h
  generalize lastW 1 [] r = P at h hPl e1 ⊢
  obtain ⟨k, tg, ru, ds, ou, we, ta⟩ := r
  dsimp only at hk ht2 h e1
  have q1 : [2] ++ blobP tg = P := by rw [e1]; rfl
  have q1' : [2] ++ blobP tg <+: P := ⟨[], by rw [List.append_nil]; exact q1⟩
  conv => whnf
  refine byte2_at e1 (by omega) ?_
  conv => whnf
  refine rblob_pre ht2 q1' (by omega) ?_
  rw [q1]
  conv => whnf
  exact res_le (le_rec3 2 tg 0 0 0 []) rfl h
theorem rlast_2 (r : Rc) (l : List B) (hm : MayR 2 r) (hl : l.length < 100000) (ht : r.target ∈ l) (hds : ∀ d ∈ r.deps, d.name ∈ l) (htg : r.tag ≠ [] → r.tag ∈ l) {R} (h : R (.agg r.enc) [cO (lastW 2 l r) (lastW 2 l r).length, tblO 2 3 l, tblR l, tblM l]) :
  ACalls Tryz.prog 235 [rdr, vi 2] [cO (lastW 2 l r) 0, tblO 2 3 l, tblR l, tblM l] R := by
 have hk := hm.kind.imp id goneR_kind
 have hF := frontW_len (v := 2) (t := l) hm (by omega)
 have hD := depsW_take (v := 2) (t := l) hm (by omega)
 have hPl := (lastW_len (v := 2) (t := l) hm (by omega)).2
 have hd16 := hm.deps
 have hnm := hm.names
 have ht2 := hm.t2
 have hw0 := hm.wen
 have htg3 := hm.tag3
 have hord := hm.order
 refine ACalls.res ?_
 refine acalls_of_xwp (an := an235) tab_ok Tryz.func235 ?_
 rcases hk with hk | hk
 ·have e1 := lastW_trace (v := 2) (t := l) hk
  have eF : frontW 2 l r = [1] ++ vrn (l.idxOf r.target) ++ vrn r.rule.toNat ++ vrn r.deps.length := by unfold frontW textW; simp
  have eE : endW 2 l r = vrn r.out.toNat ++ vrn r.wen.toNat := by simp [endW]
  rw [eE] at e1
  generalize lastW 2 l r = P at h hPl e1 ⊢
  obtain ⟨k, tg, ru, ds, ou, we, ta⟩ := r
  dsimp only at hk hF hD hd16 hnm ht2 h eF e1 hw0 htg3 hord ht hds htg
  subst hk
  have q0 : ∃ q, P = 1 :: q := ⟨_, by rw [e1, eF]; simp only [List.append_assoc, List.cons_append, List.nil_append]; rfl⟩
  have q1 : [1] ++ vrn (l.idxOf tg) <+: P := ⟨_, by rw [e1, eF]; simp only [List.append_assoc, List.cons_append, List.nil_append]; rfl⟩
  have q2 : [1] ++ vrn (l.idxOf tg) ++ vrn ru.toNat <+: P := ⟨_, by rw [e1, eF]; simp only [List.append_assoc, List.cons_append, List.nil_append]; rfl⟩
  have q3 : [1] ++ vrn (l.idxOf tg) ++ vrn ru.toNat ++ vrn ds.length <+: P := ⟨_, by rw [e1, eF]; simp only [List.append_assoc, List.cons_append, List.nil_append]; rfl⟩
  obtain ⟨q, q0⟩ := q0
  conv => whnf
  refine byte1_at q0 (by omega) ?_
  conv => whnf
  refine rknown_pre ht q1 (by omega) (by omega) ?_
  conv => whnf
  refine num_pre q2 ru.isLt (by omega) ?_
  conv => whnf
  refine num_pre q3 (by omega) (by omega) ?_
  rw [← eF]
  generalize frontW 2 l (Rc.mk 1 tg ru ds ou we ta) = F at h hF e1 ⊢
  clear q1 q2 q3 q0 eF
  have p1 : F ++ depsW 2 l ds ++ vrn ou.toNat <+: P := ⟨_, by rw [e1]; simp only [List.append_assoc]; rfl⟩
  have p2 : F ++ depsW 2 l ds ++ vrn ou.toNat ++ vrn we.toNat = P := by rw [e1]; simp only [List.append_assoc]
  have p2' : F ++ depsW 2 l ds ++ vrn ou.toNat ++ vrn we.toNat <+: P := ⟨[], by rw [List.append_nil]; exact p2⟩
  have hds1 : ∀ d ∈ ds, d.name ∈ l := hds
  have e1' := e1
  by_cases hds : ds = []
  ·subst hds
   have hz : depsW 2 l [] = [] := rfl
   rw [hz, List.append_nil] at p1 e1
   rw [hz, List.append_nil] at p2 p2'
   conv => whnf
   refine LoopP.step ?_
   conv => whnf
   have hta : ta = [] := htg3 (by decide)
   subst hta
   refine num_pre p1 ou.isLt (by omega) ?_
   conv => whnf
   refine num_pre p2' we.isLt (by omega) ?_
   rw [p2]
   conv => whnf
   exact res_le (le_rec3 1 tg ru.toNat ou.toNat we.toNat []) rfl h
  ·have hpos : 0 < ds.length := List.length_pos_iff.2 hds
   have hstep : ∀ (i : Nat) (hi : i < ds.length) (A : B), A = F ++ depsW 2 l (ds.take i) → (A ++ vrn (l.idxOf ds[i].name) <+: P) ∧ (A ++ vrn (l.idxOf ds[i].name) ++ vrn ds[i].hash.toNat <+: P) ∧ A ++ vrn (l.idxOf ds[i].name) ++ vrn ds[i].hash.toNat = F ++ depsW 2 l (ds.take (i + 1)) := by
    intro i hi A hA
    have e2 := depsW_split (v := 2) (t := l) hi
    have e3 : depW 2 l ds[i] = vrn (l.idxOf ds[i].name) ++ vrn ds[i].hash.toNat := by simp [depW, textW]
    refine ⟨⟨_, by rw [e1, hA, e2, e3]; simp only [List.append_assoc]; rfl⟩, ⟨_, by rw [e1, hA, e2, e3]; simp only [List.append_assoc]; rfl⟩, ?_⟩
    rw [hA, depsW_snoc hi, e3]
    simp
   have h00 := hstep 0 hpos F (by simp [depsW])
   obtain ⟨w1, w2, w3⟩ := h00
   have hn0 := hnm ds[0] (List.getElem_mem hpos)
   have ho := hord (by decide) ds[0] (List.getElem_mem hpos)
   have hin := hds1 ds[0] (List.getElem_mem hpos)
   have eN : IntKind.u64.wrap (((ds.length : Nat) : Int) - 1) = ((ds.length - 1 : Nat) : Int) := by
    show (((ds.length : Nat) : Int) - 1) % 18446744073709551616 = _
    omega
   have ed : dpsA (ds.take 1) = [ds[0].enc] := by rw [dpsA_take hpos]; rfl
   have hB2 : F ++ vrn (l.idxOf ds[0].name) ++ vrn ds[0].hash.toNat = F ++ depsW 2 l (ds.take 1) := w3
   generalize hd0 : ds[0] = d at w1 w2 w3 hn0 ed hB2 ho hin
   conv => whnf
   refine LoopP.step ?_
   conv => whnf
   refine br_true (decide_eq_true (by omega)) ?_
   conv => whnf
   refine Err_calls P _ ?_
   conv => whnf
   refine rdep_pre2 hin ho w1 (by omega) (by omega) ?_
   conv => whnf
   refine num_pre w2 d.hash.isLt (by omega) ?_
   conv => whnf
   refine ⟨(by rw [bytes_dep]; decide : 1 * ((tab.ti 143).bytes + 1) ≤ 140737488355328), ?_⟩
   conv => whnf
   rw [eN, show [[AV.val (Value.string (ofB d.name)), AV.val (Value.int IntKind.u64 ((d.hash.toNat : Nat) : Int)), AV.val (Value.bool d.order)]] = dpsA (ds.take 1) from ed.symm, show (dpsA (ds.take 1)).length = 1 by rw [ed]; rfl]
   refine LoopP.ind2 (fun (i : Nat) (A : B) => [(6, un (ds.length - i))]) (fun i A => [(0, cO P A.length), (1, tblO 2 3 l), (2, tblR l), (3, tblM l), (nameOf 2, rdO), (nameOf 4, rO 1 tg ru.toNat (.sl (some (nameOf 56)) 3 (dpsA (ds.take i))) 0 0 []), (nameOf 56, .row 143 3 i)]) (fun i _ => ds.length - i) (fun i A => 1 ≤ i ∧ i ≤ ds.length ∧ A = F ++ depsW 2 l (ds.take i)) 1 (F ++ vrn (l.idxOf d.name) ++ vrn d.hash.toNat) rfl ⟨by omega, by omega, hB2⟩ ?_
   rintro i A ⟨h1, h2, hA⟩ IH
   have hlA : (dpsA (ds.take i)).length = i := by rw [dpsA_length, List.length_take]; omega
   conv => whnf
   refine br_intro (fun hc => ?_) (fun hc => ?_)
   ·have hc : i < ds.length := by have hc := of_decide_eq_true hc; omega
    obtain ⟨v1, v2, v3⟩ := hstep i hc A hA
    have hni := hnm ds[i] (List.getElem_mem hc)
    have ho := hord (by decide) ds[i] (List.getElem_mem hc)
    have hin := hds1 ds[i] (List.getElem_mem hc)
    have IH := IH (i + 1) _ ⟨by omega, by omega, v3⟩ (by omega)
    rw [dpsA_take hc] at IH
    have eN2 : IntKind.u64.wrap (((ds.length - i : Nat) : Int) - 1) = ((ds.length - (i + 1) : Nat) : Int) := by
     show (((ds.length - i : Nat) : Int) - 1) % 18446744073709551616 = _
     omega
    generalize ds[i] = e at v1 v2 v3 hni IH ho hin
    conv => whnf
    refine Err_calls P _ ?_
    conv => whnf
    refine rdep_pre2 hin ho v1 (by omega) (by omega) ?_
    conv => whnf
    refine num_pre v2 e.hash.isLt (by omega) ?_
    conv => whnf
    refine ⟨hlA.symm, by rw [hlA, bytes_dep]; simp; omega, ?_⟩
    conv => whnf
    rw [eN2, hlA]
    exact IH
   ·have hc : i = ds.length := by have hc := of_decide_eq_false hc; omega
    subst hc
    rw [List.take_length] at hA
    rw [← hA] at p1 e1
    rw [← hA] at p2 p2'
    rw [List.take_length]
    conv => whnf
    have hta : ta = [] := htg3 (by decide)
    subst hta
    refine num_pre p1 ou.isLt (by omega) ?_
    conv => whnf
    refine num_pre p2' we.isLt (by omega) ?_
    rw [p2]
    conv => whnf
    exact res_same h
 ·have e1 := lastW_gone (v := 2) (t := l) hk
  have eg : r.enc = [vi 2, vs r.target, un 0, .sl none 3 [], un 0, un 0, vs []] := by
   rcases hm.kind with e | e
   ·rw [e] at hk; cases hk
   ·rw [e]; rfl
  have e2 : textW 2 l r.target = vrn (l.idxOf r.target) := by simp [textW]
  rw [e2] at e1
  rw [eg] at h
  generalize lastW 2 l r = P at h hPl e1 ⊢
  obtain ⟨k, tg, ru, ds, ou, we, ta⟩ := r
  dsimp only at hk ht2 h e1 ht hds htg
  have q1 : [2] ++ vrn (l.idxOf tg) = P := by rw [e1]; rfl
  have q1' : [2] ++ vrn (l.idxOf tg) <+: P := ⟨[], by rw [List.append_nil]; exact q1⟩
  conv => whnf
  refine byte2_at e1 (by omega) ?_
  conv => whnf
  refine rknown_pre ht q1' (by omega) (by omega) ?_
  rw [q1]
  conv => whnf
  exact res_le (le_rec3 2 tg 0 0 0 []) rfl h
theorem rlast_3 (r : Rc) (l : List B) (hm : MayR 3 r) (hl : l.length < 100000) (ht : r.target ∈ l) (hds : ∀ d ∈ r.deps, d.name ∈ l) (htg : r.tag ≠ [] → r.tag ∈ l) {R} (h : R (.agg r.enc) [cO (lastW 3 l r) (lastW 3 l r).length, tblO 2 3 l, tblR l, tblM l]) :
  ACalls Tryz.prog 235 [rdr, vi 3] [cO (lastW 3 l r) 0, tblO 2 3 l, tblR l, tblM l] R := by
 have hk := hm.kind.imp id goneR_kind
 have hF := frontW_len (v := 3) (t := l) hm (by omega)
 have hD := depsW_take (v := 3) (t := l) hm (by omega)
 have hPl := (lastW_len (v := 3) (t := l) hm (by omega)).2
 have hd16 := hm.deps
 have hnm := hm.names
 have ht2 := hm.t2
 have hw0 := hm.wen
 have htg3 := hm.tag3
 have hord := hm.order
 refine ACalls.res ?_
 refine acalls_of_xwp (an := an235) tab_ok Tryz.func235 ?_
 rcases hk with hk | hk
 ·have e1 := lastW_trace (v := 3) (t := l) hk
  have eF : frontW 3 l r = [1] ++ vrn (l.idxOf r.target) ++ vrn r.rule.toNat ++ vrn r.deps.length := by unfold frontW textW; simp
  have eE : endW 3 l r = vrn r.out.toNat ++ vrn r.wen.toNat ++ tagW l r.tag := by simp [endW]
  rw [eE] at e1
  generalize lastW 3 l r = P at h hPl e1 ⊢
  obtain ⟨k, tg, ru, ds, ou, we, ta⟩ := r
  dsimp only at hk hF hD hd16 hnm ht2 h eF e1 hw0 htg3 hord ht hds htg
  subst hk
  have q0 : ∃ q, P = 1 :: q := ⟨_, by rw [e1, eF]; simp only [List.append_assoc, List.cons_append, List.nil_append]; rfl⟩
  have q1 : [1] ++ vrn (l.idxOf tg) <+: P := ⟨_, by rw [e1, eF]; simp only [List.append_assoc, List.cons_append, List.nil_append]; rfl⟩
  have q2 : [1] ++ vrn (l.idxOf tg) ++ vrn ru.toNat <+: P := ⟨_, by rw [e1, eF]; simp only [List.append_assoc, List.cons_append, List.nil_append]; rfl⟩
  have q3 : [1] ++ vrn (l.idxOf tg) ++ vrn ru.toNat ++ vrn ds.length <+: P := ⟨_, by rw [e1, eF]; simp only [List.append_assoc, List.cons_append, List.nil_append]; rfl⟩
  obtain ⟨q, q0⟩ := q0
  conv => whnf
  refine byte1_at q0 (by omega) ?_
  conv => whnf
  refine rknown_pre ht q1 (by omega) (by omega) ?_
  conv => whnf
  refine num_pre q2 ru.isLt (by omega) ?_
  conv => whnf
  refine num_pre q3 (by omega) (by omega) ?_
  rw [← eF]
  generalize frontW 3 l (Rc.mk 1 tg ru ds ou we ta) = F at h hF e1 ⊢
  clear q1 q2 q3 q0 eF
  have p1 : F ++ depsW 3 l ds ++ vrn ou.toNat <+: P := ⟨_, by rw [e1]; simp only [List.append_assoc]; rfl⟩
  have p2 : F ++ depsW 3 l ds ++ vrn ou.toNat ++ vrn we.toNat <+: P := ⟨_, by rw [e1]; simp only [List.append_assoc]; rfl⟩
  have hds1 : ∀ d ∈ ds, d.name ∈ l := hds
  have e1' := e1
  by_cases hds : ds = []
  ·subst hds
   have hz : depsW 3 l [] = [] := rfl
   rw [hz, List.append_nil] at p1 e1
   rw [hz, List.append_nil] at p2
   conv => whnf
   refine LoopP.step ?_
   conv => whnf
   have hix := List.idxOf_le_length (a := ta) (l := l)
   have pe : F ++ vrn ou.toNat ++ vrn we.toNat ++ tagW l ta = P := by rw [e1]; simp only [List.append_assoc]
   have pe' : F ++ vrn ou.toNat ++ vrn we.toNat ++ tagW l ta <+: P := ⟨[], by rw [List.append_nil]; exact pe⟩
   refine num_pre p1 ou.isLt (by omega) ?_
   conv => whnf
   refine num_pre p2 we.isLt (by omega) ?_
   conv => whnf
   by_cases hta : ta = []
   ·subst hta
    rw [show tagW l [] = vrn 0 from rfl] at pe pe'
    refine num_pre pe' (by omega) (by omega) ?_
    rw [pe]
    conv => whnf
    exact res_le (le_rec3 1 tg ru.toNat ou.toNat we.toNat []) rfl h
   ·have hti := htg hta
    rw [show tagW l ta = vrn (l.idxOf ta + 1) by simp [tagW, hta]] at pe pe'
    obtain ⟨hi2, he2⟩ := at_idx hti
    have eT : IntKind.u64.wrap (((l.idxOf ta + 1 : Nat) : Int) - 1) = ((l.idxOf ta : Nat) : Int) := by
     show (((l.idxOf ta + 1 : Nat) : Int) - 1) % 18446744073709551616 = _
     omega
    refine num_pre pe' (by omega) (by omega) ?_
    rw [pe]
    conv => whnf
    refine br_true (decide_eq_true (by omega)) ?_
    conv => whnf
    rw [eT]
    refine rtext_O P l _ (l.idxOf ta) hi2 (by omega) ?_
    rw [he2]
    conv => whnf
    exact res_le (le_rec3 1 tg ru.toNat ou.toNat we.toNat ta) rfl h
  ·have hpos : 0 < ds.length := List.length_pos_iff.2 hds
   have hstep : ∀ (i : Nat) (hi : i < ds.length) (A : B), A = F ++ depsW 3 l (ds.take i) → (A ++ vrn (depN l ds[i]) <+: P) ∧ (A ++ vrn (depN l ds[i]) ++ vrn ds[i].hash.toNat <+: P) ∧ A ++ vrn (depN l ds[i]) ++ vrn ds[i].hash.toNat = F ++ depsW 3 l (ds.take (i + 1)) := by
    intro i hi A hA
    have e2 := depsW_split (v := 3) (t := l) hi
    have e3 : depW 3 l ds[i] = vrn (depN l ds[i]) ++ vrn ds[i].hash.toNat := by simp [depW, textW]
    refine ⟨⟨_, by rw [e1, hA, e2, e3]; simp only [List.append_assoc]; rfl⟩, ⟨_, by rw [e1, hA, e2, e3]; simp only [List.append_assoc]; rfl⟩, ?_⟩
    rw [hA, depsW_snoc hi, e3]
    simp
   have h00 := hstep 0 hpos F (by simp [depsW])
   obtain ⟨w1, w2, w3⟩ := h00
   have hn0 := hnm ds[0] (List.getElem_mem hpos)
   have hin := hds1 ds[0] (List.getElem_mem hpos)
   have eN : IntKind.u64.wrap (((ds.length : Nat) : Int) - 1) = ((ds.length - 1 : Nat) : Int) := by
    show (((ds.length : Nat) : Int) - 1) % 18446744073709551616 = _
    omega
   have ed : dpsA (ds.take 1) = [ds[0].enc] := by rw [dpsA_take hpos]; rfl
   have hB2 : F ++ vrn (depN l ds[0]) ++ vrn ds[0].hash.toNat = F ++ depsW 3 l (ds.take 1) := w3
   generalize hd0 : ds[0] = d at w1 w2 w3 hn0 ed hB2 hin
   conv => whnf
   refine LoopP.step ?_
   conv => whnf
   refine br_true (decide_eq_true (by omega)) ?_
   conv => whnf
   refine Err_calls P _ ?_
   conv => whnf
   refine rdep_pre3 hin w1 (by omega) (by omega) ?_
   conv => whnf
   refine num_pre w2 d.hash.isLt (by omega) ?_
   conv => whnf
   refine ⟨(by rw [bytes_dep]; decide : 1 * ((tab.ti 143).bytes + 1) ≤ 140737488355328), ?_⟩
   conv => whnf
   rw [eN, show [[AV.val (Value.string (ofB d.name)), AV.val (Value.int IntKind.u64 ((d.hash.toNat : Nat) : Int)), AV.val (Value.bool d.order)]] = dpsA (ds.take 1) from ed.symm, show (dpsA (ds.take 1)).length = 1 by rw [ed]; rfl]
   refine LoopP.ind2 (fun (i : Nat) (A : B) => [(6, un (ds.length - i))]) (fun i A => [(0, cO P A.length), (1, tblO 2 3 l), (2, tblR l), (3, tblM l), (nameOf 2, rdO), (nameOf 4, rO 1 tg ru.toNat (.sl (some (nameOf 56)) 3 (dpsA (ds.take i))) 0 0 []), (nameOf 56, .row 143 3 i)]) (fun i _ => ds.length - i) (fun i A => 1 ≤ i ∧ i ≤ ds.length ∧ A = F ++ depsW 3 l (ds.take i)) 1 (F ++ vrn (depN l d) ++ vrn d.hash.toNat) rfl ⟨by omega, by omega, hB2⟩ ?_
   rintro i A ⟨h1, h2, hA⟩ IH
   have hlA : (dpsA (ds.take i)).length = i := by rw [dpsA_length, List.length_take]; omega
   conv => whnf
   refine br_intro (fun hc => ?_) (fun hc => ?_)
   ·have hc : i < ds.length := by have hc := of_decide_eq_true hc; omega
    obtain ⟨v1, v2, v3⟩ := hstep i hc A hA
    have hni := hnm ds[i] (List.getElem_mem hc)
    have hin := hds1 ds[i] (List.getElem_mem hc)
    have IH := IH (i + 1) _ ⟨by omega, by omega, v3⟩ (by omega)
    rw [dpsA_take hc] at IH
    have eN2 : IntKind.u64.wrap (((ds.length - i : Nat) : Int) - 1) = ((ds.length - (i + 1) : Nat) : Int) := by
     show (((ds.length - i : Nat) : Int) - 1) % 18446744073709551616 = _
     omega
    generalize ds[i] = e at v1 v2 v3 hni IH hin
    conv => whnf
    refine Err_calls P _ ?_
    conv => whnf
    refine rdep_pre3 hin v1 (by omega) (by omega) ?_
    conv => whnf
    refine num_pre v2 e.hash.isLt (by omega) ?_
    conv => whnf
    refine ⟨hlA.symm, by rw [hlA, bytes_dep]; simp; omega, ?_⟩
    conv => whnf
    rw [eN2, hlA]
    exact IH
   ·have hc : i = ds.length := by have hc := of_decide_eq_false hc; omega
    subst hc
    rw [List.take_length] at hA
    rw [← hA] at p1 e1
    rw [← hA] at p2
    rw [List.take_length]
    conv => whnf
    have hix := List.idxOf_le_length (a := ta) (l := l)
    have pe : A ++ vrn ou.toNat ++ vrn we.toNat ++ tagW l ta = P := by rw [e1]; simp only [List.append_assoc]
    have pe' : A ++ vrn ou.toNat ++ vrn we.toNat ++ tagW l ta <+: P := ⟨[], by rw [List.append_nil]; exact pe⟩
    refine num_pre p1 ou.isLt (by omega) ?_
    conv => whnf
    refine num_pre p2 we.isLt (by omega) ?_
    conv => whnf
    by_cases hta : ta = []
    ·subst hta
     rw [show tagW l [] = vrn 0 from rfl] at pe pe'
     refine num_pre pe' (by omega) (by omega) ?_
     rw [pe]
     conv => whnf
     exact res_same h
    ·have hti := htg hta
     rw [show tagW l ta = vrn (l.idxOf ta + 1) by simp [tagW, hta]] at pe pe'
     obtain ⟨hi2, he2⟩ := at_idx hti
     have eT : IntKind.u64.wrap (((l.idxOf ta + 1 : Nat) : Int) - 1) = ((l.idxOf ta : Nat) : Int) := by
      show (((l.idxOf ta + 1 : Nat) : Int) - 1) % 18446744073709551616 = _
      omega
     refine num_pre pe' (by omega) (by omega) ?_
     rw [pe]
     conv => whnf
     refine br_true (decide_eq_true (by omega)) ?_
     conv => whnf
     rw [eT]
     refine rtext_O P l _ (l.idxOf ta) hi2 (by omega) ?_
     rw [he2]
     conv => whnf
     exact res_same h
 ·have e1 := lastW_gone (v := 3) (t := l) hk
  have eg : r.enc = [vi 2, vs r.target, un 0, .sl none 3 [], un 0, un 0, vs []] := by
   rcases hm.kind with e | e
   ·rw [e] at hk; cases hk
   ·rw [e]; rfl
  have e2 : textW 3 l r.target = vrn (l.idxOf r.target) := by simp [textW]
  rw [e2] at e1
  rw [eg] at h
  generalize lastW 3 l r = P at h hPl e1 ⊢
  obtain ⟨k, tg, ru, ds, ou, we, ta⟩ := r
  dsimp only at hk ht2 h e1 ht hds htg
  have q1 : [2] ++ vrn (l.idxOf tg) = P := by rw [e1]; rfl
  have q1' : [2] ++ vrn (l.idxOf tg) <+: P := ⟨[], by rw [List.append_nil]; exact q1⟩
  conv => whnf
  refine byte2_at e1 (by omega) ?_
  conv => whnf
  refine rknown_pre ht q1' (by omega) (by omega) ?_
  rw [q1]
  conv => whnf
  exact res_le (le_rec3 2 tg 0 0 0 []) rfl h
theorem bEq_calls (a : B) {R} (h : R (.val (.bool true)) []) : ACalls Tryz.prog 237 [.sl none 1 (byteEls a), .sl none 1 (byteEls a)] [] R := by
 refine acalls_of_xwp (an := an237) tab_ok Tryz.func237 ?_
 obtain ⟨ns, n1, n2⟩ := str_of a
 conv => whnf
 refine ⟨ns, n1, ?_⟩
 rw [n2]
 conv => whnf
 refine ⟨ns, n1, ?_⟩
 rw [n2]
 conv => whnf
 rw [decide_eq_true rfl]
 exact h
theorem EqualB_same (l : List B) (hl : l.length < 1000000) {R} (h : R (.val (.bool true)) []) : ACalls Tryz.prog 236 [.sl none 1 (rowsB l), .sl none 1 (rowsB l), .fn (.func 237) [] []] [] R := by
 refine acalls_of_xwp (an := an236) tab_ok Tryz.func236 ?_
 have hrl := rowsB_length l
 conv => whnf
 refine br_false (by simp) ?_
 conv => whnf
 refine LoopP.ind1 (fun (i : Nat) => [(17, vi i)]) (fun i => []) (fun i => l.length - i) (fun i => i ≤ l.length) 0 rfl (by omega) ?_
 rintro i h0 IH
 conv => whnf
 refine br_intro (fun hc => ?_) (fun hc => ?_)
 ·have hc := lt_of_decE hrl hc
  (conv => whnf); (repeat ((with_reducible refine must_intro ?_ ?_); exact decide_eq_true (by omega); (conv => whnf)))
  refine idxK_map_intro (show (i : Int).toNat < l.length by simpa using hc) ?_
  rw [show l[(i : Int).toNat]'(by simpa using hc) = l[i] from by congr 1]
  (conv => whnf); (repeat ((with_reducible refine must_intro ?_ ?_); exact decide_eq_true (by omega); (conv => whnf)))
  refine idxK_map_intro (show (i : Int).toNat < l.length by simpa using hc) ?_
  rw [show l[(i : Int).toNat]'(by simpa using hc) = l[i] from by congr 1]
  conv => whnf
  refine bEq_calls l[i] ?_
  conv => whnf
  rw [i64_nat (by omega)]
  exact IH (i + 1) (by omega) (by omega)
 ·conv => whnf
  exact h
def zRec : AV := .agg [vi 0, vs [], un 0, .val (.slice none 0 0), un 0, un 0, vs []]
theorem tail_0 (s : B) : List.drop (1 : Int).toNat (List.take (((byteEls (defP s)).length : Nat) : Int).toNat (byteEls (defP s))) = byteEls s := by
 rw [Int.toNat_natCast, List.take_length]
 rfl
theorem sGetEnd_1F (A : List B) (hA : A.length < 100000) {R} (h : R (.tup [zRec, vi 0, vi 6]) [tblF]) :
  ACalls Tryz.prog 204 [vi 1, .ptr 0 0, .sl none 1 (rowsB A), vi (A.length : Int)] [tblF] R := by
 refine acalls_of_xwp (an := an204) tab_ok Tryz.func204 ?_
 have hrl := rowsB_length A
 conv => whnf
 refine skn_1 ?_
 conv => whnf
 refine br_false (decide_eq_false (by omega)) ?_
 conv => whnf
 refine tCopy_nil ?_
 conv => whnf
 refine LoopP.step ?_
 conv => whnf
 refine br_false (decide_eq_false (by omega)) ?_
 conv => whnf
 refine br_true (beq_iff_eq.2 (by omega)) ?_
 conv => whnf
 exact h
theorem sGetEnd_2F (A ms : List B) (hA : A.length < 100000) (hml : ms.length < 5000) {R} (h : R (.tup [zRec, vi 0, vi 6]) [tblF]) :
  ACalls Tryz.prog 204 [vi 2, .ptr 0 0, .sl none 1 (rowsB (A ++ ms.map defP)), vi (A.length : Int)] [tblF] R := by
 refine acalls_of_xwp (an := an204) tab_ok Tryz.func204 ?_
 have hPl : (A ++ ms.map defP).length = A.length + ms.length := by simp
 have hel : ∀ (i : Nat) (hi : i < ms.length) (hj : A.length + i < (A ++ ms.map defP).length), (A ++ ms.map defP)[A.length + i] = defP ms[i] := fun i hi hj => by
  rw [List.getElem_append_right (by omega)]
  simp
 generalize A ++ ms.map defP = P at hPl hel ⊢
 have hrl := rowsB_length P
 conv => whnf
 refine skn_2 ?_
 conv => whnf
 refine br_false (decide_eq_false (by omega)) ?_
 conv => whnf
 refine tCopy_nil ?_
 conv => whnf
 by_cases hmne : ms = []
 ·subst hmne
  simp only [List.length_nil, Nat.add_zero] at hPl
  refine LoopP.step ?_
  conv => whnf
  refine br_false (decide_eq_false (by omega)) ?_
  conv => whnf
  refine br_true (beq_iff_eq.2 (by omega)) ?_
  conv => whnf
  exact h
 obtain ⟨s, ms, rfl⟩ := List.exists_cons_of_ne_nil hmne
 simp only [List.length_cons] at hml
 have hpl2 : (s :: ms).length = ms.length + 1 := rfl
 refine LoopP.step ?_
 have hp := hel 0 (by simp) (by omega)
 simp only [Nat.add_zero, List.getElem_cons_zero] at hp
 obtain ⟨ns, n1, n2⟩ := str_of s
 have hbl : (byteEls (defP s)).length = s.length + 1 := by rw [bel_length]; rfl
 conv => whnf
 refine br_true (decide_eq_true (by omega)) ?_
 (conv => whnf); (repeat ((with_reducible refine must_intro ?_ ?_); exact decide_eq_true (by omega); (conv => whnf)))
 refine idxK_map_intro (show ((A.length : Int) : Int).toNat < P.length by omega) ?_
 rw [show P[((A.length : Int) : Int).toNat]'(by omega) = defP s from hp]
 conv => whnf
 refine br_true (decide_eq_true (by omega)) ?_
 (conv => whnf); (repeat ((with_reducible refine must_intro ?_ ?_); exact decide_eq_true (by omega); (conv => whnf)))
 refine idxK_map_intro (show ((A.length : Int) : Int).toNat < P.length by omega) ?_
 rw [show P[((A.length : Int) : Int).toNat]'(by omega) = defP s from hp]
 (conv => whnf); (repeat ((with_reducible refine must_intro ?_ ?_); exact decide_eq_true (by omega); (conv => whnf)))
 refine idxK_map_intro (show ((A.length : Int) : Int).toNat < P.length by omega) ?_
 rw [show P[((A.length : Int) : Int).toNat]'(by omega) = defP s from hp]
 (conv => whnf); (repeat ((with_reducible refine must_intro ?_ ?_); exact decide_eq_true (by omega); (conv => whnf)))
 refine ⟨ns, (by rw [tail_0]; exact n1), ?_⟩
 rw [n2]
 conv => whnf
 refine ID_new s ?_
 conv => whnf
 rw [i64_nat (by omega)]
 refine LoopP.ind2 (fun (i : Nat) (T : List B) => [(9, vi ((A.length + i : Nat) : Int))]) (fun i T => [(0, tblF), (nameOf 8, rO 0 [] 0 (.val (.slice none 0 0)) 0 0 []), (freshN 34 0, tblO (freshN 64 0) (freshN 64 1) T), (freshN 64 0, tblR T), (freshN 64 1, tblM T)]) (fun i _ => (s :: ms).length - i) (fun i T => i ≤ (s :: ms).length ∧ 1 ≤ i ∧ T.length ≤ i) 1 [s] rfl ⟨by simp, by omega, by simp⟩ ?_
 rintro i T ⟨h0, h1, hT⟩ IH
 conv => whnf
 by_cases hc : i < (s :: ms).length
 ·have hp := hel i hc (by omega)
  have IH0 := IH (i + 1)
  clear IH
  generalize (s :: ms)[i] = s2 at hp
  obtain ⟨ns, n1, n2⟩ := str_of s2
  have hbl : (byteEls (defP s2)).length = s2.length + 1 := by rw [bel_length]; rfl
  refine br_true (decide_eq_true (by omega)) ?_
  (conv => whnf); (repeat ((with_reducible refine must_intro ?_ ?_); exact decide_eq_true (by omega); (conv => whnf)))
  refine idxK_map_intro (show (((A.length + i : Nat) : Int) : Int).toNat < P.length by omega) ?_
  rw [show P[(((A.length + i : Nat) : Int) : Int).toNat]'(by omega) = defP s2 from hp]
  conv => whnf
  refine br_true (decide_eq_true (by omega)) ?_
  (conv => whnf); (repeat ((with_reducible refine must_intro ?_ ?_); exact decide_eq_true (by omega); (conv => whnf)))
  refine idxK_map_intro (show (((A.length + i : Nat) : Int) : Int).toNat < P.length by omega) ?_
  rw [show P[(((A.length + i : Nat) : Int) : Int).toNat]'(by omega) = defP s2 from hp]
  (conv => whnf); (repeat ((with_reducible refine must_intro ?_ ?_); exact decide_eq_true (by omega); (conv => whnf)))
  refine idxK_map_intro (show (((A.length + i : Nat) : Int) : Int).toNat < P.length by omega) ?_
  rw [show P[(((A.length + i : Nat) : Int) : Int).toNat]'(by omega) = defP s2 from hp]
  (conv => whnf); (repeat ((with_reducible refine must_intro ?_ ?_); exact decide_eq_true (by omega); (conv => whnf)))
  refine ⟨ns, (by rw [tail_0]; exact n1), ?_⟩
  rw [n2]
  conv => whnf
  by_cases hs : s2 ∈ T
  ·have IH := IH0 T ⟨by omega, by omega, by omega⟩ (by omega)
   refine ID_old T s2 hs fun j => ?_
   conv => whnf
   rw [i64_nat (by omega)]
   exact IH
  ·have IH := IH0 (T ++ [s2]) ⟨by omega, by omega, by rw [List.length_append]; simp only [List.length_cons, List.length_nil]; omega⟩ (by omega)
   refine ID_more T s2 (by omega) hs fun j => ?_
   conv => whnf
   rw [i64_nat (by omega)]
   exact IH
 ·refine br_false (decide_eq_false (by omega)) ?_
  conv => whnf
  refine br_true (beq_iff_eq.2 (by omega)) ?_
  conv => whnf
  exact h
theorem sGetEnd_2O (t : List B) (ht0 : t ≠ []) (htn : t.Nodup) (htl : t.length < 80000) (A ms : List B) (hA : A.length < 100000) (hml : ms.length < 5000) {R} (h : R (.tup [zRec, vi 0, vi 6]) [tblO 1 2 t, tblR t, tblM t]) :
  ACalls Tryz.prog 204 [vi 2, .ptr 0 0, .sl none 1 (rowsB (A ++ ms.map defP)), vi (A.length : Int)] [tblO 1 2 t, tblR t, tblM t] R := by
 refine acalls_of_xwp (an := an204) tab_ok Tryz.func204 ?_
 have hPl : (A ++ ms.map defP).length = A.length + ms.length := by simp
 have hel : ∀ (i : Nat) (hi : i < ms.length) (hj : A.length + i < (A ++ ms.map defP).length), (A ++ ms.map defP)[A.length + i] = defP ms[i] := fun i hi hj => by
  rw [List.getElem_append_right (by omega)]
  simp
 generalize A ++ ms.map defP = P at hPl hel ⊢
 have hrl := rowsB_length P
 conv => whnf
 refine skn_2 ?_
 conv => whnf
 refine br_false (decide_eq_false (by omega)) ?_
 conv => whnf
 refine tCopy_calls t ht0 htn (by omega) ?_
 conv => whnf
 refine LoopP.ind2 (fun (i : Nat) (T : List B) => [(9, vi ((A.length + i : Nat) : Int))]) (fun i T => [(0, tblO 1 2 t), (1, tblR t), (2, tblM t), (nameOf 8, rO 0 [] 0 (.val (.slice none 0 0)) 0 0 []), (freshN 34 0, tblO (freshN 34 1) (freshN 34 2) T), (freshN 34 1, tblR T), (freshN 34 2, tblM T)]) (fun i _ => ms.length - i) (fun i T => i ≤ ms.length ∧ T.length ≤ t.length + i) 0 t rfl ⟨by omega, by omega⟩ ?_
 rintro i T ⟨h0, hT⟩ IH
 conv => whnf
 by_cases hc : i < ms.length
 ·have hp := hel i hc (by omega)
  have IH0 := IH (i + 1)
  clear IH
  generalize ms[i] = s at hp
  obtain ⟨ns, n1, n2⟩ := str_of s
  have hbl : (byteEls (defP s)).length = s.length + 1 := by rw [bel_length]; rfl
  refine br_true (decide_eq_true (by omega)) ?_
  (conv => whnf); (repeat ((with_reducible refine must_intro ?_ ?_); exact decide_eq_true (by omega); (conv => whnf)))
  refine idxK_map_intro (show (((A.length + i : Nat) : Int) : Int).toNat < P.length by omega) ?_
  rw [show P[(((A.length + i : Nat) : Int) : Int).toNat]'(by omega) = defP s from hp]
  conv => whnf
  refine br_true (decide_eq_true (by omega)) ?_
  (conv => whnf); (repeat ((with_reducible refine must_intro ?_ ?_); exact decide_eq_true (by omega); (conv => whnf)))
  refine idxK_map_intro (show (((A.length + i : Nat) : Int) : Int).toNat < P.length by omega) ?_
  rw [show P[(((A.length + i : Nat) : Int) : Int).toNat]'(by omega) = defP s from hp]
  (conv => whnf); (repeat ((with_reducible refine must_intro ?_ ?_); exact decide_eq_true (by omega); (conv => whnf)))
  refine idxK_map_intro (show (((A.length + i : Nat) : Int) : Int).toNat < P.length by omega) ?_
  rw [show P[(((A.length + i : Nat) : Int) : Int).toNat]'(by omega) = defP s from hp]
  (conv => whnf); (repeat ((with_reducible refine must_intro ?_ ?_); exact decide_eq_true (by omega); (conv => whnf)))
  refine ⟨ns, (by rw [tail_0]; exact n1), ?_⟩
  rw [n2]
  conv => whnf
  by_cases hs : s ∈ T
  ·have IH := IH0 T ⟨by omega, by omega⟩ (by omega)
   refine ID_old T s hs fun j => ?_
   conv => whnf
   rw [i64_nat (by omega)]
   exact IH
  ·have IH := IH0 (T ++ [s]) ⟨by omega, by rw [List.length_append]; simp only [List.length_cons, List.length_nil]; omega⟩ (by omega)
   refine ID_more T s (by omega) hs fun j => ?_
   conv => whnf
   rw [i64_nat (by omega)]
   exact IH
 ·refine br_false (decide_eq_false (by omega)) ?_
  conv => whnf
  refine br_true (beq_iff_eq.2 (by omega)) ?_
  conv => whnf
  exact h
theorem sGetEnd_3F (A ms : List B) (hA : A.length < 100000) (hml : ms.length < 5000) {R} (h : R (.tup [zRec, vi 0, vi 6]) [tblF]) :
  ACalls Tryz.prog 204 [vi 3, .ptr 0 0, .sl none 1 (rowsB (A ++ ms.map defP)), vi (A.length : Int)] [tblF] R := by
 refine acalls_of_xwp (an := an204) tab_ok Tryz.func204 ?_
 have hPl : (A ++ ms.map defP).length = A.length + ms.length := by simp
 have hel : ∀ (i : Nat) (hi : i < ms.length) (hj : A.length + i < (A ++ ms.map defP).length), (A ++ ms.map defP)[A.length + i] = defP ms[i] := fun i hi hj => by
  rw [List.getElem_append_right (by omega)]
  simp
 generalize A ++ ms.map defP = P at hPl hel ⊢
 have hrl := rowsB_length P
 conv => whnf
 refine skn_3 ?_
 conv => whnf
 refine br_false (decide_eq_false (by omega)) ?_
 conv => whnf
 refine tCopy_nil ?_
 conv => whnf
 by_cases hmne : ms = []
 ·subst hmne
  simp only [List.length_nil, Nat.add_zero] at hPl
  refine LoopP.step ?_
  conv => whnf
  refine br_false (decide_eq_false (by omega)) ?_
  conv => whnf
  refine br_true (beq_iff_eq.2 (by omega)) ?_
  conv => whnf
  exact h
 obtain ⟨s, ms, rfl⟩ := List.exists_cons_of_ne_nil hmne
 simp only [List.length_cons] at hml
 have hpl2 : (s :: ms).length = ms.length + 1 := rfl
 refine LoopP.step ?_
 have hp := hel 0 (by simp) (by omega)
 simp only [Nat.add_zero, List.getElem_cons_zero] at hp
 obtain ⟨ns, n1, n2⟩ := str_of s
 have hbl : (byteEls (defP s)).length = s.length + 1 := by rw [bel_length]; rfl
 conv => whnf
 refine br_true (decide_eq_true (by omega)) ?_
 (conv => whnf); (repeat ((with_reducible refine must_intro ?_ ?_); exact decide_eq_true (by omega); (conv => whnf)))
 refine idxK_map_intro (show ((A.length : Int) : Int).toNat < P.length by omega) ?_
 rw [show P[((A.length : Int) : Int).toNat]'(by omega) = defP s from hp]
 conv => whnf
 refine br_true (decide_eq_true (by omega)) ?_
 (conv => whnf); (repeat ((with_reducible refine must_intro ?_ ?_); exact decide_eq_true (by omega); (conv => whnf)))
 refine idxK_map_intro (show ((A.length : Int) : Int).toNat < P.length by omega) ?_
 rw [show P[((A.length : Int) : Int).toNat]'(by omega) = defP s from hp]
 (conv => whnf); (repeat ((with_reducible refine must_intro ?_ ?_); exact decide_eq_true (by omega); (conv => whnf)))
 refine idxK_map_intro (show ((A.length : Int) : Int).toNat < P.length by omega) ?_
 rw [show P[((A.length : Int) : Int).toNat]'(by omega) = defP s from hp]
 (conv => whnf); (repeat ((with_reducible refine must_intro ?_ ?_); exact decide_eq_true (by omega); (conv => whnf)))
 refine ⟨ns, (by rw [tail_0]; exact n1), ?_⟩
 rw [n2]
 conv => whnf
 refine ID_new s ?_
 conv => whnf
 rw [i64_nat (by omega)]
 refine LoopP.ind2 (fun (i : Nat) (T : List B) => [(9, vi ((A.length + i : Nat) : Int))]) (fun i T => [(0, tblF), (nameOf 8, rO 0 [] 0 (.val (.slice none 0 0)) 0 0 []), (freshN 34 0, tblO (freshN 64 0) (freshN 64 1) T), (freshN 64 0, tblR T), (freshN 64 1, tblM T)]) (fun i _ => (s :: ms).length - i) (fun i T => i ≤ (s :: ms).length ∧ 1 ≤ i ∧ T.length ≤ i) 1 [s] rfl ⟨by simp, by omega, by simp⟩ ?_
 rintro i T ⟨h0, h1, hT⟩ IH
 conv => whnf
 by_cases hc : i < (s :: ms).length
 ·have hp := hel i hc (by omega)
  have IH0 := IH (i + 1)
  clear IH
  generalize (s :: ms)[i] = s2 at hp
  obtain ⟨ns, n1, n2⟩ := str_of s2
  have hbl : (byteEls (defP s2)).length = s2.length + 1 := by rw [bel_length]; rfl
  refine br_true (decide_eq_true (by omega)) ?_
  (conv => whnf); (repeat ((with_reducible refine must_intro ?_ ?_); exact decide_eq_true (by omega); (conv => whnf)))
  refine idxK_map_intro (show (((A.length + i : Nat) : Int) : Int).toNat < P.length by omega) ?_
  rw [show P[(((A.length + i : Nat) : Int) : Int).toNat]'(by omega) = defP s2 from hp]
  conv => whnf
  refine br_true (decide_eq_true (by omega)) ?_
  (conv => whnf); (repeat ((with_reducible refine must_intro ?_ ?_); exact decide_eq_true (by omega); (conv => whnf)))
  refine idxK_map_intro (show (((A.length + i : Nat) : Int) : Int).toNat < P.length by omega) ?_
  rw [show P[(((A.length + i : Nat) : Int) : Int).toNat]'(by omega) = defP s2 from hp]
  (conv => whnf); (repeat ((with_reducible refine must_intro ?_ ?_); exact decide_eq_true (by omega); (conv => whnf)))
  refine idxK_map_intro (show (((A.length + i : Nat) : Int) : Int).toNat < P.length by omega) ?_
  rw [show P[(((A.length + i : Nat) : Int) : Int).toNat]'(by omega) = defP s2 from hp]
  (conv => whnf); (repeat ((with_reducible refine must_intro ?_ ?_); exact decide_eq_true (by omega); (conv => whnf)))
  refine ⟨ns, (by rw [tail_0]; exact n1), ?_⟩
  rw [n2]
  conv => whnf
  by_cases hs : s2 ∈ T
  ·have IH := IH0 T ⟨by omega, by omega, by omega⟩ (by omega)
   refine ID_old T s2 hs fun j => ?_
   conv => whnf
   rw [i64_nat (by omega)]
   exact IH
  ·have IH := IH0 (T ++ [s2]) ⟨by omega, by omega, by rw [List.length_append]; simp only [List.length_cons, List.length_nil]; omega⟩ (by omega)
   refine ID_more T s2 (by omega) hs fun j => ?_
   conv => whnf
   rw [i64_nat (by omega)]
   exact IH
 ·refine br_false (decide_eq_false (by omega)) ?_
  conv => whnf
  refine br_true (beq_iff_eq.2 (by omega)) ?_
  conv => whnf
  exact h
theorem sGetEnd_3O (t : List B) (ht0 : t ≠ []) (htn : t.Nodup) (htl : t.length < 80000) (A ms : List B) (hA : A.length < 100000) (hml : ms.length < 5000) {R} (h : R (.tup [zRec, vi 0, vi 6]) [tblO 1 2 t, tblR t, tblM t]) :
  ACalls Tryz.prog 204 [vi 3, .ptr 0 0, .sl none 1 (rowsB (A ++ ms.map defP)), vi (A.length : Int)] [tblO 1 2 t, tblR t, tblM t] R := by
 refine acalls_of_xwp (an := an204) tab_ok Tryz.func204 ?_
 have hPl : (A ++ ms.map defP).length = A.length + ms.length := by simp
 have hel : ∀ (i : Nat) (hi : i < ms.length) (hj : A.length + i < (A ++ ms.map defP).length), (A ++ ms.map defP)[A.length + i] = defP ms[i] := fun i hi hj => by
  rw [List.getElem_append_right (by omega)]
  simp
 generalize A ++ ms.map defP = P at hPl hel ⊢
 have hrl := rowsB_length P
 conv => whnf
 refine skn_3 ?_
 conv => whnf
 refine br_false (decide_eq_false (by omega)) ?_
 conv => whnf
 refine tCopy_calls t ht0 htn (by omega) ?_
 conv => whnf
 refine LoopP.ind2 (fun (i : Nat) (T : List B) => [(9, vi ((A.length + i : Nat) : Int))]) (fun i T => [(0, tblO 1 2 t), (1, tblR t), (2, tblM t), (nameOf 8, rO 0 [] 0 (.val (.slice none 0 0)) 0 0 []), (freshN 34 0, tblO (freshN 34 1) (freshN 34 2) T), (freshN 34 1, tblR T), (freshN 34 2, tblM T)]) (fun i _ => ms.length - i) (fun i T => i ≤ ms.length ∧ T.length ≤ t.length + i) 0 t rfl ⟨by omega, by omega⟩ ?_
 rintro i T ⟨h0, hT⟩ IH
 conv => whnf
 by_cases hc : i < ms.length
 ·have hp := hel i hc (by omega)
  have IH0 := IH (i + 1)
  clear IH
  generalize ms[i] = s at hp
  obtain ⟨ns, n1, n2⟩ := str_of s
  have hbl : (byteEls (defP s)).length = s.length + 1 := by rw [bel_length]; rfl
  refine br_true (decide_eq_true (by omega)) ?_
  (conv => whnf); (repeat ((with_reducible refine must_intro ?_ ?_); exact decide_eq_true (by omega); (conv => whnf)))
  refine idxK_map_intro (show (((A.length + i : Nat) : Int) : Int).toNat < P.length by omega) ?_
  rw [show P[(((A.length + i : Nat) : Int) : Int).toNat]'(by omega) = defP s from hp]
  conv => whnf
  refine br_true (decide_eq_true (by omega)) ?_
  (conv => whnf); (repeat ((with_reducible refine must_intro ?_ ?_); exact decide_eq_true (by omega); (conv => whnf)))
  refine idxK_map_intro (show (((A.length + i : Nat) : Int) : Int).toNat < P.length by omega) ?_
  rw [show P[(((A.length + i : Nat) : Int) : Int).toNat]'(by omega) = defP s from hp]
  (conv => whnf); (repeat ((with_reducible refine must_intro ?_ ?_); exact decide_eq_true (by omega); (conv => whnf)))
  refine idxK_map_intro (show (((A.length + i : Nat) : Int) : Int).toNat < P.length by omega) ?_
  rw [show P[(((A.length + i : Nat) : Int) : Int).toNat]'(by omega) = defP s from hp]
  (conv => whnf); (repeat ((with_reducible refine must_intro ?_ ?_); exact decide_eq_true (by omega); (conv => whnf)))
  refine ⟨ns, (by rw [tail_0]; exact n1), ?_⟩
  rw [n2]
  conv => whnf
  by_cases hs : s ∈ T
  ·have IH := IH0 T ⟨by omega, by omega⟩ (by omega)
   refine ID_old T s hs fun j => ?_
   conv => whnf
   rw [i64_nat (by omega)]
   exact IH
  ·have IH := IH0 (T ++ [s]) ⟨by omega, by rw [List.length_append]; simp only [List.length_cons, List.length_nil]; omega⟩ (by omega)
   refine ID_more T s (by omega) hs fun j => ?_
   conv => whnf
   rw [i64_nat (by omega)]
   exact IH
 ·refine br_false (decide_eq_false (by omega)) ?_
  conv => whnf
  refine br_true (beq_iff_eq.2 (by omega)) ?_
  conv => whnf
  exact h
theorem sGet_1F (r : Rc) (hm : mayP 1 r = true) (A Q : List B) (hA : A.length < 100000) (hQ : Q.length < 100000) {R} (h : R (.tup [.agg r.enc, vi ((A.length + (payP 1 [] r).length : Nat) : Int), vi 0]) [tblF]) :
  ACalls Tryz.prog 204 [vi 1, .ptr 0 0, .sl none 1 (rowsB (A ++ payP 1 [] r ++ Q)), vi (A.length : Int)] [tblF] R := by
 have hM := may_all hm
 have hd16 := hM.deps
 refine acalls_of_xwp (an := an204) tab_ok Tryz.func204 ?_
 have hTl := addT_len 1 [] r
 obtain ⟨ms, hms⟩ : ∃ ms, ms = ([] : List B) := ⟨_, rfl⟩
 have hY : payP 1 [] r = ms.map defP ++ [lastW 1 (addT 1 [] r) r] := by rw [hms]; simp [payP, defsP]
 have hml : ms.length ≤ 18 := by
  rw [hms]
  simp
 have hLl := lastW_len (v := 1) (t := addT 1 [] r) hM (by simp [addT])
 obtain ⟨L, hLe⟩ : ∃ L, L = lastW 1 (addT 1 [] r) r := ⟨_, rfl⟩
 rw [← hLe] at hLl hY
 have hLne : 0 < L.length := hLl.1
 have hL0 : (((L[0]).toNat : Int) == 0) = false := by
  have : L[0] = 1 ∨ L[0] = 2 := by
   subst hLe
   unfold lastW
   split <;> simp
  rcases this with e | e <;> rw [e] <;> rfl
 have hLb := bel_length L
 have hYl : (payP 1 [] r).length = ms.length + 1 := by rw [hY]; simp
 have hPl : (A ++ payP 1 [] r ++ Q).length = A.length + ms.length + 1 + Q.length := by simp [hYl]; omega
 have hel : ∀ (i : Nat) (hi : i < ms.length) (hj : A.length + i < (A ++ payP 1 [] r ++ Q).length), (A ++ payP 1 [] r ++ Q)[A.length + i] = defP ms[i] := fun i hi hj => by
  rw [List.getElem_append_left (by simp [hYl]; omega), List.getElem_append_right (by omega), List.getElem_of_eq hY, List.getElem_append_left (by simp; omega)]
  simp
 have hlast : ∀ (hj : A.length + ms.length < (A ++ payP 1 [] r ++ Q).length), (A ++ payP 1 [] r ++ Q)[A.length + ms.length] = L := fun hj => by
  rw [List.getElem_append_left (by simp [hYl]), List.getElem_append_right (by omega), List.getElem_of_eq hY, List.getElem_append_right (by simp)]
  simp
 have eSl : List.drop A.length (List.take (A.length + ms.length + 1) (rowsB (A ++ payP 1 [] r ++ Q))) = rowsB (payP 1 [] r) := by
  rw [rowsB_append, rowsB_append, List.take_append_of_le_length (by simp [rowsB_length, hYl]; omega), List.take_of_length_le (by simp [rowsB_length, hYl]; omega), List.drop_append_of_le_length (by rw [rowsB_length]; exact Nat.le_refl _), List.drop_of_length_le (by rw [rowsB_length]; exact Nat.le_refl _), List.nil_append]
 have hPut := @sPut_1 r hm
 rw [hYl] at h
 generalize hYe : payP 1 [] r = Y at hY hYl hel hlast eSl hPl hPut ⊢
 generalize A ++ Y ++ Q = P at hel hlast eSl hPl ⊢
 have hlast := hlast (by omega)
 have hrl := rowsB_length P
 rw [addT_one] at hLe
 have hRL := @rlast_1 r hM
 rw [← hLe] at hRL
 have hms0 := hms
 clear hY hYe
 conv => whnf
 refine skn_1 ?_
 conv => whnf
 refine br_false (decide_eq_false (by omega)) ?_
 conv => whnf
 refine tCopy_nil ?_
 conv => whnf
 refine LoopP.step ?_
 simp only [hms0, List.length_nil, Nat.add_zero] at hlast eSl h hPl
 conv => whnf
 refine br_true (decide_eq_true (by omega)) ?_
 (conv => whnf); (repeat ((with_reducible refine must_intro ?_ ?_); exact decide_eq_true (by omega); (conv => whnf)))
 refine idxK_map_intro (show (A.length : Int).toNat < P.length by omega) ?_
 rw [show P[(A.length : Int).toNat]'(by omega) = L from hlast]
 conv => whnf
 refine br_true (decide_eq_true (by omega)) ?_
 (conv => whnf); (repeat ((with_reducible refine must_intro ?_ ?_); exact decide_eq_true (by omega); (conv => whnf)))
 refine idxK_map_intro (show (A.length : Int).toNat < P.length by omega) ?_
 rw [show P[(A.length : Int).toNat]'(by omega) = L from hlast]
 (conv => whnf); (repeat ((with_reducible refine must_intro ?_ ?_); exact decide_eq_true (by omega); (conv => whnf)))
 refine idxK_map_intro (show (0 : Int).toNat < L.length by simp; omega) ?_
 rw [show L[(0 : Int).toNat]'(by simp; omega) = L[0] from rfl]
 conv => whnf
 refine br_false hL0 ?_
 conv => whnf
 refine br_false (beq_eq_false_iff_ne.2 (by omega)) ?_
 (conv => whnf); (repeat ((with_reducible refine must_intro ?_ ?_); exact decide_eq_true (by omega); (conv => whnf)))
 refine idxK_map_intro (show (A.length : Int).toNat < P.length by omega) ?_
 rw [show P[(A.length : Int).toNat]'(by omega) = L from hlast]
 conv => whnf
 refine cNew_calls L (by omega) ?_
 conv => whnf
 refine hRL ?_
 conv => whnf
 rw [i64_nat (by omega)]
 refine tCopy_nil ?_
 conv => whnf
 refine hPut ?_
 conv => whnf
 refine must_intro (decide_eq_true (by omega)) ?_
 conv => whnf
 refine must_intro (decide_eq_true (by omega)) ?_
 conv => whnf
 refine (show ACalls Tryz.prog 236 [.sl none 1 (rowsB Y), .sl none 1 (List.drop A.length (List.take (A.length + 1) (rowsB P))), .fn (.func 237) [] []] [] _ from ?_)
 rw [eSl]
 refine EqualB_same Y (by omega) ?_
 conv => whnf
 refine hPut ?_
 conv => whnf
 exact h
theorem sGet_2F (r : Rc) (hm : mayP 2 r = true) (A Q : List B) (hA : A.length < 100000) (hQ : Q.length < 100000) {R} (h : R (.tup [.agg r.enc, vi ((A.length + (payP 2 [] r).length : Nat) : Int), vi 0]) [tblO 1 2 (addT 2 [] r), tblR (addT 2 [] r), tblM (addT 2 [] r)]) :
  ACalls Tryz.prog 204 [vi 2, .ptr 0 0, .sl none 1 (rowsB (A ++ payP 2 [] r ++ Q)), vi (A.length : Int)] [tblF] R := by
 have hM := may_all hm
 have hd16 := hM.deps
 refine acalls_of_xwp (an := an204) tab_ok Tryz.func204 ?_
 have hTl := addT_len 2 [] r
 obtain ⟨ms, hms⟩ : ∃ ms, ms = newsP [] (namesR r) := ⟨_, rfl⟩
 have hY : payP 2 [] r = ms.map defP ++ [lastW 2 (addT 2 [] r) r] := by rw [hms]; simp [payP, defsP]
 have hml : ms.length ≤ 18 := by
  rw [hms]
  have := news_len (namesR r) []
  have := namesR_len r
  omega
 have hfin : ms.foldl tblP [] = addT 2 [] r := by rw [hms, news_addAll, addT_more (by decide)]
 have hT1 := addT_mem (v := 2) (by decide) [] r (x := r.target) (by simp [textsR])
 have hT2 : ∀ d ∈ r.deps, d.name ∈ addT 2 [] r := fun d hd => addT_mem (by decide) [] r (List.mem_cons_of_mem _ (List.mem_append_left _ (List.mem_map_of_mem hd)))
 have hT3 : r.tag ≠ [] → r.tag ∈ addT 2 [] r := fun e => addT_mem (by decide) [] r (by simp [textsR, e])
 have hmne : ms ≠ [] := fun e => by
  rw [e] at hfin
  exact addT_ne (v := 2) (by decide) [] r hfin.symm
 have hLl := lastW_len (v := 2) (t := addT 2 [] r) hM (by simp at hTl; omega)
 obtain ⟨L, hLe⟩ : ∃ L, L = lastW 2 (addT 2 [] r) r := ⟨_, rfl⟩
 rw [← hLe] at hLl hY
 have hLne : 0 < L.length := hLl.1
 have hL0 : (((L[0]).toNat : Int) == 0) = false := by
  have : L[0] = 1 ∨ L[0] = 2 := by
   subst hLe
   unfold lastW
   split <;> simp
  rcases this with e | e <;> rw [e] <;> rfl
 have hLb := bel_length L
 have hYl : (payP 2 [] r).length = ms.length + 1 := by rw [hY]; simp
 have hPl : (A ++ payP 2 [] r ++ Q).length = A.length + ms.length + 1 + Q.length := by simp [hYl]; omega
 have hel : ∀ (i : Nat) (hi : i < ms.length) (hj : A.length + i < (A ++ payP 2 [] r ++ Q).length), (A ++ payP 2 [] r ++ Q)[A.length + i] = defP ms[i] := fun i hi hj => by
  rw [List.getElem_append_left (by simp [hYl]; omega), List.getElem_append_right (by omega), List.getElem_of_eq hY, List.getElem_append_left (by simp; omega)]
  simp
 have hlast : ∀ (hj : A.length + ms.length < (A ++ payP 2 [] r ++ Q).length), (A ++ payP 2 [] r ++ Q)[A.length + ms.length] = L := fun hj => by
  rw [List.getElem_append_left (by simp [hYl]), List.getElem_append_right (by omega), List.getElem_of_eq hY, List.getElem_append_right (by simp)]
  simp
 have eSl : List.drop A.length (List.take (A.length + ms.length + 1) (rowsB (A ++ payP 2 [] r ++ Q))) = rowsB (payP 2 [] r) := by
  rw [rowsB_append, rowsB_append, List.take_append_of_le_length (by simp [rowsB_length, hYl]; omega), List.take_of_length_le (by simp [rowsB_length, hYl]; omega), List.drop_append_of_le_length (by rw [rowsB_length]; exact Nat.le_refl _), List.drop_of_length_le (by rw [rowsB_length]; exact Nat.le_refl _), List.nil_append]
 have hPut := @sPut_2F r hm
 rw [hYl] at h
 generalize hYe : payP 2 [] r = Y at hY hYl hel hlast eSl hPl hPut ⊢
 generalize A ++ Y ++ Q = P at hel hlast eSl hPl ⊢
 have hlast := hlast (by omega)
 have hrl := rowsB_length P
 generalize addT 2 [] r = U at h hTl hT1 hT2 hT3 hLe hfin hPut
 have hRL := @rlast_2 r U hM (by simp at hTl; omega) hT1 hT2 hT3
 rw [← hLe] at hRL
 clear hms hY hYe
 conv => whnf
 refine skn_2 ?_
 conv => whnf
 refine br_false (decide_eq_false (by omega)) ?_
 conv => whnf
 refine tCopy_nil ?_
 conv => whnf
 obtain ⟨s, ms, rfl⟩ := List.exists_cons_of_ne_nil hmne
 refine LoopP.step ?_
 have hp := hel 0 (by simp) (by omega)
 simp only [Nat.add_zero, List.getElem_cons_zero] at hp
 obtain ⟨ns, n1, n2⟩ := str_of s
 have hbl : (byteEls (defP s)).length = s.length + 1 := by rw [bel_length]; rfl
 conv => whnf
 refine br_true (decide_eq_true (by omega)) ?_
 (conv => whnf); (repeat ((with_reducible refine must_intro ?_ ?_); exact decide_eq_true (by omega); (conv => whnf)))
 refine idxK_map_intro (show ((A.length : Int) : Int).toNat < P.length by omega) ?_
 rw [show P[((A.length : Int) : Int).toNat]'(by omega) = defP s from hp]
 conv => whnf
 refine br_true (decide_eq_true (by omega)) ?_
 (conv => whnf); (repeat ((with_reducible refine must_intro ?_ ?_); exact decide_eq_true (by omega); (conv => whnf)))
 refine idxK_map_intro (show ((A.length : Int) : Int).toNat < P.length by omega) ?_
 rw [show P[((A.length : Int) : Int).toNat]'(by omega) = defP s from hp]
 (conv => whnf); (repeat ((with_reducible refine must_intro ?_ ?_); exact decide_eq_true (by omega); (conv => whnf)))
 refine idxK_map_intro (show ((A.length : Int) : Int).toNat < P.length by omega) ?_
 rw [show P[((A.length : Int) : Int).toNat]'(by omega) = defP s from hp]
 (conv => whnf); (repeat ((with_reducible refine must_intro ?_ ?_); exact decide_eq_true (by omega); (conv => whnf)))
 refine ⟨ns, (by rw [tail_0]; exact n1), ?_⟩
 rw [n2]
 conv => whnf
 refine ID_new s ?_
 conv => whnf
 rw [i64_nat (by omega)]
 refine LoopP.ind2 (fun (i : Nat) (T : List B) => [(9, vi ((A.length + i : Nat) : Int))]) (fun i T => [(0, tblF), (nameOf 8, rO 0 [] 0 (.val (.slice none 0 0)) 0 0 []), (freshN 34 0, tblO (freshN 64 0) (freshN 64 1) T), (freshN 64 0, tblR T), (freshN 64 1, tblM T)]) (fun i _ => (s :: ms).length - i) (fun i T => i ≤ (s :: ms).length ∧ 1 ≤ i ∧ T.length ≤ i ∧ T = ((s :: ms).take i).foldl tblP []) 1 [s] rfl ⟨by simp, by omega, by simp, by simp [tblP]⟩ ?_
 rintro i T ⟨h0, h1, hT, hTe⟩ IH
 conv => whnf
 by_cases hc : i < (s :: ms).length
 ·have hp := hel i hc (by omega)
  have IH0 := IH (i + 1)
  clear IH
  have hTs : tblP T (s :: ms)[i] = ((s :: ms).take (i + 1)).foldl tblP [] := by
   rw [List.take_succ_eq_append_getElem hc, List.foldl_append, ← hTe]
   rfl
  generalize (s :: ms)[i] = s2 at hp hTs
  obtain ⟨ns, n1, n2⟩ := str_of s2
  have hbl : (byteEls (defP s2)).length = s2.length + 1 := by rw [bel_length]; rfl
  refine br_true (decide_eq_true (by omega)) ?_
  (conv => whnf); (repeat ((with_reducible refine must_intro ?_ ?_); exact decide_eq_true (by omega); (conv => whnf)))
  refine idxK_map_intro (show (((A.length + i : Nat) : Int) : Int).toNat < P.length by omega) ?_
  rw [show P[(((A.length + i : Nat) : Int) : Int).toNat]'(by omega) = defP s2 from hp]
  conv => whnf
  refine br_true (decide_eq_true (by omega)) ?_
  (conv => whnf); (repeat ((with_reducible refine must_intro ?_ ?_); exact decide_eq_true (by omega); (conv => whnf)))
  refine idxK_map_intro (show (((A.length + i : Nat) : Int) : Int).toNat < P.length by omega) ?_
  rw [show P[(((A.length + i : Nat) : Int) : Int).toNat]'(by omega) = defP s2 from hp]
  (conv => whnf); (repeat ((with_reducible refine must_intro ?_ ?_); exact decide_eq_true (by omega); (conv => whnf)))
  refine idxK_map_intro (show (((A.length + i : Nat) : Int) : Int).toNat < P.length by omega) ?_
  rw [show P[(((A.length + i : Nat) : Int) : Int).toNat]'(by omega) = defP s2 from hp]
  (conv => whnf); (repeat ((with_reducible refine must_intro ?_ ?_); exact decide_eq_true (by omega); (conv => whnf)))
  refine ⟨ns, (by rw [tail_0]; exact n1), ?_⟩
  rw [n2]
  conv => whnf
  by_cases hs : s2 ∈ T
  ·have IH := IH0 T ⟨by omega, by omega, by omega, by rw [← hTs, tblP_some hs]⟩ (by omega)
   refine ID_old T s2 hs fun j => ?_
   conv => whnf
   rw [i64_nat (by omega)]
   exact IH
  ·have IH := IH0 (T ++ [s2]) ⟨by omega, by omega, by rw [List.length_append]; simp only [List.length_cons, List.length_nil]; omega, by rw [← hTs, tblP_none hs]⟩ (by omega)
   refine ID_more T s2 (by omega) hs fun j => ?_
   conv => whnf
   rw [i64_nat (by omega)]
   exact IH
 ·have hi : i = (s :: ms).length := by omega
  subst hi
  rw [List.take_length, hfin] at hTe
  subst hTe
  clear IH
  refine br_true (decide_eq_true (by omega)) ?_
  (conv => whnf); (repeat ((with_reducible refine must_intro ?_ ?_); exact decide_eq_true (by omega); (conv => whnf)))
  refine idxK_map_intro (show ((A.length + (s :: ms).length : Nat) : Int).toNat < P.length by omega) ?_
  rw [show P[((A.length + (s :: ms).length : Nat) : Int).toNat]'(by omega) = L from hlast]
  conv => whnf
  refine br_true (decide_eq_true (by omega)) ?_
  (conv => whnf); (repeat ((with_reducible refine must_intro ?_ ?_); exact decide_eq_true (by omega); (conv => whnf)))
  refine idxK_map_intro (show ((A.length + (s :: ms).length : Nat) : Int).toNat < P.length by omega) ?_
  rw [show P[((A.length + (s :: ms).length : Nat) : Int).toNat]'(by omega) = L from hlast]
  (conv => whnf); (repeat ((with_reducible refine must_intro ?_ ?_); exact decide_eq_true (by omega); (conv => whnf)))
  refine idxK_map_intro (show (0 : Int).toNat < L.length by simp; omega) ?_
  rw [show L[(0 : Int).toNat]'(by simp; omega) = L[0] from rfl]
  conv => whnf
  refine br_false hL0 ?_
  conv => whnf
  refine br_false (beq_eq_false_iff_ne.2 (by omega)) ?_
  (conv => whnf); (repeat ((with_reducible refine must_intro ?_ ?_); exact decide_eq_true (by omega); (conv => whnf)))
  refine idxK_map_intro (show ((A.length + (s :: ms).length : Nat) : Int).toNat < P.length by omega) ?_
  rw [show P[((A.length + (s :: ms).length : Nat) : Int).toNat]'(by omega) = L from hlast]
  conv => whnf
  refine cNew_calls L (by omega) ?_
  conv => whnf
  refine hRL ?_
  conv => whnf
  rw [i64_nat (by omega)]
  refine tCopy_nil ?_
  conv => whnf
  refine hPut ?_
  conv => whnf
  refine must_intro (decide_eq_true (by omega)) ?_
  conv => whnf
  refine must_intro (decide_eq_true (by omega)) ?_
  conv => whnf
  refine (show ACalls Tryz.prog 236 [.sl none 1 (rowsB Y), .sl none 1 (List.drop A.length (List.take (A.length + (s :: ms).length + 1) (rowsB P))), .fn (.func 237) [] []] [] _ from ?_)
  rw [eSl]
  refine EqualB_same Y (by omega) ?_
  conv => whnf
  refine hPut ?_
  conv => whnf
  exact h
theorem sGet_2O (r : Rc) (hm : mayP 2 r = true) (t : List B) (ht0 : t ≠ []) (htn : t.Nodup) (htl : t.length < 80000) (A Q : List B) (hA : A.length < 100000) (hQ : Q.length < 100000) {R} (h : R (.tup [.agg r.enc, vi ((A.length + (payP 2 t r).length : Nat) : Int), vi 0]) [tblO 1 2 (addT 2 t r), tblR (addT 2 t r), tblM (addT 2 t r)]) :
  ACalls Tryz.prog 204 [vi 2, .ptr 0 0, .sl none 1 (rowsB (A ++ payP 2 t r ++ Q)), vi (A.length : Int)] [tblO 1 2 t, tblR t, tblM t] R := by
 have hM := may_all hm
 have hd16 := hM.deps
 refine acalls_of_xwp (an := an204) tab_ok Tryz.func204 ?_
 have hTl := addT_len 2 t r
 obtain ⟨ms, hms⟩ : ∃ ms, ms = newsP t (namesR r) := ⟨_, rfl⟩
 have hY : payP 2 t r = ms.map defP ++ [lastW 2 (addT 2 t r) r] := by rw [hms]; simp [payP, defsP]
 have hml : ms.length ≤ 18 := by
  rw [hms]
  have := news_len (namesR r) t
  have := namesR_len r
  omega
 have hfin : ms.foldl tblP t = addT 2 t r := by rw [hms, news_addAll, addT_more (by decide)]
 have hT1 := addT_mem (v := 2) (by decide) t r (x := r.target) (by simp [textsR])
 have hT2 : ∀ d ∈ r.deps, d.name ∈ addT 2 t r := fun d hd => addT_mem (by decide) t r (List.mem_cons_of_mem _ (List.mem_append_left _ (List.mem_map_of_mem hd)))
 have hT3 : r.tag ≠ [] → r.tag ∈ addT 2 t r := fun e => addT_mem (by decide) t r (by simp [textsR, e])
 have hLl := lastW_len (v := 2) (t := addT 2 t r) hM (by omega)
 obtain ⟨L, hLe⟩ : ∃ L, L = lastW 2 (addT 2 t r) r := ⟨_, rfl⟩
 rw [← hLe] at hLl hY
 have hLne : 0 < L.length := hLl.1
 have hL0 : (((L[0]).toNat : Int) == 0) = false := by
  have : L[0] = 1 ∨ L[0] = 2 := by
   subst hLe
   unfold lastW
   split <;> simp
  rcases this with e | e <;> rw [e] <;> rfl
 have hLb := bel_length L
 have hYl : (payP 2 t r).length = ms.length + 1 := by rw [hY]; simp
 have hPl : (A ++ payP 2 t r ++ Q).length = A.length + ms.length + 1 + Q.length := by simp [hYl]; omega
 have hel : ∀ (i : Nat) (hi : i < ms.length) (hj : A.length + i < (A ++ payP 2 t r ++ Q).length), (A ++ payP 2 t r ++ Q)[A.length + i] = defP ms[i] := fun i hi hj => by
  rw [List.getElem_append_left (by simp [hYl]; omega), List.getElem_append_right (by omega), List.getElem_of_eq hY, List.getElem_append_left (by simp; omega)]
  simp
 have hlast : ∀ (hj : A.length + ms.length < (A ++ payP 2 t r ++ Q).length), (A ++ payP 2 t r ++ Q)[A.length + ms.length] = L := fun hj => by
  rw [List.getElem_append_left (by simp [hYl]), List.getElem_append_right (by omega), List.getElem_of_eq hY, List.getElem_append_right (by simp)]
  simp
 have eSl : List.drop A.length (List.take (A.length + ms.length + 1) (rowsB (A ++ payP 2 t r ++ Q))) = rowsB (payP 2 t r) := by
  rw [rowsB_append, rowsB_append, List.take_append_of_le_length (by simp [rowsB_length, hYl]; omega), List.take_of_length_le (by simp [rowsB_length, hYl]; omega), List.drop_append_of_le_length (by rw [rowsB_length]; exact Nat.le_refl _), List.drop_of_length_le (by rw [rowsB_length]; exact Nat.le_refl _), List.nil_append]
 have hPut := @sPut_2O r t (by omega) hm
 rw [hYl] at h
 generalize hYe : payP 2 t r = Y at hY hYl hel hlast eSl hPl hPut ⊢
 generalize A ++ Y ++ Q = P at hel hlast eSl hPl ⊢
 have hlast := hlast (by omega)
 have hrl := rowsB_length P
 generalize addT 2 t r = U at h hTl hT1 hT2 hT3 hLe hfin hPut
 have hRL := @rlast_2 r U hM (by omega) hT1 hT2 hT3
 rw [← hLe] at hRL
 clear hms hY hYe
 conv => whnf
 refine skn_2 ?_
 conv => whnf
 refine br_false (decide_eq_false (by omega)) ?_
 conv => whnf
 refine tCopy_calls t ht0 htn (by omega) ?_
 conv => whnf
 refine LoopP.ind2 (fun (i : Nat) (T : List B) => [(9, vi ((A.length + i : Nat) : Int))]) (fun i T => [(0, tblO 1 2 t), (1, tblR t), (2, tblM t), (nameOf 8, rO 0 [] 0 (.val (.slice none 0 0)) 0 0 []), (freshN 34 0, tblO (freshN 34 1) (freshN 34 2) T), (freshN 34 1, tblR T), (freshN 34 2, tblM T)]) (fun i _ => ms.length - i) (fun i T => i ≤ ms.length ∧ T.length ≤ t.length + i ∧ T = (ms.take i).foldl tblP t) 0 t rfl ⟨by omega, by omega, by simp⟩ ?_
 rintro i T ⟨h0, hT, hTe⟩ IH
 conv => whnf
 by_cases hc : i < ms.length
 ·have hp := hel i hc (by omega)
  have IH0 := IH (i + 1)
  clear IH
  have hTs : tblP T ms[i] = (ms.take (i + 1)).foldl tblP t := by
   rw [List.take_succ_eq_append_getElem hc, List.foldl_append, ← hTe]
   rfl
  generalize ms[i] = s at hp hTs
  obtain ⟨ns, n1, n2⟩ := str_of s
  have hbl : (byteEls (defP s)).length = s.length + 1 := by rw [bel_length]; rfl
  refine br_true (decide_eq_true (by omega)) ?_
  (conv => whnf); (repeat ((with_reducible refine must_intro ?_ ?_); exact decide_eq_true (by omega); (conv => whnf)))
  refine idxK_map_intro (show (((A.length + i : Nat) : Int) : Int).toNat < P.length by omega) ?_
  rw [show P[(((A.length + i : Nat) : Int) : Int).toNat]'(by omega) = defP s from hp]
  conv => whnf
  refine br_true (decide_eq_true (by omega)) ?_
  (conv => whnf); (repeat ((with_reducible refine must_intro ?_ ?_); exact decide_eq_true (by omega); (conv => whnf)))
  refine idxK_map_intro (show (((A.length + i : Nat) : Int) : Int).toNat < P.length by omega) ?_
  rw [show P[(((A.length + i : Nat) : Int) : Int).toNat]'(by omega) = defP s from hp]
  (conv => whnf); (repeat ((with_reducible refine must_intro ?_ ?_); exact decide_eq_true (by omega); (conv => whnf)))
  refine idxK_map_intro (show (((A.length + i : Nat) : Int) : Int).toNat < P.length by omega) ?_
  rw [show P[(((A.length + i : Nat) : Int) : Int).toNat]'(by omega) = defP s from hp]
  (conv => whnf); (repeat ((with_reducible refine must_intro ?_ ?_); exact decide_eq_true (by omega); (conv => whnf)))
  refine ⟨ns, (by rw [tail_0]; exact n1), ?_⟩
  rw [n2]
  conv => whnf
  by_cases hs : s ∈ T
  ·have IH := IH0 T ⟨by omega, by omega, by rw [← hTs, tblP_some hs]⟩ (by omega)
   refine ID_old T s hs fun j => ?_
   conv => whnf
   rw [i64_nat (by omega)]
   exact IH
  ·have IH := IH0 (T ++ [s]) ⟨by omega, by rw [List.length_append]; simp only [List.length_cons, List.length_nil]; omega, by rw [← hTs, tblP_none hs]⟩ (by omega)
   refine ID_more T s (by omega) hs fun j => ?_
   conv => whnf
   rw [i64_nat (by omega)]
   exact IH
 ·have hi : i = ms.length := by omega
  subst hi
  rw [List.take_length, hfin] at hTe
  subst hTe
  clear IH
  refine br_true (decide_eq_true (by omega)) ?_
  (conv => whnf); (repeat ((with_reducible refine must_intro ?_ ?_); exact decide_eq_true (by omega); (conv => whnf)))
  refine idxK_map_intro (show ((A.length + ms.length : Nat) : Int).toNat < P.length by omega) ?_
  rw [show P[((A.length + ms.length : Nat) : Int).toNat]'(by omega) = L from hlast]
  conv => whnf
  refine br_true (decide_eq_true (by omega)) ?_
  (conv => whnf); (repeat ((with_reducible refine must_intro ?_ ?_); exact decide_eq_true (by omega); (conv => whnf)))
  refine idxK_map_intro (show ((A.length + ms.length : Nat) : Int).toNat < P.length by omega) ?_
  rw [show P[((A.length + ms.length : Nat) : Int).toNat]'(by omega) = L from hlast]
  (conv => whnf); (repeat ((with_reducible refine must_intro ?_ ?_); exact decide_eq_true (by omega); (conv => whnf)))
  refine idxK_map_intro (show (0 : Int).toNat < L.length by simp; omega) ?_
  rw [show L[(0 : Int).toNat]'(by simp; omega) = L[0] from rfl]
  conv => whnf
  refine br_false hL0 ?_
  conv => whnf
  refine br_false (beq_eq_false_iff_ne.2 (by omega)) ?_
  (conv => whnf); (repeat ((with_reducible refine must_intro ?_ ?_); exact decide_eq_true (by omega); (conv => whnf)))
  refine idxK_map_intro (show ((A.length + ms.length : Nat) : Int).toNat < P.length by omega) ?_
  rw [show P[((A.length + ms.length : Nat) : Int).toNat]'(by omega) = L from hlast]
  conv => whnf
  refine cNew_calls L (by omega) ?_
  conv => whnf
  refine hRL ?_
  conv => whnf
  rw [i64_nat (by omega)]
  refine tCopy_calls t ht0 htn (by omega) ?_
  conv => whnf
  refine hPut ?_
  conv => whnf
  refine must_intro (decide_eq_true (by omega)) ?_
  conv => whnf
  refine must_intro (decide_eq_true (by omega)) ?_
  conv => whnf
  refine (show ACalls Tryz.prog 236 [.sl none 1 (rowsB Y), .sl none 1 (List.drop A.length (List.take (A.length + ms.length + 1) (rowsB P))), .fn (.func 237) [] []] [] _ from ?_)
  rw [eSl]
  refine EqualB_same Y (by omega) ?_
  conv => whnf
  refine hPut ?_
  conv => whnf
  exact h
theorem sGet_3F (r : Rc) (hm : mayP 3 r = true) (A Q : List B) (hA : A.length < 100000) (hQ : Q.length < 100000) {R} (h : R (.tup [.agg r.enc, vi ((A.length + (payP 3 [] r).length : Nat) : Int), vi 0]) [tblO 1 2 (addT 3 [] r), tblR (addT 3 [] r), tblM (addT 3 [] r)]) :
  ACalls Tryz.prog 204 [vi 3, .ptr 0 0, .sl none 1 (rowsB (A ++ payP 3 [] r ++ Q)), vi (A.length : Int)] [tblF] R := by
 have hM := may_all hm
 have hd16 := hM.deps
 refine acalls_of_xwp (an := an204) tab_ok Tryz.func204 ?_
 have hTl := addT_len 3 [] r
 obtain ⟨ms, hms⟩ : ∃ ms, ms = newsP [] (namesR r) := ⟨_, rfl⟩
 have hY : payP 3 [] r = ms.map defP ++ [lastW 3 (addT 3 [] r) r] := by rw [hms]; simp [payP, defsP]
 have hml : ms.length ≤ 18 := by
  rw [hms]
  have := news_len (namesR r) []
  have := namesR_len r
  omega
 have hfin : ms.foldl tblP [] = addT 3 [] r := by rw [hms, news_addAll, addT_more (by decide)]
 have hT1 := addT_mem (v := 3) (by decide) [] r (x := r.target) (by simp [textsR])
 have hT2 : ∀ d ∈ r.deps, d.name ∈ addT 3 [] r := fun d hd => addT_mem (by decide) [] r (List.mem_cons_of_mem _ (List.mem_append_left _ (List.mem_map_of_mem hd)))
 have hT3 : r.tag ≠ [] → r.tag ∈ addT 3 [] r := fun e => addT_mem (by decide) [] r (by simp [textsR, e])
 have hmne : ms ≠ [] := fun e => by
  rw [e] at hfin
  exact addT_ne (v := 3) (by decide) [] r hfin.symm
 have hLl := lastW_len (v := 3) (t := addT 3 [] r) hM (by simp at hTl; omega)
 obtain ⟨L, hLe⟩ : ∃ L, L = lastW 3 (addT 3 [] r) r := ⟨_, rfl⟩
 rw [← hLe] at hLl hY
 have hLne : 0 < L.length := hLl.1
 have hL0 : (((L[0]).toNat : Int) == 0) = false := by
  have : L[0] = 1 ∨ L[0] = 2 := by
   subst hLe
   unfold lastW
   split <;> simp
  rcases this with e | e <;> rw [e] <;> rfl
 have hLb := bel_length L
 have hYl : (payP 3 [] r).length = ms.length + 1 := by rw [hY]; simp
 have hPl : (A ++ payP 3 [] r ++ Q).length = A.length + ms.length + 1 + Q.length := by simp [hYl]; omega
 have hel : ∀ (i : Nat) (hi : i < ms.length) (hj : A.length + i < (A ++ payP 3 [] r ++ Q).length), (A ++ payP 3 [] r ++ Q)[A.length + i] = defP ms[i] := fun i hi hj => by
  rw [List.getElem_append_left (by simp [hYl]; omega), List.getElem_append_right (by omega), List.getElem_of_eq hY, List.getElem_append_left (by simp; omega)]
  simp
 have hlast : ∀ (hj : A.length + ms.length < (A ++ payP 3 [] r ++ Q).length), (A ++ payP 3 [] r ++ Q)[A.length + ms.length] = L := fun hj => by
  rw [List.getElem_append_left (by simp [hYl]), List.getElem_append_right (by omega), List.getElem_of_eq hY, List.getElem_append_right (by simp)]
  simp
 have eSl : List.drop A.length (List.take (A.length + ms.length + 1) (rowsB (A ++ payP 3 [] r ++ Q))) = rowsB (payP 3 [] r) := by
  rw [rowsB_append, rowsB_append, List.take_append_of_le_length (by simp [rowsB_length, hYl]; omega), List.take_of_length_le (by simp [rowsB_length, hYl]; omega), List.drop_append_of_le_length (by rw [rowsB_length]; exact Nat.le_refl _), List.drop_of_length_le (by rw [rowsB_length]; exact Nat.le_refl _), List.nil_append]
 have hPut := @sPut_3F r hm
 rw [hYl] at h
 generalize hYe : payP 3 [] r = Y at hY hYl hel hlast eSl hPl hPut ⊢
 generalize A ++ Y ++ Q = P at hel hlast eSl hPl ⊢
 have hlast := hlast (by omega)
 have hrl := rowsB_length P
 generalize addT 3 [] r = U at h hTl hT1 hT2 hT3 hLe hfin hPut
 have hRL := @rlast_3 r U hM (by simp at hTl; omega) hT1 hT2 hT3
 rw [← hLe] at hRL
 clear hms hY hYe
 conv => whnf
 refine skn_3 ?_
 conv => whnf
 refine br_false (decide_eq_false (by omega)) ?_
 conv => whnf
 refine tCopy_nil ?_
 conv => whnf
 obtain ⟨s, ms, rfl⟩ := List.exists_cons_of_ne_nil hmne
 refine LoopP.step ?_
 have hp := hel 0 (by simp) (by omega)
 simp only [Nat.add_zero, List.getElem_cons_zero] at hp
 obtain ⟨ns, n1, n2⟩ := str_of s
 have hbl : (byteEls (defP s)).length = s.length + 1 := by rw [bel_length]; rfl
 conv => whnf
 refine br_true (decide_eq_true (by omega)) ?_
 (conv => whnf); (repeat ((with_reducible refine must_intro ?_ ?_); exact decide_eq_true (by omega); (conv => whnf)))
 refine idxK_map_intro (show ((A.length : Int) : Int).toNat < P.length by omega) ?_
 rw [show P[((A.length : Int) : Int).toNat]'(by omega) = defP s from hp]
 conv => whnf
 refine br_true (decide_eq_true (by omega)) ?_
 (conv => whnf); (repeat ((with_reducible refine must_intro ?_ ?_); exact decide_eq_true (by omega); (conv => whnf)))
 refine idxK_map_intro (show ((A.length : Int) : Int).toNat < P.length by omega) ?_
 rw [show P[((A.length : Int) : Int).toNat]'(by omega) = defP s from hp]
 (conv => whnf); (repeat ((with_reducible refine must_intro ?_ ?_); exact decide_eq_true (by omega); (conv => whnf)))
 refine idxK_map_intro (show ((A.length : Int) : Int).toNat < P.length by omega) ?_
 rw [show P[((A.length : Int) : Int).toNat]'(by omega) = defP s from hp]
 (conv => whnf); (repeat ((with_reducible refine must_intro ?_ ?_); exact decide_eq_true (by omega); (conv => whnf)))
 refine ⟨ns, (by rw [tail_0]; exact n1), ?_⟩
 rw [n2]
 conv => whnf
 refine ID_new s ?_
 conv => whnf
 rw [i64_nat (by omega)]
 refine LoopP.ind2 (fun (i : Nat) (T : List B) => [(9, vi ((A.length + i : Nat) : Int))]) (fun i T => [(0, tblF), (nameOf 8, rO 0 [] 0 (.val (.slice none 0 0)) 0 0 []), (freshN 34 0, tblO (freshN 64 0) (freshN 64 1) T), (freshN 64 0, tblR T), (freshN 64 1, tblM T)]) (fun i _ => (s :: ms).length - i) (fun i T => i ≤ (s :: ms).length ∧ 1 ≤ i ∧ T.length ≤ i ∧ T = ((s :: ms).take i).foldl tblP []) 1 [s] rfl ⟨by simp, by omega, by simp, by simp [tblP]⟩ ?_
 rintro i T ⟨h0, h1, hT, hTe⟩ IH
 conv => whnf
 by_cases hc : i < (s :: ms).length
 ·have hp := hel i hc (by omega)
  have IH0 := IH (i + 1)
  clear IH
  have hTs : tblP T (s :: ms)[i] = ((s :: ms).take (i + 1)).foldl tblP [] := by
   rw [List.take_succ_eq_append_getElem hc, List.foldl_append, ← hTe]
   rfl
  generalize (s :: ms)[i] = s2 at hp hTs
  obtain ⟨ns, n1, n2⟩ := str_of s2
  have hbl : (byteEls (defP s2)).length = s2.length + 1 := by rw [bel_length]; rfl
  refine br_true (decide_eq_true (by omega)) ?_
  (conv => whnf); (repeat ((with_reducible refine must_intro ?_ ?_); exact decide_eq_true (by omega); (conv => whnf)))
  refine idxK_map_intro (show (((A.length + i : Nat) : Int) : Int).toNat < P.length by omega) ?_
  rw [show P[(((A.length + i : Nat) : Int) : Int).toNat]'(by omega) = defP s2 from hp]
  conv => whnf
  refine br_true (decide_eq_true (by omega)) ?_
  (conv => whnf); (repeat ((with_reducible refine must_intro ?_ ?_); exact decide_eq_true (by omega); (conv => whnf)))
  refine idxK_map_intro (show (((A.length + i : Nat) : Int) : Int).toNat < P.length by omega) ?_
  rw [show P[(((A.length + i : Nat) : Int) : Int).toNat]'(by omega) = defP s2 from hp]
  (conv => whnf); (repeat ((with_reducible refine must_intro ?_ ?_); exact decide_eq_true (by omega); (conv => whnf)))
  refine idxK_map_intro (show (((A.length + i : Nat) : Int) : Int).toNat < P.length by omega) ?_
  rw [show P[(((A.length + i : Nat) : Int) : Int).toNat]'(by omega) = defP s2 from hp]
  (conv => whnf); (repeat ((with_reducible refine must_intro ?_ ?_); exact decide_eq_true (by omega); (conv => whnf)))
  refine ⟨ns, (by rw [tail_0]; exact n1), ?_⟩
  rw [n2]
  conv => whnf
  by_cases hs : s2 ∈ T
  ·have IH := IH0 T ⟨by omega, by omega, by omega, by rw [← hTs, tblP_some hs]⟩ (by omega)
   refine ID_old T s2 hs fun j => ?_
   conv => whnf
   rw [i64_nat (by omega)]
   exact IH
  ·have IH := IH0 (T ++ [s2]) ⟨by omega, by omega, by rw [List.length_append]; simp only [List.length_cons, List.length_nil]; omega, by rw [← hTs, tblP_none hs]⟩ (by omega)
   refine ID_more T s2 (by omega) hs fun j => ?_
   conv => whnf
   rw [i64_nat (by omega)]
   exact IH
 ·have hi : i = (s :: ms).length := by omega
  subst hi
  rw [List.take_length, hfin] at hTe
  subst hTe
  clear IH
  refine br_true (decide_eq_true (by omega)) ?_
  (conv => whnf); (repeat ((with_reducible refine must_intro ?_ ?_); exact decide_eq_true (by omega); (conv => whnf)))
  refine idxK_map_intro (show ((A.length + (s :: ms).length : Nat) : Int).toNat < P.length by omega) ?_
  rw [show P[((A.length + (s :: ms).length : Nat) : Int).toNat]'(by omega) = L from hlast]
  conv => whnf
  refine br_true (decide_eq_true (by omega)) ?_
  (conv => whnf); (repeat ((with_reducible refine must_intro ?_ ?_); exact decide_eq_true (by omega); (conv => whnf)))
  refine idxK_map_intro (show ((A.length + (s :: ms).length : Nat) : Int).toNat < P.length by omega) ?_
  rw [show P[((A.length + (s :: ms).length : Nat) : Int).toNat]'(by omega) = L from hlast]
  (conv => whnf); (repeat ((with_reducible refine must_intro ?_ ?_); exact decide_eq_true (by omega); (conv => whnf)))
  refine idxK_map_intro (show (0 : Int).toNat < L.length by simp; omega) ?_
  rw [show L[(0 : Int).toNat]'(by simp; omega) = L[0] from rfl]
  conv => whnf
  refine br_false hL0 ?_
  conv => whnf
  refine br_false (beq_eq_false_iff_ne.2 (by omega)) ?_
  (conv => whnf); (repeat ((with_reducible refine must_intro ?_ ?_); exact decide_eq_true (by omega); (conv => whnf)))
  refine idxK_map_intro (show ((A.length + (s :: ms).length : Nat) : Int).toNat < P.length by omega) ?_
  rw [show P[((A.length + (s :: ms).length : Nat) : Int).toNat]'(by omega) = L from hlast]
  conv => whnf
  refine cNew_calls L (by omega) ?_
  conv => whnf
  refine hRL ?_
  conv => whnf
  rw [i64_nat (by omega)]
  refine tCopy_nil ?_
  conv => whnf
  refine hPut ?_
  conv => whnf
  refine must_intro (decide_eq_true (by omega)) ?_
  conv => whnf
  refine must_intro (decide_eq_true (by omega)) ?_
  conv => whnf
  refine (show ACalls Tryz.prog 236 [.sl none 1 (rowsB Y), .sl none 1 (List.drop A.length (List.take (A.length + (s :: ms).length + 1) (rowsB P))), .fn (.func 237) [] []] [] _ from ?_)
  rw [eSl]
  refine EqualB_same Y (by omega) ?_
  conv => whnf
  refine hPut ?_
  conv => whnf
  exact h
theorem sGet_3O (r : Rc) (hm : mayP 3 r = true) (t : List B) (ht0 : t ≠ []) (htn : t.Nodup) (htl : t.length < 80000) (A Q : List B) (hA : A.length < 100000) (hQ : Q.length < 100000) {R} (h : R (.tup [.agg r.enc, vi ((A.length + (payP 3 t r).length : Nat) : Int), vi 0]) [tblO 1 2 (addT 3 t r), tblR (addT 3 t r), tblM (addT 3 t r)]) :
  ACalls Tryz.prog 204 [vi 3, .ptr 0 0, .sl none 1 (rowsB (A ++ payP 3 t r ++ Q)), vi (A.length : Int)] [tblO 1 2 t, tblR t, tblM t] R := by
 have hM := may_all hm
 have hd16 := hM.deps
 refine acalls_of_xwp (an := an204) tab_ok Tryz.func204 ?_
 have hTl := addT_len 3 t r
 obtain ⟨ms, hms⟩ : ∃ ms, ms = newsP t (namesR r) := ⟨_, rfl⟩
 have hY : payP 3 t r = ms.map defP ++ [lastW 3 (addT 3 t r) r] := by rw [hms]; simp [payP, defsP]
 have hml : ms.length ≤ 18 := by
  rw [hms]
  have := news_len (namesR r) t
  have := namesR_len r
  omega
 have hfin : ms.foldl tblP t = addT 3 t r := by rw [hms, news_addAll, addT_more (by decide)]
 have hT1 := addT_mem (v := 3) (by decide) t r (x := r.target) (by simp [textsR])
 have hT2 : ∀ d ∈ r.deps, d.name ∈ addT 3 t r := fun d hd => addT_mem (by decide) t r (List.mem_cons_of_mem _ (List.mem_append_left _ (List.mem_map_of_mem hd)))
 have hT3 : r.tag ≠ [] → r.tag ∈ addT 3 t r := fun e => addT_mem (by decide) t r (by simp [textsR, e])
 have hLl := lastW_len (v := 3) (t := addT 3 t r) hM (by omega)
 obtain ⟨L, hLe⟩ : ∃ L, L = lastW 3 (addT 3 t r) r := ⟨_, rfl⟩
 rw [← hLe] at hLl hY
 have hLne : 0 < L.length := hLl.1
 have hL0 : (((L[0]).toNat : Int) == 0) = false := by
  have : L[0] = 1 ∨ L[0] = 2 := by
   subst hLe
   unfold lastW
   split <;> simp
  rcases this with e | e <;> rw [e] <;> rfl
 have hLb := bel_length L
 have hYl : (payP 3 t r).length = ms.length + 1 := by rw [hY]; simp
 have hPl : (A ++ payP 3 t r ++ Q).length = A.length + ms.length + 1 + Q.length := by simp [hYl]; omega
 have hel : ∀ (i : Nat) (hi : i < ms.length) (hj : A.length + i < (A ++ payP 3 t r ++ Q).length), (A ++ payP 3 t r ++ Q)[A.length + i] = defP ms[i] := fun i hi hj => by
  rw [List.getElem_append_left (by simp [hYl]; omega), List.getElem_append_right (by omega), List.getElem_of_eq hY, List.getElem_append_left (by simp; omega)]
  simp
 have hlast : ∀ (hj : A.length + ms.length < (A ++ payP 3 t r ++ Q).length), (A ++ payP 3 t r ++ Q)[A.length + ms.length] = L := fun hj => by
  rw [List.getElem_append_left (by simp [hYl]), List.getElem_append_right (by omega), List.getElem_of_eq hY, List.getElem_append_right (by simp)]
  simp
 have eSl : List.drop A.length (List.take (A.length + ms.length + 1) (rowsB (A ++ payP 3 t r ++ Q))) = rowsB (payP 3 t r) := by
  rw [rowsB_append, rowsB_append, List.take_append_of_le_length (by simp [rowsB_length, hYl]; omega), List.take_of_length_le (by simp [rowsB_length, hYl]; omega), List.drop_append_of_le_length (by rw [rowsB_length]; exact Nat.le_refl _), List.drop_of_length_le (by rw [rowsB_length]; exact Nat.le_refl _), List.nil_append]
 have hPut := @sPut_3O r t (by omega) hm
 rw [hYl] at h
 generalize hYe : payP 3 t r = Y at hY hYl hel hlast eSl hPl hPut ⊢
 generalize A ++ Y ++ Q = P at hel hlast eSl hPl ⊢
 have hlast := hlast (by omega)
 have hrl := rowsB_length P
 generalize addT 3 t r = U at h hTl hT1 hT2 hT3 hLe hfin hPut
 have hRL := @rlast_3 r U hM (by omega) hT1 hT2 hT3
 rw [← hLe] at hRL
 clear hms hY hYe
 conv => whnf
 refine skn_3 ?_
 conv => whnf
 refine br_false (decide_eq_false (by omega)) ?_
 conv => whnf
 refine tCopy_calls t ht0 htn (by omega) ?_
 conv => whnf
 refine LoopP.ind2 (fun (i : Nat) (T : List B) => [(9, vi ((A.length + i : Nat) : Int))]) (fun i T => [(0, tblO 1 2 t), (1, tblR t), (2, tblM t), (nameOf 8, rO 0 [] 0 (.val (.slice none 0 0)) 0 0 []), (freshN 34 0, tblO (freshN 34 1) (freshN 34 2) T), (freshN 34 1, tblR T), (freshN 34 2, tblM T)]) (fun i _ => ms.length - i) (fun i T => i ≤ ms.length ∧ T.length ≤ t.length + i ∧ T = (ms.take i).foldl tblP t) 0 t rfl ⟨by omega, by omega, by simp⟩ ?_
 rintro i T ⟨h0, hT, hTe⟩ IH
 conv => whnf
 by_cases hc : i < ms.length
 ·have hp := hel i hc (by omega)
  have IH0 := IH (i + 1)
  clear IH
  have hTs : tblP T ms[i] = (ms.take (i + 1)).foldl tblP t := by
   rw [List.take_succ_eq_append_getElem hc, List.foldl_append, ← hTe]
   rfl
  generalize ms[i] = s at hp hTs
  obtain ⟨ns, n1, n2⟩ := str_of s
  have hbl : (byteEls (defP s)).length = s.length + 1 := by rw [bel_length]; rfl
  refine br_true (decide_eq_true (by omega)) ?_
  (conv => whnf); (repeat ((with_reducible refine must_intro ?_ ?_); exact decide_eq_true (by omega); (conv => whnf)))
  refine idxK_map_intro (show (((A.length + i : Nat) : Int) : Int).toNat < P.length by omega) ?_
  rw [show P[(((A.length + i : Nat) : Int) : Int).toNat]'(by omega) = defP s from hp]
  conv => whnf
  refine br_true (decide_eq_true (by omega)) ?_
  (conv => whnf); (repeat ((with_reducible refine must_intro ?_ ?_); exact decide_eq_true (by omega); (conv => whnf)))
  refine idxK_map_intro (show (((A.length + i : Nat) : Int) : Int).toNat < P.length by omega) ?_
  rw [show P[(((A.length + i : Nat) : Int) : Int).toNat]'(by omega) = defP s from hp]
  (conv => whnf); (repeat ((with_reducible refine must_intro ?_ ?_); exact decide_eq_true (by omega); (conv => whnf)))
  refine idxK_map_intro (show (((A.length + i : Nat) : Int) : Int).toNat < P.length by omega) ?_
  rw [show P[(((A.length + i : Nat) : Int) : Int).toNat]'(by omega) = defP s from hp]
  (conv => whnf); (repeat ((with_reducible refine must_intro ?_ ?_); exact decide_eq_true (by omega); (conv => whnf)))
  refine ⟨ns, (by rw [tail_0]; exact n1), ?_⟩
  rw [n2]
  conv => whnf
  by_cases hs : s ∈ T
  ·have IH := IH0 T ⟨by omega, by omega, by rw [← hTs, tblP_some hs]⟩ (by omega)
   refine ID_old T s hs fun j => ?_
   conv => whnf
   rw [i64_nat (by omega)]
   exact IH
  ·have IH := IH0 (T ++ [s]) ⟨by omega, by rw [List.length_append]; simp only [List.length_cons, List.length_nil]; omega, by rw [← hTs, tblP_none hs]⟩ (by omega)
   refine ID_more T s (by omega) hs fun j => ?_
   conv => whnf
   rw [i64_nat (by omega)]
   exact IH
 ·have hi : i = ms.length := by omega
  subst hi
  rw [List.take_length, hfin] at hTe
  subst hTe
  clear IH
  refine br_true (decide_eq_true (by omega)) ?_
  (conv => whnf); (repeat ((with_reducible refine must_intro ?_ ?_); exact decide_eq_true (by omega); (conv => whnf)))
  refine idxK_map_intro (show ((A.length + ms.length : Nat) : Int).toNat < P.length by omega) ?_
  rw [show P[((A.length + ms.length : Nat) : Int).toNat]'(by omega) = L from hlast]
  conv => whnf
  refine br_true (decide_eq_true (by omega)) ?_
  (conv => whnf); (repeat ((with_reducible refine must_intro ?_ ?_); exact decide_eq_true (by omega); (conv => whnf)))
  refine idxK_map_intro (show ((A.length + ms.length : Nat) : Int).toNat < P.length by omega) ?_
  rw [show P[((A.length + ms.length : Nat) : Int).toNat]'(by omega) = L from hlast]
  (conv => whnf); (repeat ((with_reducible refine must_intro ?_ ?_); exact decide_eq_true (by omega); (conv => whnf)))
  refine idxK_map_intro (show (0 : Int).toNat < L.length by simp; omega) ?_
  rw [show L[(0 : Int).toNat]'(by simp; omega) = L[0] from rfl]
  conv => whnf
  refine br_false hL0 ?_
  conv => whnf
  refine br_false (beq_eq_false_iff_ne.2 (by omega)) ?_
  (conv => whnf); (repeat ((with_reducible refine must_intro ?_ ?_); exact decide_eq_true (by omega); (conv => whnf)))
  refine idxK_map_intro (show ((A.length + ms.length : Nat) : Int).toNat < P.length by omega) ?_
  rw [show P[((A.length + ms.length : Nat) : Int).toNat]'(by omega) = L from hlast]
  conv => whnf
  refine cNew_calls L (by omega) ?_
  conv => whnf
  refine hRL ?_
  conv => whnf
  rw [i64_nat (by omega)]
  refine tCopy_calls t ht0 htn (by omega) ?_
  conv => whnf
  refine hPut ?_
  conv => whnf
  refine must_intro (decide_eq_true (by omega)) ?_
  conv => whnf
  refine must_intro (decide_eq_true (by omega)) ?_
  conv => whnf
  refine (show ACalls Tryz.prog 236 [.sl none 1 (rowsB Y), .sl none 1 (List.drop A.length (List.take (A.length + ms.length + 1) (rowsB P))), .fn (.func 237) [] []] [] _ from ?_)
  rw [eSl]
  refine EqualB_same Y (by omega) ?_
  conv => whnf
  refine hPut ?_
  conv => whnf
  exact h
end Go.Abs
end
section
namespace Go.Abs
open Go Go.Proofs
attribute [local irreducible] ibits byteAt strLt firstIdx
theorem vGetCut_calls (p : B) (n k : Nat) (hn : n < 18446744073709551616) (hk : k < (vrn n).length) (hl : p.length < 100000000) {R} (h : R (.tup [.val (.int .u64 0), vi 0, vi 2]) []) :
  ACalls Tryz.prog 258 [.sl none 1 (byteEls (p ++ (vrn n).take k)), vi (p.length : Int)] [] R := by
 refine acalls_of_xwp (an := an258) tab_ok Tryz.func258 ?_
 have hv := vrn_u64 hn
 have hp := vrn_pos n
 have hat := vrn_at n
 have hbl : (byteEls (p ++ (vrn n).take k)).length = p.length + k := by rw [bel_length, List.length_append, List.length_take]; omega
 conv => whnf
 refine br_intro (fun g => ?_) (fun g => ?_)
 ·exfalso
  have g := of_decide_eq_true g
  rw [hbl] at g
  omega
 conv => whnf
 refine LoopP.ind1 (fun (i : Nat) => [(4, .val (.int .u64 ((n % 128 ^ i : Nat) : Int))), (17, vi i)]) (fun _ => []) (fun i => 10 - i) (fun i => i ≤ k) 0 (by simp [Nat.mod_one]; rfl) (by omega) ?_
 rintro i h0 IH
 have h0' : i < (vrn n).length := by omega
 have hb := (vrn n)[i].toNat_lt
 obtain ⟨a1, a2, a3⟩ := hat i h0'
 have e1 : IntKind.i64.wrap ((p.length : Int) + (i : Int)) = ((p.length + i : Nat) : Int) := by rw [wrap_i64 (by omega) (by omega)]; omega
 have e7 : IntKind.i64.wrap (7 * (i : Int)) = ((7 * i : Nat) : Int) := by rw [wrap_i64 (by omega) (by omega)]; omega
 conv => whnf
 refine br_intro (fun g2 => ?_) (fun g2 => ?_)
 ·conv => whnf
  refine br_intro (fun g3 => ?_) (fun g3 => ?_)
  ·conv => whnf
   exact h
  have hik : i < k := by
   rw [e1, hbl] at g3
   have g3 := of_decide_eq_false g3
   omega
  have hget : (byteEls (p ++ (vrn n).take k))[p.length + i]? = some [.val (.int .u8 ((vrn n)[i].toNat : Int))] := by
   unfold byteEls
   rw [List.getElem?_map, List.getElem?_append_right (by omega), Nat.add_sub_cancel_left, List.getElem?_take_of_lt hik, List.getElem?_eq_getElem h0']
   rfl
  conv => whnf
  refine must_intro (decide_eq_true (by rw [e1]; omega)) ?_
  rw [e1]
  refine idxK_iff.2 ⟨_, hget, ?_⟩
  have hlow := u8_low hb
  rw [if_pos (show i + 1 < (vrn n).length by omega)] at a1
  have hnx := IH (i + 1) (by omega) (by omega)
  generalize hx : (vrn n)[i].toNat = x at a1 hb hlow hget ⊢
  conv => whnf
  refine br_intro (fun g4 => ?_) (fun g4 => ?_)
  ·exfalso
   have g4 : i = 9 := by have := beq_iff_eq.1 g4; omega
   omega
  ·conv => whnf
   refine br_intro (fun g6 => ?_) (fun g6 => ?_)
   ·have g6 := of_decide_eq_true g6
    conv => whnf
    refine br_intro (fun g7 => ?_) (fun g7 => ?_)
    ·exfalso
     have g7 := beq_iff_eq.1 g7
     omega
    conv => whnf
    refine must_intro (decide_eq_true (by rw [e7]; omega)) ?_
    conv => whnf
    refine br_false (decide_eq_false (by rw [a1]; omega)) ?_
    conv => whnf
    rw [vor hn (by omega) hb (by rw [a1]; omega), wrap_i64 (by omega) (by omega), show (i : Int) + 1 = ((i + 1 : Nat) : Int) by omega]
    exact hnx
   ·conv => whnf
    refine must_intro (decide_eq_true (by rw [e7]; omega)) ?_
    conv => whnf
    refine br_false (decide_eq_false (by rw [a1]; omega)) ?_
    conv => whnf
    rw [vor hn (by omega) hb (by rw [a1]; omega), wrap_i64 (by omega) (by omega), show (i : Int) + 1 = ((i + 1 : Nat) : Int) by omega]
    exact hnx
 ·exfalso
  have g2 := of_decide_eq_false g2
  omega
theorem bGetCut_calls (p s : B) (most k : Nat) (hs : s.length ≤ most) (hm : most < 10000000) (hk : k < (blobP s).length) (hl : p.length < 50000000) {R} (h : R (.tup [vs [], vi 0, vi 2]) []) :
  ACalls Tryz.prog 247 [.sl none 1 (byteEls (p ++ (blobP s).take k)), vi (p.length : Int), vi (most : Int)] [] R := by
 refine acalls_of_xwp (an := an247) tab_ok Tryz.func247 ?_
 have hv := vrn_u64 (n := s.length) (by omega)
 have hbs : (blobP s).length = (vrn s.length).length + s.length := by simp [blobP]
 by_cases hc : k < (vrn s.length).length
 ·have eb : p ++ (blobP s).take k = p ++ (vrn s.length).take k := by
   unfold blobP
   rw [List.take_append_of_le_length (by omega)]
  rw [eb]
  conv => whnf
  refine vGetCut_calls p s.length k (by omega) hc (by omega) ?_
  conv => whnf
  exact h
 ·obtain ⟨j, hj⟩ : ∃ j, k = (vrn s.length).length + j := ⟨k - (vrn s.length).length, by omega⟩
  have eb : p ++ (blobP s).take k = p ++ vrn s.length ++ s.take j := by
   unfold blobP
   rw [hj, List.take_length_add_append, List.append_assoc]
  rw [eb]
  have hbl : (byteEls (p ++ vrn s.length ++ s.take j)).length = p.length + (vrn s.length).length + j := by rw [bel_length, List.length_append, List.length_append, List.length_take]; omega
  have em : IntKind.u64.wrap (if (most : Int) < 0 then 0 else (most : Int)) = (most : Int) := by
   rw [if_neg (by omega)]
   show (most : Int) % 18446744073709551616 = _
   omega
  have el : IntKind.u64.wrap (IntKind.i64.wrap (((byteEls (p ++ vrn s.length ++ s.take j)).length : Int) - ((p.length + (vrn s.length).length : Nat) : Int))) = ((j : Nat) : Int) := by
   rw [hbl, wrap_i64 (by omega) (by omega)]
   show _ % 18446744073709551616 = _
   omega
  conv => whnf
  refine vGet_calls p (s.take j) s.length (by omega) (by rw [List.length_take]; omega) ?_
  conv => whnf
  refine br_intro (fun g => ?_) (fun g => ?_)
  ·exfalso
   rw [em] at g
   have g := of_decide_eq_true g
   omega
  conv => whnf
  refine br_intro (fun g => ?_) (fun g => ?_)
  ·conv => whnf
   exact h
  ·exfalso
   rw [el] at g
   have g := of_decide_eq_false g
   omega
theorem fGetCut_calls (p s : B) (k : Nat) (h1 : 1 ≤ s.length) (h2 : s.length ≤ 2048) (h0 : 0 < k) (hk : k < (frameP s).length) (hl : p.length < 4000000) {R} (h : R (.tup [.val (.slice none 0 0), vi 0, vi 2]) []) :
  ACalls Tryz.prog 232 [.sl none 1 (byteEls (p ++ (frameP s).take k)), vi (p.length : Int)] [] R := by
 refine acalls_of_xwp (an := an232) tab_ok Tryz.func232 ?_
 have hv := vrn_u64 (n := s.length) (by omega)
 have hbs : (blobP s).length = (vrn s.length).length + s.length := by simp [blobP]
 have hfs : (frameP s).length = (blobP s).length + 4 := by simp [frameP, sealF, w4_length]
 have hbl : (byteEls (p ++ (frameP s).take k)).length = p.length + k := by rw [bel_length, List.length_append, List.length_take]; omega
 conv => whnf
 refine br_intro (fun g => ?_) (fun g => ?_)
 ·exfalso
  have g := beq_iff_eq.1 g
  rw [hbl] at g
  omega
 conv => whnf
 refine (show ACalls Tryz.prog 247 [.sl none 1 (byteEls (p ++ (frameP s).take k)), vi (p.length : Int), vi ((2048 : Nat) : Int)] [] _ from ?_)
 by_cases hc : k < (blobP s).length
 ·have eb : p ++ (frameP s).take k = p ++ (blobP s).take k := by
   unfold frameP sealF
   rw [List.take_append_of_le_length (by omega)]
  rw [eb]
  refine bGetCut_calls p s 2048 k h2 (by omega) hc (by omega) ?_
  conv => whnf
  exact h
 ·obtain ⟨j, hj⟩ : ∃ j, k = (blobP s).length + j := ⟨k - (blobP s).length, by omega⟩
  have hw4 := w4_length (Crc.sum (blobP s)).toNat
  have eb : p ++ (frameP s).take k = p ++ blobP s ++ (w4 (Crc.sum (blobP s)).toNat).take j := by
   unfold frameP sealF
   rw [hj, List.take_length_add_append, List.append_assoc]
  have e1 : IntKind.i64.wrap (((byteEls (p ++ (frameP s).take k)).length : Int) - ((p.length + (blobP s).length : Nat) : Int)) = ((j : Nat) : Int) := by rw [hbl, wrap_i64 (by omega) (by omega)]; omega
  have hne : decide (ofB s = ofB []) = false := decide_eq_false (fun e => by have := ofB_inj e; rw [this] at h1; simp at h1)
  rw [eb] at e1 ⊢
  refine bGet_calls p ((w4 (Crc.sum (blobP s)).toNat).take j) s 2048 h2 (by omega) (by rw [List.length_take]; omega) ?_
  conv => whnf
  refine br_false hne ?_
  conv => whnf
  refine br_intro (fun g => ?_) (fun g => ?_)
  ·conv => whnf
   exact h
  ·exfalso
   rw [e1] at g
   have g := of_decide_eq_false g
   omega
def EndAt (t : B) : Prop := t = [] ∨ ∃ (s : B) (k : Nat), 1 ≤ s.length ∧ s.length ≤ 2048 ∧ 0 < k ∧ k < (frameP s).length ∧ t = (frameP s).take k
theorem fGetStop_calls (p : B) {t : B} (ht : EndAt t) (hl : p.length < 4000000) {R} (h : ∀ e : Int, e ≠ 0 → R (.tup [.val (.slice none 0 0), vi 0, vi e]) []) :
  ACalls Tryz.prog 232 [.sl none 1 (byteEls (p ++ t)), vi (p.length : Int)] [] R := by
 rcases ht with rfl | ⟨s, k, h1, h2, h3, h4, rfl⟩
 ·rw [List.append_nil]
  exact fGetEnd_calls p (by omega) (h 6 (by decide))
 ·exact fGetCut_calls p s k h1 h2 h3 h4 hl (h 2 (by decide))
end Go.Abs
end
section
namespace Go.Abs
open Go Go.Proofs Go.RowKit
attribute [local go_sem] Oper.semAt_some
theorem rep_tup3 {G : Gh} {a : AV} {x y : Value} {v : Value} (h : Rep G (.tup [a, .val x, .val y]) v) : ∃ u, v = .tuple #[u, x, y] ∧ Rep G a u := by
 simp only [Rep, RepL] at h
 obtain ⟨vs, rfl, u, _, rfl, hu, _, _, rfl, rfl, _, _, rfl, rfl, rfl⟩ := h
 exact ⟨u, rfl, hu⟩
set_option maxHeartbeats 4000000 in
theorem frames_iter (h0 : B) (l : List B) (t : B) (ht : EndAt t) (hok : ∀ p ∈ l, 1 ≤ p.length ∧ p.length ≤ 2048) (hl : h0.length + (framesP l).length + t.length < 1000000) :
  SIter Tryz.prog 231 [.cptr [.sl none 1 (byteEls (h0 ++ (framesP l ++ t)))] 0, .ptr 0 0] [.cells 3 [vi (h0.length : Int)]] (framesA h0.length l) := by
 refine ⟨fun args w => run_callFunc (by kernel_rfl), fun G w lb hW hr lp n' J Jx hY hS hK hJ0 => ?_⟩
 simp only [RepL, Rep, RepC] at hr
 obtain ⟨_, _, rfl, ⟨bc, oc, rfl, ⟨⟨vB, hvB, hB⟩, _⟩, _⟩, _, _, rfl, ⟨b, hb, rfl⟩, rfl⟩ := hr
 obtain ⟨b', vs, e1, e2, e3, e4⟩ := hW.obj 0 _ rfl
 rw [hb] at e1; cases e1
 simp only [RepL, Rep] at e3
 obtain ⟨_, _, rfl, rfl, rfl⟩ := e3
 have hO : ∀ c, (∃ k, G.at k c) ↔ c = b := fun c => by
  constructor
  ·rintro ⟨k, hk⟩
   have h1 : ∃ o, objGet (numbered 0 [AObj.cells 3 [vi (h0.length : Int)]]) k = some o := by
    rcases hk with h4 | ⟨u, t, h4, _⟩ <;> exact hW.dom k _ h4
   obtain ⟨o, ho⟩ := h1
   rw [objGet_numbered0] at ho
   have : k = 0 := by
    cases k with
    | zero => rfl
    | succ k => simp at ho
   subst this
   rcases hk with h4 | ⟨u, t, h4, _⟩
   ·rw [hb] at h4; cases h4; rfl
   ·rw [hb] at h4; cases h4
  ·rintro rfl; exact ⟨0, .inl hb⟩
 obtain ⟨Own, hOwn⟩ : ∃ Own : Nat → Prop, Own = fun c => ∃ k, G.at k c := ⟨_, rfl⟩
 rw [← hOwn] at hJ0
 have hO : ∀ c, Own c ↔ c = b := by rw [hOwn]; exact hO
 clear hOwn
 have hglob := hW.glob
 have hlenA := framesA_length h0.length l
 rw [show FW none = Fence.wide from rfl] at hY ⊢
 refine callsIn_of_wp Tryz.func231 rfl trivial ?_ rfl
 simp only [Tryz.ntmps231, List.size_toArray, List.length_cons, List.length_nil, Nat.reduceAdd, Nat.reduceSub, Array.replicate_succ, Array.replicate_zero, List.push_toArray, List.append_toArray, List.nil_append, List.cons_append, Nat.add_zero]
 gi_wp2
 gi_loopw [4] (fun _ wr => ∃ (i : Nat) (K : Nat → Nat → Option Value), i ≤ l.length ∧ J i Own K wr ∧ (∀ o, K b o = none) ∧ (∀ c o v, G.K c o = some v → K c o = some v) ∧ wr.heap[b]? = some (.cells #[.int .i64 ((h0.length + (framesP (l.take i)).length : Nat) : Int)] 3 (0, 0)))
  (fun _ wr => match wr.cell? ⟨b, 0, none⟩ with | some (.int _ x) => (2000000 - x).toNat | _ => 0)
 case atStart => exact ⟨0, G.K, by omega, hJ0, e4, fun _ _ _ h => h, by simpa [framesP] using e2⟩
 case round =>
  obtain ⟨i, K, hi, hJi, hKb, hKG, hbx⟩ := hrel
  obtain ⟨off, hoff⟩ : ∃ off : Nat, off = h0.length + (framesP (l.take i)).length := ⟨_, rfl⟩
  rw [← hoff] at hbx
  obtain ⟨hcell, hfz⟩ := kx_cell_of_box hbx
  have hcB := hK i Own K wr hJi _ _ _ (hKG _ _ _ hvB)
  have hOlt : ∀ c, Own c → c < wr.heap.size := fun c hc => by
   rw [(hO c).1 hc]; exact (Array.getElem?_eq_some_iff.1 hbx).1
  have hBK : Rep ⟨K, fun _ => none⟩ (.sl none 1 (byteEls (h0 ++ (framesP l ++ t)))) vB := by
   have h1 : Rep G (.sl none 1 (byteEls (h0 ++ (framesP l ++ t)))) vB := by simp only [Rep]; exact hB
   exact Rep.nameless (G := G) (G' := ⟨K, fun _ => none⟩) hKG _ _ rfl h1
  have hvi : ∀ x : Int, Rep ⟨K, fun _ => none⟩ (vi x) (.int .i64 x) := fun x => by
   show Rep _ (.val (.int .i64 x)) _
   simp only [Rep]
  by_cases hlt : i < l.length
  ·have hp := hok _ (List.getElem_mem hlt)
   have hsp : h0 ++ (framesP l ++ t) = (h0 ++ framesP (l.take i)) ++ frameP l[i] ++ (framesP (l.drop (i + 1)) ++ t) := by
    rw [framesP_split hlt]; simp
   have hlen2 : (framesP l).length = (framesP (l.take i)).length + (frameP l[i]).length + (framesP (l.drop (i + 1))).length := by
    rw [framesP_split hlt, List.length_append, List.length_append]
   have hget := fGet_calls (h0 ++ framesP (l.take i)) (framesP (l.drop (i + 1)) ++ t) l[i] hp.1 hp.2 (by simp; omega) (R := fun r os => r = .tup [.sl none 1 (byteEls l[i]), vi (((h0 ++ framesP (l.take i)).length + (frameP l[i]).length : Nat) : Int), vi 0] ∧ os = []) ⟨rfl, rfl⟩
   rw [← hsp, List.length_append, ← hoff] at hget
   have hxs : (framesA h0.length l)[i]? = some [.sl none 1 (byteEls l[i]), vi ((h0.length + (framesP (l.take (i + 1))).length : Nat) : Int)] := framesA_at hlt
   have hnx : h0.length + (framesP (l.take (i + 1))).length = off + (frameP l[i]).length := by rw [framesP_take hlt, hoff]; omega
   rw [hnx] at hxs
   obtain ⟨nx, hnxe⟩ : ∃ nx : Nat, nx = off + (frameP l[i]).length := ⟨_, rfl⟩
   rw [← hnxe] at hget hxs hnx
   have hcalm := fun m => hget.calm (K := K) (W := wr) (vals := [vB, .int .i64 (off : Int)]) (hK i Own K wr hJi) (hglob.mono hKG) (by simp only [RepL]; exact ⟨_, _, rfl, hBK, _, _, rfl, hvi _, rfl⟩) hOlt (A := #[vB, .int .i64 (off : Int)]) rfl m
   have hflen : 5 ≤ (frameP l[i]).length := by simp [frameP, sealF, w4_length, blobP]; omega
   have hlt2 : off < nx ∧ nx < 2000000 := by omega
   clear hget hsp hoff hnxe hlen2 hflen hvi hBK hB
   gi_wp2
   refine ⟨trivial, fun h => by simp [Fence.wide] at h, (hcalm _).mono ?_⟩
   rintro e W1 ⟨v, r, os', G', rfl, ⟨rfl, rfl⟩, hRep, hKn, hst, hbl⟩
   obtain ⟨vp, rfl, hvp⟩ := rep_tup3 hRep
   have hbW : b < wr.heap.size := hOlt b ((hO b).2 rfl)
   have hJ1 := hS i Own K wr Own G'.K W1 hJi hst
   have hbx1 := (hbl b hbW).1.trans hbx
   have hKb1 : ∀ o, G'.K b o = none := fun o => ((hbl b hbW).2 o).trans (hKb o)
   have hKG1 : ∀ c o v, G.K c o = some v → G'.K c o = some v := fun c o v h => hst.more _ _ _ (hKG c o v h)
   obtain ⟨hcell1, hfz1⟩ := kx_cell_of_box hbx1
   have hwr := hcell
   clear hcalm hRep hcell hfz hcB
   obtain ⟨fn, tmps, assign, body, hy, hR⟩ := hY (n' - 1) i _ #[vp, .int .i64 (nx : Int)] Own G'.K W1 hxs
    (by simp only [RepL]; exact ⟨_, _, rfl, Rep.nameless (G := G') (G' := ⟨G'.K, fun _ => none⟩) (fun _ _ _ h => h) _ _ rfl hvp, _, _, rfl, (by show Rep _ (.val (.int .i64 (nx : Int))) _; simp only [Rep]), rfl⟩) hJ1
   clear hY hJi
   gi_wp2
   refine ⟨fun h => by simp [Fence.wide] at h, hR.mono ?_⟩
   rintro e W3 (⟨rfl, K', hJ3, hKK, hO3, hos3, htape3, hout3, hsz3⟩ | ⟨rfl, hJx3⟩)
   ·clear hR hy
    have hbx3 := (hO3 b ((hO b).2 rfl)).1.trans hbx1
    obtain ⟨hcell3, hfz3⟩ := kx_cell_of_box hbx3
    have hKb3 : ∀ o, K' b o = none := fun o => by rw [(hO3 b ((hO b).2 rfl)).2 o]; exact hKb1 o
    have hst3 := steps_box (v' := .int .i64 (nx : Int)) hO hbx3 hKb3 (hK (i + 1) Own K' W3 hJ3)
    have hJ4 := hS (i + 1) Own K' W3 Own K' _ hJ3 hst3
    have hbx4 := kx_heap_setCell_box (.int .i64 (nx : Int)) hbx3
    have hc4 := (kx_cell_of_box hbx4).1
    have hKG3 : ∀ c o v, G.K c o = some v → K' c o = some v := fun c o v h => hKK _ _ _ (hKG1 c o v h)
    clear hS hK hst hO3 hcell1 hfz1
    gi_wp2
    refine ⟨⟨i + 1, K', hlt, hJ4, hKb3, hKG3, by rw [hnx]; exact hbx4⟩, ?_⟩
    rw [hc4, hwr]
    show (2000000 - (nx : Int)).toNat < (2000000 - (off : Int)).toNat
    omega
   ·clear hR hy
    gi_wp2
    refine bodyPost_ret (results_none rfl _ _ _) rfl ?_
    exact ⟨⟨_, rfl⟩, .inr hJx3⟩
  ·have hfin : i = l.length := by omega
   subst hfin
   have hsp : h0.length + (framesP l).length = off := by rw [hoff, List.take_length]
   have hget := fGetStop_calls (h0 ++ framesP l) ht (by simp; omega) (R := fun r os => ∃ e : Int, e ≠ 0 ∧ r = .tup [.val (.slice none 0 0), vi 0, vi e] ∧ os = []) fun e he => ⟨e, he, rfl, rfl⟩
   rw [List.append_assoc, List.length_append, hsp] at hget
   have hcalm := fun m => hget.calm (K := K) (W := wr) (vals := [vB, .int .i64 (off : Int)]) (hK l.length Own K wr hJi) (hglob.mono hKG) (by simp only [RepL]; exact ⟨_, _, rfl, hBK, _, _, rfl, hvi _, rfl⟩) hOlt (A := #[vB, .int .i64 (off : Int)]) rfl m
   clear hget hsp hoff hvi hBK hB
   gi_wp2
   refine ⟨trivial, fun h => by simp [Fence.wide] at h, (hcalm _).mono ?_⟩
   rintro e W1 ⟨v, r, os', G', rfl, ⟨er, her, rfl, rfl⟩, hRep, hKn, hst, hbl⟩
   obtain ⟨vp, rfl, hvp⟩ := rep_tup3 hRep
   have hJ1 := hS l.length Own K wr Own G'.K W1 hJi hst
   rw [← hlenA] at hJ1
   gi_wp2
   refine ⟨fun f h => (nomatch h), ?_⟩
   gi_wp2
   refine bodyPost_ret (results_none rfl _ _ _) rfl ?_
   exact ⟨⟨_, rfl⟩, .inl ⟨Own, G'.K, hJ1⟩⟩
end Go.Abs
end
section
namespace Go.Abs
open Go Go.Proofs Go.RowKit Go.Lib Dig
attribute [local irreducible] ibits byteAt strLt firstIdx
theorem repE_bytes {K : Nat → Nat → Option Value} {ob : Nm → Option GO} {g : Nat} : ∀ (ss : B) (i : Nat), (∀ j c, ss[j]? = some c → K g (i + j) = some (.int .u8 (c.toNat : Int))) → RepE ⟨K, ob⟩ 1 (some ⟨g, 0, none⟩) i (byteEls ss)
 | [], _, _ => trivial
 | s :: ss, i, h => by
  refine ⟨⟨g, 0, rfl, rfl, rfl, ⟨_, by have := h 0 s rfl; simpa using this, rfl⟩, trivial⟩, repE_bytes ss (i + 1) fun j s' hs => ?_⟩
  have := h (j + 1) s' (by simpa using hs)
  rw [show i + 1 + j = i + (j + 1) by omega]
  exact this
structure HeadW (w w' : World) (c : UInt8) (b cap : Nat) : Prop where
 os : w'.os = w.os
 tape : w'.tape = w.tape
 output : w'.output = w.output
 size : w.heap.size ≤ b
 lt : b < w'.heap.size
 old : ∀ k, k < w.heap.size → w'.heap[k]? = w.heap[k]?
 cells : ∀ (j : Nat) (x : UInt8), [84, 80, 72, c][j]? = some x → w'.cell? ⟨b, j, none⟩ = some (.int .u8 (x.toNat : Int))
 cap : 4 ≤ cap
theorem headBuilt (w : World) (c : UInt8) (x : Int) (hx : x = (c.toNat : Int)) (i0 : TypeInfo) (hi : Tryz.prog.info? 5 = some i0) (hz0 : i0.zero = some (.int .u8 0)) (hz1 : i0.size = 1) (hz2 : i0.bytes = 1) :
  ∃ w2 w4 cap, (convert 151 151 (.slice (some ⟨w.heap.size, 0, none⟩) 3 3)).run Tryz.prog (w.alloc (.cells #[.int .u8 84, .int .u8 80, .int .u8 72] 5)) = .ok (.slice (some ⟨w.heap.size, 0, none⟩) 3 3) w2 ∧ w2.heap.size = w.heap.size + 1 ∧
   (∀ ty, (Builtin.append_ #[151, 151] ty #[.slice (some ⟨w.heap.size, 0, none⟩) 3 3, .slice (some ⟨w.heap.size + 1, 0, none⟩) 1 1]).run Tryz.prog (w2.alloc (.cells #[.int .u8 x] 5)) = .ok (.slice (some ⟨w.heap.size + 2, 0, none⟩) 4 cap) w4) ∧ HeadW w w4 c (w.heap.size + 2) cap := by
 subst hx
 have hsh : (w.alloc (.cells #[.int .u8 84, .int .u8 80, .int .u8 72] 5)).shape? w.heap.size = some (5, 3) := by
  unfold World.shape?
  rw [heap_alloc_new]
  rfl
 have hc : (convert 151 151 (.slice (some ⟨w.heap.size, 0, none⟩) 3 3)).run Tryz.prog (w.alloc (.cells #[.int .u8 84, .int .u8 80, .int .u8 72] 5)) = .ok (.slice (some ⟨w.heap.size, 0, none⟩) 3 3) ((w.alloc (.cells #[.int .u8 84, .int .u8 80, .int .u8 72] 5)).freeze ⟨w.heap.size, 3, none⟩ 1) := by
  simp [convert, run_underlying (Tryz.underlying151), run_underlying (Tryz.underlying5), markStringish, hsh]
 generalize hw1 : w.alloc (.cells #[.int .u8 84, .int .u8 80, .int .u8 72] 5) = w1 at hc
 have hs1 : w1.heap.size = w.heap.size + 1 := by rw [← hw1]; simp
 have h1b : w1.heap[w.heap.size]? = some (.cells #[.int .u8 84, .int .u8 80, .int .u8 72] 5 (0, 0)) := by rw [← hw1]; exact heap_alloc_new w _
 have h1o : ∀ k, k < w.heap.size → w1.heap[k]? = w.heap[k]? := fun k hk => by rw [← hw1]; exact heap_alloc_old w _ hk
 have e1 : w1.os = w.os ∧ w1.tape = w.tape ∧ w1.output = w.output := by rw [← hw1]; exact ⟨rfl, rfl, rfl⟩
 generalize hw2 : w1.freeze ⟨w.heap.size, 3, none⟩ 1 = w2 at hc
 have hs2 : w2.heap.size = w.heap.size + 1 := by rw [← hw2, ← hs1]; unfold World.freeze; split <;> simp
 have h2o : ∀ b, b ≠ w.heap.size → w2.heap[b]? = w1.heap[b]? := fun b hb => by
  rw [← hw2]
  unfold World.freeze
  split
  ·rfl
  ·simp [Array.getElem?_modify, Ne.symm hb]
 have h2b : ∃ fz, w2.heap[w.heap.size]? = some (.cells #[.int .u8 84, .int .u8 80, .int .u8 72] 5 fz) := by
  rw [← hw2]
  unfold World.freeze
  split
  ·exact ⟨_, h1b⟩
  ·exact ⟨_, by simp [Array.getElem?_modify, h1b]; rfl⟩
 have e2 : w2.os = w1.os ∧ w2.tape = w1.tape ∧ w2.output = w1.output := by
  rw [← hw2]
  refine ⟨?_, ?_, ?_⟩ <;> (unfold World.freeze; split <;> rfl)
 obtain ⟨fz, h2b⟩ := h2b
 generalize hw3 : w2.alloc (.cells #[.int .u8 (c.toNat : Int)] 5) = w3
 have hs3 : w3.heap.size = w.heap.size + 2 := by rw [← hw3]; simp; omega
 have h3b : w3.heap[w2.heap.size]? = some (.cells #[.int .u8 (c.toNat : Int)] 5 (0, 0)) := by rw [← hw3]; exact heap_alloc_new w2 _
 have h3o : ∀ k, k < w2.heap.size → w3.heap[k]? = w2.heap[k]? := fun k hk => by rw [← hw3]; exact heap_alloc_old w2 _ hk
 have e3 : w3.os = w2.os ∧ w3.tape = w2.tape ∧ w3.output = w2.output := by rw [← hw3]; exact ⟨rfl, rfl, rfl⟩
 have h3a : w3.heap[w.heap.size]? = some (.cells #[.int .u8 84, .int .u8 80, .int .u8 72] 5 fz) := (h3o _ (by omega)).trans h2b
 have hap := fun ty => run_append_grow (P := Tryz.prog) w3 151 ty 5 i0 (.int .u8 0) Tryz.underlying151 hi hz0 ⟨w.heap.size, 0, none⟩ 3 3 [.int .u8 84, .int .u8 80, .int .u8 72] (by rw [hz1]; rfl)
  (fun j v hj => by
   rw [addr_add, Nat.zero_add]
   rw [Lib.cell_of_heap h3a]
   simpa using hj) ⟨w2.heap.size, 0, none⟩ 1 1 [.int .u8 (c.toNat : Int)] (by rw [hz1]; rfl)
  (fun j v hj => by
   rw [addr_add, Nat.zero_add]
   rw [Lib.cell_of_heap h3b]
   simpa using hj) (by omega) (by decide) (by rw [hz2]; decide)
 have hb2 : w.heap.size + 2 = w3.heap.size := by omega
 rw [hs2] at hap
 refine ⟨w2, _, _, hc, hs2, fun ty => by rw [hw3, hb2]; exact hap ty, ?_⟩
 have hge := grownCap_ge w3 (3 + 1) 3 5
 rw [hb2]
 refine ⟨e3.1.trans (e2.1.trans e1.1), e3.2.1.trans (e2.2.1.trans e1.2.1), e3.2.2.trans (e2.2.2.trans e1.2.2), by omega, by simp, fun k hk => ?_, fun j x hj => ?_, hge⟩
 ·rw [heap_alloc_old w3.drew _ (show k < w3.drew.heap.size from by show k < w3.heap.size; omega)]
  show w3.heap[k]? = _
  rw [h3o k (by omega), h2o k (by omega), h1o k hk]
 ·have hn := heap_alloc_new w3.drew (.cells ([Value.int .u8 84, .int .u8 80, .int .u8 72].toArray ++ [Value.int .u8 (c.toNat : Int)].toArray ++ Builtin.zeroCells (Value.int .u8 0).cells (grownCap w3 (3 + 1) 3 5 - (3 + 1))) 5)
  rw [show w3.heap.size = w3.drew.heap.size from rfl, Lib.cell_of_heap hn]
  have hj4 : j < 4 := by
   have := (List.getElem?_eq_some_iff.1 hj).1
   simpa using this
  rw [Array.getElem?_append_left (by simp; omega)]
  rcases j with _ | _ | _ | _ | j
  ·simp at hj; subst hj; rfl
  ·simp at hj; subst hj; rfl
  ·simp at hj; subst hj; rfl
  ·simp at hj; subst hj; rfl
  ·omega
theorem headSeal (G : Gh) (w w4 : World) (v : UInt8) (cap : Nat) (hW : WR G (numbered 0 []) w) (hH : HeadW w w4 v (w.heap.size + 2) cap) :
  Calls Tryz.prog 195 #[.slice (some ⟨w.heap.size + 2, 0, none⟩) 4 cap] w4 fun e w' => ∃ (u : Value) (G' : Gh), e = .returned u ∧ Rep G' (.sl none 1 (byteEls (sealF [84, 80, 72, v]))) u ∧ Inv (entryS G w) ⟨[], numbered 0 []⟩ G' { tmps := #[], defers := [] } w' := by
 have hI := invS hW
 obtain ⟨K', hK'⟩ : ∃ K' : Nat → Nat → Option Value, K' = fun b o => if b = w.heap.size + 2 then ([84, 80, 72, v][o]?).map (fun c : UInt8 => Value.int .u8 (c.toNat : Int)) else G.K b o := ⟨_, rfl⟩
 obtain ⟨hI2, hle⟩ := hI.grow (w' := w4) (K' := K') hH.os hH.tape hH.output (by have := hH.size; have := hH.lt; omega) hH.old (fun b o hb => by rw [hK']; simp only; rw [if_neg (by omega)])
  (fun b o u hb e => by
   rw [hK'] at e
   simp only at e
   split at e
   ·rename_i hb2
    subst hb2
    cases hc : ([84, 80, 72, v] : List UInt8)[o]? with
    | none => rw [hc] at e; cases e
    | some c =>
     rw [hc] at e
     have := hH.cells o c hc
     rw [this]
     simpa using e
   ·have := hI.wr.kltb e
    omega)
 have hRep : Rep ⟨K', fun _ => none⟩ (.sl none 1 (byteEls [84, 80, 72, v])) (.slice (some ⟨w.heap.size + 2, 0, none⟩) 4 cap) := by
  simp only [Rep]
  exact ⟨⟨_, _, rfl, hH.cap, repE_bytes [84, 80, 72, v] 0 fun j c hj => by rw [hK']; simp [hj]⟩, trivial⟩
 have hs := (sealed_calls [84, 80, 72, v] (by simp) (R := fun r os => r = .sl none 1 (byteEls (sealF [84, 80, 72, v])) ∧ os = []) ⟨rfl, rfl⟩).calm (K := K') (W := w4) (vals := [.slice (some ⟨w.heap.size + 2, 0, none⟩) 4 cap]) hI2.wr.know hI2.wr.glob (by simp only [RepL]; exact ⟨_, _, rfl, hRep, rfl⟩) (Own := fun _ => False) (fun b h => h.elim) (A := #[.slice (some ⟨w.heap.size + 2, 0, none⟩) 4 cap]) rfl 1
 refine (callsIn_wide.1 hs).mono ?_
 rintro e W' ⟨u, r, os', G', rfl, ⟨rfl, rfl⟩, hu, hKn, hst, hbl⟩
 obtain ⟨hI3, hle3⟩ := hI2.grow (w' := W') (K' := G'.K) hst.os hst.tape hst.output hst.size (fun b hb => (hbl b hb).1) (fun b o hb => (hbl b hb).2 o) (fun b o u _ e => hKn b o u e)
 exact ⟨u, ⟨G'.K, G.ob⟩, rfl, Rep.nameless (G := G') (fun _ _ _ h => h) _ _ rfl hu, hI3⟩
theorem headCalls (G : Gh) (w : World) (v : Nat) (hv : v = 1 ∨ v = 2 ∨ v = 3) (hW : WR G (numbered 0 []) w) :
  Calls Tryz.prog 146 #[.int .i64 (v : Int)] w fun e w' => ∃ (u : Value) (G' : Gh), e = .returned (.tuple #[u, .int .i64 0]) ∧ Rep G' (.sl none 1 (byteEls (headP v))) u ∧ Inv (entryS G w) ⟨[], numbered 0 []⟩ G' { tmps := #[], defers := [] } w' := by
 have mixed := mixed_ok
 obtain ⟨i0, hi, hz0, hz1, hz2⟩ := info_parts u8_info
 rcases hv with rfl | rfl | rfl
 ·obtain ⟨w2, w4, cap, hcv, hs2, hap, hH⟩ := headBuilt w 1 1 rfl i0 hi hz0 hz1 hz2
  have hseal := headSeal G w w4 1 cap hW hH
  go_enter Tryz.func146, Tryz.ntmps146
  go_wp2_with (first | (go_at_call 195; refine hseal.mono ?_; rintro e W' ⟨u, G', rfl, hu, hI⟩) | (at_builtin; refine Lib.wpList_append_run _ rfl _ _ _ _ rfl _ _ rfl rfl _ _ (hap _) ?_) | go_in)
  go_ret2
  exact ⟨u, G', rfl, hu, hI⟩
 ·obtain ⟨w2, w4, cap, hcv, hs2, hap, hH⟩ := headBuilt w 2 2 rfl i0 hi hz0 hz1 hz2
  have hseal := headSeal G w w4 2 cap hW hH
  go_enter Tryz.func146, Tryz.ntmps146
  go_wp2_with (first | (go_at_call 195; refine hseal.mono ?_; rintro e W' ⟨u, G', rfl, hu, hI⟩) | (at_builtin; refine Lib.wpList_append_run _ rfl _ _ _ _ rfl _ _ rfl rfl _ _ (hap _) ?_) | go_in)
  go_ret2
  exact ⟨u, G', rfl, hu, hI⟩
 ·obtain ⟨w2, w4, cap, hcv, hs2, hap, hH⟩ := headBuilt w 3 3 rfl i0 hi hz0 hz1 hz2
  have hseal := headSeal G w w4 3 cap hW hH
  go_enter Tryz.func146, Tryz.ntmps146
  go_wp2_with (first | (go_at_call 195; refine hseal.mono ?_; rintro e W' ⟨u, G', rfl, hu, hI⟩) | (at_builtin; refine Lib.wpList_append_run _ rfl _ _ _ _ rfl _ _ rfl rfl _ _ (hap _) ?_) | go_in)
  go_ret2
  exact ⟨u, G', rfl, hu, hI⟩
theorem Head_calls (v : Nat) (hv : v = 1 ∨ v = 2 ∨ v = 3) {R} (h : R (.tup [.sl none 1 (byteEls (headP v)), vi 0]) []) : ACalls Tryz.prog 146 [vi (v : Int)] [] R := by
 refine packS fun G w vals hW hA => ?_
 have hA : ∃ a l, vals = a :: l ∧ a = .int .i64 (v : Int) ∧ l = [] := by simpa only [RepL, Rep, vi] using hA
 obtain ⟨_, _, rfl, rfl, rfl⟩ := hA
 refine (headCalls G w v hv hW).mono ?_
 rintro e w' ⟨u, G', rfl, hu, hI⟩
 exact ⟨_, _, [], G', rfl, h, (by simp only [Rep, RepL]; exact ⟨[u, .int .i64 0], rfl, u, _, rfl, (by simpa only [Rep] using hu), _, _, rfl, rfl, rfl⟩), hI, (by intro i o ho; cases ho), by simp [AV.names, namesL, vi]⟩
theorem fmay_calls (v : Int) {R} (h : ∀ p, p = (decide (1 ≤ v) && decide (v ≤ 3)) → R (.val (.bool p)) []) : ACalls Tryz.prog 194 [vi v] [] R := by
 refine acalls_of_xwp (an := an194) tab_ok Tryz.func194 ?_
 conv => whnf
 refine br_intro (fun g => ?_) (fun g => ?_)
 ·have g : 1 ≤ v := by have g := of_decide_eq_true g; omega
  conv => whnf
  exact h _ (by rw [decide_eq_true g, Bool.true_and])
 ·have g : ¬ 1 ≤ v := by have g := of_decide_eq_false g; omega
  conv => whnf
  exact h _ (by rw [decide_eq_false g, Bool.false_and])
end Go.Abs
end
section
namespace Go.Abs
open Go Go.Proofs Dig
attribute [local irreducible] ibits byteAt strLt firstIdx
theorem headP_length (v : Int) : (headP v).length = 8 := rfl
theorem Version_1 (q : B) (hq : q.length < 1000000) {R} (h : R (.tup [vi 1, vi 0]) []) : ACalls Tryz.prog 154 [.sl none 1 (byteEls (headP 1 ++ q))] [] R := by
 have hbl : (byteEls (headP 1 ++ q)).length = 8 + q.length := by rw [bel_length, List.length_append, headP_length]
 refine acalls_of_xwp (an := an154) tab_ok Tryz.func154 ?_
 obtain ⟨ns, n1, n2⟩ := str_of [84, 80, 72]
 conv => whnf
 refine must_intro (decide_eq_true (by rw [hbl]; omega)) ?_
 conv => whnf
 refine ⟨ns, n1, ?_⟩
 rw [n2]
 conv => whnf
 refine whole_calls _ q (by simp [lettersB]; omega) ?_
 conv => whnf
 refine fmay_calls _ fun p hp => ?_
 have hp : p = true := hp
 subst hp
 conv => whnf
 exact h
theorem Version_2 (q : B) (hq : q.length < 1000000) {R} (h : R (.tup [vi 2, vi 0]) []) : ACalls Tryz.prog 154 [.sl none 1 (byteEls (headP 2 ++ q))] [] R := by
 have hbl : (byteEls (headP 2 ++ q)).length = 8 + q.length := by rw [bel_length, List.length_append, headP_length]
 refine acalls_of_xwp (an := an154) tab_ok Tryz.func154 ?_
 obtain ⟨ns, n1, n2⟩ := str_of [84, 80, 72]
 conv => whnf
 refine must_intro (decide_eq_true (by rw [hbl]; omega)) ?_
 conv => whnf
 refine ⟨ns, n1, ?_⟩
 rw [n2]
 conv => whnf
 refine whole_calls _ q (by simp [lettersB]; omega) ?_
 conv => whnf
 refine fmay_calls _ fun p hp => ?_
 have hp : p = true := hp
 subst hp
 conv => whnf
 exact h
theorem Version_3 (q : B) (hq : q.length < 1000000) {R} (h : R (.tup [vi 3, vi 0]) []) : ACalls Tryz.prog 154 [.sl none 1 (byteEls (headP 3 ++ q))] [] R := by
 have hbl : (byteEls (headP 3 ++ q)).length = 8 + q.length := by rw [bel_length, List.length_append, headP_length]
 refine acalls_of_xwp (an := an154) tab_ok Tryz.func154 ?_
 obtain ⟨ns, n1, n2⟩ := str_of [84, 80, 72]
 conv => whnf
 refine must_intro (decide_eq_true (by rw [hbl]; omega)) ?_
 conv => whnf
 refine ⟨ns, n1, ?_⟩
 rw [n2]
 conv => whnf
 refine whole_calls _ q (by simp [lettersB]; omega) ?_
 conv => whnf
 refine fmay_calls _ fun p hp => ?_
 have hp : p = true := hp
 subst hp
 conv => whnf
 exact h
theorem frames_calls (b : B) (n : Nat) {R} (h : R (.fn (.func 231) [] [.cptr [.sl none 1 (byteEls b)] 0, .ptr 0 0]) [.cells 3 [vi (n : Int)]]) : ACalls Tryz.prog 202 [.sl none 1 (byteEls b), vi (n : Int)] [] R := by
 refine acalls_of_xwp (an := an202) tab_ok Tryz.func202 ?_
 conv => whnf
 exact h
theorem bytes_int : (tab.ti 3).bytes = 8 := rfl
theorem rowsB_take {l : List B} {i : Nat} (hi : i < l.length) : rowsB (l.take (i + 1)) = rowsB (l.take i) ++ [[.sl none 1 (byteEls l[i])]] := by
 rw [List.take_succ_eq_append_getElem hi, rowsB_append]
 rfl
theorem ints_take {l : List Nat} {i : Nat} (hi : i < l.length) : ints (l.take (i + 1)) = ints (l.take i) ++ [[vi (l[i] : Int)]] := by
 rw [List.take_succ_eq_append_getElem hi]
 unfold ints
 rw [List.map_append]
 rfl
def rnS : List AV := [.junk, .junk, .junk, .junk, .ptr (nameOf 4) 0, .ptr (nameOf 5) 0, .junk, .junk, .junk, .junk, .junk, .junk, .junk, .junk, .junk, .junk, .junk, .junk, .junk, .junk, .junk, .junk, .junk]
theorem Run_calls (h0 : B) (l : List B) (t : B) (ht : EndAt t) (hok : ∀ p ∈ l, 1 ≤ p.length ∧ p.length ≤ 2048) (hl : h0.length + (framesP l).length + t.length < 1000000) (hll : l.length < 100000) {R} (h : R (.tup [.sl none 1 (rowsB l), .sl none 1 (ints (endsP h0.length l))]) []) :
  ACalls Tryz.prog 155 [.sl none 1 (byteEls (h0 ++ (framesP l ++ t))), vi (h0.length : Int)] [] R := by
 refine ACalls.res ?_
 refine acalls_of_xwp (an := an155) tab_ok Tryz.func155 ?_
 conv => whnf
 refine frames_calls (h0 ++ (framesP l ++ t)) h0.length ?_
 conv => whnf
 refine .inr ?_
 conv => whnf
 have hlA := framesA_length h0.length l
 have hel := endsP_length l h0.length
 refine ⟨framesA h0.length l, frames_iter h0 l t ht hok hl, ?_, ?_⟩
 ·intro x hx
  obtain ⟨q, _, rfl⟩ := List.mem_map.1 hx
  rfl
 refine ⟨fun i s => (i = 0 ∧ s = ⟨rnS, [(nameOf 4, .cells 238 [.val (.slice none 0 0)]), (nameOf 5, .cells 35 [.val (.slice none 0 0)])]⟩) ∨
  (0 < i ∧ i ≤ l.length ∧ s = ⟨rnS, [(nameOf 4, .cells 238 [.sl (some (nameOf 16)) 1 (rowsB (l.take i))]), (nameOf 5, .cells 35 [.sl (some (nameOf 20)) 1 (ints ((endsP h0.length l).take i))]), (nameOf 16, .row 151 1 i), (nameOf 20, .row 3 1 i)]⟩), .inl ⟨rfl, rfl⟩, ?_, ?_⟩
 ·rintro i x s hx hs
  have hi : i < l.length := by
   have := (List.getElem?_eq_some_iff.1 hx).1
   omega
  have hx2 := framesA_at (o := h0.length) hi
  rw [hx] at hx2
  cases hx2
  have hee := endsP_at l h0.length i hi
  have hi2 : i < (endsP h0.length l).length := by omega
  have hei : (endsP h0.length l)[i] = h0.length + (framesP (l.take (i + 1))).length := by
   rw [List.getElem?_eq_getElem hi2] at hee
   exact Option.some.inj hee
  generalize h0.length + (framesP (l.take (i + 1))).length = e at hei hx hee ⊢
  rcases hs with ⟨rfl, rfl⟩ | ⟨h1, h2, rfl⟩
  ·have e1 : rowsB (l.take (0 + 1)) = [[.sl none 1 (byteEls l[0])]] := by rw [rowsB_take hi]; rfl
   have e2 : ints ((endsP h0.length l).take (0 + 1)) = [[vi (e : Int)]] := by rw [ints_take hi2, hei]; rfl
   conv => whnf
   refine ⟨?_, ?_, trivial⟩
   ·conv => whnf
    refine ⟨?_, ?_, trivial⟩
    ·conv => whnf
     refine ⟨by rw [bytes_bytes]; simp, ?_⟩
     conv => whnf
     refine ⟨?_, trivial⟩
     conv => whnf
     refine ⟨?_, trivial⟩
     conv => whnf
     refine ⟨by rw [bytes_int]; simp, ?_⟩
     conv => whnf
     refine ⟨?_, trivial⟩
     conv => whnf
     refine ⟨?_, trivial⟩
     conv => whnf
     refine .inr ⟨by omega, by omega, ?_⟩
     rw [e1, e2]
     rfl
    ·conv => whnf
     refine ⟨?_, trivial⟩
     conv => whnf
     refine ⟨by rw [bytes_bytes]; simp, ?_⟩
     conv => whnf
     refine ⟨?_, trivial⟩
     conv => whnf
     refine ⟨by rw [bytes_int]; simp, ?_⟩
     conv => whnf
     refine ⟨?_, trivial⟩
     conv => whnf
     refine ⟨?_, trivial⟩
     conv => whnf
     refine .inr ⟨by omega, by omega, ?_⟩
     rw [e1, e2]
     rfl
   ·conv => whnf
    refine ⟨?_, trivial⟩
    conv => whnf
    refine ⟨?_, trivial⟩
    conv => whnf
    refine ⟨by rw [bytes_bytes]; simp, ?_⟩
    conv => whnf
    refine ⟨?_, trivial⟩
    conv => whnf
    refine ⟨by rw [bytes_int]; simp, ?_⟩
    conv => whnf
    refine ⟨?_, trivial⟩
    conv => whnf
    refine ⟨?_, trivial⟩
    conv => whnf
    refine .inr ⟨by omega, by omega, ?_⟩
    rw [e1, e2]
    rfl
  ·have e1 := rowsB_take hi
   have e2 := ints_take hi2
   rw [hei] at e2
   have l1 : (rowsB (l.take i)).length = i := by rw [rowsB_length, List.length_take]; omega
   have l2 : (ints ((endsP h0.length l).take i)).length = i := by rw [ints_length, List.length_take]; omega
   conv => whnf
   refine ⟨?_, ?_, trivial⟩
   ·conv => whnf
    refine ⟨?_, ?_, trivial⟩
    ·conv => whnf
     refine ⟨l1.symm, by rw [l1, bytes_bytes]; simp; omega, ?_⟩
     conv => whnf
     refine ⟨?_, trivial⟩
     conv => whnf
     refine ⟨?_, trivial⟩
     conv => whnf
     refine ⟨l2.symm, by rw [l2, bytes_int]; simp; omega, ?_⟩
     conv => whnf
     refine ⟨?_, trivial⟩
     conv => whnf
     refine ⟨?_, trivial⟩
     conv => whnf
     refine .inr ⟨by omega, by omega, ?_⟩
     rw [e1, e2, l1, l2]
     rfl
    ·conv => whnf
     refine ⟨?_, trivial⟩
     conv => whnf
     refine ⟨l1.symm, by rw [l1, bytes_bytes]; simp; omega, ?_⟩
     conv => whnf
     refine ⟨?_, trivial⟩
     conv => whnf
     refine ⟨l2.symm, by rw [l2, bytes_int]; simp; omega, ?_⟩
     conv => whnf
     refine ⟨?_, trivial⟩
     conv => whnf
     refine ⟨?_, trivial⟩
     conv => whnf
     refine .inr ⟨by omega, by omega, ?_⟩
     rw [e1, e2, l1, l2]
     rfl
   ·conv => whnf
    refine ⟨?_, trivial⟩
    conv => whnf
    refine ⟨?_, trivial⟩
    conv => whnf
    refine ⟨l1.symm, by rw [l1, bytes_bytes]; simp; omega, ?_⟩
    conv => whnf
    refine ⟨?_, trivial⟩
    conv => whnf
    refine ⟨l2.symm, by rw [l2, bytes_int]; simp; omega, ?_⟩
    conv => whnf
    refine ⟨?_, trivial⟩
    conv => whnf
    refine ⟨?_, trivial⟩
    conv => whnf
    refine .inr ⟨by omega, by omega, ?_⟩
    rw [e1, e2, l1, l2]
    rfl
 ·rintro s (⟨h1, rfl⟩ | ⟨h1, h2, rfl⟩)
  ·have hl0 : l = [] := List.length_eq_zero_iff.1 (by omega)
   subst hl0
   conv => whnf
   refine ⟨?_, ?_, trivial⟩
   ·conv => whnf
    refine ⟨?_, ?_, trivial⟩
    ·conv => whnf
     refine ⟨?_, trivial⟩
     conv => whnf
     refine ⟨?_, trivial⟩
     conv => whnf
     exact res_le (le_tup (.cons (le_nil 1) (.cons (le_nil 1) .nil))) rfl h
    ·conv => whnf
     refine ⟨?_, trivial⟩
     conv => whnf
     refine ⟨?_, trivial⟩
     conv => whnf
     exact res_le (le_tup (.cons (le_nil 1) (.cons (le_nil 1) .nil))) rfl h
   ·conv => whnf
    refine ⟨?_, trivial⟩
    conv => whnf
    refine ⟨?_, trivial⟩
    conv => whnf
    refine ⟨?_, trivial⟩
    conv => whnf
    exact res_le (le_tup (.cons (le_nil 1) (.cons (le_nil 1) .nil))) rfl h
  ·rw [hlA, List.take_length, ← hel, List.take_length]
   conv => whnf
   refine ⟨?_, ?_, trivial⟩
   ·conv => whnf
    refine ⟨?_, ?_, trivial⟩
    ·conv => whnf
     refine ⟨?_, trivial⟩
     conv => whnf
     refine ⟨?_, trivial⟩
     conv => whnf
     exact res_same h
    ·conv => whnf
     refine ⟨?_, trivial⟩
     conv => whnf
     refine ⟨?_, trivial⟩
     conv => whnf
     exact res_same h
   ·conv => whnf
    refine ⟨?_, trivial⟩
    conv => whnf
    refine ⟨?_, trivial⟩
    conv => whnf
    refine ⟨?_, trivial⟩
    conv => whnf
    exact res_same h
end Go.Abs
end
section
namespace Go.Abs
open Go Go.Proofs Go.RowKit Dig
attribute [local irreducible] ibits byteAt strLt firstIdx
attribute [local go_sem] Oper.semAt_some
theorem tblS_ne {t : List B} (h : t ≠ []) : tblS t = [tblO 1 2 t, tblR t, tblM t] := by
 cases t with
 | nil => exact absurd rfl h
 | cons a l => rfl
theorem sGet_any (v : Int) (hv : v = 1 ∨ v = 2 ∨ v = 3) (r : Rc) (hm : mayP v r = true) (t : List B) (ht1 : v = 1 → t = []) (htn : t.Nodup) (htl : t.length < 80000) (A Q : List B) (hA : A.length < 100000) (hQ : Q.length < 100000) {R} (h : R (.tup [.agg r.enc, vi ((A.length + (payP v t r).length : Nat) : Int), vi 0]) (tblS (addT v t r))) :
  ACalls Tryz.prog 204 [vi v, .ptr 0 0, .sl none 1 (rowsB (A ++ payP v t r ++ Q)), vi (A.length : Int)] (tblS t) R := by
 rcases hv with rfl | rfl | rfl
 ·have := ht1 rfl
  subst this
  rw [addT_one] at h
  exact sGet_1F r hm A Q hA hQ h
 ·rw [tblS_ne (addT_ne (by decide) t r)] at h
  by_cases ht : t = []
  ·subst ht
   exact sGet_2F r hm A Q hA hQ h
  ·rw [tblS_ne ht]
   exact sGet_2O r hm t ht htn htl A Q hA hQ h
 ·rw [tblS_ne (addT_ne (by decide) t r)] at h
  by_cases ht : t = []
  ·subst ht
   exact sGet_3F r hm A Q hA hQ h
  ·rw [tblS_ne ht]
   exact sGet_3O r hm t ht htn htl A Q hA hQ h
theorem sGetEnd_any (v : Int) (hv : v = 1 ∨ v = 2 ∨ v = 3) (t : List B) (ht1 : v = 1 → t = []) (htn : t.Nodup) (htl : t.length < 80000) (A ms : List B) (hms : v = 1 → ms = []) (hA : A.length < 100000) (hml : ms.length < 5000) {R} (h : R (.tup [zRec, vi 0, vi 6]) (tblS t)) :
  ACalls Tryz.prog 204 [vi v, .ptr 0 0, .sl none 1 (rowsB (A ++ ms.map defP)), vi (A.length : Int)] (tblS t) R := by
 rcases hv with rfl | rfl | rfl
 ·have := ht1 rfl
  subst this
  have := hms rfl
  subst this
  rw [List.map_nil, List.append_nil]
  exact sGetEnd_1F A hA h
 ·by_cases ht : t = []
  ·subst ht
   exact sGetEnd_2F A ms hA hml h
  ·rw [tblS_ne ht] at h ⊢
   exact sGetEnd_2O t ht htn htl A ms hA hml h
 ·by_cases ht : t = []
  ·subst ht
   exact sGetEnd_3F A ms hA hml h
  ·rw [tblS_ne ht] at h ⊢
   exact sGetEnd_3O t ht htn htl A ms hA hml h
def recsA (v : Int) : List B → Nat → List Rc → List (List AV)
 | _, _, [] => []
 | t, o, r :: l => [.agg r.enc, vi ((o + (payP v t r).length : Nat) : Int)] :: recsA v (addT v t r) (o + (payP v t r).length) l
theorem recsA_length (v : Int) : ∀ (l : List Rc) (t : List B) (o : Nat), (recsA v t o l).length = l.length := by
 intro l
 induction l with
 | nil => intro t o; rfl
 | cons r l ih => intro t o; simp [recsA, ih]
theorem recsA_at (v : Int) : ∀ (l : List Rc) (t : List B) (o i : Nat) (h : i < l.length), (recsA v t o l)[i]? = some [.agg (l[i]).enc, vi ((o + (paysP v t (l.take (i + 1))).length : Nat) : Int)] := by
 intro l
 induction l with
 | nil => intro t o i h; simp at h
 | cons r l ih =>
  intro t o i h
  cases i with
  | zero => simp [recsA, paysP]
  | succ i =>
   simp only [recsA, List.getElem?_cons_succ]
   rw [ih _ _ i (by simpa using h)]
   simp [paysP, Nat.add_assoc]
def plP (v : Int) (l : List Rc) (i : Nat) : Nat := (paysP v [] (l.take i)).length
def tbP (v : Int) (l : List Rc) (i : Nat) : List B := tblL v [] (l.take i)
theorem tbP_succ {v : Int} {l : List Rc} {i : Nat} (h : i < l.length) : tbP v l (i + 1) = addT v (tbP v l i) l[i] := by
 unfold tbP tblL
 rw [List.take_succ_eq_append_getElem h, List.foldl_append]
 rfl
theorem plP_succ {v : Int} {l : List Rc} {i : Nat} (h : i < l.length) : plP v l (i + 1) = plP v l i + (payP v (tbP v l i) l[i]).length := by
 unfold plP tbP
 rw [List.take_succ_eq_append_getElem h, paysP_append, List.length_append]
 simp [paysP]
theorem paysP_split {v : Int} {l : List Rc} {i : Nat} (h : i < l.length) : paysP v [] l = paysP v [] (l.take i) ++ payP v (tbP v l i) l[i] ++ paysP v (tbP v l (i + 1)) (l.drop (i + 1)) := by
 have e : l.take i ++ (l[i] :: l.drop (i + 1)) = l := by rw [← List.drop_eq_getElem_cons h, List.take_append_drop]
 have e2 : paysP v [] (l.take i ++ (l[i] :: l.drop (i + 1))) = paysP v [] (l.take i) ++ payP v (tbP v l i) l[i] ++ paysP v (tbP v l (i + 1)) (l.drop (i + 1)) := by
  rw [paysP_append, paysP, tbP_succ h, List.append_assoc]
  rfl
 rw [e] at e2
 exact e2
theorem payP_len {v : Int} {t : List B} {r : Rc} (h : r.deps.length ≤ 16) : 1 ≤ (payP v t r).length ∧ (payP v t r).length ≤ 19 := by
 unfold payP
 have h1 : (defsP v t r).length ≤ 18 := by
  unfold defsP
  split
  ·simp
  ·have := news_len (namesR r) t
   have := namesR_len r
   rw [List.length_map]; omega
 rw [List.length_append]
 simp
 omega
theorem paysP_len {v : Int} : ∀ {l : List Rc} {t : List B}, (∀ r ∈ l, r.deps.length ≤ 16) → l.length ≤ (paysP v t l).length ∧ (paysP v t l).length ≤ 19 * l.length := by
 intro l
 induction l with
 | nil => intro t h; simp [paysP]
 | cons r l ih =>
  intro t h
  have h1 := payP_len (v := v) (t := t) (h r List.mem_cons_self)
  have h2 := ih (t := addT v t r) fun x hx => h x (List.mem_cons_of_mem _ hx)
  rw [paysP, List.length_append, List.length_cons]
  omega
theorem WR.move {G : Gh} {objs : List (Nm × AObj)} {w : World} (h : WR G objs w) {K' : Nat → Nat → Option Value} {w' : World} (hle : ∀ b o v, G.K b o = some v → K' b o = some v)
  (hw : ∀ b, (∃ n, G.at n b) → w'.heap[b]? = w.heap[b]? ∧ ∀ o, K' b o = G.K b o) (hk : ∀ b o v, K' b o = some v → w'.cell? ⟨b, o, none⟩ = some v) : WR ⟨K', G.ob⟩ objs w' :=
 ⟨hk, fun n o ho => (h.obj n o ho).keep ⟨hle, fun _ _ e => e, fun n u t e => ⟨u, t, e, .inr ⟨rfl, rfl⟩⟩⟩ rfl fun b hb => hw b ⟨n, hb⟩, h.dom, fun n m b h1 h2 => h.apart n m b h1 h2, h.glob.mono hle⟩
theorem ACalls.ownCall {P : Program} {f : FuncId} {args : List AV} {os : List AObj} {R : AV → List AObj → Prop} (h : ACalls P f args os R) {G : Gh} {W : World} {vals : List Value} (hW : WR G (numbered 0 os) W) (hv : RepL G args vals) {A : Array Value} (hA : A = vals.toArray) (m : Nat) :
  CallsIn Fence.wide m P f A W fun e W' => ∃ (v : Value) (r : AV) (os' : List AObj) (G' : Gh), e = .returned v ∧ R r os' ∧ Rep G' r v ∧ WR G' (numbered 0 os') W' ∧ G.le G' ∧ Steps (fun b => ∃ n, G.at n b) G.K W (fun b => ∃ n, G'.at n b) G'.K W' := by
 subst hA
 refine (callsIn_wide.2 (h.run G W vals hW hv)).mono ?_
 rintro e W' ⟨v, r, os', G', rfl, hR, hRep, hWR, hle, hext, hnb, _, _⟩
 refine ⟨v, r, os', G', rfl, hR, hRep, hWR, hle, ⟨hext.os, hext.tape, hext.output, hext.size, hext.block, ?_, hle.K, hext.knew, hWR.know, ?_⟩⟩
 ·rintro b ⟨n, hn⟩
  exact hnb n b hn
 ·rintro b ⟨n, hn⟩
  obtain ⟨g, hg⟩ : ∃ g, G'.ob n = some g := by rcases hn with hn | ⟨u, t, hn, _⟩ <;> exact ⟨_, hn⟩
  obtain ⟨o, ho⟩ := hWR.dom n g hg
  exact (hWR.obj n o ho).lt hn
theorem rep_rec {G : Gh} {r : Rc} {v : Value} (h : Rep G (.agg r.enc) v) : ∃ d, v = .agg #[.int .i64 r.kind, .string (ofB r.target), .int .u64 (r.rule.toNat : Int), d, .int .u64 (r.out.toNat : Int), .int .u64 (r.wen.toNat : Int), .string (ofB r.tag)] ∧ Rep G (.sl none 3 (dpsA r.deps)) d := by
 have hx : ∃ vs : List Value, v = .agg vs.toArray ∧ RepL G r.enc vs := h
 clear h
 obtain ⟨vs, rfl, hy⟩ := hx
 obtain ⟨a1, _, rfl, h1, a2, _, rfl, h2, a3, _, rfl, h3, a4, _, rfl, h4, a5, _, rfl, h5, a6, _, rfl, h6, a7, _, rfl, h7, rfl⟩ := hy
 refine ⟨a4, ?_, h4⟩
 have h1 : a1 = .int .i64 r.kind := h1
 have h2 : a2 = .string (ofB r.target) := h2
 have h3 : a3 = .int .u64 (r.rule.toNat : Int) := h3
 have h5 : a5 = .int .u64 (r.out.toNat : Int) := h5
 have h6 : a6 = .int .u64 (r.wen.toNat : Int) := h6
 have h7 : a7 = .string (ofB r.tag) := h7
 subst h1 h2 h3 h5 h6 h7
 rfl
attribute [local go_sem] Oper.semAt_some
theorem objs_lt {objs : List AObj} {G : Gh} {W : World} (h : WR G (numbered 0 objs) W) {b : Nat} (hb : ∃ n, G.at n b) : b < W.heap.size := by
 obtain ⟨n, hn⟩ := hb
 obtain ⟨g, hg⟩ : ∃ g, G.ob n = some g := by rcases hn with hn | ⟨u, t, hn, _⟩ <;> exact ⟨_, hn⟩
 obtain ⟨o, ho⟩ := h.dom n g hg
 exact (h.obj n o ho).lt hn
set_option maxHeartbeats 4000000 in
theorem records_iter (v : Int) (hv : v = 1 ∨ v = 2 ∨ v = 3) (l : List Rc) (hm : ∀ r ∈ l, mayP v r = true) (hl : l.length ≤ 1000) (ms : List B) (hms : v = 1 → ms = []) (hml : ms.length < 5000) :
  SIter Tryz.prog 203 [.cptr [vi v] 0, .cptr [.sl none 1 (rowsB (paysP v [] l ++ ms.map defP))] 0] [] (recsA v [] 0 l) := by
 refine ⟨fun args w => run_callFunc (by kernel_rfl), fun G w lb hW hr lp n' J Jx hY hS hK hJ0 => ?_⟩
 have hd16 : ∀ r ∈ l, r.deps.length ≤ 16 := fun r hr => (may_all (hm r hr)).deps
 have hpl := paysP_len (v := v) (l := l) (t := []) hd16
 have hlenA := recsA_length v l [] 0
 generalize hPs : paysP v [] l ++ ms.map defP = Ps at hr
 simp only [RepL, Rep, RepC] at hr
 obtain ⟨_, _, rfl, ⟨bv, ov, rfl, ⟨⟨vV, hvV, hV⟩, _⟩, _⟩, _, _, rfl, ⟨bp, op, rfl, ⟨⟨vP, hvP, hP⟩, _⟩, _⟩, rfl⟩ := hr
 have hV : vV = .int .i64 v := hV
 subst hV
 have hGob : ∀ n g, G.ob n ≠ some g := fun n g e => by
  obtain ⟨o, ho⟩ := hW.dom n g e
  cases ho
 have hglob := hW.glob
 -- intern.New
 have hnew := (New_nil (R := fun r os => r = .ptr 0 0 ∧ os = [tblF]) ⟨rfl, rfl⟩).ownCall (G := G) (W := w) (vals := [.slice none 0 0]) hW (by simp only [RepL, Rep]; exact ⟨_, _, rfl, rfl, rfl⟩) (A := #[.slice none 0 0]) rfl
 rw [show FW none = Fence.wide from rfl] at hY ⊢
 refine callsIn_of_wp Tryz.func203 rfl trivial ?_ rfl
 simp only [Tryz.ntmps203, List.size_toArray, List.length_cons, List.length_nil, Nat.reduceAdd, Nat.reduceSub, Array.replicate_succ, Array.replicate_zero, List.push_toArray, List.append_toArray, List.nil_append, List.cons_append, Nat.add_zero]
 gi_wp2
 refine ⟨trivial, fun h => by simp [Fence.wide] at h, (hnew _).mono ?_⟩
 rintro e W0 ⟨v0, r0, os0, G0, rfl, ⟨rfl, rfl⟩, hRep0, hWR0, hle0, hst0⟩
 obtain ⟨bt, hbt, rfl⟩ : ∃ b, G0.ob 0 = some (.blk b) ∧ v0 = .pointer (some ⟨b, 0, none⟩) := hRep0
 have hJ1 := hS 0 _ _ _ _ _ _ hJ0 hst0
 gi_wp2
 gi_loopw [5] (fun x wr => ∃ (i : Nat) (Gi : Gh), i ≤ l.length ∧ x = .int .i64 ((plP v l i : Nat) : Int) ∧ WR Gi (numbered 0 (tblS (tbP v l i))) wr ∧ Gi.ob 0 = some (.blk bt) ∧ (∀ b o u, G.K b o = some u → Gi.K b o = some u) ∧ J i (fun b => ∃ n, Gi.at n b) Gi.K wr)
  (fun x wr => match x with | .int _ x => (2000000 - x).toNat | _ => 0)
 case atStart => exact ⟨0, G0, by omega, rfl, hWR0, hbt, hle0.K, hJ1⟩
 case round =>
  obtain ⟨i, Gi, hi, rfl, hWi, hbi, hGK, hJi⟩ := hrel
  have hcV := hWi.know _ _ _ (hGK _ _ _ hvV)
  have hcP := hWi.know _ _ _ (hGK _ _ _ hvP)
  have hPi : Rep Gi (.sl none 1 (rowsB Ps)) vP := by
   have h1 : Rep G (.sl none 1 (rowsB Ps)) vP := by simp only [Rep]; exact hP
   exact Rep.nameless (G := G) (G' := Gi) hGK _ _ rfl h1
  have hvi : ∀ x : Int, Rep Gi (vi x) (.int .i64 x) := fun x => by
   show Rep _ (.val (.int .i64 x)) _
   simp only [Rep]
  have hargs : RepL Gi [vi v, .ptr 0 0, .sl none 1 (rowsB Ps), vi ((plP v l i : Nat) : Int)] [.int .i64 v, .pointer (some ⟨bt, 0, none⟩), vP, .int .i64 ((plP v l i : Nat) : Int)] := by
   simp only [RepL]
   exact ⟨_, _, rfl, hvi _, _, _, rfl, (by simp only [Rep]; exact ⟨bt, hbi, rfl⟩), _, _, rfl, hPi, _, _, rfl, hvi _, rfl⟩
  have hmt : ∀ r ∈ l.take i, mayP v r = true := fun r hr => hm r (List.mem_of_mem_take hr)
  have htl := tblL_len (v := v) (l := l.take i) (t := []) fun r hr => may_all (hmt r hr)
  have hnd : (tbP v l i).Nodup := tblL_nodup v (l.take i) List.nodup_nil
  have hT1 : v = 1 → tbP v l i = [] := fun e => by subst e; exact tblL_one _ _
  have htl : (tbP v l i).length ≤ 18000 := by
   unfold tbP
   rw [List.length_take] at htl
   simp at htl
   omega
  have hpt := paysP_len (v := v) (l := l.take i) (t := []) fun r hr => hd16 r (List.mem_of_mem_take hr)
  have hpt : plP v l i ≤ 19000 := by
   unfold plP
   rw [List.length_take] at hpt
   omega
  by_cases hlt : i < l.length
  ·have hmi := hm _ (List.getElem_mem hlt)
   have hsp := paysP_split (v := v) hlt
   have hPs2 : Ps = paysP v [] (l.take i) ++ payP v (tbP v l i) l[i] ++ (paysP v (tbP v l (i + 1)) (l.drop (i + 1)) ++ ms.map defP) := by rw [← hPs, hsp, List.append_assoc]
   have hdl := paysP_len (v := v) (l := l.drop (i + 1)) (t := tbP v l (i + 1)) fun r hr => hd16 r (List.mem_of_mem_drop hr)
   have hget := sGet_any v hv l[i] hmi (tbP v l i) hT1 hnd (by omega) (paysP v [] (l.take i)) (paysP v (tbP v l (i + 1)) (l.drop (i + 1)) ++ ms.map defP) (by show plP v l i < _; omega) (by rw [List.length_append, List.length_map]; simp at hdl ⊢; omega)
    (R := fun r os => r = .tup [.agg l[i].enc, vi ((plP v l (i + 1) : Nat) : Int), vi 0] ∧ os = tblS (tbP v l (i + 1))) ⟨by rw [plP_succ hlt]; rfl, by rw [tbP_succ hlt]⟩
   rw [← hPs2] at hget
   have hcall := hget.ownCall hWi hargs (A := #[.int .i64 v, .pointer (some ⟨bt, 0, none⟩), vP, .int .i64 ((plP v l i : Nat) : Int)]) rfl
   have hxs := recsA_at v l [] 0 i hlt
   rw [Nat.zero_add] at hxs
   have hxs : (recsA v [] 0 l)[i]? = some [.agg (l[i]).enc, vi ((plP v l (i + 1) : Nat) : Int)] := hxs
   have hinc : plP v l i < plP v l (i + 1) ∧ plP v l (i + 1) < 2000000 := by
    have h1 := payP_len (v := v) (t := tbP v l i) (r := l[i]) (hd16 _ (List.getElem_mem hlt))
    have h2 := plP_succ (v := v) hlt
    omega
   clear hget hsp hPs2 hdl hmt htl hpt hT1 hnd hargs hPi hvi hmi
   gi_wp2
   refine ⟨trivial, fun h => by simp [Fence.wide] at h, (hcall _).mono ?_⟩
   rintro e W1 ⟨v1, r1, os1, G1, rfl, ⟨rfl, rfl⟩, hRep1, hWR1, hle1, hst1⟩
   obtain ⟨u1, rfl, hu1⟩ := rep_tup3 hRep1
   obtain ⟨d1, rfl, hd1⟩ := rep_rec hu1
   obtain ⟨A1, c1, rfl⟩ : ∃ A1 c1, d1 = .slice A1 (dpsA l[i].deps).length c1 := by
    simp only [Rep] at hd1
    obtain ⟨⟨A1, c1, e, _⟩, _⟩ := hd1
    exact ⟨A1, c1, e⟩
   have hJ2 := hS i _ _ _ _ _ _ hJi hst1
   clear hcall
   gi_wp2
   have hstep2 : ∀ o, Steps (fun b => ∃ n, G1.at n b) G1.K W1 (fun b => ∃ n, G1.at n b) G1.K (W1.alloc o) := fun o =>
    ⟨rfl, rfl, rfl, by simp, fun b hb _ => heap_alloc_old W1 o hb, fun b h => .inl h, fun _ _ _ h => h, fun _ _ _ _ => rfl, fun b o2 v2 e2 => by
     have hk := hWR1.know _ _ _ e2
     rw [cell_of_heap (heap_alloc_old W1 o (cell_lt hk))]
     exact hk, fun b h => by have := objs_lt hWR1 h; simp; omega⟩
   have hmove2 : ∀ o, WR G1 (numbered 0 (tblS (tbP v l (i + 1)))) (W1.alloc o) := fun o =>
    hWR1.move (K' := G1.K) (fun _ _ _ h => h) (fun b hb => ⟨heap_alloc_old W1 o (objs_lt hWR1 hb), fun _ => rfl⟩) (hstep2 o).know
   have hJ3 := fun o => hS i _ _ _ _ _ _ hJ2 (hstep2 o)
   have hRec : RepL ⟨G1.K, fun _ => none⟩ [.agg (l[i]).enc, vi ((plP v l (i + 1) : Nat) : Int)] [.agg #[.int .i64 l[i].kind, .string (ofB l[i].target), .int .u64 (l[i].rule.toNat : Int), .slice A1 (dpsA l[i].deps).length c1, .int .u64 (l[i].out.toNat : Int), .int .u64 (l[i].wen.toNat : Int), .string (ofB l[i].tag)], .int .i64 ((plP v l (i + 1) : Nat) : Int)] := by
    simp only [RepL]
    exact ⟨_, _, rfl, Rep.nameless (G := G1) (G' := ⟨G1.K, fun _ => none⟩) (fun _ _ _ h => h) _ _ rfl hu1, _, _, rfl, (by show Rep _ (.val (.int .i64 ((plP v l (i + 1) : Nat) : Int))) _; simp only [Rep]), rfl⟩
   generalize hW2 : W1.alloc _ = W2
   have hWR2 := hW2 ▸ hmove2 _
   have hJ4 := hW2 ▸ hJ3 _
   obtain ⟨fn, tmps, assign, body, hy, hR⟩ := hY (n' - 1) i _ #[.agg #[.int .i64 l[i].kind, .string (ofB l[i].target), .int .u64 (l[i].rule.toNat : Int), .slice A1 (dpsA l[i].deps).length c1, .int .u64 (l[i].out.toNat : Int), .int .u64 (l[i].wen.toNat : Int), .string (ofB l[i].tag)], .int .i64 ((plP v l (i + 1) : Nat) : Int)] _ G1.K W2 hxs hRec hJ4
   clear hY hJ3 hmove2 hstep2
   rw [hy]
   gi_wp2
   refine ⟨fun h => by simp [Fence.wide] at h, hR.mono ?_⟩
   rintro e W3 (⟨rfl, K', hJ5, hKK, hO3, hos3, htape3, hout3, hsz3⟩ | ⟨rfl, hJx3⟩)
   ·clear hR hy
    have hWR3 : WR ⟨K', G1.ob⟩ (numbered 0 (tblS (tbP v l (i + 1)))) W3 := hWR2.move hKK (fun b hb => hO3 b hb) (hK (i + 1) _ K' W3 hJ5)
    gi_wp2
    refine ⟨⟨i + 1, ⟨K', G1.ob⟩, hlt, rfl, hWR3, hle1.blk _ _ hbi, fun b o u h => hKK _ _ _ (hle1.K _ _ _ (hGK _ _ _ h)), hJ5⟩, ?_⟩
    show (2000000 - ((plP v l (i + 1) : Nat) : Int)).toNat < (2000000 - ((plP v l i : Nat) : Int)).toNat
    omega
   ·clear hR hy
    gi_wp2
    refine bodyPost_ret (results_none rfl _ _ _) rfl ?_
    exact ⟨⟨_, rfl⟩, .inr hJx3⟩
  ·have hfin : i = l.length := by omega
   subst hfin
   have hPs2 : Ps = paysP v [] (l.take l.length) ++ ms.map defP := by rw [← hPs, List.take_length]
   have hget := sGetEnd_any v hv (tbP v l l.length) hT1 hnd (by omega) (paysP v [] (l.take l.length)) ms hms (by show plP v l l.length < _; omega) hml (R := fun r os => r = .tup [zRec, vi 0, vi 6] ∧ os = tblS (tbP v l l.length)) ⟨rfl, rfl⟩
   rw [← hPs2] at hget
   have hcall := hget.ownCall hWi hargs (A := #[.int .i64 v, .pointer (some ⟨bt, 0, none⟩), vP, .int .i64 ((plP v l l.length : Nat) : Int)]) rfl
   clear hget hPs2 hmt htl hpt hT1 hnd hargs hPi hvi
   gi_wp2
   refine ⟨trivial, fun h => by simp [Fence.wide] at h, (hcall _).mono ?_⟩
   rintro e W1 ⟨v1, r1, os1, G1, rfl, ⟨rfl, rfl⟩, hRep1, hWR1, hle1, hst1⟩
   obtain ⟨u1, rfl, hu1⟩ := rep_tup3 hRep1
   have hR6 : Rep G1 (.agg (Rc.mk 0 [] 0 [] 0 0 []).enc) u1 := le_rec3 0 [] 0 0 0 [] G1 u1 hu1
   obtain ⟨d1, rfl, hd1⟩ := rep_rec hR6
   obtain ⟨A1, c1, rfl⟩ : ∃ A1 c1, d1 = .slice A1 0 c1 := by
    simp only [Rep] at hd1
    obtain ⟨⟨A1, c1, e, _⟩, _⟩ := hd1
    exact ⟨A1, c1, e⟩
   have hJ2 := hS l.length _ _ _ _ _ _ hJi hst1
   have hstep2 : ∀ o, Steps (fun b => ∃ n, G1.at n b) G1.K W1 (fun b => ∃ n, G1.at n b) G1.K (W1.alloc o) := fun o =>
    ⟨rfl, rfl, rfl, by simp, fun b hb _ => heap_alloc_old W1 o hb, fun b h => .inl h, fun _ _ _ h => h, fun _ _ _ _ => rfl, fun b o2 v2 e2 => by
     have hk := hWR1.know _ _ _ e2
     rw [cell_of_heap (heap_alloc_old W1 o (cell_lt hk))]
     exact hk, fun b h => by have := objs_lt hWR1 h; simp; omega⟩
   have hJ3 := fun o => hS l.length _ _ _ _ _ _ hJ2 (hstep2 o)
   rw [← hlenA] at hJ3
   clear hcall hstep2
   gi_wp2
   refine ⟨fun f h => (nomatch h), ?_⟩
   gi_wp2
   refine bodyPost_ret (results_none rfl _ _ _) rfl ?_
   exact ⟨⟨_, rfl⟩, .inl ⟨_, _, hJ3 _⟩⟩
end Go.Abs
end
section
namespace Go.Abs
open Go Go.Proofs Dig
attribute [local irreducible] ibits byteAt strLt firstIdx
theorem Head_1 {R} (h : R (.tup [.sl none 1 (byteEls (headP 1)), vi 0]) []) : ACalls Tryz.prog 146 [vi 1] [] R := Head_calls 1 (by decide) h
theorem Head_2 {R} (h : R (.tup [.sl none 1 (byteEls (headP 2)), vi 0]) []) : ACalls Tryz.prog 146 [vi 2] [] R := Head_calls 2 (by decide) h
theorem Head_3 {R} (h : R (.tup [.sl none 1 (byteEls (headP 3)), vi 0]) []) : ACalls Tryz.prog 146 [vi 3] [] R := Head_calls 3 (by decide) h
theorem Head_v {v : Int} (hv : v = 2 ∨ v = 3) {R} (h : R (.tup [.sl none 1 (byteEls (headP v)), vi 0]) []) : ACalls Tryz.prog 146 [vi v] [] R := by
 rcases hv with rfl | rfl
 ·exact Head_2 h
 ·exact Head_3 h
theorem framesP_part (l : List B) (k : Nat) : (framesP (l.take k)).length ≤ (framesP l).length := by
 have h : framesP l = framesP (l.take k) ++ framesP (l.drop k) := by rw [← framesP_append, List.take_append_drop]
 rw [h, List.length_append]
 omega
theorem put_next {v : Int} {l : List Rc} {i : Nat} (hi : i < l.length) : headP v ++ framesP (paysP v [] (l.take i)) ++ framesP (payP v (tbP v l i) l[i]) = headP v ++ framesP (paysP v [] (l.take (i + 1))) := by
 rw [List.take_succ_eq_append_getElem hi, paysP_append, framesP_append, List.append_assoc]
 simp [paysP]
 rfl
theorem may_take {v : Int} {l : List Rc} {i : Nat} (hi : i < l.length) (h : ∀ r ∈ l.take i, mayP v r = true) (h1 : mayP v l[i] = true) : ∀ r ∈ l.take (i + 1), mayP v r = true := by
 rw [List.take_succ_eq_append_getElem hi]
 intro r hr
 rcases List.mem_append.1 hr with hr | hr
 ·exact h r hr
 ·rw [List.mem_singleton.1 hr]; exact h1
theorem put_len {v : Int} {l : List Rc} {i : Nat} (hl : l.length ≤ 1000) (h : ∀ r ∈ l.take i, mayP v r = true) : (headP v ++ framesP (paysP v [] (l.take i))).length ≤ 3000008 := by
 have h1 : (l.take i).length ≤ 1000 := by rw [List.length_take]; omega
 have h2 := paysP_frames (v := v) (l := l.take i) (t := []) (fun r hr => may_all (h r hr)) (by simp; omega)
 rw [List.length_append, headP_length]
 omega
theorem tbP_len {v : Int} {l : List Rc} {i : Nat} (hl : l.length ≤ 1000) (h : ∀ r ∈ l.take i, mayP v r = true) : (tbP v l i).length ≤ 18000 := by
 have h1 : (l.take i).length ≤ 1000 := by rw [List.length_take]; omega
 have h2 := tblL_len (v := v) (l := l.take i) (t := []) fun r hr => may_all (h r hr)
 unfold tbP
 simp at h2
 omega
theorem cPut_1 (l : List Rc) (hl : l.length ≤ 1000) (hd : ∀ r ∈ l, r.deps.length < 100000) {R} (hy : (∀ r ∈ l, mayP 1 r = true) → R (.tup [.sl none 1 (byteEls (fileP 1 l)), vi 0]) []) (hn : (¬ ∀ r ∈ l, mayP 1 r = true) → R (.tup [.val (.slice none 0 0), vi 1]) []) :
  ACalls Tryz.prog 68 [vi 1, .sl none 7 (recs l)] [] R := by
 refine acalls_of_xwp (an := an68) tab_ok Tryz.func68 ?_
 have hsl := recs_length l
 conv => whnf
 refine Head_1 ?_
 conv => whnf
 refine New_nil ?_
 conv => whnf
 refine LoopP.ind2 (fun (i : Nat) (b : B) => [(6, .sl none 1 (byteEls b)), (26, vi i)]) (fun i b => [(freshN 23 0, tblF)]) (fun i _ => l.length - i) (fun i b => i ≤ l.length ∧ (∀ r ∈ l.take i, mayP 1 r = true) ∧ b = headP 1 ++ framesP (paysP 1 [] (l.take i))) 0 (headP 1) rfl ⟨by omega, by simp, by simp [paysP, framesP]⟩ ?_
 rintro i b ⟨h0, hm, hb0⟩ IH
 have hbl : b.length ≤ 3000008 := by rw [hb0]; exact put_len hl hm
 conv => whnf
 refine br_intro (fun hc => ?_) (fun hc => ?_)
 ·have hi := lt_of_decE hsl hc
  have hdi := hd _ (List.getElem_mem hi)
  obtain ⟨TT, hTT⟩ : ∃ TT, tbP 1 l i = TT := ⟨_, rfl⟩
  have hT0 : TT = [] := by rw [← hTT]; exact tblL_one _ _
  have hTl : TT.length ≤ 18000 := by rw [hT0]; simp
  (conv => whnf); (repeat ((with_reducible refine must_intro ?_ ?_); exact decide_eq_true (by omega); (conv => whnf)))
  refine idxK_map_intro (show (i : Int).toNat < l.length by simpa using hi) ?_
  rw [show l[(i : Int).toNat]'(by simpa using hi) = l[i] from by congr 1]
  conv => whnf
  by_cases hmi : mayP 1 l[i] = true
  ·have hmt := may_take hi hm hmi
   refine sPut_1 l[i] hmi ?_
   rw [← hT0]
   have hpl := payP_lens (t := TT) (may_all hmi) (by omega)
   have hpf := payP_frames (t := TT) (may_all hmi) (by omega)
   have hpc := (payP_len (v := 1) (t := TT) (may_all hmi).deps).2
   have hpn := put_next (v := 1) hi
   rw [hTT] at hpn
   generalize hps : payP 1 TT l[i] = ps at hpl hpf hpn hpc
   have hrl := rowsB_length ps
   conv => whnf
   refine LoopP.ind2 (fun (k : Nat) (c : B) => [(6, .sl none 1 (byteEls c)), (42, vi k)]) (fun k c => [(freshN 23 0, tblF)]) (fun k _ => ps.length - k) (fun k c => k ≤ ps.length ∧ c = b ++ framesP (ps.take k)) 0 b rfl ⟨by omega, by simp [framesP]⟩ ?_
   rintro k c ⟨hk0, hc0⟩ IH2
   have hcl : c.length ≤ 3003008 := by have := framesP_part ps k; rw [hc0, List.length_append]; omega
   conv => whnf
   refine br_intro (fun hk => ?_) (fun hk => ?_)
   ·have hk := lt_of_decE hrl hk
    have hp := hpl _ (List.getElem_mem hk)
    have hS : c ++ frameP ps[k] = b ++ framesP (ps.take (k + 1)) := by
     rw [hc0, List.take_succ_eq_append_getElem hk, framesP_snoc, List.append_assoc]
    have IH2 := IH2 (k + 1) _ ⟨hk, hS⟩ (by omega)
    (conv => whnf); (repeat ((with_reducible refine must_intro ?_ ?_); exact decide_eq_true (by omega); (conv => whnf)))
    refine idxK_map_intro (show (k : Int).toNat < ps.length by simpa using hk) ?_
    rw [show ps[(k : Int).toNat]'(by simpa using hk) = ps[k] from by congr 1]
    conv => whnf
    refine framePut_calls c ps[k] (by omega) hp.1 hp.2 ?_
    conv => whnf
    rw [i64_nat (by omega)]
    exact IH2
   ·have hk := ge_of_decE hrl hk
    have hke : k = ps.length := by omega
    subst hke
    rw [List.take_length, hb0, hpn] at hc0
    conv => whnf
    rw [i64_nat (by omega)]
    exact IH (i + 1) c ⟨hi, hmt, hc0⟩ (by omega)
  ·have hmi : mayP 1 l[i] = false := by simpa using hmi
   refine sNo_1F l[i] hdi hmi ?_
   conv => whnf
   exact hn fun h => by rw [h _ (List.getElem_mem hi)] at hmi; cases hmi
 ·have hi := ge_of_decE hsl hc
  rw [List.take_of_length_le hi] at hm hb0
  conv => whnf
  rw [hb0]
  exact hy hm
theorem cPut_v {v : Int} (hv : v = 2 ∨ v = 3) (l : List Rc) (hl : l.length ≤ 1000) (hd : ∀ r ∈ l, r.deps.length < 100000) {R} (hy : (∀ r ∈ l, mayP v r = true) → R (.tup [.sl none 1 (byteEls (fileP v l)), vi 0]) []) (hn : (¬ ∀ r ∈ l, mayP v r = true) → R (.tup [.val (.slice none 0 0), vi 1]) []) :
  ACalls Tryz.prog 68 [vi v, .sl none 7 (recs l)] [] R := by
 refine acalls_of_xwp (an := an68) tab_ok Tryz.func68 ?_
 have hsl := recs_length l
 conv => whnf
 refine Head_v hv ?_
 conv => whnf
 refine New_nil ?_
 conv => whnf
 by_cases hl0 : l = []
 ·subst hl0
  refine LoopP.step ?_
  conv => whnf
  have e := hy (fun r hr => by cases hr)
  rw [show fileP v [] = headP v from by simp [fileP, paysP, framesP]] at e
  exact e
 have hi : 0 < l.length := List.length_pos_iff.2 hl0
 refine LoopP.step ?_
 conv => whnf
 refine br_true (by rw [hsl]; exact decide_eq_true (by omega)) ?_
 (conv => whnf); (repeat ((with_reducible refine must_intro ?_ ?_); exact decide_eq_true (by omega); (conv => whnf)))
 refine idxK_map_intro (show (0 : Int).toNat < l.length by simpa using hi) ?_
 rw [show l[(0 : Int).toNat]'(by simpa using hi) = l[0] from rfl]
 have hdi := hd _ (List.getElem_mem hi)
 by_cases hmi : mayP v l[0] = true
 ·obtain ⟨TT, hTT⟩ : ∃ TT, tbP v l 0 = TT := ⟨_, rfl⟩
  have hT0 : TT = [] := by rw [← hTT]; rfl
  have hTl : TT.length ≤ 18000 := by rw [hT0]; simp
  have hm : ∀ r ∈ l.take 0, mayP v r = true := by simp
  have hmt := may_take hi hm hmi
  obtain ⟨i, hi0⟩ : ∃ i : Nat, i = 0 := ⟨0, rfl⟩
  obtain ⟨b, hb0⟩ : ∃ b, b = headP v ++ framesP (paysP v [] (l.take 0)) := ⟨_, rfl⟩
  have hbh : headP v = b := by rw [hb0]; simp [paysP, framesP]
  have hbl : b.length ≤ 3000008 := by rw [hb0]; exact put_len hl hm
  rw [hbh]
  conv => whnf
  refine sPut_vF hv l[0] hmi ?_
  rw [← hT0]
  have hpl := payP_lens (t := TT) (may_all hmi) (by omega)
  have hpf := payP_frames (t := TT) (may_all hmi) (by omega)
  have hpc := (payP_len (v := v) (t := TT) (may_all hmi).deps).2
  have hpn := put_next (v := v) hi
  rw [hTT] at hpn
  generalize hps : payP v TT l[0] = ps at hpl hpf hpn hpc
  have hrl := rowsB_length ps
  conv => whnf
  refine LoopP.ind2 (fun (k : Nat) (c : B) => [(6, .sl none 1 (byteEls c)), (42, vi k)]) (fun k c => [(freshN 23 0, tblO (freshN 34 0) (freshN 34 1) (addT v TT l[0])), (freshN 34 0, tblR (addT v TT l[0])), (freshN 34 1, tblM (addT v TT l[0]))]) (fun k _ => ps.length - k) (fun k c => k ≤ ps.length ∧ c = b ++ framesP (ps.take k)) 0 b rfl ⟨by omega, by simp [framesP]⟩ ?_
  rintro k c ⟨hk0, hc0⟩ IH2
  have hcl : c.length ≤ 3003008 := by have := framesP_part ps k; rw [hc0, List.length_append]; omega
  conv => whnf
  refine br_intro (fun hk => ?_) (fun hk => ?_)
  ·have hk := lt_of_decE hrl hk
   have hp := hpl _ (List.getElem_mem hk)
   have hS : c ++ frameP ps[k] = b ++ framesP (ps.take (k + 1)) := by
    rw [hc0, List.take_succ_eq_append_getElem hk, framesP_snoc, List.append_assoc]
   have IH2 := IH2 (k + 1) _ ⟨hk, hS⟩ (by omega)
   (conv => whnf); (repeat ((with_reducible refine must_intro ?_ ?_); exact decide_eq_true (by omega); (conv => whnf)))
   refine idxK_map_intro (show (k : Int).toNat < ps.length by simpa using hk) ?_
   rw [show ps[(k : Int).toNat]'(by simpa using hk) = ps[k] from by congr 1]
   conv => whnf
   refine framePut_calls c ps[k] (by omega) hp.1 hp.2 ?_
   conv => whnf
   rw [i64_nat (by omega)]
   exact IH2
  ·have hk := ge_of_decE hrl hk
   have hke : k = ps.length := by omega
   subst hke
   rw [List.take_length, hb0, hpn] at hc0
   conv => whnf
   rw [show IntKind.i64.wrap ((0 : Int) + 1) = ((1 : Nat) : Int) from rfl]
   have hT1 : addT v TT l[0] = tbP v l 1 := by rw [← hTT]; exact (tbP_succ hi).symm
   rw [hT1]
   refine LoopP.ind3 (fun (i : Nat) (b : B) (T : List B) => [(6, .sl none 1 (byteEls b)), (26, vi i)]) (fun i b T => [(freshN 23 0, tblO (freshN 34 0) (freshN 34 1) T), (freshN 34 0, tblR T), (freshN 34 1, tblM T)]) (fun i _ _ => l.length - i) (fun i b T => 1 ≤ i ∧ i ≤ l.length ∧ (∀ r ∈ l.take i, mayP v r = true) ∧ b = headP v ++ framesP (paysP v [] (l.take i)) ∧ T = tbP v l i) 1 c _ rfl ⟨by omega, hi, hmt, hc0, rfl⟩ ?_
   clear hc0 hcl hbl hb0 hbh hmi hdi hm hmt hTT hT0 hTl hT1 hpl hpf hpn hps hrl hk IH2 hk0
   skip
   rintro i b T ⟨h00, h0, hm, hb0, hT⟩ IH
   have hbl : b.length ≤ 3000008 := by rw [hb0]; exact put_len hl hm
   conv => whnf
   refine br_intro (fun hc => ?_) (fun hc => ?_)
   ·have hi := lt_of_decE hsl hc
    have hdi := hd _ (List.getElem_mem hi)
    have hTne : T ≠ [] := by
     obtain ⟨j, rfl⟩ : ∃ j, i = j + 1 := ⟨i - 1, by omega⟩
     rw [hT, tbP_succ (by omega)]
     exact addT_ne (ne1 hv) _ _
    obtain ⟨TT, hTT⟩ : ∃ TT, tbP v l i = TT := ⟨_, rfl⟩
    have hTeq : T = TT := hT.trans hTT
    have hTl : TT.length ≤ 18000 := by rw [← hTT]; exact tbP_len hl hm
    subst hTeq
    (conv => whnf); (repeat ((with_reducible refine must_intro ?_ ?_); exact decide_eq_true (by omega); (conv => whnf)))
    refine idxK_map_intro (show (i : Int).toNat < l.length by simpa using hi) ?_
    rw [show l[(i : Int).toNat]'(by simpa using hi) = l[i] from by congr 1]
    conv => whnf
    by_cases hmi : mayP v l[i] = true
    ·have hmt := may_take hi hm hmi
     refine sPut_vO hv l[i] T (by omega) hmi ?_
     have hT1 : addT v T l[i] = tbP v l (i + 1) := by rw [← hTT]; exact (tbP_succ hi).symm
     rw [hT1]
     have hpl := payP_lens (t := T) (may_all hmi) (by omega)
     have hpf := payP_frames (t := T) (may_all hmi) (by omega)
     have hpc := (payP_len (v := v) (t := T) (may_all hmi).deps).2
     have hpn := put_next (v := v) hi
     rw [hTT] at hpn
     generalize hps : payP v T l[i] = ps at hpl hpf hpn hpc
     have hrl := rowsB_length ps
     conv => whnf
     refine LoopP.ind2 (fun (k : Nat) (c : B) => [(6, .sl none 1 (byteEls c)), (42, vi k)]) (fun k c => [(freshN 23 0, tblO (freshN 34 0) (freshN 34 1) (tbP v l (i + 1))), (freshN 34 0, tblR (tbP v l (i + 1))), (freshN 34 1, tblM (tbP v l (i + 1)))]) (fun k _ => ps.length - k) (fun k c => k ≤ ps.length ∧ c = b ++ framesP (ps.take k)) 0 b rfl ⟨by omega, by simp [framesP]⟩ ?_
     rintro k c ⟨hk0, hc0⟩ IH2
     have hcl : c.length ≤ 3003008 := by have := framesP_part ps k; rw [hc0, List.length_append]; omega
     conv => whnf
     refine br_intro (fun hk => ?_) (fun hk => ?_)
     ·have hk := lt_of_decE hrl hk
      have hp := hpl _ (List.getElem_mem hk)
      have hS : c ++ frameP ps[k] = b ++ framesP (ps.take (k + 1)) := by
       rw [hc0, List.take_succ_eq_append_getElem hk, framesP_snoc, List.append_assoc]
      have IH2 := IH2 (k + 1) _ ⟨hk, hS⟩ (by omega)
      (conv => whnf); (repeat ((with_reducible refine must_intro ?_ ?_); exact decide_eq_true (by omega); (conv => whnf)))
      refine idxK_map_intro (show (k : Int).toNat < ps.length by simpa using hk) ?_
      rw [show ps[(k : Int).toNat]'(by simpa using hk) = ps[k] from by congr 1]
      conv => whnf
      refine framePut_calls c ps[k] (by omega) hp.1 hp.2 ?_
      conv => whnf
      rw [i64_nat (by omega)]
      exact IH2
     ·have hk := ge_of_decE hrl hk
      have hke : k = ps.length := by omega
      subst hke
      rw [List.take_length, hb0, hpn] at hc0
      conv => whnf
      rw [i64_nat (by omega)]
      exact IH (i + 1) c _ ⟨by omega, hi, hmt, hc0, rfl⟩ (by omega)
    ·have hmi : mayP v l[i] = false := by simpa using hmi
     refine sNo_vO hv l[i] T hdi hmi ?_
     conv => whnf
     exact hn fun h => by rw [h _ (List.getElem_mem hi)] at hmi; cases hmi
   ·have hi := ge_of_decE hsl hc
    rw [List.take_of_length_le hi] at hm hb0
    conv => whnf
    rw [hb0]
    exact hy hm
 ·have hmi : mayP v l[0] = false := by simpa using hmi
  conv => whnf
  refine sNo_vF hv l[0] hdi hmi ?_
  conv => whnf
  exact hn fun h => by rw [h _ (List.getElem_mem hi)] at hmi; cases hmi
def endsR (v : Int) (l : List Rc) : List Nat := (List.range l.length).map fun i => (fileP v (l.take (i + 1))).length
theorem endsR_length (v : Int) (l : List Rc) : (endsR v l).length = l.length := by simp [endsR]
theorem endsR_at {v : Int} {l : List Rc} {i : Nat} (h : i < l.length) : (endsR v l)[i]'(by rw [endsR_length]; exact h) = (fileP v (l.take (i + 1))).length := by simp [endsR]
theorem fileP_len (v : Int) (l : List Rc) : (fileP v l).length = 8 + (framesP (paysP v [] l)).length := by
 unfold fileP
 rw [List.length_append, headP_length]
def fileA (v : Int) (l : List Rc) : List AV := [vi v, .sl none 7 (recs l), .sl none 1 (ints (endsR v l)), vi (((fileP v l).length : Nat) : Int)]
theorem cRecords_calls (v : Int) (P : List B) {R} (h : R (.fn (.func 203) [] [.cptr [vi v] 0, .cptr [.sl none 1 (rowsB P)] 0]) []) : ACalls Tryz.prog 156 [vi v, .sl none 1 (rowsB P)] [] R := by
 refine acalls_of_xwp (an := an156) tab_ok Tryz.func156 ?_
 conv => whnf
 exact h
theorem bytes_rec : (tab.ti 64).bytes = 88 := rfl
theorem recs_take {l : List Rc} {i : Nat} (h : i < l.length) : recs (l.take (i + 1)) = recs (l.take i) ++ [l[i].enc] := by
 rw [List.take_succ_eq_append_getElem h]
 unfold recs
 rw [List.map_append]
 rfl
theorem endsP_at' (l : List B) (o i : Nat) (h : i < l.length) : (endsP o l)[i]'(by rw [endsP_length]; exact h) = o + (framesP (l.take (i + 1))).length := by
 have h1 := endsP_at l o i h
 rw [List.getElem?_eq_getElem (by rw [endsP_length]; exact h)] at h1
 exact Option.some.inj h1
def cgS (E : List Nat) : List AV := [.junk, .junk, .ptr (nameOf 2) 0, .junk, .junk, .junk, .ptr (nameOf 6) 0, .junk, .cptr [.sl none 1 (ints E)] 0, .junk, .junk, .junk, .junk, .junk, .junk, .junk, .junk, .junk, .junk, .junk, .junk, .junk, .junk, .junk, .junk, .junk, .junk, .junk, .junk, .junk, .junk, .junk, .junk, .junk, .junk, .junk, .junk, .junk, .junk, .junk, .junk, .junk, .junk, .junk, .junk, .junk, .junk, .junk, .junk, .junk, .junk, .junk]
def flO (v : Int) (a b : AV) (n : Nat) : AObj := .cells 69 [vi v, a, b, vi (n : Int)]
abbrev nlA : AV := .val (.slice none 0 0)
theorem Version_v {v : Int} (hv : v = 1 ∨ v = 2 ∨ v = 3) (q : B) (hq : q.length < 1000000) {R} (h : R (.tup [vi v, vi 0]) []) : ACalls Tryz.prog 154 [.sl none 1 (byteEls (headP v ++ q))] [] R := by
 rcases hv with rfl | rfl | rfl
 ·exact Version_1 q hq h
 ·exact Version_2 q hq h
 ·exact Version_3 q hq h
theorem cGetT_v {v : Int} (hv : v = 1 ∨ v = 2 ∨ v = 3) (l : List Rc) (hm : ∀ r ∈ l, mayP v r = true) (hl : l.length ≤ 300) (ms : List B) (hms : (v : Int) = 1 → ms = []) (hml : ms.length < 100) (hmf : ∀ m ∈ ms, m.length ≤ 64) (t : B) (ht : EndAt t) (htl : t.length < 3000) {R} (h : R (.tup [.agg (fileA v l), vi 0]) []) : ACalls Tryz.prog 78 [.sl none 1 (byteEls (fileP v l ++ framesP (ms.map defP) ++ t))] [] R := by
 obtain ⟨Ps, hPs⟩ : ∃ Ps, Ps = paysP v [] l ++ ms.map defP := ⟨_, rfl⟩
 have hbytes : fileP v l ++ framesP (ms.map defP) ++ t = headP v ++ (framesP Ps ++ t) := by rw [hPs, framesP_append]; simp [fileP]
 rw [hbytes]
 clear hbytes
 refine ACalls.res ?_
 refine acalls_of_xwp (an := an78) tab_ok Tryz.func78 ?_
 have hM : ∀ r ∈ l, MayR v r := fun r hr => may_all (hm r hr)
 have hfl := paysP_frames (v := v) (l := l) (t := []) hM (by simp; omega)
 have hpl := paysP_len (v := v) (l := l) (t := []) fun r hr => (hM r hr).deps
 have hlens := paysP_lens (v := v) (l := l) (t := []) hM (by simp; omega)
 have hh8 := headP_length v
 have hit := records_iter v hv l hm (by omega) ms hms (by omega)
 rw [← hPs] at hit
 have hfm := framesP_len (l := ms.map defP) (k := 65) (fun p hp => by
  obtain ⟨m, hm1, rfl⟩ := List.mem_map.1 hp
  have := hmf m hm1
  simp [defP]; omega) (by omega)
 rw [List.length_map] at hfm
 have hPl : Ps.length = (paysP v [] l).length + ms.length := by rw [hPs]; simp
 have hPf : (framesP Ps).length = (framesP (paysP v [] l)).length + (framesP (ms.map defP)).length := by rw [hPs, framesP_append, List.length_append]
 have hlensP : ∀ p ∈ Ps, 1 ≤ p.length ∧ p.length ≤ 2048 := by
  intro p hp
  rw [hPs] at hp
  rcases List.mem_append.1 hp with hp | hp
  ·exact hlens p hp
  ·obtain ⟨m, hm1, rfl⟩ := List.mem_map.1 hp
   have := hmf m hm1
   simp [defP]; omega
 have hlA := recsA_length v l [] 0
 have hEl := endsR_length v l
 have hEp := endsP_length Ps 8
 have hend : ∀ i (hi : i < l.length), (IntKind.i64.wrap (((plP v l (i + 1) : Nat) : Int) - 1)).toNat < (endsP 8 Ps).length ∧ ∀ hj, (endsP 8 Ps)[(IntKind.i64.wrap (((plP v l (i + 1) : Nat) : Int) - 1)).toNat]'hj = (fileP v (l.take (i + 1))).length := by
  intro i hi
  have h1 := payP_len (v := v) (t := tbP v l i) (r := l[i]) (hM _ (List.getElem_mem hi)).deps
  have h2 := plP_succ (v := v) hi
  have h3 : plP v l (i + 1) ≤ (paysP v [] l).length := by
   rw [paysP_split hi, List.length_append, List.length_append, h2]
   show (paysP v [] (l.take i)).length + _ ≤ _
   omega
  have h4 : (IntKind.i64.wrap (((plP v l (i + 1) : Nat) : Int) - 1)).toNat = plP v l (i + 1) - 1 := by
   rw [wrap_i64 (by omega) (by omega)]
   omega
  have h5 : Ps.take (plP v l (i + 1)) = paysP v [] (l.take (i + 1)) := by
   have e : Ps = paysP v [] (l.take (i + 1)) ++ (paysP v (tblL v [] (l.take (i + 1))) (l.drop (i + 1)) ++ ms.map defP) := by rw [hPs, ← List.append_assoc, ← paysP_append, List.take_append_drop]
   rw [e]
   exact List.take_left
  refine ⟨by rw [h4, hEp]; omega, fun hj => ?_⟩
  have h6 := endsP_at' Ps 8 (plP v l (i + 1) - 1) (by omega)
  rw [show plP v l (i + 1) - 1 + 1 = plP v l (i + 1) by omega, h5] at h6
  rw [fileP_len, ← h6]
  congr 1
 have hnn : ∀ i, 0 ≤ i → i < l.length → 0 ≤ IntKind.i64.wrap (((plP v l (i + 1) : Nat) : Int) - 1) := by
  intro i _ hi
  have h1 := payP_len (v := v) (t := tbP v l i) (r := l[i]) (hM _ (List.getElem_mem hi)).deps
  have h2 := plP_succ (v := v) hi
  have h3 : plP v l (i + 1) ≤ (paysP v [] l).length := by
   rw [paysP_split hi, List.length_append, List.length_append, h2]
   show (paysP v [] (l.take i)).length + _ ≤ _
   omega
  rw [wrap_i64 (by omega) (by omega)]
  omega
 conv => whnf
 refine Version_v hv _ (by rw [List.length_append]; omega) ?_
 conv => whnf
 have hrun := fun R hR => Run_calls (headP v) Ps t ht hlensP (by omega) (by omega) (R := R) hR
 rw [hh8] at hrun
 refine hrun _ ?_
 conv => whnf
 refine cRecords_calls v Ps ?_
 conv => whnf
 refine .inr ?_
 conv => whnf
 refine ⟨recsA v [] 0 l, hit, ?_, ?_⟩
 ·intro x hx
  obtain ⟨i, hi, rfl⟩ := List.getElem_of_mem hx
  have h1 := recsA_at v l [] 0 i (by omega)
  rw [List.getElem?_eq_getElem hi] at h1
  rw [Option.some.inj h1]
  rfl
 refine ⟨fun i s => (i = 0 ∧ s = ⟨cgS (endsP 8 Ps), [(nameOf 2, flO 0 nlA nlA 0), (nameOf 6, flO v nlA nlA 8)]⟩) ∨
  (0 < i ∧ i ≤ l.length ∧ s = ⟨cgS (endsP 8 Ps), [(nameOf 2, flO 0 nlA nlA 0), (nameOf 6, flO v (.sl (some (nameOf 42)) 7 (recs (l.take i))) (.sl (some (nameOf 48)) 1 (ints ((endsR v l).take i))) (fileP v (l.take i)).length), (nameOf 42, .row 64 7 i), (nameOf 48, .row 3 1 i)]⟩), .inl ⟨rfl, rfl⟩, ?_, ?_⟩
 ·rintro i x s hx hs
  have hi : i < l.length := by
   have := (List.getElem?_eq_some_iff.1 hx).1
   omega
  have hx2 := recsA_at v l [] 0 i hi
  rw [Nat.zero_add] at hx2
  rw [hx] at hx2
  cases hx2
  obtain ⟨he1, he2⟩ := hend i hi
  have hn0 := hnn i (Nat.zero_le i) hi
  have hie : i < (endsR v l).length := by omega
  have e1 := recs_take hi
  have e2 := ints_take hie
  rw [endsR_at hi] at e2
  have hpl2 : (paysP v [] (l.take (i + 1))).length = plP v l (i + 1) := rfl
  rw [hpl2]
  have l1 : (recs (l.take i)).length = i := by rw [recs_length, List.length_take]; omega
  have l2 : (ints ((endsR v l).take i)).length = i := by rw [ints_length, List.length_take]; omega
  clear hit hx
  rcases hs with ⟨rfl, rfl⟩ | ⟨h1, h2, rfl⟩
  ·conv => whnf
   refine must_intro (decide_eq_true hn0) ?_
   refine idxK_map_intro he1 ?_
   rw [he2 he1]
   conv => whnf
   refine ⟨?_, ?_, ?_, trivial⟩
   ·conv => whnf
    refine ⟨?_, ?_, ?_, trivial⟩
    ·conv => whnf
     refine ⟨by rw [bytes_rec]; simp, ?_⟩
     conv => whnf
     refine ⟨?_, ?_, trivial⟩
     ·conv => whnf
      refine ⟨?_, trivial⟩
      conv => whnf
      refine ⟨?_, trivial⟩
      conv => whnf
      refine ⟨by rw [bytes_int]; simp, ?_⟩
      conv => whnf
      refine ⟨?_, trivial⟩
      conv => whnf
      refine ⟨?_, trivial⟩
      conv => whnf
      refine .inr ⟨by omega, by omega, ?_⟩
      rw [e1, e2]
      rfl
     ·conv => whnf
      refine ⟨?_, trivial⟩
      conv => whnf
      refine ⟨?_, trivial⟩
      conv => whnf
      refine ⟨by rw [bytes_int]; simp, ?_⟩
      conv => whnf
      refine ⟨?_, trivial⟩
      conv => whnf
      refine ⟨?_, trivial⟩
      conv => whnf
      refine .inr ⟨by omega, by omega, ?_⟩
      rw [e1, e2]
      rfl
    ·conv => whnf
     refine ⟨?_, ?_, trivial⟩
     ·conv => whnf
      refine ⟨by rw [bytes_rec]; simp, ?_⟩
      conv => whnf
      refine ⟨?_, trivial⟩
      conv => whnf
      refine ⟨?_, trivial⟩
      conv => whnf
      refine ⟨by rw [bytes_int]; simp, ?_⟩
      conv => whnf
      refine ⟨?_, trivial⟩
      conv => whnf
      refine ⟨?_, trivial⟩
      conv => whnf
      refine .inr ⟨by omega, by omega, ?_⟩
      rw [e1, e2]
      rfl
     ·conv => whnf
      refine ⟨?_, trivial⟩
      conv => whnf
      refine ⟨by rw [bytes_rec]; simp, ?_⟩
      conv => whnf
      refine ⟨?_, trivial⟩
      conv => whnf
      refine ⟨by rw [bytes_int]; simp, ?_⟩
      conv => whnf
      refine ⟨?_, trivial⟩
      conv => whnf
      refine ⟨?_, trivial⟩
      conv => whnf
      refine .inr ⟨by omega, by omega, ?_⟩
      rw [e1, e2]
      rfl
    ·conv => whnf
     refine ⟨?_, ?_, trivial⟩
     ·conv => whnf
      refine ⟨by rw [bytes_rec]; simp, ?_⟩
      conv => whnf
      refine ⟨?_, trivial⟩
      conv => whnf
      refine ⟨?_, trivial⟩
      conv => whnf
      refine ⟨by rw [bytes_int]; simp, ?_⟩
      conv => whnf
      refine ⟨?_, trivial⟩
      conv => whnf
      refine ⟨?_, trivial⟩
      conv => whnf
      refine .inr ⟨by omega, by omega, ?_⟩
      rw [e1, e2]
      rfl
     ·conv => whnf
      refine ⟨?_, trivial⟩
      conv => whnf
      refine ⟨by rw [bytes_rec]; simp, ?_⟩
      conv => whnf
      refine ⟨?_, trivial⟩
      conv => whnf
      refine ⟨by rw [bytes_int]; simp, ?_⟩
      conv => whnf
      refine ⟨?_, trivial⟩
      conv => whnf
      refine ⟨?_, trivial⟩
      conv => whnf
      refine .inr ⟨by omega, by omega, ?_⟩
      rw [e1, e2]
      rfl
   ·conv => whnf
    refine ⟨?_, ?_, trivial⟩
    ·conv => whnf
     refine ⟨?_, ?_, trivial⟩
     ·conv => whnf
      refine ⟨by rw [bytes_rec]; simp, ?_⟩
      conv => whnf
      refine ⟨?_, trivial⟩
      conv => whnf
      refine ⟨?_, trivial⟩
      conv => whnf
      refine ⟨by rw [bytes_int]; simp, ?_⟩
      conv => whnf
      refine ⟨?_, trivial⟩
      conv => whnf
      refine ⟨?_, trivial⟩
      conv => whnf
      refine .inr ⟨by omega, by omega, ?_⟩
      rw [e1, e2]
      rfl
     ·conv => whnf
      refine ⟨?_, trivial⟩
      conv => whnf
      refine ⟨by rw [bytes_rec]; simp, ?_⟩
      conv => whnf
      refine ⟨?_, trivial⟩
      conv => whnf
      refine ⟨by rw [bytes_int]; simp, ?_⟩
      conv => whnf
      refine ⟨?_, trivial⟩
      conv => whnf
      refine ⟨?_, trivial⟩
      conv => whnf
      refine .inr ⟨by omega, by omega, ?_⟩
      rw [e1, e2]
      rfl
    ·conv => whnf
     refine ⟨?_, trivial⟩
     conv => whnf
     refine ⟨?_, trivial⟩
     conv => whnf
     refine ⟨by rw [bytes_rec]; simp, ?_⟩
     conv => whnf
     refine ⟨?_, trivial⟩
     conv => whnf
     refine ⟨by rw [bytes_int]; simp, ?_⟩
     conv => whnf
     refine ⟨?_, trivial⟩
     conv => whnf
     refine ⟨?_, trivial⟩
     conv => whnf
     refine .inr ⟨by omega, by omega, ?_⟩
     rw [e1, e2]
     rfl
   ·conv => whnf
    refine ⟨?_, ?_, trivial⟩
    ·conv => whnf
     refine ⟨?_, ?_, trivial⟩
     ·conv => whnf
      refine ⟨by rw [bytes_rec]; simp, ?_⟩
      conv => whnf
      refine ⟨?_, trivial⟩
      conv => whnf
      refine ⟨?_, trivial⟩
      conv => whnf
      refine ⟨by rw [bytes_int]; simp, ?_⟩
      conv => whnf
      refine ⟨?_, trivial⟩
      conv => whnf
      refine ⟨?_, trivial⟩
      conv => whnf
      refine .inr ⟨by omega, by omega, ?_⟩
      rw [e1, e2]
      rfl
     ·conv => whnf
      refine ⟨?_, trivial⟩
      conv => whnf
      refine ⟨by rw [bytes_rec]; simp, ?_⟩
      conv => whnf
      refine ⟨?_, trivial⟩
      conv => whnf
      refine ⟨by rw [bytes_int]; simp, ?_⟩
      conv => whnf
      refine ⟨?_, trivial⟩
      conv => whnf
      refine ⟨?_, trivial⟩
      conv => whnf
      refine .inr ⟨by omega, by omega, ?_⟩
      rw [e1, e2]
      rfl
    ·conv => whnf
     refine ⟨?_, trivial⟩
     conv => whnf
     refine ⟨?_, trivial⟩
     conv => whnf
     refine ⟨by rw [bytes_rec]; simp, ?_⟩
     conv => whnf
     refine ⟨?_, trivial⟩
     conv => whnf
     refine ⟨by rw [bytes_int]; simp, ?_⟩
     conv => whnf
     refine ⟨?_, trivial⟩
     conv => whnf
     refine ⟨?_, trivial⟩
     conv => whnf
     refine .inr ⟨by omega, by omega, ?_⟩
     rw [e1, e2]
     rfl
  ·conv => whnf
   refine must_intro (decide_eq_true hn0) ?_
   refine idxK_map_intro he1 ?_
   rw [he2 he1]
   conv => whnf
   refine ⟨?_, ?_, ?_, trivial⟩
   ·conv => whnf
    refine ⟨?_, ?_, ?_, trivial⟩
    ·conv => whnf
     refine ⟨l1.symm, by rw [l1, bytes_rec]; simp; omega, ?_⟩
     conv => whnf
     refine ⟨?_, ?_, trivial⟩
     ·conv => whnf
      refine ⟨?_, trivial⟩
      conv => whnf
      refine ⟨?_, trivial⟩
      conv => whnf
      refine ⟨l2.symm, by rw [l2, bytes_int]; simp; omega, ?_⟩
      conv => whnf
      refine ⟨?_, trivial⟩
      conv => whnf
      refine ⟨?_, trivial⟩
      conv => whnf
      refine .inr ⟨by omega, by omega, ?_⟩
      rw [e1, e2, l1, l2]
      rfl
     ·conv => whnf
      refine ⟨?_, trivial⟩
      conv => whnf
      refine ⟨?_, trivial⟩
      conv => whnf
      refine ⟨l2.symm, by rw [l2, bytes_int]; simp; omega, ?_⟩
      conv => whnf
      refine ⟨?_, trivial⟩
      conv => whnf
      refine ⟨?_, trivial⟩
      conv => whnf
      refine .inr ⟨by omega, by omega, ?_⟩
      rw [e1, e2, l1, l2]
      rfl
    ·conv => whnf
     refine ⟨?_, ?_, trivial⟩
     ·conv => whnf
      refine ⟨l1.symm, by rw [l1, bytes_rec]; simp; omega, ?_⟩
      conv => whnf
      refine ⟨?_, trivial⟩
      conv => whnf
      refine ⟨?_, trivial⟩
      conv => whnf
      refine ⟨l2.symm, by rw [l2, bytes_int]; simp; omega, ?_⟩
      conv => whnf
      refine ⟨?_, trivial⟩
      conv => whnf
      refine ⟨?_, trivial⟩
      conv => whnf
      refine .inr ⟨by omega, by omega, ?_⟩
      rw [e1, e2, l1, l2]
      rfl
     ·conv => whnf
      refine ⟨?_, trivial⟩
      conv => whnf
      refine ⟨l1.symm, by rw [l1, bytes_rec]; simp; omega, ?_⟩
      conv => whnf
      refine ⟨?_, trivial⟩
      conv => whnf
      refine ⟨l2.symm, by rw [l2, bytes_int]; simp; omega, ?_⟩
      conv => whnf
      refine ⟨?_, trivial⟩
      conv => whnf
      refine ⟨?_, trivial⟩
      conv => whnf
      refine .inr ⟨by omega, by omega, ?_⟩
      rw [e1, e2, l1, l2]
      rfl
    ·conv => whnf
     refine ⟨?_, ?_, trivial⟩
     ·conv => whnf
      refine ⟨l1.symm, by rw [l1, bytes_rec]; simp; omega, ?_⟩
      conv => whnf
      refine ⟨?_, trivial⟩
      conv => whnf
      refine ⟨?_, trivial⟩
      conv => whnf
      refine ⟨l2.symm, by rw [l2, bytes_int]; simp; omega, ?_⟩
      conv => whnf
      refine ⟨?_, trivial⟩
      conv => whnf
      refine ⟨?_, trivial⟩
      conv => whnf
      refine .inr ⟨by omega, by omega, ?_⟩
      rw [e1, e2, l1, l2]
      rfl
     ·conv => whnf
      refine ⟨?_, trivial⟩
      conv => whnf
      refine ⟨l1.symm, by rw [l1, bytes_rec]; simp; omega, ?_⟩
      conv => whnf
      refine ⟨?_, trivial⟩
      conv => whnf
      refine ⟨l2.symm, by rw [l2, bytes_int]; simp; omega, ?_⟩
      conv => whnf
      refine ⟨?_, trivial⟩
      conv => whnf
      refine ⟨?_, trivial⟩
      conv => whnf
      refine .inr ⟨by omega, by omega, ?_⟩
      rw [e1, e2, l1, l2]
      rfl
   ·conv => whnf
    refine ⟨?_, ?_, trivial⟩
    ·conv => whnf
     refine ⟨?_, ?_, trivial⟩
     ·conv => whnf
      refine ⟨l1.symm, by rw [l1, bytes_rec]; simp; omega, ?_⟩
      conv => whnf
      refine ⟨?_, trivial⟩
      conv => whnf
      refine ⟨?_, trivial⟩
      conv => whnf
      refine ⟨l2.symm, by rw [l2, bytes_int]; simp; omega, ?_⟩
      conv => whnf
      refine ⟨?_, trivial⟩
      conv => whnf
      refine ⟨?_, trivial⟩
      conv => whnf
      refine .inr ⟨by omega, by omega, ?_⟩
      rw [e1, e2, l1, l2]
      rfl
     ·conv => whnf
      refine ⟨?_, trivial⟩
      conv => whnf
      refine ⟨l1.symm, by rw [l1, bytes_rec]; simp; omega, ?_⟩
      conv => whnf
      refine ⟨?_, trivial⟩
      conv => whnf
      refine ⟨l2.symm, by rw [l2, bytes_int]; simp; omega, ?_⟩
      conv => whnf
      refine ⟨?_, trivial⟩
      conv => whnf
      refine ⟨?_, trivial⟩
      conv => whnf
      refine .inr ⟨by omega, by omega, ?_⟩
      rw [e1, e2, l1, l2]
      rfl
    ·conv => whnf
     refine ⟨?_, trivial⟩
     conv => whnf
     refine ⟨?_, trivial⟩
     conv => whnf
     refine ⟨l1.symm, by rw [l1, bytes_rec]; simp; omega, ?_⟩
     conv => whnf
     refine ⟨?_, trivial⟩
     conv => whnf
     refine ⟨l2.symm, by rw [l2, bytes_int]; simp; omega, ?_⟩
     conv => whnf
     refine ⟨?_, trivial⟩
     conv => whnf
     refine ⟨?_, trivial⟩
     conv => whnf
     refine .inr ⟨by omega, by omega, ?_⟩
     rw [e1, e2, l1, l2]
     rfl
   ·conv => whnf
    refine ⟨?_, ?_, trivial⟩
    ·conv => whnf
     refine ⟨?_, ?_, trivial⟩
     ·conv => whnf
      refine ⟨l1.symm, by rw [l1, bytes_rec]; simp; omega, ?_⟩
      conv => whnf
      refine ⟨?_, trivial⟩
      conv => whnf
      refine ⟨?_, trivial⟩
      conv => whnf
      refine ⟨l2.symm, by rw [l2, bytes_int]; simp; omega, ?_⟩
      conv => whnf
      refine ⟨?_, trivial⟩
      conv => whnf
      refine ⟨?_, trivial⟩
      conv => whnf
      refine .inr ⟨by omega, by omega, ?_⟩
      rw [e1, e2, l1, l2]
      rfl
     ·conv => whnf
      refine ⟨?_, trivial⟩
      conv => whnf
      refine ⟨l1.symm, by rw [l1, bytes_rec]; simp; omega, ?_⟩
      conv => whnf
      refine ⟨?_, trivial⟩
      conv => whnf
      refine ⟨l2.symm, by rw [l2, bytes_int]; simp; omega, ?_⟩
      conv => whnf
      refine ⟨?_, trivial⟩
      conv => whnf
      refine ⟨?_, trivial⟩
      conv => whnf
      refine .inr ⟨by omega, by omega, ?_⟩
      rw [e1, e2, l1, l2]
      rfl
    ·conv => whnf
     refine ⟨?_, trivial⟩
     conv => whnf
     refine ⟨?_, trivial⟩
     conv => whnf
     refine ⟨l1.symm, by rw [l1, bytes_rec]; simp; omega, ?_⟩
     conv => whnf
     refine ⟨?_, trivial⟩
     conv => whnf
     refine ⟨l2.symm, by rw [l2, bytes_int]; simp; omega, ?_⟩
     conv => whnf
     refine ⟨?_, trivial⟩
     conv => whnf
     refine ⟨?_, trivial⟩
     conv => whnf
     refine .inr ⟨by omega, by omega, ?_⟩
     rw [e1, e2, l1, l2]
     rfl
 ·rintro s (⟨h1, rfl⟩ | ⟨h1, h2, rfl⟩)
  ·have hl0 : l = [] := List.length_eq_zero_iff.1 (by omega)
   subst hl0
   conv => whnf
   exact res_le (le_tup (.cons (le_agg (.cons (.refl _) (.cons (le_nil 7) (.cons (le_nil 1) (leL.refl _))))) (leL.refl _))) rfl h
  ·have hE : (endsR v l).take (recsA v [] 0 l).length = endsR v l := by rw [hlA, ← hEl, List.take_length]
   rw [hE, hlA, List.take_length]
   conv => whnf
   exact res_same h
theorem cGet_v {v : Int} (hv : v = 1 ∨ v = 2 ∨ v = 3) (l : List Rc) (hm : ∀ r ∈ l, mayP v r = true) (hl : l.length ≤ 300) {R} (h : R (.tup [.agg (fileA v l), vi 0]) []) : ACalls Tryz.prog 78 [.sl none 1 (byteEls (fileP v l))] [] R := by
 have h1 := cGetT_v hv l hm hl [] (fun _ => rfl) (by simp) (by simp) [] (.inl rfl) (by simp) h
 rw [List.map_nil, show framesP [] = [] from rfl, List.append_nil, List.append_nil] at h1
 exact h1
theorem sIndex_calls (l : List B) (s : B) (hl : l.length < 1000000) {R} (h : ∀ p, p = placeI l s → R (vi p) []) : ACalls Tryz.prog 64 [.sl none 1 (strs l), vs s] [] R := by
 refine acalls_of_xwp (an := an64) tab_ok Tryz.func64 ?_
 have hsl := strs_length l
 conv => whnf
 refine LoopP.ind1 (fun (i : Nat) => [(8, vi i)]) (fun i => []) (fun i => l.length - i) (fun i => i ≤ l.length ∧ ∀ j, j < i → l[j]? ≠ some s) 0 rfl ⟨by omega, fun j hj => by omega⟩ ?_
 rintro i ⟨h0, h1⟩ IH
 conv => whnf
 refine br_intro (fun hc => ?_) (fun hc => ?_)
 ·have hc := lt_of_decE hsl hc
  (conv => whnf); (repeat ((with_reducible refine must_intro ?_ ?_); exact decide_eq_true (by omega); (conv => whnf)))
  refine idxK_map_intro (show (i : Int).toNat < l.length by simpa using hc) ?_
  rw [show l[(i : Int).toNat]'(by simpa using hc) = l[i] from by congr 1]
  conv => whnf
  refine br_intro (fun g => ?_) (fun g => ?_)
  ·have g : s = l[i] := by
    have g : ofB s = ofB l[i] := of_decide_eq_true g
    exact ofB_inj g
   conv => whnf
   refine h _ ?_
   rw [placeI, placeOf_of (by rw [List.getElem?_eq_getElem hc, g]) h1]
  ·have g : s ≠ l[i] := by
    have g : ¬ ofB s = ofB l[i] := of_decide_eq_false g
    exact fun e => g (by rw [e])
   conv => whnf
   rw [i64_nat (by omega)]
   refine IH (i + 1) ⟨hc, fun j hj => ?_⟩ (by omega)
   rcases Nat.lt_succ_iff_lt_or_eq.1 hj with hj | rfl
   ·exact h1 j hj
   ·rw [List.getElem?_eq_getElem hc]
    exact fun e => g (Option.some.inj e).symm
 ·have hc := ge_of_decE hsl hc
  conv => whnf
  refine h _ ?_
  rw [placeI, placeOf_none.2]
  intro hm
  obtain ⟨j, hj, e⟩ := List.getElem_of_mem hm
  exact h1 j (by omega) (by rw [List.getElem?_eq_getElem hj, e])
theorem sContains_calls (l : List B) (s : B) (hl : l.length < 1000000) {R} (h : R (.val (.bool (decide (s ∈ l)))) []) : ACalls Tryz.prog 31 [.sl none 1 (strs l), vs s] [] R := by
 refine acalls_of_xwp (an := an31) tab_ok Tryz.func31 ?_
 conv => whnf
 refine sIndex_calls l s hl fun p hp => ?_
 have e : decide (p ≥ 0) = decide (s ∈ l) := by
  have := placeI_neg (l := l) (s := s)
  rw [← hp] at this
  by_cases hm : s ∈ l
  ·rw [decide_eq_true hm, decide_eq_true]
   refine Classical.byContradiction fun hn => this.1 (by omega) hm
  ·rw [decide_eq_false hm, decide_eq_false]
   have := this.2 hm
   omega
 conv => whnf
 rw [e]
 exact h
def bxO : AObj := .cells 29 [.ptr 1 0]
def byO (b : B) : AObj := .cells 151 [.sl none 1 (byteEls b)]
theorem st1_calls (s : FSt) (aside : B) (h1 : okN s.fail) (h2 : okN s.fall) {R} (h : R (vi (s.remove aside).2) [bxO, fsC (s.remove aside).1 2, fsM (s.remove aside).1]) :
  ACalls Tryz.prog 69 [.ptr 0 0, .cptr [vs aside] 0] [bxO, fsC s 2, fsM s] R := by
 refine acalls_of_xwp (an := an69) tab_ok Tryz.func69 ?_
 conv => whnf
 refine Remove_calls s aside h1 h2 ?_
 conv => whnf
 exact h
theorem st2_calls (s : FSt) (aside b : B) (h1 : okN s.fail) (h2 : okN s.fall) (hb : b.length < 1000000) (hg : (gF s.fs aside).b.length < 100000000) {R} (h : R (vi (s.append aside b).2) [bxO, fsC (s.append aside b).1 2, fsM (s.append aside b).1, byO b]) :
  ACalls Tryz.prog 70 [.ptr 0 0, .cptr [vs aside] 0, .ptr 3 0] [bxO, fsC s 2, fsM s, byO b] R := by
 refine acalls_of_xwp (an := an70) tab_ok Tryz.func70 ?_
 conv => whnf
 refine Append_calls s aside b h1 h2 hb hg ?_
 conv => whnf
 exact h
theorem st3_calls (s : FSt) (aside : B) (h1 : okN s.fail) (h2 : okN s.fall) {R} (h : R (vi (s.sync aside).2) [bxO, fsC (s.sync aside).1 2, fsM (s.sync aside).1]) :
  ACalls Tryz.prog 72 [.ptr 0 0, .cptr [vs aside] 0] [bxO, fsC s 2, fsM s] R := by
 refine acalls_of_xwp (an := an72) tab_ok Tryz.func72 ?_
 conv => whnf
 refine Sync_calls s aside h1 h2 ?_
 conv => whnf
 exact h
theorem st4_calls (s : FSt) (aside name : B) (h1 : okN s.fail) (h2 : okN s.fall) {R} (h : R (vi (s.rename aside name).2) [bxO, fsC (s.rename aside name).1 2, fsM (s.rename aside name).1]) :
  ACalls Tryz.prog 74 [.ptr 0 0, .cptr [vs aside] 0, .cptr [vs name] 0] [bxO, fsC s 2, fsM s] R := by
 refine acalls_of_xwp (an := an74) tab_ok Tryz.func74 ?_
 conv => whnf
 refine Rename_calls s aside name h1 h2 ?_
 conv => whnf
 exact h
def run3 (s : FSt) (name aside b : B) : FSt × Int :=
 if (s.append aside b).2 ≠ 0 then s.append aside b
 else if ((s.append aside b).1.sync aside).2 ≠ 0 then (s.append aside b).1.sync aside
 else ((s.append aside b).1.sync aside).1.rename aside name
def startP (s : FSt) (name aside b : B) : FSt × Int :=
 if aside ∈ s.names then (if (s.remove aside).2 ≠ 0 then s.remove aside else run3 (s.remove aside).1 name aside b) else run3 s name aside b
def fn1 (aside : B) : AV := .fn (.func 69) [] [.ptr 1 0, .cptr [vs aside] 0]
def fn2 (aside : B) : AV := .fn (.func 70) [] [.ptr 1 0, .cptr [vs aside] 0, .ptr 4 0]
def fn3 (aside : B) : AV := .fn (.func 72) [] [.ptr 1 0, .cptr [vs aside] 0]
def fn4 (aside name : B) : AV := .fn (.func 74) [] [.ptr 1 0, .cptr [vs aside] 0, .cptr [vs name] 0]
def bx1 : AObj := .cells 29 [.ptr 2 0]
theorem run3_calls (s : FSt) (name aside b : B) {nb fb : Nat} (hk : FOk s nb fb) (hfb : fb ≤ 90000000) (hna : aside.length < 1000000) (hb : b.length < 1000000) {R}
  (h : R (vi (run3 s name aside b).2) [.fns 140 [fn2 aside, fn3 aside, fn4 aside name] 0, bx1, fsC (run3 s name aside b).1 3, fsM (run3 s name aside b).1, byO b]) :
  ACalls Tryz.prog 76 [.slv 0 0 0 0 3] [.fns 140 [fn2 aside, fn3 aside, fn4 aside name] 0, bx1, fsC s 3, fsM s, byO b] R := by
 refine acalls_of_xwp (an := an76) tab_ok Tryz.func76 ?_
 conv => whnf
 refine LoopP.step ?_
 conv => whnf
 refine ⟨rfl, ?_⟩
 conv => whnf
 refine st2_calls s aside b hk.fail hk.fall hb (by have := (hk.m.get aside).2; omega) ?_
 have hk2 := append_ok hk (name := aside) (b := b) hna
 conv => whnf
 refine br_intro (fun g => ?_) (fun g => ?_)
 ·have g : (s.append aside b).2 ≠ 0 := by simpa using g
  rw [run3, if_pos g] at h
  conv => whnf
  exact h
 have g : ¬ (s.append aside b).2 ≠ 0 := by simpa using g
 rw [run3, if_neg g] at h
 generalize (s.append aside b).1 = s1 at h hk2 ⊢
 conv => whnf
 refine LoopP.step ?_
 conv => whnf
 refine ⟨rfl, ?_⟩
 conv => whnf
 refine st3_calls s1 aside hk2.fail hk2.fall ?_
 have hk3 := sync_ok hk2 (name := aside)
 conv => whnf
 refine br_intro (fun g2 => ?_) (fun g2 => ?_)
 ·have g2 : (s1.sync aside).2 ≠ 0 := by simpa using g2
  rw [if_pos g2] at h
  conv => whnf
  exact h
 have g2 : ¬ (s1.sync aside).2 ≠ 0 := by simpa using g2
 rw [if_neg g2] at h
 generalize (s1.sync aside).1 = s2 at h hk3 ⊢
 conv => whnf
 refine LoopP.step ?_
 conv => whnf
 refine ⟨rfl, ?_⟩
 conv => whnf
 refine st4_calls s2 aside name hk3.fail hk3.fall ?_
 conv => whnf
 refine br_intro (fun g3 => ?_) (fun g3 => ?_)
 ·conv => whnf
  exact h
 have g3 : (s2.rename aside name).2 = 0 := by simpa using g3
 rw [g3] at h
 conv => whnf
 refine LoopP.step ?_
 conv => whnf
 exact h
theorem run4_calls (s : FSt) (name aside b : B) {nb fb : Nat} (hk : FOk s nb fb) (hfb : fb ≤ 90000000) (hna : aside.length < 1000000) (hb : b.length < 1000000) {R}
  (h : R (vi (if (s.remove aside).2 ≠ 0 then s.remove aside else run3 (s.remove aside).1 name aside b).2) [.fns 140 [fn1 aside, fn2 aside, fn3 aside, fn4 aside name] 1, bx1, fsC (if (s.remove aside).2 ≠ 0 then s.remove aside else run3 (s.remove aside).1 name aside b).1 3, fsM (if (s.remove aside).2 ≠ 0 then s.remove aside else run3 (s.remove aside).1 name aside b).1, byO b]) :
  ACalls Tryz.prog 76 [.slv 0 0 1 0 4] [.fns 140 [fn1 aside, fn2 aside, fn3 aside, fn4 aside name] 1, bx1, fsC s 3, fsM s, byO b] R := by
 refine acalls_of_xwp (an := an76) tab_ok Tryz.func76 ?_
 conv => whnf
 refine LoopP.step ?_
 conv => whnf
 refine ⟨rfl, ?_⟩
 conv => whnf
 refine st1_calls s aside hk.fail hk.fall ?_
 have hk0 := remove_ok hk (name := aside)
 conv => whnf
 refine br_intro (fun g => ?_) (fun g => ?_)
 ·have g : (s.remove aside).2 ≠ 0 := by simpa using g
  rw [if_pos g] at h
  conv => whnf
  exact h
 have g : ¬ (s.remove aside).2 ≠ 0 := by simpa using g
 rw [if_neg g] at h
 clear hk
 generalize (s.remove aside).1 = s at h hk0 ⊢
 have hk := hk0
 clear hk0
 conv => whnf
 refine LoopP.step ?_
 conv => whnf
 refine ⟨rfl, ?_⟩
 conv => whnf
 refine st2_calls s aside b hk.fail hk.fall hb (by have := (hk.m.get aside).2; omega) ?_
 have hk2 := append_ok hk (name := aside) (b := b) hna
 conv => whnf
 refine br_intro (fun g => ?_) (fun g => ?_)
 ·have g : (s.append aside b).2 ≠ 0 := by simpa using g
  rw [run3, if_pos g] at h
  conv => whnf
  exact h
 have g : ¬ (s.append aside b).2 ≠ 0 := by simpa using g
 rw [run3, if_neg g] at h
 generalize (s.append aside b).1 = s1 at h hk2 ⊢
 conv => whnf
 refine LoopP.step ?_
 conv => whnf
 refine ⟨rfl, ?_⟩
 conv => whnf
 refine st3_calls s1 aside hk2.fail hk2.fall ?_
 have hk3 := sync_ok hk2 (name := aside)
 conv => whnf
 refine br_intro (fun g2 => ?_) (fun g2 => ?_)
 ·have g2 : (s1.sync aside).2 ≠ 0 := by simpa using g2
  rw [if_pos g2] at h
  conv => whnf
  exact h
 have g2 : ¬ (s1.sync aside).2 ≠ 0 := by simpa using g2
 rw [if_neg g2] at h
 generalize (s1.sync aside).1 = s2 at h hk3 ⊢
 conv => whnf
 refine LoopP.step ?_
 conv => whnf
 refine ⟨rfl, ?_⟩
 conv => whnf
 refine st4_calls s2 aside name hk3.fail hk3.fall ?_
 conv => whnf
 refine br_intro (fun g3 => ?_) (fun g3 => ?_)
 ·conv => whnf
  exact h
 have g3 : (s2.rename aside name).2 = 0 := by simpa using g3
 rw [g3] at h
 conv => whnf
 refine LoopP.step ?_
 conv => whnf
 exact h
theorem Start_ok (s : FSt) (name aside b : B) (hne : name ≠ aside) (v : Int) (l : List Rc) {nb fb : Nat} (hk : FOk s nb fb) (hnb : nb ≤ 900000) (hfb : fb ≤ 80000000) (hna : aside.length < 1000000) (hb : b.length < 1000000)
  (hput : ∀ {R : AV → List AObj → Prop}, R (.tup [.sl none 1 (byteEls b), vi 0]) [] → ACalls Tryz.prog 68 [vi v, .sl none 7 (recs l)] [] R) {R} (h : R (vi (startP s name aside b).2) [fsC (startP s name aside b).1 1, fsM (startP s name aside b).1]) :
  ACalls Tryz.prog 33 [.ptr 0 0, vs name, vs aside, vi v, .sl none 7 (recs l)] [fsC s 1, fsM s] R := by
 refine acalls_of_xwp (an := an33) tab_ok Tryz.func33 ?_
 have hlen := hk.m.len
 have hnl : s.names.length ≤ nb := by
  rw [(names_perm s).length_eq]
  simpa [kys] using hlen
 conv => whnf
 refine hput ?_
 conv => whnf
 refine br_false (decide_eq_false (fun e => hne (ofB_inj e))) ?_
 conv => whnf
 refine fsNames_calls s (by omega) hk.m.names hk.m.nodup ?_
 conv => whnf
 refine sContains_calls s.names aside (by omega) ?_
 conv => whnf
 refine br_intro (fun g => ?_) (fun g => ?_)
 ·have g := of_decide_eq_true g
  unfold startP at h
  rw [if_pos g] at h
  conv => whnf
  refine ⟨by simp only [List.length_cons, List.length_nil]; decide, ?_⟩
  conv => whnf
  refine ⟨⟨rfl, rfl⟩, by simp only [List.length_cons, List.length_nil]; decide, ?_⟩
  conv => whnf
  refine run4_calls s name aside b hk (by omega) hna hb ?_
  conv => whnf
  exact h
 ·have g := of_decide_eq_false g
  unfold startP at h
  rw [if_neg g] at h
  conv => whnf
  refine ⟨by simp only [List.length_cons, List.length_nil]; decide, ?_⟩
  conv => whnf
  refine run3_calls s name aside b hk (by omega) hna hb ?_
  conv => whnf
  exact h
theorem Open_ok (s : FSt) (name : B) (v : Int) (l : List Rc) (hin : name ∈ kys s.fs) (hb : (gF s.fs name).b = fileP v l) (hlen : (fileP v l).length < 1000000)
  (hget : ∀ {R : AV → List AObj → Prop}, R (.tup [.agg (fileA v l), vi 0]) [] → ACalls Tryz.prog 78 [.sl none 1 (byteEls (fileP v l))] [] R) {R} (h : R (.tup [.agg (fileA v l), vi 0]) [fsC s 1, fsM s]) :
  ACalls Tryz.prog 34 [.ptr 0 0, vs name] [fsC s 1, fsM s] R := by
 refine acalls_of_xwp (an := an34) tab_ok Tryz.func34 ?_
 have hbl := bel_length (fileP v l)
 conv => whnf
 refine fsRead_calls s name (by rw [hb]; omega) (fun _ => ?_) (fun hno => absurd hin hno)
 rw [hb]
 conv => whnf
 refine hget ?_
 conv => whnf
 refine br_false (decide_eq_false (by rw [hbl]; omega)) ?_
 conv => whnf
 exact h
theorem fs0_fok : FOk fs0 0 0 := ⟨⟨by decide, by simp [fs0], by simp [fs0], by simp [fs0], by simp [fs0, kys]⟩, (by decide : -1 ≤ (-1 : Int) ∧ (-1 : Int) < 9223372036854775808), (by decide : -1 ≤ (-1 : Int) ∧ (-1 : Int) < 9223372036854775808)⟩
theorem start_fs0 (name aside b : B) (hne : name ≠ aside) : startP fs0 name aside b = (⟨[(name, ⟨b, b.length⟩)], -1, -1, false⟩, 0) := by
 have h1 : fs0.append aside b = (⟨[(aside, ⟨b, 0⟩)], -1, -1, false⟩, 0) := rfl
 have h2 : (FSt.mk [(aside, ⟨b, 0⟩)] (-1) (-1) false).sync aside = (⟨[(aside, ⟨b, b.length⟩)], -1, -1, false⟩, 0) := by
  simp [FSt.sync, FSt.may, FSt.act, lk, syncF, pt, gF, cnt]
 have h3 : (FSt.mk [(aside, ⟨b, b.length⟩)] (-1) (-1) false).rename aside name = (⟨[(name, ⟨b, b.length⟩)], -1, -1, false⟩, 0) := by
  simp [FSt.rename, FSt.may, FSt.act, lk, renF, pt, dl, gF, cnt]
 have hn : aside ∉ fs0.names := by simp [FSt.names, sortB, fs0, kys]
 unfold startP run3
 rw [if_neg hn, h1]
 simp only [h2, h3, ne_eq, not_true_eq_false, if_false]
theorem args_int {ts : List TypeId} {l : List AV} (h : Args tab 12 (3 :: ts) l) : ∃ (x : Int) (l' : List AV), l = vi x :: l' ∧ Args tab 12 ts l' := by
 obtain ⟨a, l', rfl, h1, h2⟩ := h
 obtain ⟨x, e, hx⟩ : ∃ x, [a] = [.val (.int .i64 x)] ∧ (Lit.int .i64 x).wf = true := h1
 simp only [List.cons.injEq, and_true] at e
 exact ⟨x, l', by rw [e]; rfl, h2⟩
end Go.Abs
end
section
namespace Go.Abs
open Go Go.Proofs Dig
theorem act_cases (s : FSt) (late : Bool) (g : FM → FM) : ((s.act late g).2 = 0 ∧ (s.act late g).1.fs = g s.fs) ∨ ((s.act late g).2 ≠ 0 ∧ ((s.act late g).1.fs = s.fs ∨ (late = true ∧ (s.act late g).1.fs = g s.fs))) := by
 unfold FSt.act
 split
 ·refine .inr ⟨(by decide : (7 : Int) ≠ 0), ?_⟩
  cases late
  ·exact .inl rfl
  ·exact .inr ⟨rfl, rfl⟩
 ·split
  ·exact .inr ⟨(by decide : (8 : Int) ≠ 0), .inl rfl⟩
  ·exact .inl ⟨rfl, rfl⟩
def Whole (s : FSt) (name : B) (b : B) : Prop := lk s.fs name = some ⟨b, b.length⟩
end Go.Abs
end
section
namespace Go.Abs
open Go Go.Proofs Dig
attribute [local irreducible] ibits byteAt strLt firstIdx
def logB : B := [108, 111, 103]
def newB : B := [110, 101, 119]
def is3 (v : Int) : Prop := v = 1 ∨ v = 2 ∨ v = 3
theorem cPut_any {v : Int} (hv : is3 v) (l : List Rc) (hl : l.length ≤ 1000) (hd : ∀ r ∈ l, r.deps.length < 100000) {R} (hy : (∀ r ∈ l, mayP v r = true) → R (.tup [.sl none 1 (byteEls (fileP v l)), vi 0]) []) (hn : (¬ ∀ r ∈ l, mayP v r = true) → R (.tup [.val (.slice none 0 0), vi 1]) []) :
  ACalls Tryz.prog 68 [vi v, .sl none 7 (recs l)] [] R := by
 rcases hv with rfl | rfl | rfl
 ·exact cPut_1 l hl hd hy hn
 ·exact cPut_v (.inl rfl) l hl hd hy hn
 ·exact cPut_v (.inr rfl) l hl hd hy hn
theorem cGet_any {v : Int} (hv : is3 v) (l : List Rc) (hm : ∀ r ∈ l, mayP v r = true) (hl : l.length ≤ 300) {R} (h : R (.tup [.agg (fileA v l), vi 0]) []) : ACalls Tryz.prog 78 [.sl none 1 (byteEls (fileP v l))] [] R := by
 exact cGet_v hv l hm hl h
theorem fileP_small {v : Int} {l : List Rc} (hm : ∀ r ∈ l, mayP v r = true) (hl : l.length ≤ 300) : (fileP v l).length < 1000000 := by
 have h := paysP_frames (v := v) (l := l) (t := []) (fun r hr => may_all (hm r hr)) (by simp; omega)
 rw [fileP_len]
 omega
theorem log_new : logB ≠ newB := by decide
def fsL (F : B) : FSt := ⟨[(logB, ⟨F, F.length⟩)], -1, -1, false⟩
theorem fsL_whole (F : B) : Whole (fsL F) logB F := by simp [Whole, fsL, lk]
def moreP (v : Int) (l : List Rc) (r : Rc) : B := framesP (payP v (tblL v [] l) r)
theorem fileP_snoc (v : Int) (l : List Rc) (r : Rc) : fileP v (l ++ [r]) = fileP v l ++ moreP v l r := by
 unfold fileP moreP
 rw [paysP_append, framesP_append, List.append_assoc]
 simp [paysP]
theorem endsR_snoc (v : Int) (l : List Rc) (r : Rc) : endsR v (l ++ [r]) = endsR v l ++ [(fileP v (l ++ [r])).length] := by
 unfold endsR
 rw [List.length_append, List.length_singleton, List.range_succ, List.map_append]
 congr 1
 ·refine List.map_congr_left fun i hi => ?_
  have hi := List.mem_range.1 hi
  rw [List.take_append_of_le_length (by omega)]
 ·rw [List.map_singleton, show l.length + 1 = (l ++ [r]).length by simp, List.take_length]
theorem ints_snoc (l : List Nat) (n : Nat) : ints (l ++ [n]) = ints l ++ [[vi (n : Int)]] := by simp [ints]
theorem r9Put_any {v : Int} (hv : is3 v) (t : List B) (ht : t.length < 80000) (r : Rc) (hm : mayP v r = true) {R} (h : R (.tup [.sl none 1 (strs (payP v t r)), .sl none 1 (strs (addT v t r)), vi 0]) []) : ACalls Tryz.prog 159 [vi v, .sl none 1 (strs t), .agg r.enc] [] R := by
 rcases hv with rfl | rfl | rfl
 ·exact r9Put_1 t ht r hm h
 ·exact r9Put_2 t ht r hm h
 ·exact r9Put_3 t ht r hm h
theorem fileP_snoc_take {v : Int} {l : List Rc} {i : Nat} (hi : i < l.length) : fileP v (l.take (i + 1)) = fileP v (l.take i) ++ framesP (payP v (tbP v l i) l[i]) := by
 rw [List.take_succ_eq_append_getElem hi, fileP_snoc]
 rfl
theorem ref10Put_calls {v : Int} (hv : is3 v) (l : List Rc) (hl : l.length ≤ 300) (hm : ∀ r ∈ l, mayP v r = true) {R} (h : R (.tup [vs (fileP v l), .sl none 1 (ints (endsR v l)), vi 0]) []) : ACalls Tryz.prog 82 [vi v, .sl none 7 (recs l)] [] R := by
 refine acalls_of_xwp (an := an82) tab_ok Tryz.func82 ?_
 have hsl := recs_length l
 have hmt : ∀ i, ∀ r ∈ l.take i, mayP v r = true := fun i r hr => hm r (List.mem_of_mem_take hr)
 have hfl : ∀ i, (fileP v (l.take i)).length < 1000000 := fun i => fileP_small (hmt i) (by rw [List.length_take]; omega)
 conv => whnf
 refine ref6Head_calls (by unfold is3 at hv; omega) (by unfold is3 at hv; omega) ?_
 conv => whnf
 refine LoopP.ind3 (fun (i : Nat) (X : B) (E : List Nat) => [(7, vs X), (9, .sl (some (nameOf 23)) 1 (ints E)), (10, .sl none 1 (strs (tbP v l i))), (11, vi i)]) (fun i X E => [(nameOf 23, .row 3 1 i)]) (fun i _ _ => l.length - i) (fun i X E => i ≤ l.length ∧ X = fileP v (l.take i) ∧ E = endsR v (l.take i)) 0 (headP v) [] rfl ⟨by omega, by simp [fileP, paysP, framesP], rfl⟩ ?_
 rintro i X E ⟨h0, hX, hE⟩ IH
 have hEl : (ints E).length = i := by rw [ints_length, hE, endsR_length, List.length_take]; omega
 have hXl : X.length < 1000000 := by rw [hX]; exact hfl i
 conv => whnf
 refine br_intro (fun hc => ?_) (fun hc => ?_)
 ·have hi := lt_of_decE hsl hc
  have hTl := tbP_len (by omega) (hmt i)
  have hmi := hm _ (List.getElem_mem hi)
  have hXS := fileP_snoc_take (v := v) hi
  have hES : endsR v (l.take (i + 1)) = endsR v (l.take i) ++ [(fileP v (l.take (i + 1))).length] := by
   rw [List.take_succ_eq_append_getElem hi, endsR_snoc]
  have hTS : tbP v l (i + 1) = addT v (tbP v l i) l[i] := tbP_succ hi
  have IH := IH (i + 1) _ _ ⟨hi, rfl, rfl⟩ (by omega)
  have hfl1 := hfl (i + 1)
  rw [hES, ints_snoc, hXS, ← hX, ← hE, hTS] at IH
  rw [hXS, ← hX, List.length_append] at hfl1
  (conv => whnf); (repeat ((with_reducible refine must_intro ?_ ?_); exact decide_eq_true (by omega); (conv => whnf)))
  refine idxK_map_intro (show (i : Int).toNat < l.length by simpa using hi) ?_
  rw [show l[(i : Int).toNat]'(by simpa using hi) = l[i] from by congr 1]
  generalize l[i] = r at IH hmi hfl1 ⊢
  generalize tbP v l i = T at IH hTl hfl1 ⊢
  have hpl := payP_lens (t := T) (may_all hmi) (by omega)
  conv => whnf
  refine r9Put_any hv T (by omega) r hmi ?_
  have hpc := payP_len (v := v) (t := T) (may_all hmi).deps
  generalize payP v T r = ps at IH hpl hfl1 hpc ⊢
  have hpsl := strs_length ps
  conv => whnf
  refine LoopP.ind2 (fun (k : Nat) (Y : B) => [(7, vs Y), (15, vi k)]) (fun k Y => [(nameOf 23, .row 3 1 i)]) (fun k _ => ps.length - k) (fun k Y => k ≤ ps.length ∧ Y = X ++ framesP (ps.take k)) 0 X rfl ⟨by omega, by simp [framesP]⟩ ?_
  rintro k Y ⟨k0, hY⟩ IH2
  have hpt := framesP_part ps k
  have hYl : Y.length < 1000000 := by rw [hY, List.length_append]; omega
  conv => whnf
  refine br_intro (fun hk => ?_) (fun hk => ?_)
  ·have hk := lt_of_decE hpsl hk
   have hp := hpl _ (List.getElem_mem hk)
   have hYS : Y ++ frameP ps[k] = X ++ framesP (ps.take (k + 1)) := by
    rw [hY, List.take_succ_eq_append_getElem hk, framesP_snoc, List.append_assoc]
   have IH2 := IH2 (k + 1) _ ⟨hk, hYS⟩ (by omega)
   (conv => whnf); (repeat ((with_reducible refine must_intro ?_ ?_); exact decide_eq_true (by omega); (conv => whnf)))
   refine idxK_map_intro (show (k : Int).toNat < ps.length by simpa using hk) ?_
   rw [show ps[(k : Int).toNat]'(by simpa using hk) = ps[k] from by congr 1]
   generalize ps[k] = p at hp IH2 ⊢
   have hfp := frameP_len hp.2
   conv => whnf
   refine ref6Put_calls p hp.1 hp.2 ?_
   conv => whnf
   refine must_intro (decide_eq_true (by rw [size_ofB, size_ofB]; omega)) ?_
   rw [ofB_append]
   conv => whnf
   rw [i64_nat (by omega)]
   exact IH2
  ·have hk := ge_of_decE hpsl hk
   rw [List.take_of_length_le hk] at hY
   clear IH2
   subst hY
   conv => whnf
   rw [size_ofB]
   refine ⟨hEl.symm, by rw [hEl, bytes_int]; simp only [List.length_cons, List.length_nil]; omega, ?_⟩
   conv => whnf
   rw [i64_nat (by omega), hEl]
   exact IH
 ·have hi := ge_of_decE hsl hc
  rw [List.take_of_length_le hi] at hX hE
  subst hX hE
  conv => whnf
  exact h
theorem rpt_len (m : FM) (n : B) (f : Fl) : (rpt m n f).length ≤ m.length + 1 := by
 have h := List.length_filter_le (fun p : B × Fl => decide (p.1 ≠ n)) m
 have hc := cutK_le n (wF m n) (wF m n).length
 unfold rpt
 simp only [List.length_append, List.length_take, List.length_cons, List.length_drop]
 unfold wF at hc ⊢
 omega
theorem rpt_mem {m : FM} {n : B} {f : Fl} {p : B × Fl} (h : p ∈ rpt m n f) : p = (n, f) ∨ (p ∈ m ∧ p.1 ≠ n) := by
 have hw : ∀ q, q ∈ wF m n → q ∈ m ∧ q.1 ≠ n := fun q hq => by
  have := List.mem_filter.1 hq
  exact ⟨this.1, by simpa using this.2⟩
 unfold rpt at h
 rcases List.mem_append.1 h with h | h
 ·exact .inr (hw p (List.mem_of_mem_take h))
 ·rcases List.mem_cons.1 h with h | h
  ·exact .inl h
  ·exact .inr (hw p (List.mem_of_mem_drop h))
theorem ROk.act {s : FSt} (h : ROk s) (late : Bool) {g : FM → FM} (h1 : (g s.fs).length < 900000) (h2 : ∀ x ∈ kys (g s.fs), x.length < 1000000) : ROk (s.act late g).1 := by
 unfold FSt.act
 split
 ·cases late
  ·exact ⟨h.len, h.names, cnt_ok h.fail, cnt_ok h.fall⟩
  ·exact ⟨h1, h2, cnt_ok h.fail, cnt_ok h.fall⟩
 ·split
  ·exact ⟨h.len, h.names, cnt_ok h.fail, cnt_ok h.fall⟩
  ·exact ⟨h1, h2, cnt_ok h.fail, cnt_ok h.fall⟩
theorem rpt_names {m : FM} (h : ∀ x ∈ kys m, x.length < 1000000) {n : B} (hn : n.length < 1000000) (f : Fl) : ∀ x ∈ kys (rpt m n f), x.length < 1000000 := fun x hx => by
 obtain ⟨p, hp, rfl⟩ := List.mem_map.1 hx
 rcases rpt_mem hp with e | ⟨e, _⟩
 ·rw [e]; exact hn
 ·exact h _ (List.mem_map_of_mem e)
theorem wF_names {m : FM} (h : ∀ x ∈ kys m, x.length < 1000000) (n : B) : ∀ x ∈ kys (wF m n), x.length < 1000000 := fun x hx => by
 obtain ⟨p, hp, rfl⟩ := List.mem_map.1 hx
 exact h p.1 (List.mem_map_of_mem (List.mem_filter.1 hp).1)
theorem ROk.append {s : FSt} (h : ROk s) (hl : s.fs.length < 800000) {n : B} (hn : n.length < 1000000) (b : B) : ROk (s.rappend n b).1 ∧ (s.rappend n b).1.fs.length ≤ s.fs.length + 1 := by
 have hr := rpt_len s.fs n ⟨(gF s.fs n).b ++ b, (gF s.fs n).safe⟩
 unfold FSt.rappend
 split
 ·exact ⟨h, by show s.fs.length ≤ _; omega⟩
 ·refine ⟨h.act true (by show (rpt _ _ _).length < _; omega) (rpt_names h.names hn _), ?_⟩
  unfold FSt.act
  split
  ·exact hr
  ·split
   ·show s.fs.length ≤ _; omega
   ·exact hr
theorem ROk.sync {s : FSt} (h : ROk s) (hl : s.fs.length < 800000) {n : B} (hn : n.length < 1000000) : ROk (s.rsync n).1 := by
 have hr := rpt_len s.fs n ⟨(gF s.fs n).b, (gF s.fs n).b.length⟩
 unfold FSt.rsync
 split
 ·exact h
 ·exact h.act false (by show (rpt _ _ _).length < _; omega) (rpt_names h.names hn _)
theorem ROk.remove {s : FSt} (h : ROk s) (n : B) : ROk (s.rremove n).1 ∧ (s.rremove n).1.fs.length ≤ s.fs.length := by
 have hw : (wF s.fs n).length ≤ s.fs.length := List.length_filter_le _ _
 unfold FSt.rremove
 split
 ·exact ⟨h, Nat.le_refl _⟩
 ·have := h.len
  refine ⟨h.act false (by show (wF _ _).length < _; omega) (wF_names h.names n), ?_⟩
  unfold FSt.act
  split
  ·exact Nat.le_refl _
  ·split
   ·exact Nat.le_refl _
   ·exact hw
def rrun3 (s : FSt) (log new b : B) : FSt × Int :=
 if (s.rappend new b).2 ≠ 0 then s.rappend new b
 else if ((s.rappend new b).1.rsync new).2 ≠ 0 then (s.rappend new b).1.rsync new
 else ((s.rappend new b).1.rsync new).1.rrename new log
def rstart (s : FSt) (log new b : B) : FSt × Int :=
 if new ∈ kys s.fs then (if (s.rremove new).2 ≠ 0 then s.rremove new else rrun3 (s.rremove new).1 log new b) else rrun3 s log new b
theorem wF_none (m : FM) (n : B) : n ∉ kys (wF m n) := fun h => by
 obtain ⟨p, hp, e⟩ := List.mem_map.1 h
 have := (List.mem_filter.1 hp).2
 simp [e] at this
theorem rremove_gone {s : FSt} {n : B} (h : (s.rremove n).2 = 0) : gF (s.rremove n).1.fs n = flZ := by
 unfold FSt.rremove at h ⊢
 split
 ·rename_i hm
  rw [if_pos hm] at h
  exact absurd h hm
 ·rename_i hm
  rw [if_neg hm] at h
  rcases act_cases s false (fun m => wF m n) with ⟨_, f⟩ | ⟨e, _⟩
  ·rw [f]
   unfold gF
   rw [lk_none.2 (wF_none _ _)]
   rfl
  ·exact absurd h e
theorem rStart_calls (s : FSt) (hs : ROk s) (hsl : s.fs.length < 700000) (name aside : B) (hne : name ≠ aside) (hn : name.length < 1000000) (ha : aside.length < 1000000) (hba : (gF s.fs aside).b.length < 100000000) {v : Int} (hv : is3 v) (l : List Rc) (hl : l.length ≤ 300) (hm : ∀ r ∈ l, mayP v r = true) {R}
  (h : R (.tup [.agg (fsR (rstart s name aside (fileP v l)).1), vi (rstart s name aside (fileP v l)).2]) []) : ACalls Tryz.prog 37 [.agg (fsR s), vs name, vs aside, vi v, .sl none 7 (recs l)] [] R := by
 refine acalls_of_xwp (an := an37) tab_ok Tryz.func37 ?_
 have hfl := fileP_small hm hl
 conv => whnf
 refine ref10Put_calls hv l hl hm ?_
 generalize fileP v l = b at h hfl ⊢
 conv => whnf
 refine br_false (decide_eq_false (fun e => hne (ofB_inj e))) ?_
 conv => whnf
 refine rGet_calls s (by omega) aside ?_
 unfold rstart at h
 by_cases hin : aside ∈ kys s.fs
 ·rw [if_pos hin] at h
  rw [decide_eq_true hin]
  conv => whnf
  refine rRemove_calls s hs aside ?_
  have hs1 := (hs.remove aside).1
  have hl1 := (hs.remove aside).2
  have hg : (s.rremove aside).2 = 0 → (gF (s.rremove aside).1.fs aside).b.length < 100000000 := fun e => by rw [rremove_gone e]; show 0 < _; decide
  generalize s.rremove aside = se at h hs1 hl1 hg ⊢
  obtain ⟨s1, e1⟩ := se
  by_cases g1 : e1 = 0
  ·subst g1
   rw [if_neg (by simp)] at h
   have hba : (gF s1.fs aside).b.length < 100000000 := hg rfl
   have hs1 : ROk s1 := hs1
   have hl1 : s1.fs.length ≤ s.fs.length := hl1
   have hsl1 : s1.fs.length < 750000 := by omega
   clear hg hl1
   conv => whnf
   refine rAppend_calls s1 hs1 aside b ha (by omega) ?_
   have hz1 := (hs1.append (by omega) ha b).1
   have hzl1 := (hs1.append (by omega) ha b).2
   unfold rrun3 at h
   generalize s1.rappend aside b = se at h hz1 hzl1 ⊢
   obtain ⟨t1, e1⟩ := se
   by_cases g1 : e1 = 0
   ·subst g1
    rw [if_neg (by simp)] at h
    conv => whnf
    refine rSync_calls t1 hz1 aside ha ?_
    have hs2 := hz1.sync (by show t1.fs.length < _; have hzl1 : t1.fs.length ≤ s1.fs.length + 1 := hzl1; omega) ha
    generalize t1.rsync aside = se at h hs2 ⊢
    obtain ⟨t2, e2⟩ := se
    by_cases g2 : e2 = 0
    ·subst g2
     rw [if_neg (by simp)] at h
     conv => whnf
     refine rRename_calls t2 hs2 aside name ha hn ?_
     generalize t2.rrename aside name = se at h ⊢
     obtain ⟨t3, e3⟩ := se
     conv => whnf
     exact h
    ·rw [if_pos g2] at h
     conv => whnf
     refine br_false (by simpa using g2) ?_
     conv => whnf
     exact h
   ·rw [if_pos g1] at h
    conv => whnf
    refine br_false (by simpa using g1) ?_
    conv => whnf
    refine br_false (by simpa using g1) ?_
    conv => whnf
    exact h
  ·rw [if_pos g1] at h
   conv => whnf
   refine br_false (by simpa using g1) ?_
   conv => whnf
   refine br_false (by simpa using g1) ?_
   conv => whnf
   refine br_false (by simpa using g1) ?_
   conv => whnf
   exact h
 ·rw [if_neg hin] at h
  rw [decide_eq_false hin]
  have hsl : s.fs.length < 750000 := by omega
  conv => whnf
  refine rAppend_calls s hs aside b ha (by omega) ?_
  have hs1 := (hs.append (by omega) ha b).1
  have hl1 := (hs.append (by omega) ha b).2
  unfold rrun3 at h
  generalize s.rappend aside b = se at h hs1 hl1 ⊢
  obtain ⟨t1, e1⟩ := se
  by_cases g1 : e1 = 0
  ·subst g1
   rw [if_neg (by simp)] at h
   conv => whnf
   refine rSync_calls t1 hs1 aside ha ?_
   have hs2 := hs1.sync (by show t1.fs.length < _; have hl1 : t1.fs.length ≤ s.fs.length + 1 := hl1; omega) ha
   generalize t1.rsync aside = se at h hs2 ⊢
   obtain ⟨t2, e2⟩ := se
   by_cases g2 : e2 = 0
   ·subst g2
    rw [if_neg (by simp)] at h
    conv => whnf
    refine rRename_calls t2 hs2 aside name ha hn ?_
    generalize t2.rrename aside name = se at h ⊢
    obtain ⟨t3, e3⟩ := se
    conv => whnf
    exact h
   ·rw [if_pos g2] at h
    conv => whnf
    refine br_false (by simpa using g2) ?_
    conv => whnf
    exact h
  ·rw [if_pos g1] at h
   conv => whnf
   refine br_false (by simpa using g1) ?_
   conv => whnf
   refine br_false (by simpa using g1) ?_
   conv => whnf
   exact h
theorem ref6Version_calls {v : Int} (hv : is3 v) (rest : B) (hl : rest.length < 10000000) {R} (h : R (.tup [vi v, vi 0]) []) : ACalls Tryz.prog 162 [vs (headP v ++ rest)] [] R := by
 refine acalls_of_xwp (an := an162) tab_ok Tryz.func162 ?_
 obtain ⟨b, hb⟩ : ∃ b, b = headP v ++ rest := ⟨_, rfl⟩
 have hbl : b.length = 8 + rest.length := by rw [hb, List.length_append]; rfl
 have h3 : b.take 3 = [84, 80, 72] := by rw [hb]; rfl
 have h4 : b.take 4 = lettersB v := by rw [hb]; rfl
 have h8 : (b.drop 4).take 4 = w4 (Crc.sum (lettersB v)).toNat := by rw [hb]; rfl
 have hsz := size_ofB b
 rw [← hb]
 clear hb
 conv => whnf
 refine br_false (decide_eq_false (by omega)) ?_
 conv => whnf
 refine must_intro (decide_eq_true (by omega)) ?_
 conv => whnf
 have x3 : (ofB b).extract ((0 : Nat) : Int).toNat (Int.toNat 3) = ⟨#[84, 80, 72]⟩ := by
  rw [ofB_extract]
  show ofB ((b.take 3).drop 0) = _
  rw [h3]
  rfl
 have x4 : (ofB b).extract ((0 : Nat) : Int).toNat (Int.toNat 4) = ofB (lettersB v) := by
  rw [ofB_extract]
  show ofB ((b.take 4).drop 0) = _
  rw [h4]
  rfl
 have x8 : (ofB b).extract (Int.toNat 4) (Int.toNat 8) = ofB (w4 (Crc.sum (lettersB v)).toNat) := by
  rw [ofB_extract]
  show ofB ((b.take 8).drop 4) = _
  rw [List.drop_take, h8]
 have xb : byteAt (ofB b) (Int.toNat 3) = v := by
  have h3l : 3 < b.length := by omega
  have e : b[3] = UInt8.ofNat v.toNat := by
   have := List.getElem_of_eq h4 (i := 3) (by rw [List.length_take]; omega)
   rw [List.getElem_take] at this
   exact this
  show byteAt (ofB b) 3 = v
  rw [byteAt_ofB b h3l, e, u8_nat (by unfold is3 at hv; omega)]
  unfold is3 at hv
  omega
 refine br_false (by rw [x3]; simp) ?_
 conv => whnf
 refine must_intro (decide_eq_true (by omega)) ?_
 conv => whnf
 rw [x4]
 refine refSum_calls (lettersB v) (by show 4 < _; decide) ?_
 conv => whnf
 refine ref3Bytes_calls _ ?_
 conv => whnf
 refine must_intro (decide_eq_true (by omega)) ?_
 conv => whnf
 rw [x8]
 refine br_false (by simp) ?_
 conv => whnf
 refine must_intro (decide_eq_true (by omega)) ?_
 conv => whnf
 rw [xb]
 refine br_false (decide_eq_false (by unfold is3 at hv; omega)) ?_
 conv => whnf
 refine must_intro (decide_eq_true (by omega)) ?_
 conv => whnf
 rw [xb]
 refine br_false (decide_eq_false (by unfold is3 at hv; omega)) ?_
 conv => whnf
 refine must_intro (decide_eq_true (by omega)) ?_
 conv => whnf
 rw [xb, wrap_i64 (by unfold is3 at hv; omega) (by unfold is3 at hv; omega)]
 exact h
theorem ref6GetEnd_calls (b : B) (hb : b.length < 100000000) {R} (h : R (.tup [vs [], vi 0, vi 6]) []) : ACalls Tryz.prog 214 [vs b, vi (b.length : Int)] [] R := by
 refine acalls_of_xwp (an := an214) tab_ok Tryz.func214 ?_
 have hsz := size_ofB b
 conv => whnf
 refine br_false (decide_eq_false (by omega)) ?_
 conv => whnf
 refine br_true (by rw [hsz]; simp) ?_
 conv => whnf
 exact h
theorem ref6Run_calls (b : B) (hb : b.length < 100000000) {R} (h : R (.tup [.sl none 1 (strs []), .sl none 1 []]) []) : ACalls Tryz.prog 163 [vs b, vi (b.length : Int)] [] R := by
 refine acalls_of_xwp (an := an163) tab_ok Tryz.func163 ?_
 conv => whnf
 refine LoopP.step ?_
 conv => whnf
 refine ref6GetEnd_calls b hb ?_
 conv => whnf
 exact h
theorem ref9GetEnd_calls {v : Int} (hv : is3 v) {R} (h : R (.tup [.agg (Rc.enc ⟨0, [], 0, [], 0, 0, []⟩), vi 0, .sl none 1 [], vi 6]) []) : ACalls Tryz.prog 164 [vi v, .sl none 1 [], .sl none 1 [], vi 0] [] R := by
 refine ACalls.res ?_
 refine acalls_of_xwp (an := an164) tab_ok Tryz.func164 ?_
 conv => whnf
 refine br_false (decide_eq_false (by unfold is3 at hv; omega)) ?_
 conv => whnf
 refine br_false (decide_eq_false (by unfold is3 at hv; omega)) ?_
 conv => whnf
 refine LoopP.step ?_
 conv => whnf
 exact res_le (le_tup (leL.cons (le_agg (le_rec2 0 [] 0 0 0 [])) (leL.refl _))) rfl h
theorem ref10GetHead_calls {v : Int} (hv : is3 v) {R} (h : R (.tup [.agg (fileA v []), vi 0]) []) : ACalls Tryz.prog 86 [vs (fileP v [])] [] R := by
 refine ACalls.res ?_
 refine acalls_of_xwp (an := an86) tab_ok Tryz.func86 ?_
 have hf : fileP v [] = headP v ++ [] := by simp [fileP, paysP, framesP]
 have hl : (headP v ++ []).length = 8 := by rw [List.append_nil]; rfl
 rw [hf]
 obtain ⟨b, hb⟩ : ∃ b, b = headP v ++ [] := ⟨_, rfl⟩
 have hver := fun R hR => ref6Version_calls hv [] (by simp) (R := R) hR
 rw [← hb] at hl hver ⊢
 have hrun := fun R hR => ref6Run_calls b (by omega) (R := R) hR
 rw [hl] at hrun
 conv => whnf
 refine hver _ ?_
 conv => whnf
 refine hrun _ ?_
 conv => whnf
 refine LoopP.step ?_
 conv => whnf
 refine ref9GetEnd_calls hv ?_
 conv => whnf
 refine res_le (le_tup (leL.cons (le_agg (leL.cons (.refl _) (leL.cons (le_nil 7) (leL.cons (le_nil 1) (leL.refl _))))) (leL.refl _))) rfl ?_
 have hA : fileA v [] = [vi v, .sl none 7 [], .sl none 1 [], vi 8] := by
  unfold fileA
  rw [hf, ← hb, hl]
  rfl
 rw [hA] at h
 exact h
theorem rOpen_calls (s : FSt) (hl : s.fs.length < 900000) (name : B) {v : Int} (l : List Rc) (hin : name ∈ kys s.fs) (hb : (gF s.fs name).b = fileP v l) (hget : ∀ {R : AV → List AObj → Prop}, R (.tup [.agg (fileA v l), vi 0]) [] → ACalls Tryz.prog 86 [vs (fileP v l)] [] R) {R}
  (h : R (.tup [.agg (fsR s), .agg (fileA v l), vi 0]) []) : ACalls Tryz.prog 38 [.agg (fsR s), vs name] [] R := by
 refine acalls_of_xwp (an := { an38 with cst := [2] }) tab_ok Tryz.func38 ?_
 conv => whnf
 refine rGet_calls s (by omega) name ?_
 rw [decide_eq_true hin]
 unfold flE
 rw [hb]
 conv => whnf
 refine hget ?_
 conv => whnf
 refine br_false (decide_eq_false (by rw [size_ofB]; omega)) ?_
 conv => whnf
 exact h
theorem framesP_cons (p : B) (P : List B) : framesP (p :: P) = frameP p ++ framesP P := rfl
theorem cut_frames : ∀ (P : List B) (m : Nat), (∀ p ∈ P, 1 ≤ p.length ∧ p.length ≤ 2048) → m ≤ (framesP P).length →
  ∃ (c : Nat) (t : B), c ≤ P.length ∧ (framesP P).take m = framesP (P.take c) ++ t ∧ EndAt t ∧ t.length < 3000 ∧ (c < P.length → m < (framesP (P.take (c + 1))).length) := by
 intro P
 induction P with
 | nil =>
  intro m _ hm
  exact ⟨0, [], by simp, by simp [framesP], .inl rfl, by simp, fun h => by simp at h⟩
 | cons p P ih =>
  intro m hP hm
  have hp := hP p List.mem_cons_self
  have hfl := frameP_len hp.2
  rw [framesP_cons] at hm ⊢
  by_cases hlt : m < (frameP p).length
  ·refine ⟨0, (frameP p).take m, by simp, ?_, ?_, by rw [List.length_take]; omega, fun _ => ?_⟩
   ·rw [List.take_append_of_le_length (by omega)]
    simp [framesP]
   ·by_cases h0 : m = 0
    ·exact .inl (by rw [h0]; rfl)
    ·exact .inr ⟨p, m, hp.1, hp.2, by omega, hlt, rfl⟩
   ·rw [List.take_succ_cons, List.take_zero, framesP_cons, List.length_append]
    omega
  ·obtain ⟨m', rfl⟩ : ∃ m', m = (frameP p).length + m' := ⟨m - (frameP p).length, by omega⟩
   rw [List.length_append] at hm
   obtain ⟨c, t, h1, h2, h3, h4, h5⟩ := ih m' (fun q hq => hP q (List.mem_cons_of_mem _ hq)) (by omega)
   refine ⟨c + 1, t, by simpa using h1, ?_, h3, h4, fun h => ?_⟩
   ·rw [List.take_length_add_append, h2, List.take_succ_cons, framesP_cons, List.append_assoc]
   ·rw [List.take_succ_cons, framesP_cons, List.length_append]
    have := h5 (by simpa using h)
    omega
theorem cut_recs {v : Int} (hv : v ≠ 1) : ∀ (l : List Rc) (T : List B) (c : Nat), (∀ r ∈ l, MayR v r) → c ≤ (paysP v T l).length →
  ∃ (j : Nat) (ms : List B), j ≤ l.length ∧ (paysP v T l).take c = paysP v T (l.take j) ++ ms.map defP ∧ ms.length < 100 ∧ (∀ m ∈ ms, m.length ≤ 64) ∧ ∀ i, i ≤ l.length → (paysP v T (l.take i)).length ≤ c → i ≤ j := by
 intro l
 induction l with
 | nil =>
  intro T c _ hc
  exact ⟨0, [], by simp, by simp [paysP], by simp, by simp, fun i hi _ => by simpa using hi⟩
 | cons r l ih =>
  intro T c hM hc
  have hMr := hM r List.mem_cons_self
  have hd := hMr.deps
  rw [paysP] at hc ⊢
  by_cases hlt : c < (payP v T r).length
  ·have hnl := news_len (namesR r) T
   have hnr := namesR_len r
   have hpp : payP v T r = (newsP T (namesR r)).map defP ++ [lastW v (addT v T r) r] := by
    unfold payP defsP
    rw [if_neg hv]
   have hcl : c ≤ (newsP T (namesR r)).length := by
    rw [hpp] at hlt
    simp at hlt
    omega
   refine ⟨0, (newsP T (namesR r)).take c, by simp, ?_, by rw [List.length_take]; omega, ?_, fun i hi hle => ?_⟩
   ·rw [List.take_append_of_le_length (by omega), hpp, List.take_append_of_le_length (by simpa using hcl)]
    simp [paysP, List.map_take]
   ·intro m hm
    have h1 := news_sub (namesR r) T m (List.mem_of_mem_take hm)
    have h2 : m ∈ textsR r := tblN_mem.1 h1
    exact (textsR_lens hMr m h2).2
   ·cases i with
    | zero => omega
    | succ i =>
     exfalso
     rw [List.take_succ_cons, paysP, List.length_append] at hle
     omega
  ·obtain ⟨c', rfl⟩ : ∃ c', c = (payP v T r).length + c' := ⟨c - (payP v T r).length, by omega⟩
   rw [List.length_append] at hc
   obtain ⟨j, ms, h1, h2, h3, h4, h5⟩ := ih (addT v T r) c' (fun q hq => hM q (List.mem_cons_of_mem _ hq)) (by omega)
   refine ⟨j + 1, ms, by simpa using h1, ?_, h3, h4, fun i hi hle => ?_⟩
   ·rw [List.take_length_add_append, h2, List.take_succ_cons, paysP, List.append_assoc]
   ·cases i with
    | zero => omega
    | succ i =>
     rw [List.take_succ_cons, paysP, List.length_append] at hle
     have := h5 i (by simpa using hi) (by omega)
     omega
theorem cut_file {v : Int} (hv : v ≠ 1) {l : List Rc} (hm : ∀ r ∈ l, mayP v r = true) (hl : l.length ≤ 300) {m : Nat} (h8 : 8 ≤ m) (hle : m ≤ (fileP v l).length) :
  ∃ (j : Nat) (ms : List B) (t : B), j ≤ l.length ∧ (fileP v l).take m = fileP v (l.take j) ++ framesP (ms.map defP) ++ t ∧ ms.length < 100 ∧ (∀ m ∈ ms, m.length ≤ 64) ∧ EndAt t ∧ t.length < 3000 ∧ ∀ i, i ≤ l.length → (fileP v (l.take i)).length ≤ m → i ≤ j := by
 have hM : ∀ r ∈ l, MayR v r := fun r hr => may_all (hm r hr)
 have hlens := paysP_lens (v := v) (l := l) (t := []) hM (by simp; omega)
 obtain ⟨m', rfl⟩ : ∃ m', m = 8 + m' := ⟨m - 8, by omega⟩
 rw [fileP_len] at hle
 obtain ⟨c, t, c1, c2, c3, c4, c5⟩ := cut_frames (paysP v [] l) m' hlens (by omega)
 obtain ⟨j, ms, j1, j2, j3, j4, j5⟩ := cut_recs hv l [] c hM c1
 refine ⟨j, ms, t, j1, ?_, j3, j4, c3, c4, fun i hi hil => j5 i hi ?_⟩
 ·unfold fileP
  rw [show 8 + m' = (headP v).length + m' from by rw [headP_length], List.take_length_add_append, c2, j2, framesP_append]
  simp only [List.append_assoc]
 ·refine Nat.le_of_not_lt fun hlt => ?_
  have e : paysP v [] l = paysP v [] (l.take i) ++ paysP v (tblL v [] (l.take i)) (l.drop i) := by rw [← paysP_append, List.take_append_drop]
  have hlen : (paysP v [] (l.take i)).length ≤ (paysP v [] l).length := by rw [e, List.length_append]; omega
  have h1 := c5 (by omega)
  have h2 : (paysP v [] l).take (c + 1) = (paysP v [] (l.take i)).take (c + 1) := by
   rw [e, List.take_append_of_le_length (by omega)]
  rw [h2] at h1
  have h3 := framesP_part (paysP v [] (l.take i)) (c + 1)
  rw [fileP_len] at hil
  omega
end Go.Abs
end
