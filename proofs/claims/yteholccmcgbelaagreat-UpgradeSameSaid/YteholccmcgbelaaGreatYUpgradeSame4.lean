/- Several texts of this claim, one behind the other: UE, UI, UJ, UK, PL, PM, PO, SA, SB, SC, SD, SE, TA, TB, TC, UL, UM, TD, TE, TF, H6, UN, HC, UO, UP, UQ. -/
import Derived.Test.YteholccmcgbelaaGreatYUpgradeSame3
set_option maxRecDepth 100000
set_option maxHeartbeats 4000000
set_option linter.unusedVariables false
set_option linter.unusedSimpArgs false
section
namespace Go.Abs
open Go Go.Proofs Dig
attribute [local irreducible] ibits byteAt strLt firstIdx
theorem r9Put_any {v : Int} (hv : is3 v) (t : List B) (ht : t.length < 80000) (r : Rc) (hm : mayP v r = true) {R} (h : R (.tup [.sl none 1 (strs (payP v t r)), .sl none 1 (strs (addT v t r)), vi 0]) []) : ACalls Tryz.prog 127 [vi v, .sl none 1 (strs t), .agg r.enc] [] R := by
 rcases hv with rfl | rfl | rfl
 ·exact r9Put_1 t ht r hm h
 ·exact r9Put_2 t ht r hm h
 ·exact r9Put_3 t ht r hm h
theorem fileP_snoc_take {v : Int} {l : List Rc} {i : Nat} (hi : i < l.length) : fileP v (l.take (i + 1)) = fileP v (l.take i) ++ framesP (payP v (tbP v l i) l[i]) := by
 rw [List.take_succ_eq_append_getElem hi, fileP_snoc]
 rfl
theorem ref10Put_calls {v : Int} (hv : is3 v) (l : List Rc) (hl : l.length ≤ 300) (hm : ∀ r ∈ l, mayP v r = true) {R} (h : R (.tup [vs (fileP v l), .sl none 1 (ints (endsR v l)), vi 0]) []) : ACalls Tryz.prog 84 [vi v, .sl none 7 (recs l)] [] R := by
 refine acalls_of_xwp (an := an84) tab_ok Tryz.func84 ?_
 have hsl := recs_length l
 have hmt : ∀ i, ∀ r ∈ l.take i, mayP v r = true := fun i r hr => hm r (List.mem_of_mem_take hr)
 have hfl : ∀ i, (fileP v (l.take i)).length < 1000000 := fun i => fileP_small (hmt i) (by rw [List.length_take]; omega)
 conv => whnf
 refine ref6Head_calls (by unfold is3 at hv; omega) (by unfold is3 at hv; omega) ?_
 conv => whnf
 refine LoopP.ind3 (fun (i : Nat) (X : B) (E : List Nat) => [(7, vs X), (9, .sl (some (nameOf 23)) 1 (ints E)), (10, .sl none 1 (strs (tbP v l i))), (11, vi i)]) (fun i X E => [(nameOf 23, .row 3 1 i)]) (fun i _ _ => l.length - i) (fun i X E => i ≤ l.length ∧ X = fileP v (l.take i) ∧ E = endsR v (l.take i)) 0 (headP v) [] rfl ⟨by omega, by simp [fileP, paysP, framesP], rfl⟩ ?_
 rintro i X E ⟨h0, hX, hE⟩ IH
 have hEl : (ints E).length = i := by rw [ints_length, hE, endsR_length, List.length_take]; omega
 have hXl : X.length < 1000000 := by rw [hX]; exact hfl i
 conv => whnf
 refine br_intro (fun hc => ?_) (fun hc => ?_)
 ·have hi := lt_of_decE hsl hc
  have hTl := tbP_len (by omega) (hmt i)
  have hmi := hm _ (List.getElem_mem hi)
  have hXS := fileP_snoc_take (v := v) hi
  have hES : endsR v (l.take (i + 1)) = endsR v (l.take i) ++ [(fileP v (l.take (i + 1))).length] := by
   rw [List.take_succ_eq_append_getElem hi, endsR_snoc]
  have hTS : tbP v l (i + 1) = addT v (tbP v l i) l[i] := tbP_succ hi
  have IH := IH (i + 1) _ _ ⟨hi, rfl, rfl⟩ (by omega)
  have hfl1 := hfl (i + 1)
  rw [hES, ints_snoc, hXS, ← hX, ← hE, hTS] at IH
  rw [hXS, ← hX, List.length_append] at hfl1
  (conv => whnf); (repeat ((with_reducible refine must_intro ?_ ?_); exact decide_eq_true (by omega); (conv => whnf)))
  refine idxK_map_intro (show (i : Int).toNat < l.length by simpa using hi) ?_
  rw [show l[(i : Int).toNat]'(by simpa using hi) = l[i] from by congr 1]
  generalize l[i] = r at IH hmi hfl1 ⊢
  generalize tbP v l i = T at IH hTl hfl1 ⊢
  have hpl := payP_lens (t := T) (may_all hmi) (by omega)
  conv => whnf
  refine r9Put_any hv T (by omega) r hmi ?_
  have hpc := payP_len (v := v) (t := T) (may_all hmi).deps
  generalize payP v T r = ps at IH hpl hfl1 hpc ⊢
  have hpsl := strs_length ps
  conv => whnf
  refine LoopP.ind2 (fun (k : Nat) (Y : B) => [(7, vs Y), (15, vi k)]) (fun k Y => [(nameOf 23, .row 3 1 i)]) (fun k _ => ps.length - k) (fun k Y => k ≤ ps.length ∧ Y = X ++ framesP (ps.take k)) 0 X rfl ⟨by omega, by simp [framesP]⟩ ?_
  rintro k Y ⟨k0, hY⟩ IH2
  have hpt := framesP_part ps k
  have hYl : Y.length < 1000000 := by rw [hY, List.length_append]; omega
  conv => whnf
  refine br_intro (fun hk => ?_) (fun hk => ?_)
  ·have hk := lt_of_decE hpsl hk
   have hp := hpl _ (List.getElem_mem hk)
   have hYS : Y ++ frameP ps[k] = X ++ framesP (ps.take (k + 1)) := by
    rw [hY, List.take_succ_eq_append_getElem hk, framesP_snoc, List.append_assoc]
   have IH2 := IH2 (k + 1) _ ⟨hk, hYS⟩ (by omega)
   (conv => whnf); (repeat ((with_reducible refine must_intro ?_ ?_); exact decide_eq_true (by omega); (conv => whnf)))
   refine idxK_map_intro (show (k : Int).toNat < ps.length by simpa using hk) ?_
   rw [show ps[(k : Int).toNat]'(by simpa using hk) = ps[k] from by congr 1]
   generalize ps[k] = p at hp IH2 ⊢
   have hfp := frameP_len hp.2
   conv => whnf
   refine ref6Put_calls p hp.1 hp.2 ?_
   conv => whnf
   refine must_intro (decide_eq_true (by rw [size_ofB, size_ofB]; omega)) ?_
   rw [ofB_append]
   conv => whnf
   rw [i64_nat (by omega)]
   exact IH2
  ·have hk := ge_of_decE hpsl hk
   rw [List.take_of_length_le hk] at hY
   clear IH2
   subst hY
   conv => whnf
   rw [size_ofB]
   refine ⟨hEl.symm, by rw [hEl, bytes_int]; simp only [List.length_cons, List.length_nil]; omega, ?_⟩
   conv => whnf
   rw [i64_nat (by omega), hEl]
   exact IH
 ·have hi := ge_of_decE hsl hc
  rw [List.take_of_length_le hi] at hX hE
  subst hX hE
  conv => whnf
  exact h
theorem rpt_len (m : FM) (n : B) (f : Fl) : (rpt m n f).length ≤ m.length + 1 := by
 have h := List.length_filter_le (fun p : B × Fl => decide (p.1 ≠ n)) m
 have hc := cutK_le n (wF m n) (wF m n).length
 unfold rpt
 simp only [List.length_append, List.length_take, List.length_cons, List.length_drop]
 unfold wF at hc ⊢
 omega
theorem rpt_mem {m : FM} {n : B} {f : Fl} {p : B × Fl} (h : p ∈ rpt m n f) : p = (n, f) ∨ (p ∈ m ∧ p.1 ≠ n) := by
 have hw : ∀ q, q ∈ wF m n → q ∈ m ∧ q.1 ≠ n := fun q hq => by
  have := List.mem_filter.1 hq
  exact ⟨this.1, by simpa using this.2⟩
 unfold rpt at h
 rcases List.mem_append.1 h with h | h
 ·exact .inr (hw p (List.mem_of_mem_take h))
 ·rcases List.mem_cons.1 h with h | h
  ·exact .inl h
  ·exact .inr (hw p (List.mem_of_mem_drop h))
theorem ROk.act {s : FSt} (h : ROk s) (late : Bool) {g : FM → FM} (h1 : (g s.fs).length < 900000) (h2 : ∀ x ∈ kys (g s.fs), x.length < 1000000) : ROk (s.act late g).1 := by
 unfold FSt.act
 split
 ·cases late
  ·exact ⟨h.len, h.names, cnt_ok h.fail, cnt_ok h.fall⟩
  ·exact ⟨h1, h2, cnt_ok h.fail, cnt_ok h.fall⟩
 ·split
  ·exact ⟨h.len, h.names, cnt_ok h.fail, cnt_ok h.fall⟩
  ·exact ⟨h1, h2, cnt_ok h.fail, cnt_ok h.fall⟩
theorem rpt_names {m : FM} (h : ∀ x ∈ kys m, x.length < 1000000) {n : B} (hn : n.length < 1000000) (f : Fl) : ∀ x ∈ kys (rpt m n f), x.length < 1000000 := fun x hx => by
 obtain ⟨p, hp, rfl⟩ := List.mem_map.1 hx
 rcases rpt_mem hp with e | ⟨e, _⟩
 ·rw [e]; exact hn
 ·exact h _ (List.mem_map_of_mem e)
theorem wF_names {m : FM} (h : ∀ x ∈ kys m, x.length < 1000000) (n : B) : ∀ x ∈ kys (wF m n), x.length < 1000000 := fun x hx => by
 obtain ⟨p, hp, rfl⟩ := List.mem_map.1 hx
 exact h p.1 (List.mem_map_of_mem (List.mem_filter.1 hp).1)
theorem ROk.append {s : FSt} (h : ROk s) (hl : s.fs.length < 800000) {n : B} (hn : n.length < 1000000) (b : B) : ROk (s.rappend n b).1 ∧ (s.rappend n b).1.fs.length ≤ s.fs.length + 1 := by
 have hr := rpt_len s.fs n ⟨(gF s.fs n).b ++ b, (gF s.fs n).safe⟩
 unfold FSt.rappend
 split
 ·exact ⟨h, by show s.fs.length ≤ _; omega⟩
 ·refine ⟨h.act true (by show (rpt _ _ _).length < _; omega) (rpt_names h.names hn _), ?_⟩
  unfold FSt.act
  split
  ·exact hr
  ·split
   ·show s.fs.length ≤ _; omega
   ·exact hr
theorem ROk.sync {s : FSt} (h : ROk s) (hl : s.fs.length < 800000) {n : B} (hn : n.length < 1000000) : ROk (s.rsync n).1 := by
 have hr := rpt_len s.fs n ⟨(gF s.fs n).b, (gF s.fs n).b.length⟩
 unfold FSt.rsync
 split
 ·exact h
 ·exact h.act false (by show (rpt _ _ _).length < _; omega) (rpt_names h.names hn _)
theorem ROk.remove {s : FSt} (h : ROk s) (n : B) : ROk (s.rremove n).1 ∧ (s.rremove n).1.fs.length ≤ s.fs.length := by
 have hw : (wF s.fs n).length ≤ s.fs.length := List.length_filter_le _ _
 unfold FSt.rremove
 split
 ·exact ⟨h, Nat.le_refl _⟩
 ·have := h.len
  refine ⟨h.act false (by show (wF _ _).length < _; omega) (wF_names h.names n), ?_⟩
  unfold FSt.act
  split
  ·exact Nat.le_refl _
  ·split
   ·exact Nat.le_refl _
   ·exact hw
def rrun3 (s : FSt) (log new b : B) : FSt × Int :=
 if (s.rappend new b).2 ≠ 0 then s.rappend new b
 else if ((s.rappend new b).1.rsync new).2 ≠ 0 then (s.rappend new b).1.rsync new
 else ((s.rappend new b).1.rsync new).1.rrename new log
def rstart (s : FSt) (log new b : B) : FSt × Int :=
 if new ∈ kys s.fs then (if (s.rremove new).2 ≠ 0 then s.rremove new else rrun3 (s.rremove new).1 log new b) else rrun3 s log new b
theorem wF_none (m : FM) (n : B) : n ∉ kys (wF m n) := fun h => by
 obtain ⟨p, hp, e⟩ := List.mem_map.1 h
 have := (List.mem_filter.1 hp).2
 simp [e] at this
theorem rremove_gone {s : FSt} {n : B} (h : (s.rremove n).2 = 0) : gF (s.rremove n).1.fs n = flZ := by
 unfold FSt.rremove at h ⊢
 split
 ·rename_i hm
  rw [if_pos hm] at h
  exact absurd h hm
 ·rename_i hm
  rw [if_neg hm] at h
  rcases act_cases s false (fun m => wF m n) with ⟨_, f⟩ | ⟨e, _⟩
  ·rw [f]
   unfold gF
   rw [lk_none.2 (wF_none _ _)]
   rfl
  ·exact absurd h e
theorem rStart_calls (s : FSt) (hs : ROk s) (hsl : s.fs.length < 700000) (name aside : B) (hne : name ≠ aside) (hn : name.length < 1000000) (ha : aside.length < 1000000) (hba : (gF s.fs aside).b.length < 100000000) {v : Int} (hv : is3 v) (l : List Rc) (hl : l.length ≤ 300) (hm : ∀ r ∈ l, mayP v r = true) {R}
  (h : R (.tup [.agg (fsR (rstart s name aside (fileP v l)).1), vi (rstart s name aside (fileP v l)).2]) []) : ACalls Tryz.prog 72 [.agg (fsR s), vs name, vs aside, vi v, .sl none 7 (recs l)] [] R := by
 refine acalls_of_xwp (an := an72) tab_ok Tryz.func72 ?_
 have hfl := fileP_small hm hl
 conv => whnf
 refine ref10Put_calls hv l hl hm ?_
 generalize fileP v l = b at h hfl ⊢
 conv => whnf
 refine br_false (decide_eq_false (fun e => hne (ofB_inj e))) ?_
 conv => whnf
 refine rGet_calls s (by omega) aside ?_
 unfold rstart at h
 by_cases hin : aside ∈ kys s.fs
 ·rw [if_pos hin] at h
  rw [decide_eq_true hin]
  conv => whnf
  refine rRemove_calls s hs aside ?_
  have hs1 := (hs.remove aside).1
  have hl1 := (hs.remove aside).2
  have hg : (s.rremove aside).2 = 0 → (gF (s.rremove aside).1.fs aside).b.length < 100000000 := fun e => by rw [rremove_gone e]; show 0 < _; decide
  generalize s.rremove aside = se at h hs1 hl1 hg ⊢
  obtain ⟨s1, e1⟩ := se
  by_cases g1 : e1 = 0
  ·subst g1
   rw [if_neg (by simp)] at h
   have hba : (gF s1.fs aside).b.length < 100000000 := hg rfl
   have hs1 : ROk s1 := hs1
   have hl1 : s1.fs.length ≤ s.fs.length := hl1
   have hsl1 : s1.fs.length < 750000 := by omega
   clear hg hl1
   conv => whnf
   refine rAppend_calls s1 hs1 aside b ha (by omega) ?_
   have hz1 := (hs1.append (by omega) ha b).1
   have hzl1 := (hs1.append (by omega) ha b).2
   unfold rrun3 at h
   generalize s1.rappend aside b = se at h hz1 hzl1 ⊢
   obtain ⟨t1, e1⟩ := se
   by_cases g1 : e1 = 0
   ·subst g1
    rw [if_neg (by simp)] at h
    conv => whnf
    refine rSync_calls t1 hz1 aside ha ?_
    have hs2 := hz1.sync (by show t1.fs.length < _; have hzl1 : t1.fs.length ≤ s1.fs.length + 1 := hzl1; omega) ha
    generalize t1.rsync aside = se at h hs2 ⊢
    obtain ⟨t2, e2⟩ := se
    by_cases g2 : e2 = 0
    ·subst g2
     rw [if_neg (by simp)] at h
     conv => whnf
     refine rRename_calls t2 hs2 aside name ha hn ?_
     generalize t2.rrename aside name = se at h ⊢
     obtain ⟨t3, e3⟩ := se
     conv => whnf
     exact h
    ·rw [if_pos g2] at h
     conv => whnf
     refine br_false (by simpa using g2) ?_
     conv => whnf
     exact h
   ·rw [if_pos g1] at h
    conv => whnf
    refine br_false (by simpa using g1) ?_
    conv => whnf
    refine br_false (by simpa using g1) ?_
    conv => whnf
    exact h
  ·rw [if_pos g1] at h
   conv => whnf
   refine br_false (by simpa using g1) ?_
   conv => whnf
   refine br_false (by simpa using g1) ?_
   conv => whnf
   refine br_false (by simpa using g1) ?_
   conv => whnf
   exact h
 ·rw [if_neg hin] at h
  rw [decide_eq_false hin]
  have hsl : s.fs.length < 750000 := by omega
  conv => whnf
  refine rAppend_calls s hs aside b ha (by omega) ?_
  have hs1 := (hs.append (by omega) ha b).1
  have hl1 := (hs.append (by omega) ha b).2
  unfold rrun3 at h
  generalize s.rappend aside b = se at h hs1 hl1 ⊢
  obtain ⟨t1, e1⟩ := se
  by_cases g1 : e1 = 0
  ·subst g1
   rw [if_neg (by simp)] at h
   conv => whnf
   refine rSync_calls t1 hs1 aside ha ?_
   have hs2 := hs1.sync (by show t1.fs.length < _; have hl1 : t1.fs.length ≤ s.fs.length + 1 := hl1; omega) ha
   generalize t1.rsync aside = se at h hs2 ⊢
   obtain ⟨t2, e2⟩ := se
   by_cases g2 : e2 = 0
   ·subst g2
    rw [if_neg (by simp)] at h
    conv => whnf
    refine rRename_calls t2 hs2 aside name ha hn ?_
    generalize t2.rrename aside name = se at h ⊢
    obtain ⟨t3, e3⟩ := se
    conv => whnf
    exact h
   ·rw [if_pos g2] at h
    conv => whnf
    refine br_false (by simpa using g2) ?_
    conv => whnf
    exact h
  ·rw [if_pos g1] at h
   conv => whnf
   refine br_false (by simpa using g1) ?_
   conv => whnf
   refine br_false (by simpa using g1) ?_
   conv => whnf
   exact h
theorem ref6Version_calls {v : Int} (hv : is3 v) (rest : B) (hl : rest.length < 10000000) {R} (h : R (.tup [vi v, vi 0]) []) : ACalls Tryz.prog 129 [vs (headP v ++ rest)] [] R := by
 refine acalls_of_xwp (an := an129) tab_ok Tryz.func129 ?_
 obtain ⟨b, hb⟩ : ∃ b, b = headP v ++ rest := ⟨_, rfl⟩
 have hbl : b.length = 8 + rest.length := by rw [hb, List.length_append]; rfl
 have h3 : b.take 3 = [84, 80, 72] := by rw [hb]; rfl
 have h4 : b.take 4 = lettersB v := by rw [hb]; rfl
 have h8 : (b.drop 4).take 4 = w4 (Crc.sum (lettersB v)).toNat := by rw [hb]; rfl
 have hsz := size_ofB b
 rw [← hb]
 clear hb
 conv => whnf
 refine br_false (decide_eq_false (by omega)) ?_
 conv => whnf
 refine must_intro (decide_eq_true (by omega)) ?_
 conv => whnf
 have x3 : (ofB b).extract ((0 : Nat) : Int).toNat (Int.toNat 3) = ⟨#[84, 80, 72]⟩ := by
  rw [ofB_extract]
  show ofB ((b.take 3).drop 0) = _
  rw [h3]
  rfl
 have x4 : (ofB b).extract ((0 : Nat) : Int).toNat (Int.toNat 4) = ofB (lettersB v) := by
  rw [ofB_extract]
  show ofB ((b.take 4).drop 0) = _
  rw [h4]
  rfl
 have x8 : (ofB b).extract (Int.toNat 4) (Int.toNat 8) = ofB (w4 (Crc.sum (lettersB v)).toNat) := by
  rw [ofB_extract]
  show ofB ((b.take 8).drop 4) = _
  rw [List.drop_take, h8]
 have xb : byteAt (ofB b) (Int.toNat 3) = v := by
  have h3l : 3 < b.length := by omega
  have e : b[3] = UInt8.ofNat v.toNat := by
   have := List.getElem_of_eq h4 (i := 3) (by rw [List.length_take]; omega)
   rw [List.getElem_take] at this
   exact this
  show byteAt (ofB b) 3 = v
  rw [byteAt_ofB b h3l, e, u8_nat (by unfold is3 at hv; omega)]
  unfold is3 at hv
  omega
 refine br_false (by rw [x3]; simp) ?_
 conv => whnf
 refine must_intro (decide_eq_true (by omega)) ?_
 conv => whnf
 rw [x4]
 refine refSum_calls (lettersB v) (by show 4 < _; decide) ?_
 conv => whnf
 refine ref3Bytes_calls _ ?_
 conv => whnf
 refine must_intro (decide_eq_true (by omega)) ?_
 conv => whnf
 rw [x8]
 refine br_false (by simp) ?_
 conv => whnf
 refine must_intro (decide_eq_true (by omega)) ?_
 conv => whnf
 rw [xb]
 refine br_false (decide_eq_false (by unfold is3 at hv; omega)) ?_
 conv => whnf
 refine must_intro (decide_eq_true (by omega)) ?_
 conv => whnf
 rw [xb]
 refine br_false (decide_eq_false (by unfold is3 at hv; omega)) ?_
 conv => whnf
 refine must_intro (decide_eq_true (by omega)) ?_
 conv => whnf
 rw [xb, wrap_i64 (by unfold is3 at hv; omega) (by unfold is3 at hv; omega)]
 exact h
theorem ref6GetEnd_calls (b : B) (hb : b.length < 100000000) {R} (h : R (.tup [vs [], vi 0, vi 6]) []) : ACalls Tryz.prog 170 [vs b, vi (b.length : Int)] [] R := by
 refine acalls_of_xwp (an := an170) tab_ok Tryz.func170 ?_
 have hsz := size_ofB b
 conv => whnf
 refine br_false (decide_eq_false (by omega)) ?_
 conv => whnf
 refine br_true (by rw [hsz]; simp) ?_
 conv => whnf
 exact h
theorem ref6Run_calls (b : B) (hb : b.length < 100000000) {R} (h : R (.tup [.sl none 1 (strs []), .sl none 1 []]) []) : ACalls Tryz.prog 130 [vs b, vi (b.length : Int)] [] R := by
 refine acalls_of_xwp (an := an130) tab_ok Tryz.func130 ?_
 conv => whnf
 refine LoopP.step ?_
 conv => whnf
 refine ref6GetEnd_calls b hb ?_
 conv => whnf
 exact h
theorem ref9GetEnd_calls {v : Int} (hv : is3 v) {R} (h : R (.tup [.agg (Rc.enc ⟨0, [], 0, [], 0, 0, []⟩), vi 0, .sl none 1 [], vi 6]) []) : ACalls Tryz.prog 131 [vi v, .sl none 1 [], .sl none 1 [], vi 0] [] R := by
 refine ACalls.res ?_
 refine acalls_of_xwp (an := an131) tab_ok Tryz.func131 ?_
 conv => whnf
 refine br_false (decide_eq_false (by unfold is3 at hv; omega)) ?_
 conv => whnf
 refine br_false (decide_eq_false (by unfold is3 at hv; omega)) ?_
 conv => whnf
 refine LoopP.step ?_
 conv => whnf
 exact res_le (le_tup (leL.cons (le_agg (le_rec2 0 [] 0 0 0 [])) (leL.refl _))) rfl h
theorem ref10GetHead_calls {v : Int} (hv : is3 v) {R} (h : R (.tup [.agg (fileA v []), vi 0]) []) : ACalls Tryz.prog 85 [vs (fileP v [])] [] R := by
 refine ACalls.res ?_
 refine acalls_of_xwp (an := an85) tab_ok Tryz.func85 ?_
 have hf : fileP v [] = headP v ++ [] := by simp [fileP, paysP, framesP]
 have hl : (headP v ++ []).length = 8 := by rw [List.append_nil]; rfl
 rw [hf]
 obtain ⟨b, hb⟩ : ∃ b, b = headP v ++ [] := ⟨_, rfl⟩
 have hver := fun R hR => ref6Version_calls hv [] (by simp) (R := R) hR
 rw [← hb] at hl hver ⊢
 have hrun := fun R hR => ref6Run_calls b (by omega) (R := R) hR
 rw [hl] at hrun
 conv => whnf
 refine hver _ ?_
 conv => whnf
 refine hrun _ ?_
 conv => whnf
 refine LoopP.step ?_
 conv => whnf
 refine ref9GetEnd_calls hv ?_
 conv => whnf
 refine res_le (le_tup (leL.cons (le_agg (leL.cons (.refl _) (leL.cons (le_nil 7) (leL.cons (le_nil 1) (leL.refl _))))) (leL.refl _))) rfl ?_
 have hA : fileA v [] = [vi v, .sl none 7 [], .sl none 1 [], vi 8] := by
  unfold fileA
  rw [hf, ← hb, hl]
  rfl
 rw [hA] at h
 exact h
theorem rOpen_calls (s : FSt) (hl : s.fs.length < 900000) (name : B) {v : Int} (l : List Rc) (hin : name ∈ kys s.fs) (hb : (gF s.fs name).b = fileP v l) (hget : ∀ {R : AV → List AObj → Prop}, R (.tup [.agg (fileA v l), vi 0]) [] → ACalls Tryz.prog 85 [vs (fileP v l)] [] R) {R}
  (h : R (.tup [.agg (fsR s), .agg (fileA v l), vi 0]) []) : ACalls Tryz.prog 73 [.agg (fsR s), vs name] [] R := by
 refine acalls_of_xwp (an := { an73 with cst := [2] }) tab_ok Tryz.func73 ?_
 conv => whnf
 refine rGet_calls s (by omega) name ?_
 rw [decide_eq_true hin]
 unfold flE
 rw [hb]
 conv => whnf
 refine hget ?_
 conv => whnf
 refine br_false (decide_eq_false (by rw [size_ofB]; omega)) ?_
 conv => whnf
 exact h
def zFl : List AV := [vi 0, nlA, nlA, vi 0]
theorem rjAppend_calls (s : FSt) (hs : ROk s) (name : B) (hn : name.length < 1000000) (hg : (gF s.fs name).b.length < 900000000) {v : Int} (hv : is3 v) (l : List Rc) (hl : l.length ≤ 300) (hm : ∀ r ∈ l, mayP v r = true) (r : Rc) (hr : mayP v r = true) {R}
  (h1 : (s.rappend name (moreP v l r)).2 ≠ 0 → R (.tup [.agg (fsR (s.rappend name (moreP v l r)).1), .agg zFl, vi (s.rappend name (moreP v l r)).2]) [])
  (h2 : (s.rappend name (moreP v l r)).2 = 0 → R (.tup [.agg (fsR (s.rappend name (moreP v l r)).1), .agg (fileA v (l ++ [r])), vi 0]) []) :
  ACalls Tryz.prog 116 [.agg (fsR s), vs name, .agg (fileA v l), .agg r.enc] [] R := by
 refine ACalls.res ?_
 refine acalls_of_xwp (an := { an116 with anyo := [25, 26] }) tab_ok Tryz.func116 ?_
 have hsl := recs_length l
 have hM : ∀ x ∈ l, MayR v x := fun x hx => may_all (hm x hx)
 have hfl := fileP_small hm hl
 have hel := endsR_length v l
 have hil := ints_length (endsR v l)
 have hfs : fileP v (l ++ [r]) = fileP v l ++ moreP v l r := fileP_snoc v l r
 conv => whnf
 refine br_false (decide_eq_false (by unfold is3 at hv; omega)) ?_
 conv => whnf
 refine br_false (decide_eq_false (by unfold is3 at hv; omega)) ?_
 conv => whnf
 refine LoopP.ind1 (fun (i : Nat) => [(11, .sl none 1 (strs (tbP v l i))), (13, vi i)]) (fun i => [(nameOf 4, .cells 30 (fsR s)), (nameOf 6, .cells 33 (fileA v l)), (nameOf 8, .cells 30 [.val (.slice none 0 0), vi 0, vi 0, .val (.bool false)]), (nameOf 9, .cells 33 zFl)]) (fun i => l.length - i) (fun i => i ≤ l.length) 0 rfl (by omega) ?_
 rintro i h0 IH
 have hmt : ∀ r ∈ l.take i, mayP v r = true := fun r hr => hm r (List.mem_of_mem_take hr)
 have hTl := tbP_len (by omega) hmt
 conv => whnf
 refine br_intro (fun hc => ?_) (fun hc => ?_)
 ·have hi := lt_of_decE hsl hc
  have hTS : tbP v l (i + 1) = addT v (tbP v l i) l[i] := tbP_succ hi
  have hmi := hm _ (List.getElem_mem hi)
  have IH := IH (i + 1) hi (by omega)
  rw [hTS] at IH
  (conv => whnf); (repeat ((with_reducible refine must_intro ?_ ?_); exact decide_eq_true (by omega); (conv => whnf)))
  refine idxK_map_intro (show (i : Int).toNat < l.length by simpa using hi) ?_
  rw [show l[(i : Int).toNat]'(by simpa using hi) = l[i] from by congr 1]
  conv => whnf
  refine r9Put_any hv (tbP v l i) (by omega) l[i] hmi ?_
  conv => whnf
  rw [i64_nat (by omega)]
  exact IH
 ·have hi := ge_of_decE hsl hc
  have hT : tbP v l i = tblL v [] l := by unfold tbP; rw [List.take_of_length_le hi]
  rw [hT] at hTl ⊢
  clear IH
  obtain ⟨T, hTT⟩ : ∃ T, T = tblL v [] l := ⟨_, rfl⟩
  have hmo : moreP v l r = framesP (payP v T r) := by rw [hTT]; rfl
  rw [← hTT] at hTl ⊢
  rw [hmo] at h1 h2 hfs
  have hpl := payP_lens (t := T) (may_all hr) (by omega)
  have hpf := payP_frames (t := T) (may_all hr) (by omega)
  have hpc := payP_len (v := v) (t := T) (may_all hr).deps
  conv => whnf
  refine r9Put_any hv T (by omega) r hr ?_
  generalize payP v T r = ps at h1 h2 hfs hpl hpf hpc ⊢
  have hpsl := strs_length ps
  conv => whnf
  refine LoopP.ind2 (fun (k : Nat) (Y : B) => [(16, vs Y), (17, vi k)]) (fun k Y => [(nameOf 4, .cells 30 (fsR s)), (nameOf 6, .cells 33 (fileA v l)), (nameOf 8, .cells 30 [.val (.slice none 0 0), vi 0, vi 0, .val (.bool false)]), (nameOf 9, .cells 33 zFl)]) (fun k _ => ps.length - k) (fun k Y => k ≤ ps.length ∧ Y = framesP (ps.take k)) 0 [] rfl ⟨by omega, rfl⟩ ?_
  rintro k Y ⟨k0, hY⟩ IH2
  have hpt := framesP_part ps k
  have hYl : Y.length ≤ 3000 := by rw [hY]; omega
  conv => whnf
  refine br_intro (fun hk => ?_) (fun hk => ?_)
  ·have hk := lt_of_decE hpsl hk
   have hp := hpl _ (List.getElem_mem hk)
   have hYS : Y ++ frameP ps[k] = framesP (ps.take (k + 1)) := by
    rw [hY, List.take_succ_eq_append_getElem hk, framesP_snoc]
   have IH2 := IH2 (k + 1) _ ⟨hk, hYS⟩ (by omega)
   (conv => whnf); (repeat ((with_reducible refine must_intro ?_ ?_); exact decide_eq_true (by omega); (conv => whnf)))
   refine idxK_map_intro (show (k : Int).toNat < ps.length by simpa using hk) ?_
   rw [show ps[(k : Int).toNat]'(by simpa using hk) = ps[k] from by congr 1]
   generalize ps[k] = p at hp IH2 ⊢
   have hfp := frameP_len hp.2
   conv => whnf
   refine ref6Put_calls p hp.1 hp.2 ?_
   conv => whnf
   refine must_intro (decide_eq_true (by rw [size_ofB, size_ofB]; omega)) ?_
   rw [ofB_append]
   conv => whnf
   rw [i64_nat (by omega)]
   exact IH2
  ·have hk := ge_of_decE hpsl hk
   rw [List.take_of_length_le hk] at hY
   rw [← hY] at h1 h2 hfs
   clear IH2 hpt hpl hpf hpc hY hpsl hk k0
   conv => whnf
   refine rAppend_calls s hs name Y hn (by omega) ?_
   generalize s.rappend name Y = se at h1 h2 ⊢
   obtain ⟨s2, e⟩ := se
   conv => whnf
   refine br_intro (fun g => ?_) (fun g => ?_)
   ·have h1 := h1 (by simpa using g)
    conv => whnf
    exact res_same h1
   have h2 := h2 (by simpa using g)
   have e0 : e = 0 := by simpa using g
   subst e0
   conv => whnf
   have hend : IntKind.i64.wrap (((fileP v l).length : Int) + ((ofB Y).size : Int)) = ((fileP v (l ++ [r])).length : Int) := by
    rw [size_ofB, hfs, List.length_append, wrap_i64 (by omega) (by omega)]
    omega
   rw [hend]
   refine ⟨rfl, by rw [hsl, bytes_rec]; simp only [List.length_nil]; omega, ?_⟩
   conv => whnf
   refine ⟨by simp, by rw [bytes_rec]; simp only [List.length_cons, List.length_nil, List.nil_append, hsl]; omega, ?_⟩
   conv => whnf
   have er : fileA v (l ++ [r]) = [vi v, .sl none 7 (([] ++ recs l) ++ [r.enc]), .sl none 1 (([] ++ ints (endsR v l)) ++ [[vi ((fileP v (l ++ [r])).length : Int)]]), vi ((fileP v (l ++ [r])).length : Int)] := by
    unfold fileA
    rw [recs_snoc, endsR_snoc, ints_snoc]
    rfl
   rw [er] at h2
   repeat' first
    | (with_reducible exact trivial)
    | ((with_reducible (refine (show _ = _ ∧ _ ≤ _ ∧ _ from ?_))); (refine ⟨by first | (with_reducible rfl) | (simp only [List.nil_append, List.length_nil, Nat.zero_add]), by first | (rw [hil, hel, bytes_int]; simp only [List.length_nil]; omega) | (rw [bytes_int]; simp only [List.length_cons, List.length_nil, List.nil_append, hil, hel]; omega), ?_⟩))
    | (with_reducible apply And.intro)
    | ((fail_if_success (with_reducible (refine (show ∃ _, _ from ?_)))); (conv => whnf))
   all_goals exact res_same h2
theorem framesP_cons (p : B) (P : List B) : framesP (p :: P) = frameP p ++ framesP P := rfl
theorem cut_frames : ∀ (P : List B) (m : Nat), (∀ p ∈ P, 1 ≤ p.length ∧ p.length ≤ 2048) → m ≤ (framesP P).length →
  ∃ (c : Nat) (t : B), c ≤ P.length ∧ (framesP P).take m = framesP (P.take c) ++ t ∧ EndAt t ∧ t.length < 3000 ∧ (c < P.length → m < (framesP (P.take (c + 1))).length) := by
 intro P
 induction P with
 | nil =>
  intro m _ hm
  exact ⟨0, [], by simp, by simp [framesP], .inl rfl, by simp, fun h => by simp at h⟩
 | cons p P ih =>
  intro m hP hm
  have hp := hP p List.mem_cons_self
  have hfl := frameP_len hp.2
  rw [framesP_cons] at hm ⊢
  by_cases hlt : m < (frameP p).length
  ·refine ⟨0, (frameP p).take m, by simp, ?_, ?_, by rw [List.length_take]; omega, fun _ => ?_⟩
   ·rw [List.take_append_of_le_length (by omega)]
    simp [framesP]
   ·by_cases h0 : m = 0
    ·exact .inl (by rw [h0]; rfl)
    ·exact .inr ⟨p, m, hp.1, hp.2, by omega, hlt, rfl⟩
   ·rw [List.take_succ_cons, List.take_zero, framesP_cons, List.length_append]
    omega
  ·obtain ⟨m', rfl⟩ : ∃ m', m = (frameP p).length + m' := ⟨m - (frameP p).length, by omega⟩
   rw [List.length_append] at hm
   obtain ⟨c, t, h1, h2, h3, h4, h5⟩ := ih m' (fun q hq => hP q (List.mem_cons_of_mem _ hq)) (by omega)
   refine ⟨c + 1, t, by simpa using h1, ?_, h3, h4, fun h => ?_⟩
   ·rw [List.take_length_add_append, h2, List.take_succ_cons, framesP_cons, List.append_assoc]
   ·rw [List.take_succ_cons, framesP_cons, List.length_append]
    have := h5 (by simpa using h)
    omega
theorem cut_recs {v : Int} (hv : v ≠ 1) : ∀ (l : List Rc) (T : List B) (c : Nat), (∀ r ∈ l, MayR v r) → c ≤ (paysP v T l).length →
  ∃ (j : Nat) (ms : List B), j ≤ l.length ∧ (paysP v T l).take c = paysP v T (l.take j) ++ ms.map defP ∧ ms.length < 100 ∧ (∀ m ∈ ms, m.length ≤ 64) ∧ ∀ i, i ≤ l.length → (paysP v T (l.take i)).length ≤ c → i ≤ j := by
 intro l
 induction l with
 | nil =>
  intro T c _ hc
  exact ⟨0, [], by simp, by simp [paysP], by simp, by simp, fun i hi _ => by simpa using hi⟩
 | cons r l ih =>
  intro T c hM hc
  have hMr := hM r List.mem_cons_self
  have hd := hMr.deps
  rw [paysP] at hc ⊢
  by_cases hlt : c < (payP v T r).length
  ·have hnl := news_len (namesR r) T
   have hnr := namesR_len r
   have hpp : payP v T r = (newsP T (namesR r)).map defP ++ [lastW v (addT v T r) r] := by
    unfold payP defsP
    rw [if_neg hv]
   have hcl : c ≤ (newsP T (namesR r)).length := by
    rw [hpp] at hlt
    simp at hlt
    omega
   refine ⟨0, (newsP T (namesR r)).take c, by simp, ?_, by rw [List.length_take]; omega, ?_, fun i hi hle => ?_⟩
   ·rw [List.take_append_of_le_length (by omega), hpp, List.take_append_of_le_length (by simpa using hcl)]
    simp [paysP, List.map_take]
   ·intro m hm
    have h1 := news_sub (namesR r) T m (List.mem_of_mem_take hm)
    have h2 : m ∈ textsR r := tblN_mem.1 h1
    exact (textsR_lens hMr m h2).2
   ·cases i with
    | zero => omega
    | succ i =>
     exfalso
     rw [List.take_succ_cons, paysP, List.length_append] at hle
     omega
  ·obtain ⟨c', rfl⟩ : ∃ c', c = (payP v T r).length + c' := ⟨c - (payP v T r).length, by omega⟩
   rw [List.length_append] at hc
   obtain ⟨j, ms, h1, h2, h3, h4, h5⟩ := ih (addT v T r) c' (fun q hq => hM q (List.mem_cons_of_mem _ hq)) (by omega)
   refine ⟨j + 1, ms, by simpa using h1, ?_, h3, h4, fun i hi hle => ?_⟩
   ·rw [List.take_length_add_append, h2, List.take_succ_cons, paysP, List.append_assoc]
   ·cases i with
    | zero => omega
    | succ i =>
     rw [List.take_succ_cons, paysP, List.length_append] at hle
     have := h5 i (by simpa using hi) (by omega)
     omega
theorem cut_file {v : Int} (hv : v ≠ 1) {l : List Rc} (hm : ∀ r ∈ l, mayP v r = true) (hl : l.length ≤ 300) {m : Nat} (h8 : 8 ≤ m) (hle : m ≤ (fileP v l).length) :
  ∃ (j : Nat) (ms : List B) (t : B), j ≤ l.length ∧ (fileP v l).take m = fileP v (l.take j) ++ framesP (ms.map defP) ++ t ∧ ms.length < 100 ∧ (∀ m ∈ ms, m.length ≤ 64) ∧ EndAt t ∧ t.length < 3000 ∧ ∀ i, i ≤ l.length → (fileP v (l.take i)).length ≤ m → i ≤ j := by
 have hM : ∀ r ∈ l, MayR v r := fun r hr => may_all (hm r hr)
 have hlens := paysP_lens (v := v) (l := l) (t := []) hM (by simp; omega)
 obtain ⟨m', rfl⟩ : ∃ m', m = 8 + m' := ⟨m - 8, by omega⟩
 rw [fileP_len] at hle
 obtain ⟨c, t, c1, c2, c3, c4, c5⟩ := cut_frames (paysP v [] l) m' hlens (by omega)
 obtain ⟨j, ms, j1, j2, j3, j4, j5⟩ := cut_recs hv l [] c hM c1
 refine ⟨j, ms, t, j1, ?_, j3, j4, c3, c4, fun i hi hil => j5 i hi ?_⟩
 ·unfold fileP
  rw [show 8 + m' = (headP v).length + m' from by rw [headP_length], List.take_length_add_append, c2, j2, framesP_append]
  simp only [List.append_assoc]
 ·refine Nat.le_of_not_lt fun hlt => ?_
  have e : paysP v [] l = paysP v [] (l.take i) ++ paysP v (tblL v [] (l.take i)) (l.drop i) := by rw [← paysP_append, List.take_append_drop]
  have hlen : (paysP v [] (l.take i)).length ≤ (paysP v [] l).length := by rw [e, List.length_append]; omega
  have h1 := c5 (by omega)
  have h2 : (paysP v [] l).take (c + 1) = (paysP v [] (l.take i)).take (c + 1) := by
   rw [e, List.take_append_of_le_length (by omega)]
  rw [h2] at h1
  have h3 := framesP_part (paysP v [] (l.take i)) (c + 1)
  rw [fileP_len] at hil
  omega
theorem Whole.key {s : FSt} {name b : B} (h : Whole s name b) : name ∈ kys s.fs := lk_key h
theorem Whole.get {s : FSt} {name b : B} (h : Whole s name b) : gF s.fs name = ⟨b, b.length⟩ := by unfold gF; rw [show lk s.fs name = _ from h]; rfl
def Calm (s : FSt) : Prop := s.fail = -1 ∧ s.fall = -1 ∧ s.down = false
structure JEnd (x : List Rc) (s : FSt) (j w sy : Nat) : Prop where
 hok : FOk s 100 2000000
 hsy : sy ≤ j
 hj : j ≤ w
 hw : w ≤ x.length
 hmay : ∀ r ∈ x.take j, mayP 3 r = true
 hlog : ∃ k, lk s.fs logB = some ⟨fileP 3 (x.take j), k⟩ ∧ (fileP 3 (x.take sy)).length ≤ k
theorem JEnd.crash {x : List Rc} {s : FSt} {j w sy : Nat} (h : JEnd x s j w sy) (hx : x.length ≤ 30) (keep : List Int) :
  ∃ (m : Nat) (ms : List B) (t : B), sy ≤ m ∧ m ≤ w ∧ (∀ r ∈ x.take m, mayP 3 r = true) ∧ ms.length < 100 ∧ (∀ m ∈ ms, m.length ≤ 64) ∧ EndAt t ∧ t.length < 3000 ∧ Whole (s.crash keep) logB (fileP 3 (x.take m) ++ framesP (ms.map defP) ++ t) ∧ FOk (s.crash keep) 100 2000000 := by
 obtain ⟨k, hk, hsy⟩ := h.hlog
 obtain ⟨c1, c2, c3⟩ := crash_spec h.hok keep
 obtain ⟨m, m1, m2, m3⟩ := c3 logB (lk_key hk)
 have hg : gF s.fs logB = ⟨fileP 3 (x.take j), k⟩ := by unfold gF; rw [hk]; rfl
 rw [hg] at m1 m2 m3
 have hjl : (x.take j).length = j := by rw [List.length_take]; have := h.hj; have := h.hw; omega
 have h8 : 8 ≤ m := by
  have := fileP_len 3 (x.take sy)
  have m1 : k ≤ m := m1
  omega
 obtain ⟨m', ms, t, e1, e2, e3, e4, e5, e6, e7⟩ := cut_file (v := 3) (by decide) h.hmay (by rw [hjl]; have := h.hj; have := h.hw; omega) h8 m2
 have htt : ∀ i, i ≤ j → (x.take j).take i = x.take i := fun i hi => by rw [List.take_take, Nat.min_eq_left hi]
 rw [hjl] at e1 e7
 rw [htt m' e1] at e2
 refine ⟨m', ms, t, ?_, Nat.le_trans e1 h.hj, ?_, e3, e4, e5, e6, ?_, c1⟩
 ·refine e7 sy h.hsy ?_
  rw [htt sy h.hsy]
  have m1 : k ≤ m := m1
  omega
 ·intro r hr
  rw [← htt m' e1] at hr
  exact h.hmay r (List.mem_of_mem_take hr)
 ·have hin : logB ∈ kys (s.crash keep).fs := by rw [c2]; exact lk_key hk
  unfold Whole
  rw [← e2]
  cases e : lk (s.crash keep).fs logB with
  | none => exact absurd hin (lk_none.1 e)
  | some f =>
   have : gF (s.crash keep).fs logB = f := by unfold gF; rw [e]; rfl
   rw [this] at m3
   rw [m3]
   have m2 : m ≤ (fileP 3 (x.take j)).length := m2
   simp only [List.length_take, Option.some.injEq, Fl.mk.injEq, true_and]
   omega
def stO (over : Bool) (n : Nat) (v : Int) (l : List Rc) : AObj := .cells 52 [.val (.bool over), .ptr n 0, vi v, .sl none 7 (recs l), .sl none 1 (ints (endsR v l)), vi (((fileP v l).length : Nat) : Int)]
theorem met_calls (e : Int) (v : Int) (l : List Rc) (s : FSt) {R} (h : R (vi e) [stO (e == 7) 1 v l, fsC s 2, fsM s]) :
  ACalls Tryz.prog 65 [.ptr 0 0, vi e] [stO false 1 v l, fsC s 2, fsM s] R := by
 refine acalls_of_xwp (an := an65) tab_ok Tryz.func65 ?_
 conv => whnf
 exact h
theorem Over_calls (o : Bool) (v : Int) (l : List Rc) (s : FSt) {R} (h : R (.val (.bool o)) [stO o 1 v l, fsC s 2, fsM s]) :
  ACalls Tryz.prog 20 [.ptr 0 0] [stO o 1 v l, fsC s 2, fsM s] R := by
 refine acalls_of_xwp (an := an20) tab_ok Tryz.func20 ?_
 conv => whnf
 exact h
theorem stVersion_calls (o : Bool) (v : Int) (l : List Rc) (s : FSt) {R} (h : R (vi v) [stO o 1 v l, fsC s 2, fsM s]) :
  ACalls Tryz.prog 31 [.ptr 0 0] [stO o 1 v l, fsC s 2, fsM s] R := by
 refine acalls_of_xwp (an := an31) tab_ok Tryz.func31 ?_
 conv => whnf
 exact h
theorem stAll_calls (o : Bool) (v : Int) (l : List Rc) (hl : l.length < 100000) (hd : ∀ r ∈ l, r.deps.length < 1000000) (s : FSt) {R} (h : R (.sl none 7 (recs (docOf l))) [stO o 1 v l, fsC s 2, fsM s]) :
  ACalls Tryz.prog 29 [.ptr 0 0] [stO o 1 v l, fsC s 2, fsM s] R := by
 refine acalls_of_xwp (an := an29) tab_ok Tryz.func29 ?_
 conv => whnf
 refine Of_records l (by omega) hd ?_
 conv => whnf
 exact h
theorem Records_calls (o : Bool) (v : Int) (l : List Rc) (hl : l.length < 100000) (hd : ∀ r ∈ l, r.deps.length < 1000000) (s : FSt) {R} (h : R (.sl none 7 (recs l)) [stO o 1 v l, fsC s 2, fsM s]) :
  ACalls Tryz.prog 19 [.ptr 0 0] [stO o 1 v l, fsC s 2, fsM s] R := by
 refine acalls_of_xwp (an := an19) tab_ok Tryz.func19 ?_
 have hsl := recs_length l
 conv => whnf
 refine LoopP.ind1 (fun (i : Nat) => [(3, .sl (some (nameOf 3)) 7 (recs (l.take i))), (12, vi i)]) (fun i => [(0, stO o 1 v l), (1, fsC s 2), (2, fsM s), (nameOf 3, .row 67 7 i)]) (fun i => l.length - i) (fun i => i ≤ l.length) 0 rfl (by omega) ?_
 intro i hi0 IH
 conv => whnf
 refine br_intro (fun hc => ?_) (fun hc => ?_)
 ·have hi := lt_of_decE hsl hc
  have IH := IH (i + 1) hi (by omega)
  rw [recs_take hi] at IH
  have hst : (recs (l.take i)).length = i := by rw [recs_length, List.length_take]; omega
  (conv => whnf); (repeat ((with_reducible refine must_intro ?_ ?_); exact decide_eq_true (by omega); (conv => whnf)))
  refine idxK_map_intro (show (i : Int).toNat < l.length by simpa using hi) ?_
  rw [show l[(i : Int).toNat]'(by simpa using hi) = l[i] from by congr 1]
  conv => whnf
  refine Clone_calls l[i] (hd _ (List.getElem_mem hi)) ?_
  conv => whnf
  refine ⟨hst.symm, by rw [hst, bytes_rec]; simp only [List.length_cons, List.length_nil]; omega, ?_⟩
  conv => whnf
  rw [i64_nat (by omega), hst]
  exact IH
 ·have hi := ge_of_decE hsl hc
  rw [List.take_of_length_le hi]
  conv => whnf
  exact h
def putS (v : Int) (s : FSt) (l : List Rc) (r : Rc) : FSt × Int := s.append logB (moreP v l r)
theorem sPut_no (o : Bool) (s : FSt) (v : Int) (l : List Rc) (r : Rc) (hd : r.deps.length < 100000) (hr : o = false → r.kind ≠ 1 ∨ mayP v r = false) {R} (h1 : o = true → R (vi 7) [stO true 1 v l, fsC s 2, fsM s]) (h2 : o = false → R (vi 1) [stO false 1 v l, fsC s 2, fsM s]) :
  ACalls Tryz.prog 44 [.ptr 0 0, .agg r.enc] [stO o 1 v l, fsC s 2, fsM s] R := by
 refine acalls_of_xwp (an := an44) tab_ok Tryz.func44 ?_
 cases o with
 | true =>
  conv => whnf
  exact h1 rfl
 | false =>
  conv => whnf
  refine br_intro (fun g => ?_) (fun g => ?_)
  ·conv => whnf
   exact h2 rfl
  have g : r.kind = 1 := by simpa using g
  have hm : mayP v r = false := (hr rfl).resolve_left fun hx => hx g
  conv => whnf
  refine May_calls v r hd fun p hp => ?_
  rw [hm] at hp
  subst hp
  conv => whnf
  exact h2 rfl
theorem stFind_calls (o : Bool) (v : Int) (l : List Rc) (hl : l.length < 100000) (hd : ∀ r ∈ l, r.deps.length < 1000000) (s : FSt) (t : B) {R} (h : R (.tup [.agg (findR (docOf l) t).enc, .val (.bool (findP (docOf l) t).isSome)]) [stO o 1 v l, fsC s 2, fsM s]) :
  ACalls Tryz.prog 60 [.ptr 0 0, vs t] [stO o 1 v l, fsC s 2, fsM s] R := by
 refine acalls_of_xwp (an := an60) tab_ok Tryz.func60 ?_
 conv => whnf
 refine stAll_calls o v l hl hd s ?_
 conv => whnf
 refine Find_calls (docOf l) (by have := docOf_len l; omega) (fun r hr => hd r (docOf_sub hr).1) t ?_
 conv => whnf
 exact h
theorem Rewrite_calls (s : FSt) {nb fb : Nat} (hk : FOk s nb fb) (hnb : nb ≤ 800000) (hfb : fb ≤ 70000000) (v : Int) (l : List Rc) (w : Int) (m : List Rc) (hl : m.length ≤ 300) (hd : ∀ r ∈ m, r.deps.length < 100000) {R}
  (h0 : ∀ e : Int, e = 1 ∨ e = 11 → (¬ is3 w ∨ ¬ ∀ r ∈ m, mayP w r = true) → R (vi e) [stO false 1 v l, fsC s 2, fsM s])
  (h1 : is3 w → (∀ r ∈ m, mayP w r = true) → (startP s logB newB (fileP w m)).2 ≠ 0 → R (vi (startP s logB newB (fileP w m)).2) [stO ((startP s logB newB (fileP w m)).2 == 7) 1 v l, fsC (startP s logB newB (fileP w m)).1 2, fsM (startP s logB newB (fileP w m)).1])
  (h2 : is3 w → (∀ r ∈ m, mayP w r = true) → (startP s logB newB (fileP w m)).2 = 0 → R (vi 0) [stO false 1 w m, fsC (startP s logB newB (fileP w m)).1 2, fsM (startP s logB newB (fileP w m)).1]) :
  ACalls Tryz.prog 48 [.ptr 0 0, vi w, .sl none 7 (recs m)] [stO false 1 v l, fsC s 2, fsM s] R := by
 refine acalls_of_xwp (an := an48) tab_ok Tryz.func48 ?_
 by_cases hw : is3 w
 ·by_cases hm : ∀ r ∈ m, mayP w r = true
  ·have hs := fileP_small hm hl
   conv => whnf
   refine cPut_any hw m (by omega) hd (fun _ => ?_) (fun hno => absurd hm hno)
   conv => whnf
   refine Start_ok s logB newB (fileP w m) log_new w m hk (by omega) (by omega) (by decide) hs (fun hR => cPut_any hw m (by omega) hd (fun _ => hR) (fun hno => absurd hm hno)) ?_
   have h1 := h1 hw hm
   have h2 := h2 hw hm
   generalize startP s logB newB (fileP w m) = se at h1 h2 ⊢
   obtain ⟨s2, e⟩ := se
   by_cases he : e = 0
   ·subst he
    have h2 := h2 rfl
    conv => whnf
    refine cGet_any hw m hm hl ?_
    conv => whnf
    exact h2
   ·have h1 := h1 he
    conv => whnf
    refine br_true (by simpa using he) ?_
    conv => whnf
    refine met_calls e v l s2 ?_
    conv => whnf
    exact h1
  ·conv => whnf
   refine cPut_any hw m (by omega) hd (fun hy => absurd hy hm) (fun _ => ?_)
   conv => whnf
   exact h0 1 (.inl rfl) (.inr hm)
 ·conv => whnf
  refine cPut_no w (fun hx => hw (by unfold is3; omega)) m ?_
  conv => whnf
  exact h0 11 (.inr rfl) (.inl hw)
theorem stOpen_fs0 (v : Int) (hv : is3 v) {R} (h : R (.tup [.ptr 2 0, vi 0]) [fsC (fsL (fileP v [])) 1, fsM (fsL (fileP v [])), stO false 0 v []]) :
  ACalls Tryz.prog 24 [.ptr 0 0, vi v] [fsC fs0 1, fsM fs0] R := by
 refine acalls_of_xwp (an := { an24 with cst := [] }) tab_ok Tryz.func24 ?_
 have hm0 : ∀ r ∈ ([] : List Rc), mayP v r = true := by simp
 have hs := fileP_small (v := v) (l := []) hm0 (by simp)
 have hst := start_fs0 logB newB (fileP v []) log_new
 have hg1 : ¬ v < 1 := by unfold is3 at hv; omega
 have hg2 : ¬ 3 < v := by unfold is3 at hv; omega
 conv => whnf
 refine br_false (decide_eq_false hg1) ?_
 conv => whnf
 refine br_false (decide_eq_false hg2) ?_
 conv => whnf
 refine Down_calls fs0 ?_
 conv => whnf
 refine fsNames_calls fs0 (by simp [fs0]) (by simp [fs0, kys]) (by simp [fs0, kys]) ?_
 rw [show fs0.names = [] from by simp [FSt.names, sortB, fs0, kys]]
 conv => whnf
 refine sContains_calls [] newB (by simp) ?_
 conv => whnf
 refine sContains_calls [] logB (by simp) ?_
 conv => whnf
 refine ACalls.args ?_ (Start_ok fs0 logB newB (fileP v []) log_new v [] fs0_fok (by omega) (by omega) (by decide) hs (fun hR => cPut_any hv [] (by simp) (by simp) (fun _ => hR) (fun hno => absurd hm0 hno)) ?_)
 ·exact leL.cons (.refl _) (leL.cons (.refl _) (leL.cons (.refl _) (leL.cons (.refl _) (leL.cons (le_nil 7) leL.nil))))
 rw [hst]
 have hw := fsL_whole (fileP v [])
 have hh : R (.tup [.ptr 2 0, vi 0]) [fsC ⟨[(logB, ⟨fileP v [], (fileP v []).length⟩)], -1, -1, false⟩ 1, fsM ⟨[(logB, ⟨fileP v [], (fileP v []).length⟩)], -1, -1, false⟩, stO false 0 v []] := h
 have hw : Whole ⟨[(logB, ⟨fileP v [], (fileP v []).length⟩)], -1, -1, false⟩ logB (fileP v []) := hw
 generalize (FSt.mk [(logB, ⟨fileP v [], (fileP v []).length⟩)] (-1) (-1) false) = s at hh hw ⊢
 conv => whnf
 refine Open_ok s logB v [] hw.key (by rw [hw.get]) hs (fun hR => cGet_any hv [] hm0 (by simp) hR) ?_
 conv => whnf
 exact hh
structure Sp where
 kind : Int
 r : Rc
 name : B
 l : List Rc
 version : Int
 n : Int
def Sp.enc (o : Sp) : List AV := [vi o.kind, vi o.r.kind, vs o.r.target, uv o.r.rule, .sl none 3 (dpsA o.r.deps), uv o.r.out, uv o.r.wen, vs o.r.tag, vs o.name, .sl none 7 (recs o.l), vi o.version, vi o.n]
theorem act_calm0 {s : FSt} (h : Calm s) (late : Bool) (g : FM → FM) : (s.act late g).2 = 0 ∧ (s.act late g).1.fs = g s.fs ∧ Calm (s.act late g).1 := by
 obtain ⟨h0, h1, h2⟩ := h
 unfold FSt.act
 rw [if_neg (by rw [h1]; decide), if_neg (by rw [h0]; decide)]
 exact ⟨rfl, rfl, by show cnt s.fail = -1; rw [h0]; rfl, by show cnt s.fall = -1; rw [h1]; rfl, h2⟩
theorem may0 {s : FSt} (hd : s.down = false) {name : B} (h : name ∈ kys s.fs) : s.may name = 0 := by
 unfold FSt.may
 rw [hd]
 cases e : lk s.fs name with
 | none => exact absurd h (lk_none.1 e)
 | some f => rfl
theorem append_calm {s : FSt} (h : Calm s) (name b : B) : (s.append name b).2 = 0 ∧ (s.append name b).1.fs = addF name b s.fs ∧ Calm (s.append name b).1 := by
 unfold FSt.append
 rw [if_neg (by rw [h.2.2]; decide)]
 exact act_calm0 h true _
theorem sync_calm {s : FSt} (h : Calm s) {name : B} (hn : name ∈ kys s.fs) : (s.sync name).2 = 0 ∧ (s.sync name).1.fs = syncF name s.fs ∧ Calm (s.sync name).1 := by
 unfold FSt.sync
 rw [if_neg (by rw [may0 h.2.2 hn]; decide)]
 exact act_calm0 h false _
theorem rename_calm {s : FSt} (h : Calm s) {a : B} (b : B) (hn : a ∈ kys s.fs) : (s.rename a b).2 = 0 := by
 unfold FSt.rename
 rw [if_neg (by rw [may0 h.2.2 hn]; decide)]
 exact (act_calm0 h false _).1
theorem remove_calm {s : FSt} (h : Calm s) {a : B} (hn : a ∈ kys s.fs) : (s.remove a).2 = 0 ∧ Calm (s.remove a).1 := by
 unfold FSt.remove
 rw [if_neg (by rw [may0 h.2.2 hn]; decide)]
 exact ⟨(act_calm0 h false _).1, (act_calm0 h false _).2.2⟩
theorem addF_in (name b : B) (m : FM) : name ∈ kys (addF name b m) := by unfold addF; exact mem_kys_pt.2 (.inl rfl)
theorem syncF_in {name : B} {m : FM} (h : name ∈ kys m) (a : B) : name ∈ kys (syncF a m) := by unfold syncF; exact mem_kys_pt.2 (.inr h)
theorem run3_calm {s : FSt} (h : Calm s) {log new b : B} : (run3 s log new b).2 = 0 := by
 unfold run3
 obtain ⟨e, f, c⟩ := append_calm h new b
 rw [if_neg (by rw [e]; simp)]
 have hin : new ∈ kys (s.append new b).1.fs := by rw [f]; exact addF_in _ _ _
 obtain ⟨e2, f2, c2⟩ := sync_calm c hin
 rw [if_neg (by rw [e2]; simp)]
 exact rename_calm c2 log (by rw [f2]; exact syncF_in hin _)
theorem start_calm {s : FSt} (h : Calm s) {log new b : B} : (startP s log new b).2 = 0 := by
 unfold startP
 split
 ·rename_i hin
  have hin := (names_perm s).mem_iff.1 hin
  obtain ⟨e, c⟩ := remove_calm h hin
  rw [if_neg (by rw [e]; simp)]
  exact run3_calm c
 ·exact run3_calm h
theorem table_1 (l : List Rc) (hl : l.length ≤ 1000) (hm : ∀ r ∈ l, mayP 1 r = true) (x : AV) (hx : x = .sl none 1 (ints (endsR 1 l))) (n : Int) {R} (h : R (.tup [.ptr 0 0, vi 0]) [tblF]) :
  ACalls Tryz.prog 144 [.agg [vi 1, .sl none 7 (recs l), x, vi n]] [] R := by
 subst hx
 refine acalls_of_xwp (an := an144) tab_ok Tryz.func144 ?_
 have hsl := recs_length l
 conv => whnf
 refine New_nil ?_
 conv => whnf
 refine LoopP.ind1 (fun (i : Nat) => [(13, vi i)]) (fun i => [(freshN 9 0, tblF)]) (fun i => l.length - i) (fun i => i ≤ l.length) 0 rfl (by omega) ?_
 intro i h0 IH
 conv => whnf
 refine br_intro (fun hc => ?_) (fun hc => ?_)
 ·have hi := lt_of_decE hsl hc
  have IH := IH (i + 1) hi (by omega)
  (conv => whnf); (repeat ((with_reducible refine must_intro ?_ ?_); exact decide_eq_true (by omega); (conv => whnf)))
  refine idxK_map_intro (show (i : Int).toNat < l.length by simpa using hi) ?_
  rw [show l[(i : Int).toNat]'(by simpa using hi) = l[i] from by congr 1]
  conv => whnf
  refine sPut_1 l[i] (hm _ (List.getElem_mem hi)) ?_
  conv => whnf
  rw [i64_nat (by omega)]
  exact IH
 ·conv => whnf
  exact h
theorem payP_one (t : List B) (r : Rc) : payP 1 t r = [lastW 1 t r] := by simp [payP, defsP, addT]
theorem jframes_1 (r : Rc) (hm : mayP 1 r = true) (t : List B) (ht0 : t = []) {R} (h : R (.tup [.sl none 1 (byteEls (framesP (payP 1 t r))), vi 0]) [tblF]) :
  ACalls Tryz.prog 145 [vi 1, .ptr 0 0, .agg r.enc] [tblF] R := by
 subst ht0
 refine acalls_of_xwp (an := an145) tab_ok Tryz.func145 ?_
 have hpl := payP_lens (t := []) (may_all hm) (by simp)
 rw [payP_one] at hpl h
 have hpl := hpl _ (List.mem_singleton.2 rfl)
 have hfr : framesP [lastW 1 [] r] = [] ++ frameP (lastW 1 [] r) := by simp [framesP]
 rw [hfr] at h
 conv => whnf
 refine sPut_1 r hm ?_
 rw [payP_one]
 generalize lastW 1 [] r = p at hpl h ⊢
 have hrl := rowsB_length [p]
 conv => whnf
 refine LoopP.step ?_
 conv => whnf
 refine ACalls.args (leL.cons (le_nil 1) (leL.refl _)) (framePut_calls [] p (by simp) hpl.1 hpl.2 ?_)
 conv => whnf
 refine LoopP.step ?_
 conv => whnf
 exact h
theorem jAppend_1 (s : FSt) (name : B) (hn : name.length < 1000000) {nb fb : Nat} (hk : FOk s nb fb) (hfb : fb ≤ 80000000) (l : List Rc) (hl : l.length ≤ 300) (hm : ∀ r ∈ l, mayP 1 r = true) (r : Rc) (hr : mayP 1 r = true) {R}
  (h1 : (s.append name (moreP 1 l r)).2 ≠ 0 → R (.tup [zF, vi (s.append name (moreP 1 l r)).2]) [fsC (s.append name (moreP 1 l r)).1 1, fsM (s.append name (moreP 1 l r)).1])
  (h2 : (s.append name (moreP 1 l r)).2 = 0 → R (.tup [.agg (fileA 1 (l ++ [r])), vi 0]) [fsC (s.append name (moreP 1 l r)).1 1, fsM (s.append name (moreP 1 l r)).1]) :
  ACalls Tryz.prog 115 [.ptr 0 0, vs name, .agg (fileA 1 l), .agg r.enc] [fsC s 1, fsM s] R := by
 refine ACalls.res ?_
 refine acalls_of_xwp (an := an115) tab_ok Tryz.func115 ?_
 have hM : ∀ x ∈ l, MayR 1 x := fun x hx => may_all (hm x hx)
 have hMr := may_all hr
 have hfl := fileP_small hm hl
 have htl := tblL_len (v := 1) (l := l) (t := []) hM
 simp at htl
 have hpf := payP_frames (v := 1) (t := tblL 1 [] l) hMr (by omega)
 have hsl := recs_length l
 have hel := endsR_length 1 l
 have hil := ints_length (endsR 1 l)
 have hml : (moreP 1 l r).length ≤ 3000 := hpf
 conv => whnf
 refine table_1 l (by omega) hm _ rfl _ ?_
 obtain ⟨T, hT⟩ : ∃ T, T = tblL 1 [] l := ⟨_, rfl⟩
 have hmo : moreP 1 l r = framesP (payP 1 T r) := by rw [hT]; rfl
 rw [← hT] at htl
 rw [hmo] at h1 h2 hml
 have hl0 : T = [] := by rw [hT]; exact tblL_one _ _
 have hend : IntKind.i64.wrap (((fileP 1 l).length : Int) + ((byteEls (framesP (payP 1 T r))).length : Int)) = ((fileP 1 (l ++ [r])).length : Int) := by
  rw [fileP_snoc, hmo, List.length_append, bel_length, wrap_i64 (by omega) (by omega)]
  omega
 conv => whnf
 refine jframes_1 r hr T hl0 ?_
 conv => whnf
 refine Append_calls s name (framesP (payP 1 T r)) hk.fail hk.fall (by omega) (by have := (hk.m.get name).2; omega) ?_
 conv => whnf
 refine br_intro (fun g => ?_) (fun g => ?_)
 ·conv => whnf
  exact res_same (h1 (by simpa using g))
 have h2 := h2 (by simpa using g)
 generalize framesP (payP 1 T r) = F at hml hend h2 ⊢
 conv => whnf
 rw [hend]
 refine rCloneO_calls l (by omega) (fun e => ?_) ?_
 ·conv => whnf
  refine Clone_calls r (by have := hMr.deps; omega) ?_
  conv => whnf
  refine ⟨by rw [bytes_rec]; simp only [List.length_cons, List.length_nil]; decide, ?_⟩
  conv => whnf
  obtain ⟨X, hXX⟩ : ∃ X, X = [r.enc] := ⟨_, rfl⟩
  have hX : recs (l ++ [r]) = X := by rw [recs_snoc, e, hXX]; rfl
  refine iCloneO_calls (endsR 1 l) (by omega) (fun e2 => ?_) ?_
  ·conv => whnf
   refine ⟨by rw [bytes_int]; simp only [List.length_cons, List.length_nil]; decide, ?_⟩
   conv => whnf
   have er : fileA 1 (l ++ [r]) = [vi 1, .sl none 7 X, .sl none 1 [[vi ((fileP 1 (l ++ [r])).length : Int)]], vi ((fileP 1 (l ++ [r])).length : Int)] := by
    unfold fileA
    rw [endsR_snoc, e2, ← hX]
    rfl
   rw [er, hXX] at h2
   exact res_same h2
  ·conv => whnf
   refine ⟨hil.symm, by rw [hil, hel, bytes_int]; simp only [List.length_cons, List.length_nil]; omega, ?_⟩
   conv => whnf
   have er : fileA 1 (l ++ [r]) = [vi 1, .sl none 7 X, .sl none 1 (ints (endsR 1 l) ++ [[vi ((fileP 1 (l ++ [r])).length : Int)]]), vi ((fileP 1 (l ++ [r])).length : Int)] := by
    unfold fileA
    rw [← hX, endsR_snoc, ints_snoc]
   rw [er, hXX] at h2
   exact res_same h2
 ·conv => whnf
  refine Clone_calls r (by have := hMr.deps; omega) ?_
  conv => whnf
  refine ⟨rfl, by rw [bytes_rec, hsl]; simp only [List.length_cons, List.length_nil]; omega, ?_⟩
  conv => whnf
  obtain ⟨X, hXX⟩ : ∃ X, X = recs l ++ [r.enc] := ⟨_, rfl⟩
  have hX : recs (l ++ [r]) = X := by rw [recs_snoc, hXX]
  refine iCloneO_calls (endsR 1 l) (by omega) (fun e2 => ?_) ?_
  ·conv => whnf
   refine ⟨by rw [bytes_int]; simp only [List.length_cons, List.length_nil]; decide, ?_⟩
   conv => whnf
   have er : fileA 1 (l ++ [r]) = [vi 1, .sl none 7 X, .sl none 1 [[vi ((fileP 1 (l ++ [r])).length : Int)]], vi ((fileP 1 (l ++ [r])).length : Int)] := by
    unfold fileA
    rw [endsR_snoc, e2, ← hX]
    rfl
   rw [er, hXX] at h2
   exact res_same h2
  ·conv => whnf
   refine ⟨hil.symm, by rw [hil, hel, bytes_int]; simp only [List.length_cons, List.length_nil]; omega, ?_⟩
   conv => whnf
   have er : fileA 1 (l ++ [r]) = [vi 1, .sl none 7 X, .sl none 1 (ints (endsR 1 l) ++ [[vi ((fileP 1 (l ++ [r])).length : Int)]]), vi ((fileP 1 (l ++ [r])).length : Int)] := by
    unfold fileA
    rw [← hX, endsR_snoc, ints_snoc]
   rw [er, hXX] at h2
   exact res_same h2
theorem jAppend_any {v : Int} (hv : is3 v) (s : FSt) (name : B) (hn : name.length < 1000000) {nb fb : Nat} (hk : FOk s nb fb) (hfb : fb ≤ 80000000) (l : List Rc) (hl : l.length ≤ 300) (hm : ∀ r ∈ l, mayP v r = true) (r : Rc) (hr : mayP v r = true) {R}
  (h1 : (s.append name (moreP v l r)).2 ≠ 0 → R (.tup [zF, vi (s.append name (moreP v l r)).2]) [fsC (s.append name (moreP v l r)).1 1, fsM (s.append name (moreP v l r)).1])
  (h2 : (s.append name (moreP v l r)).2 = 0 → R (.tup [.agg (fileA v (l ++ [r])), vi 0]) [fsC (s.append name (moreP v l r)).1 1, fsM (s.append name (moreP v l r)).1]) :
  ACalls Tryz.prog 115 [.ptr 0 0, vs name, .agg (fileA v l), .agg r.enc] [fsC s 1, fsM s] R := by
 rcases hv with rfl | rfl | rfl
 ·exact jAppend_1 s name hn hk hfb l hl hm r hr h1 h2
 ·exact jAppend_v (.inl rfl) s name hn hk hfb l hl hm r hr h1 h2
 ·exact jAppend_v (.inr rfl) s name hn hk hfb l hl hm r hr h1 h2
theorem paysP_one : ∀ (l : List Rc) (T : List B), paysP 1 T l = l.map (lastW 1 T) := by
 intro l
 induction l with
 | nil => intro T; rfl
 | cons r l ih =>
  intro T
  rw [paysP, List.map_cons, addT_one, ih]
  simp [payP, defsP, addT]
theorem cut_recs_any {v : Int} (l : List Rc) (T : List B) (c : Nat) (hM : ∀ r ∈ l, MayR v r) (hc : c ≤ (paysP v T l).length) :
  ∃ (j : Nat) (ms : List B), j ≤ l.length ∧ (paysP v T l).take c = paysP v T (l.take j) ++ ms.map defP ∧ (v = 1 → ms = []) ∧ ms.length < 100 ∧ (∀ m ∈ ms, m.length ≤ 64) ∧ ∀ i, i ≤ l.length → (paysP v T (l.take i)).length ≤ c → i ≤ j := by
 by_cases hv : v = 1
 ·subst hv
  rw [paysP_one] at hc ⊢
  simp only [List.length_map] at hc
  refine ⟨c, [], hc, ?_, fun _ => rfl, by simp, by simp, fun i hi hle => ?_⟩
  ·rw [paysP_one, List.map_take]; simp
  ·rw [paysP_one] at hle
   simp at hle
   omega
 ·obtain ⟨j, ms, h1, h2, h3, h4, h5⟩ := cut_recs hv l T c hM hc
  exact ⟨j, ms, h1, h2, fun e => absurd e hv, h3, h4, h5⟩
theorem cut_any {v : Int} {l : List Rc} (hm : ∀ r ∈ l, mayP v r = true) (hl : l.length ≤ 300) {m : Nat} (h8 : 8 ≤ m) (hle : m ≤ (fileP v l).length) :
  ∃ (j : Nat) (ms : List B) (t : B), j ≤ l.length ∧ (fileP v l).take m = fileP v (l.take j) ++ framesP (ms.map defP) ++ t ∧ (v = 1 → ms = []) ∧ ms.length < 100 ∧ (∀ m ∈ ms, m.length ≤ 64) ∧ EndAt t ∧ t.length < 3000 ∧ ∀ i, i ≤ l.length → (fileP v (l.take i)).length ≤ m → i ≤ j := by
 have hM : ∀ r ∈ l, MayR v r := fun r hr => may_all (hm r hr)
 have hlens := paysP_lens (v := v) (l := l) (t := []) hM (by simp; omega)
 obtain ⟨m', rfl⟩ : ∃ m', m = 8 + m' := ⟨m - 8, by omega⟩
 rw [fileP_len] at hle
 obtain ⟨c, t, c1, c2, c3, c4, c5⟩ := cut_frames (paysP v [] l) m' hlens (by omega)
 obtain ⟨j, ms, j1, j2, j0, j3, j4, j5⟩ := cut_recs_any l [] c hM c1
 refine ⟨j, ms, t, j1, ?_, j0, j3, j4, c3, c4, fun i hi hil => j5 i hi ?_⟩
 ·unfold fileP
  rw [show 8 + m' = (headP v).length + m' from by rw [headP_length], List.take_length_add_append, c2, j2, framesP_append]
  simp only [List.append_assoc]
 ·refine Nat.le_of_not_lt fun hlt => ?_
  have e : paysP v [] l = paysP v [] (l.take i) ++ paysP v (tblL v [] (l.take i)) (l.drop i) := by rw [← paysP_append, List.take_append_drop]
  have hlen : (paysP v [] (l.take i)).length ≤ (paysP v [] l).length := by rw [e, List.length_append]; omega
  have h1 := c5 (by omega)
  have h2 : (paysP v [] l).take (c + 1) = (paysP v [] (l.take i)).take (c + 1) := by
   rw [e, List.take_append_of_le_length (by omega)]
  rw [h2] at h1
  have h3 := framesP_part (paysP v [] (l.take i)) (c + 1)
  rw [fileP_len] at hil
  omega
structure CutF (v : Int) (l : List Rc) (b : B) : Prop where
 hm : ∀ r ∈ l, mayP v r = true
 hl : l.length ≤ 300
 cut : ∃ (ms : List B) (t : B), b = fileP v l ++ framesP (ms.map defP) ++ t ∧ (v = 1 → ms = []) ∧ ms.length < 100 ∧ (∀ m ∈ ms, m.length ≤ 64) ∧ EndAt t ∧ t.length < 3000
theorem CutF.len {v : Int} {l : List Rc} {b : B} (h : CutF v l b) : b.length < 2000000 ∧ (fileP v l).length < 1000000 ∧ (fileP v l).length ≤ b.length := by
 obtain ⟨hm, hl, ms, t, hb, _, hml, hmf, _, htl⟩ := h
 have hs := fileP_small hm hl
 have hfm := framesP_len (l := ms.map defP) (k := 65) (fun p hp => by
  obtain ⟨m, hm1, rfl⟩ := List.mem_map.1 hp
  have := hmf m hm1
  simp [defP]; omega) (by omega)
 rw [List.length_map] at hfm
 rw [hb, List.length_append, List.length_append]
 omega
theorem sput_any {v : Int} (hv : is3 v) (s : FSt) {nb fb : Nat} (hk : FOk s nb fb) (hfb : fb ≤ 80000000) (l : List Rc) (hl : l.length ≤ 300) (hm : ∀ r ∈ l, mayP v r = true) (r : Rc) (hr : mayP v r = true) {R}
  (h1 : (putS v s l r).2 ≠ 0 → R (vi (putS v s l r).2) [stO ((putS v s l r).2 == 7) 1 v l, fsC (putS v s l r).1 2, fsM (putS v s l r).1])
  (h2 : (putS v s l r).2 = 0 → R (vi 0) [stO false 1 v (l ++ [r]), fsC (putS v s l r).1 2, fsM (putS v s l r).1]) :
  ACalls Tryz.prog 75 [.ptr 0 0, .agg r.enc] [stO false 1 v l, fsC s 2, fsM s] R := by
 refine acalls_of_xwp (an := { an75 with anyo := [1] }) tab_ok Tryz.func75 ?_
 unfold putS at h1 h2
 conv => whnf
 repeat' first | exact trivial | apply And.intro | ((fail_if_success (refine (show ACalls _ _ _ _ _ from ?_))); (fail_if_success (refine br_true ?_ ?_)); (conv => whnf))
 all_goals refine jAppend_any hv s logB (by decide) hk hfb l hl hm r hr ?_ ?_
 all_goals generalize s.append logB (moreP v l r) = se at h1 h2 ⊢
 all_goals obtain ⟨s2, e⟩ := se
 all_goals intro he
 all_goals first | (have he : e ≠ 0 := he) | (have he : e = 0 := he; subst he)
 all_goals (repeat' first | exact trivial | apply And.intro | ((fail_if_success (refine (show ACalls _ _ _ _ _ from ?_))); (fail_if_success (refine br_true ?_ ?_)); (conv => whnf)))
 all_goals first | refine br_false (by simpa using he) ?_ | skip
 all_goals (repeat' first | exact trivial | apply And.intro | ((fail_if_success (refine (show ACalls _ _ _ _ _ from ?_))); (fail_if_success (refine br_true ?_ ?_)); (conv => whnf)))
 all_goals first | refine met_calls 0 v (l ++ [r]) s2 ?_ | refine met_calls e v l s2 ?_
 all_goals (conv => whnf)
 all_goals first | exact h2 rfl | exact h1 he
theorem sPut_any {v : Int} (hv : is3 v) (s : FSt) {nb fb : Nat} (hk : FOk s nb fb) (hfb : fb ≤ 80000000) (l : List Rc) (hl : l.length ≤ 300) (hm : ∀ r ∈ l, mayP v r = true) (r : Rc) (hkd : r.kind = 1) (hr : mayP v r = true) {R}
  (h1 : (putS v s l r).2 ≠ 0 → R (vi (putS v s l r).2) [stO ((putS v s l r).2 == 7) 1 v l, fsC (putS v s l r).1 2, fsM (putS v s l r).1])
  (h2 : (putS v s l r).2 = 0 → R (vi 0) [stO false 1 v (l ++ [r]), fsC (putS v s l r).1 2, fsM (putS v s l r).1]) :
  ACalls Tryz.prog 44 [.ptr 0 0, .agg r.enc] [stO false 1 v l, fsC s 2, fsM s] R := by
 refine acalls_of_xwp (an := an44) tab_ok Tryz.func44 ?_
 have hd := (may_all hr).deps
 conv => whnf
 refine br_false (by simpa using hkd) ?_
 conv => whnf
 refine May_calls v r (by omega) fun p hp => ?_
 rw [hr] at hp
 subst hp
 conv => whnf
 refine sput_any hv s hk hfb l hl hm r hr (fun he => ?_) (fun he => ?_)
 ·have h1 := h1 he
  generalize putS v s l r = se at h1 he ⊢
  obtain ⟨s2, e⟩ := se
  conv => whnf
  exact h1
 ·have h2 := h2 he
  generalize putS v s l r = se at h2 he ⊢
  obtain ⟨s2, e⟩ := se
  conv => whnf
  exact h2
def stR (ov : Bool) (v : Int) (l : List Rc) (s : FSt) : List AV := [.sl none 3 (flsR s.fs), vi s.fail, vi s.fall, .val (.bool s.down), vi v, .sl none 7 (recs l), .sl none 1 (ints (endsR v l)), vi (((fileP v l).length : Nat) : Int), .val (.bool ov)]
def rputS (v : Int) (s : FSt) (l : List Rc) (r : Rc) : FSt × Int := s.rappend logB (moreP v l r)
theorem rsput_calls {v : Int} (hv : is3 v) (s : FSt) (hs : ROk s) (hg : (gF s.fs logB).b.length < 900000000) (l : List Rc) (hl : l.length ≤ 300) (hm : ∀ r ∈ l, mayP v r = true) (r : Rc) (hr : mayP v r = true) (o : Bool) {R}
  (h1 : (rputS v s l r).2 ≠ 0 → R (.tup [.agg (stR ((rputS v s l r).2 == 7) v l (rputS v s l r).1), vi (rputS v s l r).2]) [])
  (h2 : (rputS v s l r).2 = 0 → R (.tup [.agg (stR false v (l ++ [r]) (rputS v s l r).1), vi 0]) []) :
  ACalls Tryz.prog 79 [.agg (stR o v l s), .agg r.enc] [] R := by
 refine acalls_of_xwp (an := an79) tab_ok Tryz.func79 ?_
 unfold rputS at h1 h2
 conv => whnf
 refine rjAppend_calls s hs logB (by decide) hg hv l hl hm r hr (fun he => ?_) (fun he => ?_)
 ·have h1 := h1 he
  clear h2
  generalize s.rappend logB (moreP v l r) = se at h1 he ⊢
  obtain ⟨s2, e⟩ := se
  have he : e ≠ 0 := he
  conv => whnf
  refine br_false (by simpa using he) ?_
  conv => whnf
  exact h1
 ·have h2 := h2 he
  clear h1
  generalize s.rappend logB (moreP v l r) = se at h2 he ⊢
  obtain ⟨s2, e⟩ := se
  conv => whnf
  exact h2
theorem rsPut_calls {v : Int} (hv : is3 v) (s : FSt) (hs : ROk s) (hg : (gF s.fs logB).b.length < 900000000) (l : List Rc) (hl : l.length ≤ 300) (hm : ∀ r ∈ l, mayP v r = true) (r : Rc) (hd : r.deps.length < 100000) {R}
  (h0 : ¬ (r.kind = 1 ∧ mayP v r = true) → R (.tup [.agg (stR false v l s), vi 1]) [])
  (h1 : r.kind = 1 → mayP v r = true → (rputS v s l r).2 ≠ 0 → R (.tup [.agg (stR ((rputS v s l r).2 == 7) v l (rputS v s l r).1), vi (rputS v s l r).2]) [])
  (h2 : r.kind = 1 → mayP v r = true → (rputS v s l r).2 = 0 → R (.tup [.agg (stR false v (l ++ [r]) (rputS v s l r).1), vi 0]) []) :
  ACalls Tryz.prog 45 [.agg (stR false v l s), .agg r.enc] [] R := by
 refine acalls_of_xwp (an := an45) tab_ok Tryz.func45 ?_
 conv => whnf
 refine br_intro (fun g => ?_) (fun g => ?_)
 ·have h0 := h0 (fun hx => by simp [hx.1] at g)
  conv => whnf
  exact h0
 have g : r.kind = 1 := by simpa using g
 conv => whnf
 refine refMay_calls v r hd fun p hp => ?_
 cases p with
 | false =>
  have h0 := h0 (fun hx => by rw [hx.2] at hp; cases hp)
  conv => whnf
  exact h0
 | true =>
  have hr : mayP v r = true := hp.symm
  have h1 := h1 g hr
  have h2 := h2 g hr
  conv => whnf
  refine rsput_calls hv s hs hg l hl hm r hr false (fun he => ?_) (fun he => ?_)
  ·have h1 := h1 he
   generalize rputS v s l r = se at h1 he ⊢
   obtain ⟨s2, e⟩ := se
   conv => whnf
   exact h1
  ·have h2 := h2 he
   generalize rputS v s l r = se at h2 he ⊢
   obtain ⟨s2, e⟩ := se
   conv => whnf
   exact h2
def fsK (b : B) (k : Nat) : FSt := ⟨[(logB, ⟨b, k⟩)], -1, -1, false⟩
theorem fs0_rok : ROk fs0 := ⟨by simp [fs0], by simp [fs0, kys], (by decide : -1 ≤ (-1 : Int) ∧ (-1 : Int) < 9223372036854775808), (by decide : -1 ≤ (-1 : Int) ∧ (-1 : Int) < 9223372036854775808)⟩
theorem fsK_rok (b : B) (k : Nat) : ROk (fsK b k) := ⟨by simp [fsK], by simp [fsK, kys, logB], (by decide : -1 ≤ (-1 : Int) ∧ (-1 : Int) < 9223372036854775808), (by decide : -1 ≤ (-1 : Int) ∧ (-1 : Int) < 9223372036854775808)⟩
theorem rstart_fs0 (F : B) : rstart fs0 logB newB F = (fsK F F.length, 0) := by
 have hne : newB ≠ logB := by decide
 have h1 : fs0.rappend newB F = (⟨[(newB, ⟨F, 0⟩)], -1, -1, false⟩, 0) := rfl
 have h2 : (FSt.mk [(newB, ⟨F, 0⟩)] (-1) (-1) false).rsync newB = (⟨[(newB, ⟨F, F.length⟩)], -1, -1, false⟩, 0) := by
  simp [FSt.rsync, FSt.may, FSt.act, lk, rSyn, rpt, wF, cutK, gF, cnt]
 have h3 : (FSt.mk [(newB, ⟨F, F.length⟩)] (-1) (-1) false).rrename newB logB = (⟨[(logB, ⟨F, F.length⟩)], -1, -1, false⟩, 0) := by
  simp [FSt.rrename, FSt.may, FSt.act, lk, rRen, rpt, wF, cutK, gF, cnt]
 unfold rstart rrun3
 rw [if_neg (by simp [fs0, kys]), h1]
 simp only [h2, h3, ne_eq, not_true_eq_false, if_false]
 rfl
theorem fsK_rappend (F b : B) (k : Nat) : (fsK F k).rappend logB b = (fsK (F ++ b) k, 0) := by
 simp [FSt.rappend, FSt.act, fsK, rAdd, rpt, wF, cutK, gF, lk, cnt]
theorem fsK_append (F b : B) (k : Nat) : (fsK F k).append logB b = (fsK (F ++ b) k, 0) := by
 simp [FSt.append, FSt.act, fsK, addF, pt, gF, lk, cnt]
theorem rsOpen_fs0 {v : Int} (hv : is3 v) {R} (h : R (.tup [.agg (stR false v [] (fsK (fileP v []) (fileP v []).length)), vi 0]) []) : ACalls Tryz.prog 40 [.agg (fsR fs0), vi v] [] R := by
 refine acalls_of_xwp (an := an40) tab_ok Tryz.func40 ?_
 have hst := rstart_fs0 (fileP v [])
 conv => whnf
 refine br_false (decide_eq_false (by unfold is3 at hv; omega)) ?_
 conv => whnf
 refine br_false (decide_eq_false (by unfold is3 at hv; omega)) ?_
 conv => whnf
 refine rGet_calls fs0 (by simp [fs0]) newB ?_
 rw [show decide (newB ∈ kys fs0.fs) = false from by simp [fs0, kys]]
 conv => whnf
 refine rGet_calls fs0 (by simp [fs0]) logB ?_
 rw [show decide (logB ∈ kys fs0.fs) = false from by simp [fs0, kys]]
 conv => whnf
 refine rStart_calls fs0 fs0_rok (by simp [fs0]) logB newB log_new (by decide) (by decide) (by simp [fs0, gF, lk, flZ]) hv [] (by simp) (by simp) ?_
 rw [hst]
 have hin : logB ∈ kys (fsK (fileP v []) (fileP v []).length).fs := by simp [fsK, kys]
 have hgb : (gF (fsK (fileP v []) (fileP v []).length).fs logB).b = fileP v [] := by simp [fsK, gF, lk]
 have hlen : (fsK (fileP v []) (fileP v []).length).fs.length < 900000 := by simp [fsK]
 generalize fsK (fileP v []) (fileP v []).length = s at h hin hgb hlen ⊢
 conv => whnf
 refine rOpen_calls s hlen logB [] hin hgb (fun hR => ref10GetHead_calls hv hR) ?_
 conv => whnf
 exact h
theorem fsK_ok {b : B} {k : Nat} (h : k ≤ b.length) : FOk (fsK b k) 1 b.length := ⟨⟨by simp [fsK, kys], by simpa [fsK] using h, by simp [fsK], by simp [fsK], by simp [fsK, kys, logB]⟩, (by decide : -1 ≤ (-1 : Int) ∧ (-1 : Int) < 9223372036854775808), (by decide : -1 ≤ (-1 : Int) ∧ (-1 : Int) < 9223372036854775808)⟩
def fsV (v : Int) (L : List Rc) : FSt := fsK (fileP v L) 8
theorem fsV_ok (v : Int) {L : List Rc} (hm : ∀ r ∈ L, mayP v r = true) (hl : L.length ≤ 300) : FOk (fsV v L) 1 1000000 := (fsK_ok (by rw [fileP_len]; omega)).mono (Nat.le_refl _) (by have := fileP_small hm hl; omega)
theorem fsV_rok (v : Int) (L : List Rc) : ROk (fsV v L) := fsK_rok _ _
theorem fsV_g (v : Int) {L : List Rc} (hm : ∀ r ∈ L, mayP v r = true) (hl : L.length ≤ 300) : (gF (fsV v L).fs logB).b.length < 900000000 := by
 have := fileP_small hm hl
 have e : (gF (fsV v L).fs logB).b = fileP v L := by simp [fsV, fsK, gF, lk]
 rw [e]; omega
theorem fsV_put (v : Int) (L : List Rc) (r : Rc) : putS v (fsV v L) L r = (fsV v (L ++ [r]), 0) := by
 unfold putS fsV
 rw [fsK_append, fileP_snoc]
theorem fsV_rput (v : Int) (L : List Rc) (r : Rc) : rputS v (fsV v L) L r = (fsV v (L ++ [r]), 0) := by
 unfold rputS fsV
 rw [fsK_rappend, fileP_snoc]
theorem fsV_nil (v : Int) : fsL (fileP v []) = fsV v [] := by
 have e : (fileP v []).length = 8 := by rw [fileP_len]; simp [paysP, framesP]
 show FSt.mk [(logB, ⟨fileP v [], (fileP v []).length⟩)] (-1) (-1) false = FSt.mk [(logB, ⟨fileP v [], 8⟩)] (-1) (-1) false
 rw [e]
theorem fsV_nilR (v : Int) : fsK (fileP v []) (fileP v []).length = fsV v [] := fsV_nil v
def puM (v : Int) (L : List Rc) (r : Rc) : List Rc := if r.kind = 1 ∧ mayP v r = true then L ++ [r] else L
theorem puM_ok {v : Int} {L : List Rc} (hm : ∀ r ∈ L, mayP v r = true) (r : Rc) : (∀ q ∈ puM v L r, mayP v q = true) ∧ (puM v L r).length ≤ L.length + 1 := by
 unfold puM
 split
 ·rename_i h
  refine ⟨fun q hq => ?_, by simp⟩
  rcases List.mem_append.1 hq with hq | hq
  ·exact hm q hq
  ·rw [List.mem_singleton.1 hq]; exact h.2
 ·exact ⟨hm, by omega⟩
theorem wPut_calls {v : Int} (hv : is3 v) (L : List Rc) (hl : L.length ≤ 300) (hm : ∀ r ∈ L, mayP v r = true) (r : Rc) (hd : r.deps.length < 100000) {R} (h : ∀ e, R (vi e) [stO false 1 v (puM v L r), fsC (fsV v (puM v L r)) 2, fsM (fsV v (puM v L r))]) :
  ACalls Tryz.prog 44 [.ptr 0 0, .agg r.enc] [stO false 1 v L, fsC (fsV v L) 2, fsM (fsV v L)] R := by
 unfold puM at h
 by_cases hy : r.kind = 1 ∧ mayP v r = true
 ·rw [if_pos hy] at h
  refine sPut_any hv (fsV v L) (fsV_ok v hm hl) (by omega) L hl hm r hy.1 hy.2 (fun he => ?_) (fun _ => ?_)
  ·rw [fsV_put] at he; exact absurd rfl he
  ·rw [fsV_put]; exact h 0
 ·rw [if_neg hy] at h
  refine sPut_no false (fsV v L) v L r hd (fun _ => ?_) (fun e => by cases e) (fun _ => h 1)
  by_cases hkd : r.kind = 1
  ·exact .inr (by cases hmm : mayP v r with | false => rfl | true => exact absurd ⟨hkd, hmm⟩ hy)
  ·exact .inl hkd
theorem vrPut_calls {v : Int} (hv : is3 v) (L : List Rc) (hl : L.length ≤ 300) (hm : ∀ r ∈ L, mayP v r = true) (r : Rc) (hd : r.deps.length < 100000) {R} (h : ∀ e, R (.tup [.agg (stR false v (puM v L r) (fsV v (puM v L r))), vi e]) []) :
  ACalls Tryz.prog 45 [.agg (stR false v L (fsV v L)), .agg r.enc] [] R := by
 unfold puM at h
 by_cases hy : r.kind = 1 ∧ mayP v r = true
 ·rw [if_pos hy] at h
  refine rsPut_calls hv (fsV v L) (fsV_rok v L) (fsV_g v hm hl) L hl hm r hd (fun hno => absurd hy hno) (fun _ _ he => ?_) (fun _ _ _ => ?_)
  ·rw [fsV_rput] at he; exact absurd rfl he
  ·rw [fsV_rput]; exact h 0
 ·rw [if_neg hy] at h
  exact rsPut_calls hv (fsV v L) (fsV_rok v L) (fsV_g v hm hl) L hl hm r hd (fun _ => h 1) (fun hk hr _ => absurd ⟨hk, hr⟩ hy) (fun hk hr _ => absurd ⟨hk, hr⟩ hy)
def made17 (v : Int) (l : List Rc) : List Rc := l.foldl (puM v) []
theorem made17_calls {v : Int} (hv : is3 v) (l : List Rc) (hl : l.length ≤ 100) (hd : ∀ r ∈ l, r.deps.length ≤ 60) {R}
  (h : (∀ r ∈ made17 v l, mayP v r = true) → (made17 v l).length ≤ l.length → R (.tup [.ptr 0 0, .ptr 2 0, .agg (stR false v (made17 v l) (fsV v (made17 v l)))]) [fsC (fsV v (made17 v l)) 1, fsM (fsV v (made17 v l)), stO false 0 v (made17 v l)]) :
  ACalls Tryz.prog 33 [vi v, .sl none 7 (recs l)] [] R := by
 refine acalls_of_xwp (an := an33) tab_ok Tryz.func33 ?_
 have hsl := recs_length l
 conv => whnf
 refine fsNew_calls ?_
 conv => whnf
 refine stOpen_fs0 v hv ?_
 rw [fsV_nil]
 conv => whnf
 refine rNew_calls ?_
 conv => whnf
 refine rsOpen_fs0 hv ?_
 rw [fsV_nilR]
 conv => whnf
 refine LoopP.ind2 (fun (i : Nat) (L : List Rc) => [(37, vi i)]) (fun i L => [(nameOf 6, .cells 35 [.val (.slice none 0 0), vi 0, vi 0, .val (.bool false), vi 0, .val (.slice none 0 0), .val (.slice none 0 0), vi 0, .val (.bool false)]), (nameOf 10, .cells 35 (stR false v L (fsV v L))), (freshN 14 0, fsC (fsV v L) (freshN 14 1)), (freshN 18 0, stO false (freshN 14 0) v L), (freshN 14 1, fsM (fsV v L))]) (fun i _ => l.length - i) (fun i L => (i ≤ l.length ∧ L.length ≤ i) ∧ (∀ r ∈ L, mayP v r = true) ∧ L = (l.take i).foldl (puM v) []) 0 [] rfl ⟨⟨by omega, by simp⟩, by simp, rfl⟩ ?_
 rintro i L hI IH
 have hm := hI.2.1
 have hLi := hI.1.2
 conv => whnf
 refine br_intro (fun hc => ?_) (fun hc => ?_)
 ·have hi := lt_of_decE hsl hc
  obtain ⟨o1, o2⟩ := puM_ok hI.2.1 l[i]
  have IH := IH (i + 1) (puM v L l[i]) ⟨⟨hi, by omega⟩, o1, by rw [List.take_succ_eq_append_getElem hi, List.foldl_append, ← hI.2.2]; rfl⟩ (by omega)
  have hdi := hd _ (List.getElem_mem hi)
  (conv => whnf); (repeat ((with_reducible refine must_intro ?_ ?_); exact decide_eq_true (by omega); (conv => whnf)))
  refine idxK_map_intro (show (i : Int).toNat < l.length by simpa using hi) ?_
  rw [show l[(i : Int).toNat]'(by simpa using hi) = l[i] from by congr 1]
  generalize l[i] = r at IH hdi o1 o2 ⊢
  conv => whnf
  refine wPut_calls hv L (by omega) hm r (by omega) fun e => ?_
  conv => whnf
  refine vrPut_calls hv L (by omega) hm r (by omega) fun e2 => ?_
  conv => whnf
  rw [i64_nat (by omega)]
  exact IH
 ·have hi := ge_of_decE hsl hc
  have hL : L = made17 v l := by rw [hI.2.2, List.take_of_length_le hi]; rfl
  rw [← hL] at h
  have h := h hm (by have := hI.1.1; omega)
  conv => whnf
  exact h
theorem act_three (s : FSt) (late : Bool) (g : FM → FM) : ((s.act late g).2 = 0 ∧ (s.act late g).1.fs = g s.fs) ∨ ((s.act late g).2 = 8 ∧ (s.act late g).1.fs = s.fs) ∨ ((s.act late g).2 = 7 ∧ ((s.act late g).1.fs = s.fs ∨ (late = true ∧ (s.act late g).1.fs = g s.fs))) := by
 unfold FSt.act
 split
 ·refine .inr (.inr ⟨rfl, ?_⟩)
  cases late
  ·exact .inl rfl
  ·exact .inr ⟨rfl, rfl⟩
 ·split
  ·exact .inr (.inl ⟨rfl, rfl⟩)
  ·exact .inl ⟨rfl, rfl⟩
theorem append_three {s : FSt} {log F b : B} {k : Nat} (h : lk s.fs log = some ⟨F, k⟩) :
  ((s.append log b).2 = 0 ∧ lk (s.append log b).1.fs log = some ⟨F ++ b, k⟩) ∨ ((s.append log b).2 = 8 ∧ lk (s.append log b).1.fs log = some ⟨F, k⟩) ∨ ((s.append log b).2 = 7 ∧ (lk (s.append log b).1.fs log = some ⟨F, k⟩ ∨ lk (s.append log b).1.fs log = some ⟨F ++ b, k⟩)) := by
 have hg : lk (addF log b s.fs) log = some ⟨F ++ b, k⟩ := by
  unfold addF
  rw [lk_pt, if_pos rfl]
  simp [gF, h]
 unfold FSt.append
 split
 ·exact .inr (.inr ⟨rfl, .inl h⟩)
 ·rcases act_three s true (addF log b) with ⟨e, f⟩ | ⟨e, f⟩ | ⟨e, f | ⟨_, f⟩⟩
  ·exact .inl ⟨e, by rw [f]; exact hg⟩
  ·exact .inr (.inl ⟨e, by rw [f]; exact h⟩)
  ·exact .inr (.inr ⟨e, .inl (by rw [f]; exact h)⟩)
  ·exact .inr (.inr ⟨e, .inr (by rw [f]; exact hg)⟩)
theorem append_keep (s : FSt) {log new b : B} {X : Option Fl} (hne : log ≠ new) (h : lk s.fs log = X) (hn : lk s.fs new = none) :
  ((s.append new b).2 = 0 ∧ lk (s.append new b).1.fs log = X ∧ lk (s.append new b).1.fs new = some ⟨b, 0⟩) ∨ ((s.append new b).2 ≠ 0 ∧ lk (s.append new b).1.fs log = X) := by
 have hg : lk (addF new b s.fs) log = lk s.fs log ∧ lk (addF new b s.fs) new = some ⟨b, 0⟩ := by
  unfold addF
  rw [lk_pt, lk_pt, if_neg (Ne.symm hne), if_pos rfl]
  refine ⟨rfl, ?_⟩
  simp [gF, hn, flZ]
 unfold FSt.append
 split
 ·exact .inr ⟨by simp, h⟩
 ·rcases act_cases s true (addF new b) with ⟨e, f⟩ | ⟨e, f | ⟨_, f⟩⟩
  ·exact .inl ⟨e, by rw [f, hg.1]; exact h, by rw [f]; exact hg.2⟩
  ·exact .inr ⟨e, by rw [f]; exact h⟩
  ·exact .inr ⟨e, by rw [f, hg.1]; exact h⟩
theorem sync_keep (s : FSt) {log new b : B} {X : Option Fl} {k : Nat} (hne : log ≠ new) (h : lk s.fs log = X) (hn : lk s.fs new = some ⟨b, k⟩) :
  ((s.sync new).2 = 0 ∧ lk (s.sync new).1.fs log = X ∧ lk (s.sync new).1.fs new = some ⟨b, b.length⟩) ∨ ((s.sync new).2 ≠ 0 ∧ lk (s.sync new).1.fs log = X) := by
 have hg : lk (syncF new s.fs) log = lk s.fs log ∧ lk (syncF new s.fs) new = some ⟨b, b.length⟩ := by
  unfold syncF
  rw [lk_pt, lk_pt, if_neg (Ne.symm hne), if_pos rfl]
  refine ⟨rfl, ?_⟩
  simp [gF, hn]
 unfold FSt.sync
 split
 ·rename_i hm
  exact .inr ⟨hm, h⟩
 ·rcases act_cases s false (syncF new) with ⟨e, f⟩ | ⟨e, f | ⟨hl, _⟩⟩
  ·exact .inl ⟨e, by rw [f, hg.1]; exact h, by rw [f]; exact hg.2⟩
  ·exact .inr ⟨e, by rw [f]; exact h⟩
  ·cases hl
theorem rename_keep (s : FSt) {log new b : B} {X : Option Fl} (h : lk s.fs log = X) (hn : lk s.fs new = some ⟨b, b.length⟩) :
  ((s.rename new log).2 = 0 ∧ lk (s.rename new log).1.fs log = some ⟨b, b.length⟩) ∨ ((s.rename new log).2 ≠ 0 ∧ lk (s.rename new log).1.fs log = X) := by
 have hg : lk (renF new log s.fs) log = some ⟨b, b.length⟩ := by
  unfold renF
  rw [lk_pt, if_pos rfl]
  simp [gF, hn]
 unfold FSt.rename
 split
 ·rename_i hm
  exact .inr ⟨hm, h⟩
 ·rcases act_cases s false (renF new log) with ⟨e, f⟩ | ⟨e, f | ⟨hl, _⟩⟩
  ·exact .inl ⟨e, by rw [f]; exact hg⟩
  ·exact .inr ⟨e, by rw [f]; exact h⟩
  ·cases hl
theorem remove_keep (s : FSt) {log new : B} {X : Option Fl} (hnd : (kys s.fs).Nodup) (hne : log ≠ new) (h : lk s.fs log = X) :
  ((s.remove new).2 = 0 ∧ lk (s.remove new).1.fs log = X ∧ lk (s.remove new).1.fs new = none) ∨ ((s.remove new).2 ≠ 0 ∧ lk (s.remove new).1.fs log = X) := by
 have hg : lk (dl s.fs new) log = lk s.fs log ∧ lk (dl s.fs new) new = none := by
  rw [lk_dl hnd, lk_dl hnd, if_neg (Ne.symm hne), if_pos rfl]
  exact ⟨rfl, rfl⟩
 unfold FSt.remove
 split
 ·rename_i hm
  exact .inr ⟨hm, h⟩
 ·rcases act_cases s false (fun m => dl m new) with ⟨e, f⟩ | ⟨e, f | ⟨hl, _⟩⟩
  ·exact .inl ⟨e, by rw [f, hg.1]; exact h, by rw [f]; exact hg.2⟩
  ·exact .inr ⟨e, by rw [f]; exact h⟩
  ·cases hl
theorem run3_keep (s : FSt) {log new b : B} {X : Option Fl} (hne : log ≠ new) (h : lk s.fs log = X) (hn : lk s.fs new = none) :
  ((run3 s log new b).2 = 0 ∧ lk (run3 s log new b).1.fs log = some ⟨b, b.length⟩) ∨ ((run3 s log new b).2 ≠ 0 ∧ lk (run3 s log new b).1.fs log = X) := by
 unfold run3
 rcases append_keep s (b := b) hne h hn with ⟨e, h1, n1⟩ | ⟨e, h1⟩
 ·rw [if_neg (not_not_intro e)]
  rcases sync_keep _ hne h1 n1 with ⟨e2, h2, n2⟩ | ⟨e2, h2⟩
  ·rw [if_neg (not_not_intro e2)]
   exact rename_keep _ h2 n2
  ·rw [if_pos e2]
   exact .inr ⟨e2, h2⟩
 ·rw [if_pos e]
  exact .inr ⟨e, h1⟩
theorem start_keep (s : FSt) {log new b : B} {X : Option Fl} (hnd : (kys s.fs).Nodup) (hne : log ≠ new) (h : lk s.fs log = X) :
  ((startP s log new b).2 = 0 ∧ lk (startP s log new b).1.fs log = some ⟨b, b.length⟩) ∨ ((startP s log new b).2 ≠ 0 ∧ lk (startP s log new b).1.fs log = X) := by
 unfold startP
 split
 ·rcases remove_keep s hnd hne h with ⟨e, h1, n1⟩ | ⟨e, h1⟩
  ·rw [if_neg (not_not_intro e)]
   exact run3_keep _ hne h1 n1
  ·rw [if_pos e]
   exact .inr ⟨e, h1⟩
 ·rename_i hin
  exact run3_keep s hne h (lk_none.2 fun hk => hin ((names_perm s).mem_iff.2 hk))
structure KI (v : Int) (l : List Rc) (n : Nat) (s : FSt) (nb fb : Nat) : Prop where
 hv : is3 v
 hm : ∀ r ∈ l, mayP v r = true
 hn : n ≤ l.length
 hok : FOk s nb fb
 hlog : ∃ k, lk s.fs logB = some ⟨fileP v l, k⟩ ∧ (fileP v (l.take n)).length ≤ k
theorem KI.put {v : Int} {l : List Rc} {n : Nat} {s s2 : FSt} {nb fb : Nat} (h : KI v l n s nb fb) (hl : l.length ≤ 300) {r : Rc} (hr : mayP v r = true) {e : Int} (he : putS v s l r = (s2, e)) :
  (e = 0 ∧ KI v (l ++ [r]) n s2 (nb + 2) (fb + 1000000)) ∨ (e = 8 ∧ KI v l n s2 (nb + 2) (fb + 1000000)) ∨ (e = 7 ∧ (KI v l n s2 (nb + 2) (fb + 1000000) ∨ KI v (l ++ [r]) n s2 (nb + 2) (fb + 1000000))) := by
 obtain ⟨k, hk, hsy⟩ := h.hlog
 have htl := tblL_len (v := v) (l := l) (t := []) (fun y hy => may_all (h.hm y hy))
 simp at htl
 have hml : (moreP v l r).length ≤ 3000 := payP_frames (may_all hr) (by omega)
 have hok := (append_ok h.hok (name := logB) (b := moreP v l r) (by decide)).mono (nb' := nb + 2) (fb' := fb + 1000000) (by omega) (by omega)
 have h3 := append_three (b := moreP v l r) hk
 rw [← fileP_snoc] at h3
 unfold putS at he
 rw [he] at h3 hok
 have A : lk s2.fs logB = some ⟨fileP v l, k⟩ → KI v l n s2 (nb + 2) (fb + 1000000) := fun hh => ⟨h.hv, h.hm, h.hn, hok, k, hh, hsy⟩
 have C : lk s2.fs logB = some ⟨fileP v (l ++ [r]), k⟩ → KI v (l ++ [r]) n s2 (nb + 2) (fb + 1000000) := fun hh => by
  refine ⟨h.hv, fun y hy => ?_, by have := h.hn; simp; omega, hok, k, hh, ?_⟩
  ·rcases List.mem_append.1 hy with hy | hy
   ·exact h.hm y hy
   ·rw [List.mem_singleton.1 hy]; exact hr
  ·rw [List.take_append_of_le_length h.hn]; exact hsy
 rcases h3 with ⟨e1, h1⟩ | ⟨e1, h1⟩ | ⟨e1, h1 | h1⟩
 ·exact .inl ⟨e1, C h1⟩
 ·exact .inr (.inl ⟨e1, A h1⟩)
 ·exact .inr (.inr ⟨e1, .inl (A h1)⟩)
 ·exact .inr (.inr ⟨e1, .inr (C h1)⟩)
theorem KI.rewrite {v : Int} {l : List Rc} {n : Nat} {s s2 : FSt} {nb fb : Nat} (h : KI v l n s nb fb) {w : Int} (hw : is3 w) {m : List Rc} (hm : ∀ r ∈ m, mayP w r = true) (hml : m.length ≤ 300) {e : Int} (he : startP s logB newB (fileP w m) = (s2, e)) :
  (e = 0 ∧ KI w m m.length s2 (nb + 2) (fb + 1000000)) ∨ (e ≠ 0 ∧ KI v l n s2 (nb + 2) (fb + 1000000)) := by
 obtain ⟨k, hk, hsy⟩ := h.hlog
 have hs := fileP_small hm hml
 have hok := (start_ok h.hok (name := logB) (aside := newB) (b := fileP w m) (by decide) (by decide)).mono (nb' := nb + 2) (fb' := fb + 1000000) (by omega) (by omega)
 have h3 := start_keep s (b := fileP w m) h.hok.m.nodup log_new hk
 rw [he] at h3 hok
 rcases h3 with ⟨e1, h1⟩ | ⟨e1, h1⟩
 ·exact .inl ⟨e1, hw, hm, Nat.le_refl _, hok, _, h1, by rw [List.take_length]; exact Nat.le_refl _⟩
 ·exact .inr ⟨e1, h.hv, h.hm, h.hn, hok, k, h1, hsy⟩
theorem KI.crash {v : Int} {l : List Rc} {n : Nat} {s : FSt} {nb fb : Nat} (h : KI v l n s nb fb) (hl : l.length ≤ 300) (keep : List Int) :
  ∃ (m : Nat) (b : B), n ≤ m ∧ m ≤ l.length ∧ CutF v (l.take m) b ∧ Whole (s.crash keep) logB b ∧ FOk (s.crash keep) nb fb := by
 obtain ⟨k, hk, hsy⟩ := h.hlog
 obtain ⟨c1, c2, c3⟩ := crash_spec h.hok keep
 obtain ⟨m, m1, m2, m3⟩ := c3 logB (lk_key hk)
 have hg : gF s.fs logB = ⟨fileP v l, k⟩ := by unfold gF; rw [hk]; rfl
 rw [hg] at m1 m2 m3
 have m1 : k ≤ m := m1
 have m2 : m ≤ (fileP v l).length := m2
 have h8 : 8 ≤ m := by
  have := fileP_len v (l.take n)
  omega
 obtain ⟨m', ms, t, e1, e2, e0, e3, e4, e5, e6, e7⟩ := cut_any h.hm hl h8 m2
 refine ⟨m', (fileP v l).take m, e7 n h.hn (by omega), e1, ⟨fun r hr => h.hm r (List.mem_of_mem_take hr), by rw [List.length_take]; omega, ms, t, e2, e0, e3, e4, e5, e6⟩, ?_, c1⟩
 have hin : logB ∈ kys (s.crash keep).fs := by rw [c2]; exact lk_key hk
 unfold Whole
 cases e : lk (s.crash keep).fs logB with
 | none => exact absurd hin (lk_none.1 e)
 | some f =>
  have : gF (s.crash keep).fs logB = f := by unfold gF; rw [e]; rfl
  rw [this] at m3
  rw [m3]
  simp only [List.length_take, Option.some.injEq, Fl.mk.injEq, true_and]
  omega
theorem fsV_KI {v : Int} (hv : is3 v) {L : List Rc} (hm : ∀ r ∈ L, mayP v r = true) (hl : L.length ≤ 300) : KI v L 0 (fsV v L) 1 1000000 := by
 refine ⟨hv, hm, Nat.zero_le _, fsV_ok v hm hl, 8, by simp [fsV, fsK, lk], ?_⟩
 rw [List.take_zero, fileP_len]
 simp [paysP, framesP]
theorem fsV_calm (v : Int) (L : List Rc) : Calm (fsV v L) := ⟨rfl, rfl, rfl⟩
theorem KI.fall {v : Int} {l : List Rc} {n : Nat} {s : FSt} {nb fb : Nat} (h : KI v l n s nb fb) {c : Int} (hc : -9223372036854775808 ≤ c ∧ c < 9223372036854775808) : KI v l n ⟨s.fs, s.fail, capN c, s.down⟩ nb fb := ⟨h.hv, h.hm, h.hn, fall_ok h.hok hc, h.hlog⟩
theorem KI.fail {v : Int} {l : List Rc} {n : Nat} {s : FSt} {nb fb : Nat} (h : KI v l n s nb fb) {c : Int} (hc : -9223372036854775808 ≤ c ∧ c < 9223372036854775808) : KI v l n ⟨s.fs, capN c, s.fall, s.down⟩ nb fb := ⟨h.hv, h.hm, h.hn, fail_ok h.hok hc, h.hlog⟩
def oldB : B := [111, 108, 100]
theorem stepA_calls (r : Rc) {R} (h : R (.tup []) [.cells 67 { r with wen := 1 }.enc]) :
  ACalls Tryz.prog 177 [.ptr 0 0] [.cells 67 r.enc] R := by
 refine acalls_of_xwp (an := an177) tab_ok Tryz.func177 ?_
 conv => whnf
 exact h
theorem stepB_calls (r : Rc) {R} (h : R (.tup []) [.cells 67 { r with tag := oldB }.enc]) :
  ACalls Tryz.prog 178 [.ptr 0 0] [.cells 67 r.enc] R := by
 refine acalls_of_xwp (an := an178) tab_ok Tryz.func178 ?_
 conv => whnf
 exact h
theorem steps_calls {R} (h : R (.agg [vi 1, .fn (.func 177) [] [], vi 2, .fn (.func 178) [] []]) []) :
  ACalls Tryz.prog 142 [] [] R := by
 refine acalls_of_xwp (an := an142) tab_ok Tryz.func142 ?_
 conv => whnf
 exact h
def versP (a b : Int) : Bool := decide (1 ≤ a) && (decide (a ≤ b) && decide (b ≤ 3))
theorem vers_calls (a b : Int) {R} (h : ∀ p, p = versP a b → R (.val (.bool p)) []) : ACalls Tryz.prog 106 [vi a, vi b] [] R := by
 refine acalls_of_xwp (an := an106) tab_ok Tryz.func106 ?_
 conv => whnf
 refine br_intro (fun g => ?_) (fun g => ?_)
 ·have g : 1 ≤ a := by have := of_decide_eq_true g; omega
  conv => whnf
  refine br_intro (fun g2 => ?_) (fun g2 => ?_)
  ·have g2 : a ≤ b := of_decide_eq_true g2
   conv => whnf
   exact h _ (by rw [versP, decide_eq_true g, decide_eq_true g2]; rfl)
  ·have g2 : ¬ a ≤ b := of_decide_eq_false g2
   conv => whnf
   exact h _ (by rw [versP, decide_eq_false g2]; simp)
 ·have g : ¬ 1 ≤ a := by have := of_decide_eq_false g; omega
  conv => whnf
  exact h _ (by rw [versP, decide_eq_false g]; simp)
def movR (a b : Int) (r : Rc) : Rc := { r with wen := if r.kind = 1 ∧ a ≤ 1 ∧ 1 < b then 1 else r.wen, tag := if r.kind = 1 ∧ a ≤ 2 ∧ 2 < b then oldB else r.tag }
theorem To_calls (a b : Int) (ha : 1 ≤ a ∧ a ≤ 3) (hb : 1 ≤ b ∧ b ≤ 3) (r : Rc) (hd : r.deps.length < 100000) {R} (h1 : versP a b = true → mayP a r = true → R (.tup [.agg (movR a b r).enc, vi 0]) [])
  (h2 : ∀ e, e ≠ 0 → (versP a b && mayP a r) = false → R (.tup [.agg [.val (.int .i64 0), .val (.string ⟨#[]⟩), .val (.int .u64 0), .val (.slice none 0 0), .val (.int .u64 0), .val (.int .u64 0), .val (.string ⟨#[]⟩)], vi e]) []) : ACalls Tryz.prog 107 [vi a, vi b, .agg r.enc] [] R := by
 refine acalls_of_xwp (an := an107) tab_ok Tryz.func107 ?_
 conv => whnf
 refine vers_calls a b fun p hp => ?_
 conv => whnf
 refine br_intro (fun g => ?_) (fun g => ?_)
 ·conv => whnf
  exact h2 _ (by decide) (by rw [← hp]; revert g; cases p <;> simp)
 have hv : versP a b = true := by rw [← hp]; revert g; cases p <;> simp
 conv => whnf
 refine May_calls a r hd fun q hq => ?_
 conv => whnf
 refine br_intro (fun g2 => ?_) (fun g2 => ?_)
 ·conv => whnf
  exact h2 _ (by decide) (by rw [← hq]; revert g2; cases q <;> simp)
 have hm : mayP a r = true := by rw [← hq]; revert g2; cases q <;> simp
 conv => whnf
 refine Clone_calls r (by omega) ?_
 conv => whnf
 refine steps_calls ?_
 conv => whnf
 have h1 := h1 hv hm
 refine LoopP.step ?_
 conv => whnf
 refine br_intro (fun hk => ?_) (fun hk => ?_)
 ·have k : r.kind = 1 := by simpa using hk
  conv => whnf
  refine br_intro (fun p1 => ?_) (fun p1 => ?_)
  ·have p1 : a ≤ 1 := of_decide_eq_true p1
   conv => whnf
   refine br_intro (fun p2 => ?_) (fun p2 => ?_)
   ·have p2 : 1 < b := of_decide_eq_true p2
    have hw : (if r.kind = 1 ∧ a ≤ 1 ∧ 1 < b then (1 : U) else r.wen) = 1 := if_pos ⟨k, p1, p2⟩
    conv => whnf
    refine stepA_calls r ?_
    conv => whnf
    refine LoopP.step ?_
    conv => whnf
    refine br_true hk ?_
    conv => whnf
    refine br_intro (fun q1 => ?_) (fun q1 => ?_)
    ·have q1 : a ≤ 2 := of_decide_eq_true q1
     conv => whnf
     refine br_intro (fun q2 => ?_) (fun q2 => ?_)
     ·have q2 : 2 < b := of_decide_eq_true q2
      have ht : (if r.kind = 1 ∧ a ≤ 2 ∧ 2 < b then oldB else r.tag) = oldB := if_pos ⟨k, q1, q2⟩
      conv => whnf
      refine stepB_calls _ ?_
      conv => whnf
      refine LoopP.step ?_
      conv => whnf
      rw [movR, hw, ht] at h1
      exact h1
     ·have q2 : ¬ 2 < b := of_decide_eq_false q2
      have ht : (if r.kind = 1 ∧ a ≤ 2 ∧ 2 < b then oldB else r.tag) = r.tag := if_neg fun x => q2 x.2.2
      conv => whnf
      refine LoopP.step ?_
      conv => whnf
      rw [movR, hw, ht] at h1
      exact h1
    ·have q1 : ¬ a ≤ 2 := of_decide_eq_false q1
     have ht : (if r.kind = 1 ∧ a ≤ 2 ∧ 2 < b then oldB else r.tag) = r.tag := if_neg fun x => q1 x.2.1
     conv => whnf
     refine LoopP.step ?_
     conv => whnf
     rw [movR, hw, ht] at h1
     exact h1
   ·have p2 : ¬ 1 < b := of_decide_eq_false p2
    have hw : (if r.kind = 1 ∧ a ≤ 1 ∧ 1 < b then (1 : U) else r.wen) = r.wen := if_neg fun x => p2 x.2.2
    conv => whnf
    refine LoopP.step ?_
    conv => whnf
    refine br_true hk ?_
    conv => whnf
    refine br_intro (fun q1 => ?_) (fun q1 => ?_)
    ·have q1 : a ≤ 2 := of_decide_eq_true q1
     conv => whnf
     refine br_intro (fun q2 => ?_) (fun q2 => ?_)
     ·have q2 : 2 < b := of_decide_eq_true q2
      have ht : (if r.kind = 1 ∧ a ≤ 2 ∧ 2 < b then oldB else r.tag) = oldB := if_pos ⟨k, q1, q2⟩
      conv => whnf
      refine stepB_calls _ ?_
      conv => whnf
      refine LoopP.step ?_
      conv => whnf
      rw [movR, hw, ht] at h1
      exact h1
     ·have q2 : ¬ 2 < b := of_decide_eq_false q2
      have ht : (if r.kind = 1 ∧ a ≤ 2 ∧ 2 < b then oldB else r.tag) = r.tag := if_neg fun x => q2 x.2.2
      conv => whnf
      refine LoopP.step ?_
      conv => whnf
      rw [movR, hw, ht] at h1
      exact h1
    ·have q1 : ¬ a ≤ 2 := of_decide_eq_false q1
     have ht : (if r.kind = 1 ∧ a ≤ 2 ∧ 2 < b then oldB else r.tag) = r.tag := if_neg fun x => q1 x.2.1
     conv => whnf
     refine LoopP.step ?_
     conv => whnf
     rw [movR, hw, ht] at h1
     exact h1
  ·have p1 : ¬ a ≤ 1 := of_decide_eq_false p1
   have hw : (if r.kind = 1 ∧ a ≤ 1 ∧ 1 < b then (1 : U) else r.wen) = r.wen := if_neg fun x => p1 x.2.1
   conv => whnf
   refine LoopP.step ?_
   conv => whnf
   refine br_true hk ?_
   conv => whnf
   refine br_intro (fun q1 => ?_) (fun q1 => ?_)
   ·have q1 : a ≤ 2 := of_decide_eq_true q1
    conv => whnf
    refine br_intro (fun q2 => ?_) (fun q2 => ?_)
    ·have q2 : 2 < b := of_decide_eq_true q2
     have ht : (if r.kind = 1 ∧ a ≤ 2 ∧ 2 < b then oldB else r.tag) = oldB := if_pos ⟨k, q1, q2⟩
     conv => whnf
     refine stepB_calls _ ?_
     conv => whnf
     refine LoopP.step ?_
     conv => whnf
     rw [movR, hw, ht] at h1
     exact h1
    ·have q2 : ¬ 2 < b := of_decide_eq_false q2
     have ht : (if r.kind = 1 ∧ a ≤ 2 ∧ 2 < b then oldB else r.tag) = r.tag := if_neg fun x => q2 x.2.2
     conv => whnf
     refine LoopP.step ?_
     conv => whnf
     rw [movR, hw, ht] at h1
     exact h1
   ·have q1 : ¬ a ≤ 2 := of_decide_eq_false q1
    have ht : (if r.kind = 1 ∧ a ≤ 2 ∧ 2 < b then oldB else r.tag) = r.tag := if_neg fun x => q1 x.2.1
    conv => whnf
    refine LoopP.step ?_
    conv => whnf
    rw [movR, hw, ht] at h1
    exact h1
 ·have k : ¬ r.kind = 1 := by simpa using hk
  have hw : (if r.kind = 1 ∧ a ≤ 1 ∧ 1 < b then (1 : U) else r.wen) = r.wen := if_neg fun x => k x.1
  have ht : (if r.kind = 1 ∧ a ≤ 2 ∧ 2 < b then oldB else r.tag) = r.tag := if_neg fun x => k x.1
  conv => whnf
  refine LoopP.step ?_
  conv => whnf
  refine br_false hk ?_
  conv => whnf
  refine LoopP.step ?_
  conv => whnf
  rw [movR, hw, ht] at h1
  exact h1
theorem mv_snoc (l : List Rc) (r : Rc) : recs l ++ [r.enc] = recs (l ++ [r]) := by simp [recs]
theorem All_moves (a b : Int) (ha : 1 ≤ a ∧ a ≤ 3) (hb : 1 ≤ b ∧ b ≤ 3) (l : List Rc) (hl : l.length < 100000) (hd : ∀ r ∈ l, r.deps.length < 100000) {R}
  (h1 : versP a b = true → (∀ r ∈ l, mayP a r = true) → R (.tup [.sl none 7 (recs (l.map (movR a b))), vi 0]) [])
  (h2 : ∀ e, e ≠ 0 → ¬ (versP a b = true ∧ ∀ r ∈ l, mayP a r = true) → R (.tup [.val (.slice none 0 0), vi e]) []) : ACalls Tryz.prog 68 [vi a, vi b, .sl none 7 (recs l)] [] R := by
 refine acalls_of_xwp (an := an68) tab_ok Tryz.func68 ?_
 have hsl := recs_length l
 conv => whnf
 refine vers_calls a b fun p hp => ?_
 conv => whnf
 refine br_intro (fun g => ?_) (fun g => ?_)
 ·conv => whnf
  exact h2 _ (by decide) (by rw [← hp]; revert g; cases p <;> simp)
 have hv : versP a b = true := by rw [← hp]; revert g; cases p <;> simp
 conv => whnf
 refine LoopP.ind2 (fun (i : Nat) (out : List Rc) => [(8, .sl (some (nameOf 8)) 7 (recs out)), (19, vi i)]) (fun i out => [(nameOf 8, .row 67 7 (recs out).length)]) (fun i _ => l.length - i)
  (fun i out => i ≤ l.length ∧ out = (l.take i).map (movR a b) ∧ ∀ r ∈ l.take i, mayP a r = true) 0 [] rfl ⟨by omega, rfl, by simp⟩ ?_
 rintro i out ⟨h0, hm, hg⟩ IH
 have hrl := recs_length out
 have hol : out.length ≤ i := by rw [hm]; simp; omega
 conv => whnf
 refine br_intro (fun hc => ?_) (fun hc => ?_)
 ·have hc := lt_of_decE hsl hc
  (conv => whnf); (repeat ((with_reducible refine must_intro ?_ ?_); exact decide_eq_true (by omega); (conv => whnf)))
  refine idxK_map_intro (show (i : Int).toNat < l.length by simpa using hc) ?_
  rw [show l[(i : Int).toNat]'(by simpa using hc) = l[i] from by congr 1]
  conv => whnf
  refine To_calls a b ha hb l[i] (hd _ (List.getElem_mem hc)) (fun hv hm2 => ?_) (fun e he hbad => ?_)
  ·conv => whnf
   refine ⟨rfl, (by rw [show (tab.ti 67).bytes = 88 from rfl]; simp only [List.length_cons, List.length_nil]; omega), ?_⟩
   conv => whnf
   rw [i64_nat (by omega)]
   have hx := IH (i + 1) (out ++ [movR a b l[i]]) ⟨by omega, by rw [List.take_succ_eq_append_getElem hc, List.map_append, hm]; rfl, fun r hr => ?_⟩ (by omega)
   ·rw [← mv_snoc, List.length_append] at hx
    exact hx
   ·rw [List.take_succ_eq_append_getElem hc, List.mem_append, List.mem_singleton] at hr
    rcases hr with hr | rfl
    ·exact hg r hr
    ·exact hm2
  ·conv => whnf
   refine br_true (bne_iff_ne.2 he) ?_
   conv => whnf
   refine h2 e he fun x => ?_
   rw [x.1, x.2 _ (List.getElem_mem hc)] at hbad
   simp at hbad
 ·have hc := ge_of_decE hsl hc
  rw [List.take_of_length_le hc] at hm hg
  conv => whnf
  rw [hm]
  exact h1 hv hg
theorem depsGo_mono {v w : Int} (hvw : v ≤ w) : ∀ (l : List Dp) (seen : List B), depsGo v l seen = true → depsGo w l seen = true := by
 intro l
 induction l with
 | nil => intro seen _; rfl
 | cons d l ih =>
  intro seen h
  unfold depsGo at h ⊢
  simp only [Bool.and_eq_true, Bool.not_eq_true', Bool.and_eq_false_iff, decide_eq_false_iff_not, decide_eq_true_eq] at h ⊢
  refine ⟨h.1, h.2.1, ?_, ih _ h.2.2.2⟩
  rcases h.2.2.1 with h3 | h3
  ·exact .inl h3
  ·exact .inr (by omega)
theorem movR_may {v w : Int} (hvw : v ≤ w) (hw : w ≤ 3) {r : Rc} (h : mayP v r = true) : mayP w (movR v w r) = true := by
 have hM := may_all h
 unfold mayP at h ⊢
 split at h
 ·cases h
 ·rename_i h0
  simp only [Bool.or_eq_true, decide_eq_true_eq, Bool.not_eq_true', not_or] at h0
  have hn : nameOk r.target = true := by
   cases e : nameOk r.target with
   | true => rfl
   | false => exact absurd e h0.2
  rw [if_neg (by show ¬ (decide (w < 1) || decide (3 < w) || !nameOk r.target) = true; rw [hn]; simp; omega)]
  split at h
  ·rename_i hk
   rw [if_pos (show (movR v w r).kind = 1 from hk)]
   simp only [Bool.and_eq_true, Bool.not_eq_true', decide_eq_true_eq, depsP, earlyP, Bool.or_eq_false_iff, Bool.and_eq_false_iff, decide_eq_false_iff_not, Classical.not_not] at h ⊢
   obtain ⟨⟨e1, e2⟩, e3, e4, e5⟩ := h
   refine ⟨⟨?_, ?_⟩, ?_, depsGo_mono hvw _ _ e4, e5⟩
   ·show ¬ w < 2 ∨ (if r.kind = 1 ∧ v ≤ 1 ∧ 1 < w then (1 : U) else r.wen) = 0
    by_cases hw2 : w < 2
    ·right
     rw [if_neg (by omega)]
     exact e1.resolve_left fun x => x (by omega)
    ·exact .inl hw2
   ·show ¬ w < 3 ∨ (if r.kind = 1 ∧ v ≤ 2 ∧ 2 < w then oldB else r.tag) = []
    by_cases hw3 : w < 3
    ·right
     rw [if_neg (by omega)]
     exact e2.resolve_left fun x => x (by omega)
    ·exact .inl hw3
   ·show (if r.kind = 1 ∧ v ≤ 2 ∧ 2 < w then oldB else r.tag).length ≤ 64
    split
    ·decide
    ·exact e3
  ·rename_i hk
   split at h
   ·rename_i hk2
    have hmv : movR v w r = r := by unfold movR; rw [if_neg (fun x => hk x.1), if_neg (fun x => hk x.1)]
    rw [hmv, if_neg hk, if_pos hk2]
    exact h
   ·cases h
theorem movR_same (v : Int) (r : Rc) : movR v v r = r := by
 unfold movR
 rw [if_neg (by omega), if_neg (by omega)]
theorem movR_comp {a b c : Int} (h1 : a ≤ b) (h2 : b ≤ c) (r : Rc) : movR b c (movR a b r) = movR a c r := by
 unfold movR
 by_cases k : r.kind = 1
 ·simp only [k, true_and]
  congr 1
  ·by_cases q1 : b ≤ 1 ∧ 1 < c
   ·rw [if_pos q1, if_pos (by omega)]
   ·rw [if_neg q1]
    by_cases q2 : a ≤ 1 ∧ 1 < b
    ·rw [if_pos q2, if_pos (by omega)]
    ·rw [if_neg q2, if_neg (by omega)]
  ·by_cases q1 : b ≤ 2 ∧ 2 < c
   ·rw [if_pos q1, if_pos (by omega)]
   ·rw [if_neg q1]
    by_cases q2 : a ≤ 2 ∧ 2 < b
    ·rw [if_pos q2, if_pos (by omega)]
    ·rw [if_neg q2, if_neg (by omega)]
 ·simp [k]
theorem map_mov_may {v w : Int} (hvw : v ≤ w) (hw : w ≤ 3) {l : List Rc} (h : ∀ r ∈ l, mayP v r = true) : ∀ r ∈ l.map (movR v w), mayP w r = true := fun r hr => by
 obtain ⟨x, hx, rfl⟩ := List.mem_map.1 hr
 exact movR_may hvw hw (h x hx)
theorem map_mov_comp {a b c : Int} (h1 : a ≤ b) (h2 : b ≤ c) (l : List Rc) : (l.map (movR a b)).map (movR b c) = l.map (movR a c) := by
 rw [List.map_map]
 exact List.map_congr_left fun r _ => movR_comp h1 h2 r
theorem map_mov_same (v : Int) (l : List Rc) : l.map (movR v v) = l := by
 conv => rhs; rw [← List.map_id l]
 exact List.map_congr_left fun r _ => movR_same v r
theorem dStep_calls {v : Int} (hv : v = 1 ∨ v = 2) (r : Rc) (hm : mayP v r = true) {R} (h : R (.tup [.agg (movR v (v + 1) r).enc, vi 0]) []) : ACalls Tryz.prog 108 [vi v, .agg r.enc] [] R := by
 refine acalls_of_xwp (an := an108) tab_ok Tryz.func108 ?_
 have hd := (may_all hm).deps
 rcases hv with rfl | rfl
 ·unfold movR at h
  rw [if_neg (by omega : ¬ (r.kind = 1 ∧ (1 : Int) ≤ 2 ∧ (2 : Int) < 1 + 1))] at h
  conv => whnf
  refine refMay_calls 1 r (by omega) fun p hp => ?_
  rw [hm] at hp
  subst hp
  conv => whnf
  refine br_intro (fun g => ?_) (fun g => ?_)
  ·have g' : r.kind = 1 := by simpa using g
   rw [if_pos ⟨g', by omega, by omega⟩] at h
   conv => whnf
   refine br_true g ?_
   conv => whnf
   exact h
  ·have g' : r.kind ≠ 1 := by simpa using g
   rw [if_neg (fun x => g' x.1)] at h
   conv => whnf
   refine br_false g ?_
   conv => whnf
   exact h
 ·unfold movR at h
  rw [if_neg (by omega : ¬ (r.kind = 1 ∧ (2 : Int) ≤ 1 ∧ (1 : Int) < 2 + 1))] at h
  conv => whnf
  refine refMay_calls 2 r (by omega) fun p hp => ?_
  rw [hm] at hp
  subst hp
  conv => whnf
  refine br_intro (fun g => ?_) (fun g => ?_)
  ·have g' : r.kind = 1 := by simpa using g
   rw [if_pos ⟨g', by omega, by omega⟩] at h
   conv => whnf
   refine br_true g ?_
   conv => whnf
   exact h
  ·have g' : r.kind ≠ 1 := by simpa using g
   rw [if_neg (fun x => g' x.1)] at h
   conv => whnf
   refine br_false g ?_
   conv => whnf
   exact h
theorem dTo_calls {v w : Int} (h1 : 1 ≤ v) (hvw : v ≤ w) (hw : w ≤ 3) (r : Rc) (hm : mayP v r = true) {R} (h : R (.tup [.agg (movR v w r).enc, vi 0]) []) : ACalls Tryz.prog 69 [vi v, vi w, .agg r.enc] [] R := by
 refine acalls_of_xwp (an := an69) tab_ok Tryz.func69 ?_
 have hd := (may_all hm).deps
 have e0 := movR_same v r
 conv => whnf
 refine br_false (decide_eq_false (by omega)) ?_
 conv => whnf
 refine br_false (decide_eq_false (by omega)) ?_
 conv => whnf
 refine br_false (decide_eq_false (by omega)) ?_
 conv => whnf
 refine refMay_calls v r (by omega) fun p hp => ?_
 rw [hm] at hp
 subst hp
 conv => whnf
 refine LoopP.ind2 (fun (u : Int) (x : Rc) => [(8, vi u)]) (fun u x => [(nameOf 5, .cells 67 x.enc), (nameOf 6, .cells 67 [vi 0, vs [], uv 0, .val (.slice none 0 0), uv 0, uv 0, vs []])]) (fun u _ => (w - u).toNat) (fun u x => v ≤ u ∧ u ≤ w ∧ x = movR v u r) v r rfl ⟨by omega, hvw, e0.symm⟩ ?_
 rintro u x ⟨u1, u2, hx⟩ IH
 conv => whnf
 refine br_intro (fun g => ?_) (fun g => ?_)
 ·have g : u < w := of_decide_eq_true g
  have hmx : mayP u x = true := by rw [hx]; exact movR_may u1 (by omega) hm
  have IH := IH (u + 1) (movR u (u + 1) x) ⟨by omega, by omega, by rw [hx]; exact movR_comp u1 (by omega) r⟩ (by omega)
  conv => whnf
  refine dStep_calls (v := u) (by omega) x hmx ?_
  conv => whnf
  rw [wrap_i64 (by omega) (by omega)]
  exact IH
 ·have g : ¬ u < w := of_decide_eq_false g
  have : u = w := by omega
  subst this
  rw [← hx] at h
  conv => whnf
  exact h
theorem dAll_calls {v w : Int} (h1 : 1 ≤ v) (hvw : v ≤ w) (hw : w ≤ 3) (l : List Rc) (hl : l.length < 100000) (hm : ∀ r ∈ l, mayP v r = true) {R} (h : R (.tup [.sl none 7 (recs (l.map (movR v w))), vi 0]) []) : ACalls Tryz.prog 36 [vi v, vi w, .sl none 7 (recs l)] [] R := by
 refine acalls_of_xwp (an := an36) tab_ok Tryz.func36 ?_
 have hsl := recs_length l
 conv => whnf
 refine br_false (decide_eq_false (by omega)) ?_
 conv => whnf
 refine br_false (decide_eq_false (by omega)) ?_
 conv => whnf
 refine br_false (decide_eq_false (by omega)) ?_
 conv => whnf
 refine LoopP.ind1 (fun (i : Nat) => [(8, .sl (some (nameOf 12)) 7 (recs ((l.take i).map (movR v w)))), (9, vi i)]) (fun i => [(nameOf 12, .row 67 7 i)]) (fun i => l.length - i) (fun i => i ≤ l.length) 0 rfl (by omega) ?_
 intro i h0 IH
 have hst : (recs ((l.take i).map (movR v w))).length = i := by rw [recs_length, List.length_map, List.length_take]; omega
 conv => whnf
 refine br_intro (fun hc => ?_) (fun hc => ?_)
 ·have hi := lt_of_decE hsl hc
  have IH := IH (i + 1) hi (by omega)
  rw [List.take_succ_eq_append_getElem hi, List.map_append, List.map_singleton, recs_snoc] at IH
  have hmi := hm _ (List.getElem_mem hi)
  (conv => whnf); (repeat ((with_reducible refine must_intro ?_ ?_); exact decide_eq_true (by omega); (conv => whnf)))
  refine idxK_map_intro (show (i : Int).toNat < l.length by simpa using hi) ?_
  rw [show l[(i : Int).toNat]'(by simpa using hi) = l[i] from by congr 1]
  generalize l[i] = r at IH hmi ⊢
  conv => whnf
  refine dTo_calls h1 hvw hw r hmi ?_
  conv => whnf
  refine ⟨hst.symm, by rw [hst, bytes_rec]; simp only [List.length_cons, List.length_nil]; omega, ?_⟩
  conv => whnf
  rw [i64_nat (by omega), hst]
  exact IH
 ·have hi := ge_of_decE hsl hc
  rw [List.take_of_length_le hi]
  conv => whnf
  exact h
theorem upDo_calls (s : FSt) {nb fb : Nat} (hk : FOk s nb fb) (hnb : nb ≤ 800000) (hfb : fb ≤ 70000000) {v w : Int} (hv : is3 v) (hvw : v ≤ w) (hw : w ≤ 3) (l : List Rc) (hl : l.length ≤ 300) (hm : ∀ r ∈ l, mayP v r = true) {R}
  (h1 : (startP s logB newB (fileP w (l.map (movR v w)))).2 ≠ 0 → R (vi (startP s logB newB (fileP w (l.map (movR v w)))).2) [stO ((startP s logB newB (fileP w (l.map (movR v w)))).2 == 7) 1 v l, fsC (startP s logB newB (fileP w (l.map (movR v w)))).1 2, fsM (startP s logB newB (fileP w (l.map (movR v w)))).1])
  (h2 : (startP s logB newB (fileP w (l.map (movR v w)))).2 = 0 → R (vi 0) [stO false 1 w (l.map (movR v w)), fsC (startP s logB newB (fileP w (l.map (movR v w)))).1 2, fsM (startP s logB newB (fileP w (l.map (movR v w)))).1]) :
  ACalls Tryz.prog 34 [.ptr 0 0, vi w] [stO false 1 v l, fsC s 2, fsM s] R := by
 refine acalls_of_xwp (an := an34) tab_ok Tryz.func34 ?_
 have hv1 : 1 ≤ v := by unfold is3 at hv; omega
 have hd : ∀ r ∈ l, r.deps.length < 1000000 := fun r hr => by have := (may_all (hm r hr)).deps; omega
 have hmm := map_mov_may hvw hw hm
 have hvp : versP v w = true := by unfold versP; rw [decide_eq_true hv1, decide_eq_true hvw, decide_eq_true hw]; rfl
 have hw3 : is3 w := by unfold is3; omega
 have hmd : ∀ r ∈ l.map (movR v w), r.deps.length < 100000 := fun r hr => by have := (may_all (hmm r hr)).deps; omega
 conv => whnf
 refine Over_calls false v l s ?_
 conv => whnf
 refine stVersion_calls false v l s ?_
 conv => whnf
 refine Records_calls false v l (by omega) hd s ?_
 conv => whnf
 refine All_moves v w ⟨hv1, by omega⟩ ⟨by omega, hw⟩ l (by omega) (fun r hr => by have := (may_all (hm r hr)).deps; omega) (fun _ _ => ?_) (fun _ _ hno => absurd ⟨hvp, hm⟩ hno)
 conv => whnf
 refine Rewrite_calls s hk hnb hfb v l w (l.map (movR v w)) (by rw [List.length_map]; omega) hmd (fun e _ hno => by rcases hno with hno | hno; exact absurd hw3 hno; exact absurd hmm hno) (fun _ _ he => ?_) (fun _ _ he => ?_)
 ·have h1 := h1 he
  generalize startP s logB newB (fileP w (l.map (movR v w))) = se at h1 ⊢
  obtain ⟨s2, e⟩ := se
  conv => whnf
  exact h1
 ·have h2 := h2 he
  generalize startP s logB newB (fileP w (l.map (movR v w))) = se at h2 ⊢
  obtain ⟨s2, e⟩ := se
  conv => whnf
  exact h2
def ur : Rc := ⟨1, [97], 0, [], 0, 0, []⟩
theorem ur_may : mayP 1 ur = true := by decide +kernel
theorem ur_find : (findP (docOf ((([] : List Rc) ++ [ur]).map (movR 1 3))) [97]).isSome = true ∧ (findR (docOf ((([] : List Rc) ++ [ur]).map (movR 1 3))) [97]).wen = 1 ∧ (findR (docOf ((([] : List Rc) ++ [ur]).map (movR 1 3))) [97]).tag = oldB := by decide +kernel
theorem fixed17_calls {R} (h : R (.val (.bool true)) []) : ACalls Tryz.prog 32 [] [] R := by
 refine acalls_of_xwp (an := an32) tab_ok Tryz.func32 ?_
 have hmay : ∀ r ∈ [] ++ [ur], mayP 1 r = true := fun r hr => by
  have : r = ur := by simpa using hr
  rw [this]; exact ur_may
 have hput : puM 1 [] ur = [] ++ [ur] := by unfold puM; rw [if_pos ⟨rfl, ur_may⟩]
 have hk := fsV_ok 1 hmay (by simp)
 have hcal := fsV_calm 1 ([] ++ [ur])
 conv => whnf
 refine fsNew_calls ?_
 conv => whnf
 refine stOpen_fs0 1 (.inl rfl) ?_
 rw [fsV_nil]
 conv => whnf
 refine ACalls.args ?_ (wPut_calls (.inl rfl) [] (by simp) (by simp) ur (by simp [ur]) fun e => ?_)
 ·exact leL.cons (.refl _) (leL.cons (le_agg (le_rec2 1 [97] 0 0 0 [])) leL.nil)
 rw [hput]
 generalize fsV 1 ([] ++ [ur]) = s at hk hcal ⊢
 conv => whnf
 refine upDo_calls s hk (by omega) (by omega) (v := 1) (w := 3) (.inl rfl) (by decide) (by decide) ([] ++ [ur]) (by simp) hmay (fun he => absurd (start_calm hcal) he) (fun _ => ?_)
 generalize (startP s logB newB (fileP 3 (([] ++ [ur]).map (movR 1 3)))).1 = s2
 obtain ⟨f1, f2, f3⟩ := ur_find
 have hml : (([] ++ [ur]).map (movR 1 3)).length < 100000 := by simp
 have hmd : ∀ r ∈ ([] ++ [ur]).map (movR 1 3), r.deps.length < 1000000 := fun r hr => by have := (may_all (map_mov_may (v := 1) (w := 3) (by decide) (by decide) hmay r hr)).deps; omega
 generalize ([] ++ [ur]).map (movR 1 3) = m at f1 f2 f3 hml hmd ⊢
 conv => whnf
 refine stFind_calls false 3 m hml hmd s2 [97] ?_
 rw [f1]
 generalize findR (docOf m) [97] = fr at f2 f3 ⊢
 conv => whnf
 refine stVersion_calls false 3 m s2 ?_
 conv => whnf
 refine br_true (by rw [f2]; rfl) ?_
 conv => whnf
 rw [f3]
 exact h
theorem modV {v b : Int} (hv : is3 v) (hb : 0 ≤ b ∧ b ≤ 255) : ∃ w, v ≤ w ∧ w ≤ 3 ∧ IntKind.i64.wrap (v + (IntKind.i64.wrap b).tmod (IntKind.i64.wrap (4 - v))) = w := by
 obtain ⟨n, rfl⟩ := Int.eq_ofNat_of_zero_le hb.1
 have k : ∀ m : Nat, 0 < m → m ≤ 3 → IntKind.i64.wrap (v + (IntKind.i64.wrap (n : Int)).tmod (m : Int)) = v + ((n % m : Nat) : Int) := fun m hm hm3 => by
  have hlt := Nat.mod_lt n hm
  have hv' : 1 ≤ v ∧ v ≤ 3 := by unfold is3 at hv; omega
  rw [wrap_i64 (x := (n : Int)) (by omega) (by omega), show ((n : Int)).tmod (m : Int) = ((n % m : Nat) : Int) from rfl, wrap_i64 (by omega) (by omega)]
 rcases hv with rfl | rfl | rfl
 ·exact ⟨_, by omega, by have := Nat.mod_lt n (show 0 < 3 by decide); omega, k 3 (by decide) (by decide)⟩
 ·exact ⟨_, by omega, by have := Nat.mod_lt n (show 0 < 2 by decide); omega, k 2 (by decide) (by decide)⟩
 ·exact ⟨_, by omega, by have := Nat.mod_lt n (show 0 < 1 by decide); omega, k 1 (by decide) (by decide)⟩
theorem KI.up {v : Int} {l : List Rc} {n : Nat} {s : FSt} {nb fb nb' fb' : Nat} (h : KI v l n s nb fb) (h1 : nb ≤ nb') (h2 : fb ≤ fb') : KI v l n s nb' fb' := ⟨h.hv, h.hm, h.hn, h.hok.mono h1 h2, h.hlog⟩
theorem rename_calmC {s : FSt} (h : Calm s) {a : B} (b : B) (hn : a ∈ kys s.fs) : Calm (s.rename a b).1 := by
 unfold FSt.rename
 rw [if_neg (by rw [may0 h.2.2 hn]; decide)]
 exact (act_calm0 h false _).2.2
theorem run3_calmC {s : FSt} (h : Calm s) {log new b : B} : Calm (run3 s log new b).1 := by
 unfold run3
 obtain ⟨e, f, c⟩ := append_calm h new b
 rw [if_neg (by rw [e]; simp)]
 have hin : new ∈ kys (s.append new b).1.fs := by rw [f]; exact addF_in _ _ _
 obtain ⟨e2, f2, c2⟩ := sync_calm c hin
 rw [if_neg (by rw [e2]; simp)]
 exact rename_calmC c2 log (by rw [f2]; exact syncF_in hin _)
theorem start_calmC {s : FSt} (h : Calm s) {log new b : B} : Calm (startP s log new b).1 := by
 unfold startP
 split
 ·rename_i hin
  have hin := (names_perm s).mem_iff.1 hin
  obtain ⟨e, c⟩ := remove_calm h hin
  rw [if_neg (by rw [e]; simp)]
  exact run3_calmC c
 ·exact run3_calmC h
theorem upDoC {s : FSt} {nb fb : Nat} {v w : Int} {l : List Rc} (hI : KI v l 0 s nb fb) (hc : Calm s) (hnb : nb ≤ 700000) (hfb : fb ≤ 60000000) (hvw : v ≤ w) (hw : w ≤ 3) (hl : l.length ≤ 300) {R}
  (h : ∀ s', KI w (l.map (movR v w)) 0 s' (nb + 2) (fb + 1000000) → Calm s' → (gF s'.fs logB).b = fileP w (l.map (movR v w)) → R (vi 0) [stO false 1 w (l.map (movR v w)), fsC s' 2, fsM s']) :
  ACalls Tryz.prog 34 [.ptr 0 0, vi w] [stO false 1 v l, fsC s 2, fsM s] R := by
 have hv := hI.hv
 have hw3 : is3 w := by unfold is3 at hv ⊢; omega
 refine upDo_calls s hI.hok (by omega) (by omega) hv hvw hw l hl hI.hm (fun he => absurd (start_calm hc) he) (fun he => ?_)
 have hcc : Calm (startP s logB newB (fileP w (l.map (movR v w)))).1 := start_calmC hc
 rcases hI.rewrite hw3 (map_mov_may hvw hw hI.hm) (by rw [List.length_map]; omega) (e := (startP s logB newB (fileP w (l.map (movR v w)))).2) (s2 := (startP s logB newB (fileP w (l.map (movR v w)))).1) rfl with ⟨_, h1⟩ | ⟨h0, _⟩
 ·refine h _ ⟨h1.hv, h1.hm, Nat.zero_le _, h1.hok, ?_⟩ hcc ?_
  ·obtain ⟨k, hk, hs⟩ := h1.hlog
   refine ⟨k, hk, Nat.le_trans ?_ hs⟩
   rw [List.take_length, List.take_zero, fileP_len, fileP_len]
   simp [paysP, framesP]
  ·obtain ⟨k, hk, hs⟩ := h1.hlog
   unfold gF; rw [hk]; rfl
 ·exact absurd he h0
theorem upSteps_calls {s : FSt} {nb fb : Nat} {v w : Int} {l : List Rc} (hI : KI v l 0 s nb fb) (hc : Calm s) (hg : (gF s.fs logB).b = fileP v l) (hnb : nb ≤ 600000) (hfb : fb ≤ 50000000) (hvw : v ≤ w) (hw : w ≤ 3) (hl : l.length ≤ 300) {R}
  (h : ∀ s', (∃ nb' fb', nb' ≤ nb + 8 ∧ fb' ≤ fb + 8000000 ∧ KI w (l.map (movR v w)) 0 s' nb' fb') → Calm s' → (gF s'.fs logB).b = fileP w (l.map (movR v w)) → R (vi 0) [stO false 1 w (l.map (movR v w)), fsC s' 2, fsM s']) :
  ACalls Tryz.prog 35 [.ptr 0 0, vi w] [stO false 1 v l, fsC s 2, fsM s] R := by
 refine acalls_of_xwp (an := an35) tab_ok Tryz.func35 ?_
 have hv := hI.hv
 have hv1 : 1 ≤ v ∧ v ≤ 3 := by unfold is3 at hv; omega
 have hm := hI.hm
 conv => whnf
 refine Over_calls false v l s ?_
 conv => whnf
 refine stVersion_calls false v l s ?_
 conv => whnf
 refine br_false (decide_eq_false (by omega)) ?_
 conv => whnf
 refine br_false (decide_eq_false (by omega)) ?_
 conv => whnf
 refine LoopP.ind2 (fun (u : Int) (x : FSt) => []) (fun u x => [(0, stO false 1 u (l.map (movR v u))), (1, fsC x 2), (2, fsM x)]) (fun u _ => (w - u).toNat) (fun u x => (v ≤ u ∧ u ≤ w) ∧ (KI u (l.map (movR v u)) 0 x (nb + 2 * (u - v).toNat) (fb + 1000000 * (u - v).toNat) ∧ Calm x ∧ (gF x.fs logB).b = fileP u (l.map (movR v u)))) v s (by rw [map_mov_same]; rfl) ⟨⟨by omega, hvw⟩, by rw [map_mov_same]; exact ⟨hI.up (by omega) (by omega), hc, hg⟩⟩ ?_
 rintro u x ⟨⟨u1, u2⟩, kx, cx, gx⟩ IH
 conv => whnf
 refine stVersion_calls false u (l.map (movR v u)) x ?_
 conv => whnf
 refine br_intro (fun g => ?_) (fun g => ?_)
 ·have g : u < w := of_decide_eq_true g
  conv => whnf
  refine stVersion_calls false u (l.map (movR v u)) x ?_
  conv => whnf
  rw [wrap_i64 (by omega) (by omega)]
  refine upDoC kx cx (by omega) (by omega) (by omega) (by omega) (by rw [List.length_map]; exact hl) fun s' k' c' g' => ?_
  rw [map_mov_comp u1 (by omega)] at k' g' ⊢
  have IH := IH (u + 1) s' ⟨⟨by omega, by omega⟩, k'.up (by omega) (by omega), c', g'⟩ (by omega)
  conv => whnf
  exact IH
 ·have g : ¬ u < w := of_decide_eq_false g
  obtain rfl : u = w := by omega
  have h := h x ⟨_, _, by omega, by omega, kx⟩ cx gx
  conv => whnf
  exact h
theorem KI.inLog {v : Int} {l : List Rc} {n : Nat} {s : FSt} {nb fb : Nat} (h : KI v l n s nb fb) : logB ∈ kys s.fs := by
 obtain ⟨k, hk, _⟩ := h.hlog
 by_cases hin : logB ∈ kys s.fs
 ·exact hin
 ·rw [lk_none.2 hin] at hk
  cases hk
theorem UpgradeSame_calls (a : Int) (ha : 0 ≤ a ∧ a ≤ 255) (l : List Rc) (hl : l.length ≤ maxLen) (hld : ∀ r ∈ l, r.deps.length ≤ maxLen) (b : Int) (hb : 0 ≤ b ∧ b ≤ 255) {R} (h : R (.val (.bool true)) []) :
  ACalls Tryz.prog 6 [.val (.int .u8 a), .sl none 7 (recs l), .val (.int .u8 b)] [] R := by
 refine acalls_of_xwp (an := an6) tab_ok Tryz.func6 ?_
 obtain ⟨w, hvw, hw, hwe⟩ := modV (mod3 ha) hb
 have hv := mod3 ha
 have hw4 : IntKind.i64.wrap (4 - IntKind.i64.wrap (1 + IntKind.i64.wrap (a.tmod 3))) ≠ 0 := by rcases hv with e | e | e <;> rw [e] <;> decide
 conv => whnf
 refine Great10_calls l hl hld fun g1 hg1 => ?_
 cases g1 with
 | true =>
  conv => whnf
  refine fixed17_calls ?_
  conv => whnf
  exact h
 | false =>
 obtain ⟨hl30, hlr⟩ := hg1 rfl
 clear hg1
 conv => whnf
 generalize IntKind.i64.wrap (1 + IntKind.i64.wrap (a.tmod 3)) = v at hv hvw hw4 hwe ⊢
 refine must_intro (decide_eq_true hw4) ?_
 conv => whnf
 rw [hwe]
 refine made17_calls hv l (by omega) (fun r hr => (hlr r hr).1) fun hm hml => ?_
 have hk1 : is3 w := by unfold is3 at hv ⊢; omega
 conv => whnf
 refine made17_calls hv l (by omega) (fun r hr => (hlr r hr).1) fun _ _ => ?_
 generalize made17 v l = L at hm hml ⊢
 have hdL : ∀ r ∈ L, r.deps.length < 1000000 := fun r hr => by have := (may_all (hm r hr)).deps; omega
 have hMm := map_mov_may hvw hw hm
 have hMl : (L.map (movR v w)).length = L.length := List.length_map _
 have hMd : ∀ r ∈ L.map (movR v w), r.deps.length < 1000000 := fun r hr => by have := (may_all (hMm r hr)).deps; omega
 have hv1 : 1 ≤ v := by unfold is3 at hv; omega
 have hK := fsV_KI hv hm (by omega)
 have hC := fsV_calm v L
 have hG : (gF (fsV v L).fs logB).b = fileP v L := by simp [gF, fsV, fsK, lk]
 generalize fsV v L = s at hK hC hG ⊢
 conv => whnf
 refine Records_calls false v L (by omega) hdL s ?_
 conv => whnf
 refine upDoC hK hC (by omega) (by omega) hvw hw (by omega) fun s1 k1 c1 g1 => ?_
 conv => whnf
 refine upSteps_calls hK hC hG (by omega) (by omega) hvw hw (by omega) fun s2 k2 c2 g2 => ?_
 have i1 := k1.inLog
 have i2 : logB ∈ kys s2.fs := by
  obtain ⟨_, _, _, _, k3⟩ := k2
  exact k3.inLog
 have hml2 : (fileP w (L.map (movR v w))).length < 100000000 := by have := fileP_small hMm (by omega); omega
 conv => whnf
 refine stVersion_calls false w (L.map (movR v w)) s1 ?_
 conv => whnf
 refine br_false (by simp) ?_
 conv => whnf
 refine stVersion_calls false w (L.map (movR v w)) s2 ?_
 conv => whnf
 refine br_false (by simp) ?_
 conv => whnf
 refine Records_calls false w (L.map (movR v w)) (by omega) hMd s1 ?_
 conv => whnf
 refine Records_calls false w (L.map (movR v w)) (by omega) hMd s2 ?_
 conv => whnf
 refine All_calls (L.map (movR v w)) (L.map (movR v w)) (by omega) hMd fun p hp => ?_
 obtain rfl : p = true := by simp [hp]
 conv => whnf
 refine dAll_calls hv1 hvw hw L (by omega) hm ?_
 conv => whnf
 refine fsRead_calls s1 logB (by rw [g1]; exact hml2) (fun _ => ?_) (fun hno => absurd i1 hno)
 rw [g1]
 conv => whnf
 refine fsRead_calls s2 logB (by rw [g2]; exact hml2) (fun _ => ?_) (fun hno => absurd i2 hno)
 rw [g2]
 conv => whnf
 refine fixed17_calls ?_
 conv => whnf
 refine Records_calls false w (L.map (movR v w)) (by omega) hMd s1 ?_
 conv => whnf
 refine All_calls (L.map (movR v w)) (L.map (movR v w)) (by omega) hMd fun p hp => ?_
 obtain rfl : p = true := by simp [hp]
 conv => whnf
 refine ⟨(fileP w (L.map (movR v w))).map fun b => (b.toNat : Int), by rw [List.map_map]; rfl, ?_⟩
 conv => whnf
 refine ⟨(fileP w (L.map (movR v w))).map fun b => (b.toNat : Int), by rw [List.map_map]; rfl, ?_⟩
 rw [strOfNums_ofB]
 conv => whnf
 rw [decide_eq_true rfl]
 exact h
theorem UpgradeSame_row (l : List AV) (h : Args tab 12 [5, 22, 5] l) : ACalls Tryz.prog 6 l [] fun r _ => r = .val (.bool true) := by
 obtain ⟨a, l1, rfl, ha, h1⟩ := args_u8 h
 obtain ⟨x, l2, rfl, h2, h3, h4⟩ := args_recs h1
 obtain ⟨b, l3, rfl, hb, h5⟩ := args_u8 h4
 obtain rfl := args_nil h5
 exact UpgradeSame_calls a ha x h2 h3 b hb rfl
end Go.Abs
end
