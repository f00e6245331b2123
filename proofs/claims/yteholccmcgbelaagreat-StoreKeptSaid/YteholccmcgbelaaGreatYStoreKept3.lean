/- Several texts of this claim, one behind the other: PB, PD, PC, PE, L6, L7, L8, L9, LA, LB, LC, PF, PG, PH, PI, PJ, PK, PL, PM, H8, MC, PO, SA, SB. -/
import Derived.Test.YteholccmcgbelaaGreatYStoreKept2
import Derived.Test.YteholccmcgbelaaGreatC1

section
/- codec.records: the iterator over what was laid. -/
set_option maxRecDepth 100000
set_option maxHeartbeats 4000000
set_option linter.unusedVariables false
set_option linter.unusedSimpArgs false
namespace Go.Abs
open Go Go.Proofs Go.RowKit Dig
attribute [local irreducible] ibits byteAt strLt firstIdx
attribute [local go_sem] Oper.semAt_some

theorem tblS_ne {t : List B} (h : t ≠ []) : tblS t = [tblO 1 2 t, tblR t, tblM t] := by
  cases t with
  | nil => exact absurd rfl h
  | cons a l => rfl
/-- schema.Get, whichever version and table. -/
theorem sGet_any (v : Int) (hv : v = 1 ∨ v = 2 ∨ v = 3) (r : Rc) (hm : mayP v r = true) (t : List B) (ht1 : v = 1 → t = []) (htn : t.Nodup) (htl : t.length < 80000) (A Q : List B) (hA : A.length < 100000) (hQ : Q.length < 100000) {R} (h : R (.tup [.agg r.enc, vi ((A.length + (payP v t r).length : Nat) : Int), vi 0]) (tblS (addT v t r))) :
    ACalls Tryz.prog 161 [vi v, .ptr 0 0, .sl none 1 (rowsB (A ++ payP v t r ++ Q)), vi (A.length : Int)] (tblS t) R := by
  rcases hv with rfl | rfl | rfl
  · have := ht1 rfl
    subst this
    rw [addT_one] at h
    exact sGet_1F r hm A Q hA hQ h
  · rw [tblS_ne (addT_ne (by decide) t r)] at h
    by_cases ht : t = []
    · subst ht
      exact sGet_2F r hm A Q hA hQ h
    · rw [tblS_ne ht]
      exact sGet_2O r hm t ht htn htl A Q hA hQ h
  · rw [tblS_ne (addT_ne (by decide) t r)] at h
    by_cases ht : t = []
    · subst ht
      exact sGet_3F r hm A Q hA hQ h
    · rw [tblS_ne ht]
      exact sGet_3O r hm t ht htn htl A Q hA hQ h
theorem sGetEnd_any (v : Int) (hv : v = 1 ∨ v = 2 ∨ v = 3) (t : List B) (ht1 : v = 1 → t = []) (htn : t.Nodup) (htl : t.length < 80000) (A ms : List B) (hms : v = 1 → ms = []) (hA : A.length < 100000) (hml : ms.length < 5000) {R} (h : R (.tup [zRec, vi 0, vi 6]) (tblS t)) :
    ACalls Tryz.prog 161 [vi v, .ptr 0 0, .sl none 1 (rowsB (A ++ ms.map defP)), vi (A.length : Int)] (tblS t) R := by
  rcases hv with rfl | rfl | rfl
  · have := ht1 rfl
    subst this
    have := hms rfl
    subst this
    rw [List.map_nil, List.append_nil]
    exact sGetEnd_1F A hA h
  · by_cases ht : t = []
    · subst ht
      exact sGetEnd_2F A ms hA hml h
    · rw [tblS_ne ht] at h ⊢
      exact sGetEnd_2O t ht htn htl A ms hA hml h
  · by_cases ht : t = []
    · subst ht
      exact sGetEnd_3F A ms hA hml h
    · rw [tblS_ne ht] at h ⊢
      exact sGetEnd_3O t ht htn htl A ms hA hml h

/-- What the iterator hands on. -/
def recsA (v : Int) : List B → Nat → List Rc → List (List AV)
  | _, _, [] => []
  | t, o, r :: l => [.agg r.enc, vi ((o + (payP v t r).length : Nat) : Int)] :: recsA v (addT v t r) (o + (payP v t r).length) l
theorem recsA_length (v : Int) : ∀ (l : List Rc) (t : List B) (o : Nat), (recsA v t o l).length = l.length := by
  intro l
  induction l with
  | nil => intro t o; rfl
  | cons r l ih => intro t o; simp [recsA, ih]
theorem recsA_at (v : Int) : ∀ (l : List Rc) (t : List B) (o i : Nat) (h : i < l.length), (recsA v t o l)[i]? = some [.agg (l[i]).enc, vi ((o + (paysP v t (l.take (i + 1))).length : Nat) : Int)] := by
  intro l
  induction l with
  | nil => intro t o i h; simp at h
  | cons r l ih =>
    intro t o i h
    cases i with
    | zero => simp [recsA, paysP]
    | succ i =>
      simp only [recsA, List.getElem?_cons_succ]
      rw [ih _ _ i (by simpa using h)]
      simp [paysP, Nat.add_assoc]
def plP (v : Int) (l : List Rc) (i : Nat) : Nat := (paysP v [] (l.take i)).length
def tbP (v : Int) (l : List Rc) (i : Nat) : List B := tblL v [] (l.take i)
theorem tbP_succ {v : Int} {l : List Rc} {i : Nat} (h : i < l.length) : tbP v l (i + 1) = addT v (tbP v l i) l[i] := by
  unfold tbP tblL
  rw [List.take_succ_eq_append_getElem h, List.foldl_append]
  rfl
theorem plP_succ {v : Int} {l : List Rc} {i : Nat} (h : i < l.length) : plP v l (i + 1) = plP v l i + (payP v (tbP v l i) l[i]).length := by
  unfold plP tbP
  rw [List.take_succ_eq_append_getElem h, paysP_append, List.length_append]
  simp [paysP]
theorem paysP_split {v : Int} {l : List Rc} {i : Nat} (h : i < l.length) : paysP v [] l = paysP v [] (l.take i) ++ payP v (tbP v l i) l[i] ++ paysP v (tbP v l (i + 1)) (l.drop (i + 1)) := by
  have e : l.take i ++ (l[i] :: l.drop (i + 1)) = l := by rw [← List.drop_eq_getElem_cons h, List.take_append_drop]
  have e2 : paysP v [] (l.take i ++ (l[i] :: l.drop (i + 1))) = paysP v [] (l.take i) ++ payP v (tbP v l i) l[i] ++ paysP v (tbP v l (i + 1)) (l.drop (i + 1)) := by
    rw [paysP_append, paysP, tbP_succ h, List.append_assoc]
    rfl
  rw [e] at e2
  exact e2
theorem payP_len {v : Int} {t : List B} {r : Rc} (h : r.deps.length ≤ 16) : 1 ≤ (payP v t r).length ∧ (payP v t r).length ≤ 19 := by
  unfold payP
  have h1 : (defsP v t r).length ≤ 18 := by
    unfold defsP
    split
    · simp
    · have := news_len (namesR r) t
      have := namesR_len r
      rw [List.length_map]; omega
  rw [List.length_append]
  simp
  omega
theorem paysP_len {v : Int} : ∀ {l : List Rc} {t : List B}, (∀ r ∈ l, r.deps.length ≤ 16) → l.length ≤ (paysP v t l).length ∧ (paysP v t l).length ≤ 19 * l.length := by
  intro l
  induction l with
  | nil => intro t h; simp [paysP]
  | cons r l ih =>
    intro t h
    have h1 := payP_len (v := v) (t := t) (h r List.mem_cons_self)
    have h2 := ih (t := addT v t r) fun x hx => h x (List.mem_cons_of_mem _ hx)
    rw [paysP, List.length_append, List.length_cons]
    omega

/-- A world in which other things have turned. -/
theorem WR.move {G : Gh} {objs : List (Nm × AObj)} {w : World} (h : WR G objs w) {K' : Nat → Nat → Option Value} {w' : World} (hle : ∀ b o v, G.K b o = some v → K' b o = some v)
    (hw : ∀ b, (∃ n, G.at n b) → w'.heap[b]? = w.heap[b]? ∧ ∀ o, K' b o = G.K b o) (hk : ∀ b o v, K' b o = some v → w'.cell? ⟨b, o, none⟩ = some v) : WR ⟨K', G.ob⟩ objs w' :=
  ⟨hk, fun n o ho => (h.obj n o ho).keep ⟨hle, fun _ _ e => e, fun n u t e => ⟨u, t, e, .inr ⟨rfl, rfl⟩⟩⟩ rfl fun b hb => hw b ⟨n, hb⟩, h.dom, fun n m b h1 h2 => h.apart n m b h1 h2, h.glob.mono hle⟩
/-- A contract, called in the midst of an iterator, with objects of its own. -/
theorem ACalls.ownCall {P : Program} {f : FuncId} {args : List AV} {os : List AObj} {R : AV → List AObj → Prop} (h : ACalls P f args os R) {G : Gh} {W : World} {vals : List Value} (hW : WR G (numbered 0 os) W) (hv : RepL G args vals) {A : Array Value} (hA : A = vals.toArray) (m : Nat) :
    CallsIn Fence.wide m P f A W fun e W' => ∃ (v : Value) (r : AV) (os' : List AObj) (G' : Gh), e = .returned v ∧ R r os' ∧ Rep G' r v ∧ WR G' (numbered 0 os') W' ∧ G.le G' ∧ Steps (fun b => ∃ n, G.at n b) G.K W (fun b => ∃ n, G'.at n b) G'.K W' := by
  subst hA
  refine (callsIn_wide.2 (h.run G W vals hW hv)).mono ?_
  rintro e W' ⟨v, r, os', G', rfl, hR, hRep, hWR, hle, hext, hnb, _, _⟩
  refine ⟨v, r, os', G', rfl, hR, hRep, hWR, hle, ⟨hext.os, hext.tape, hext.output, hext.size, hext.block, ?_, hle.K, hext.knew, hWR.know, ?_⟩⟩
  · rintro b ⟨n, hn⟩
    exact hnb n b hn
  · rintro b ⟨n, hn⟩
    obtain ⟨g, hg⟩ : ∃ g, G'.ob n = some g := by rcases hn with hn | ⟨u, t, hn, _⟩ <;> exact ⟨_, hn⟩
    obtain ⟨o, ho⟩ := hWR.dom n g hg
    exact (hWR.obj n o ho).lt hn
theorem rep_rec {G : Gh} {r : Rc} {v : Value} (h : Rep G (.agg r.enc) v) : ∃ d, v = .agg #[.int .i64 r.kind, .string (ofB r.target), .int .u64 (r.rule.toNat : Int), d, .int .u64 (r.out.toNat : Int), .int .u64 (r.wen.toNat : Int), .string (ofB r.tag)] ∧ Rep G (.sl none 3 (dpsA r.deps)) d := by
  have hx : ∃ vs : List Value, v = .agg vs.toArray ∧ RepL G r.enc vs := h
  clear h
  obtain ⟨vs, rfl, hy⟩ := hx
  obtain ⟨a1, _, rfl, h1, a2, _, rfl, h2, a3, _, rfl, h3, a4, _, rfl, h4, a5, _, rfl, h5, a6, _, rfl, h6, a7, _, rfl, h7, rfl⟩ := hy
  refine ⟨a4, ?_, h4⟩
  have h1 : a1 = .int .i64 r.kind := h1
  have h2 : a2 = .string (ofB r.target) := h2
  have h3 : a3 = .int .u64 (r.rule.toNat : Int) := h3
  have h5 : a5 = .int .u64 (r.out.toNat : Int) := h5
  have h6 : a6 = .int .u64 (r.wen.toNat : Int) := h6
  have h7 : a7 = .string (ofB r.tag) := h7
  subst h1 h2 h3 h5 h6 h7
  rfl
end Go.Abs
end

section
/- codec.records: the iterator, by hand. -/
set_option maxRecDepth 100000
set_option maxHeartbeats 4000000
set_option linter.unusedVariables false
set_option linter.unusedSimpArgs false
namespace Go.Abs
open Go Go.Proofs Go.RowKit Dig
attribute [local irreducible] ibits byteAt strLt firstIdx
attribute [local go_sem] Oper.semAt_some

theorem objs_lt {objs : List AObj} {G : Gh} {W : World} (h : WR G (numbered 0 objs) W) {b : Nat} (hb : ∃ n, G.at n b) : b < W.heap.size := by
  obtain ⟨n, hn⟩ := hb
  obtain ⟨g, hg⟩ : ∃ g, G.ob n = some g := by rcases hn with hn | ⟨u, t, hn, _⟩ <;> exact ⟨_, hn⟩
  obtain ⟨o, ho⟩ := h.dom n g hg
  exact (h.obj n o ho).lt hn
set_option maxHeartbeats 4000000 in
theorem records_iter (v : Int) (hv : v = 1 ∨ v = 2 ∨ v = 3) (l : List Rc) (hm : ∀ r ∈ l, mayP v r = true) (hl : l.length ≤ 1000) (ms : List B) (hms : v = 1 → ms = []) (hml : ms.length < 5000) :
    SIter Tryz.prog 160 [.cptr [vi v] 0, .cptr [.sl none 1 (rowsB (paysP v [] l ++ ms.map defP))] 0] [] (recsA v [] 0 l) := by
  refine ⟨fun args w => run_callFunc (by kernel_rfl), fun G w lb hW hr lp n' J Jx hY hS hK hJ0 => ?_⟩
  have hd16 : ∀ r ∈ l, r.deps.length ≤ 16 := fun r hr => (may_all (hm r hr)).deps
  have hpl := paysP_len (v := v) (l := l) (t := []) hd16
  have hlenA := recsA_length v l [] 0
  generalize hPs : paysP v [] l ++ ms.map defP = Ps at hr
  simp only [RepL, Rep, RepC] at hr
  obtain ⟨_, _, rfl, ⟨bv, ov, rfl, ⟨⟨vV, hvV, hV⟩, _⟩, _⟩, _, _, rfl, ⟨bp, op, rfl, ⟨⟨vP, hvP, hP⟩, _⟩, _⟩, rfl⟩ := hr
  have hV : vV = .int .i64 v := hV
  subst hV
  have hGob : ∀ n g, G.ob n ≠ some g := fun n g e => by
    obtain ⟨o, ho⟩ := hW.dom n g e
    cases ho
  have hglob := hW.glob
  -- intern.New
  have hnew := (New_nil (R := fun r os => r = .ptr 0 0 ∧ os = [tblF]) ⟨rfl, rfl⟩).ownCall (G := G) (W := w) (vals := [.slice none 0 0]) hW (by simp only [RepL, Rep]; exact ⟨_, _, rfl, rfl, rfl⟩) (A := #[.slice none 0 0]) rfl
  rw [show FW none = Fence.wide from rfl] at hY ⊢
  refine callsIn_of_wp Tryz.func160 rfl trivial ?_ rfl
  simp only [Tryz.ntmps160, List.size_toArray, List.length_cons, List.length_nil, Nat.reduceAdd, Nat.reduceSub, Array.replicate_succ, Array.replicate_zero, List.push_toArray, List.append_toArray, List.nil_append, List.cons_append, Nat.add_zero]
  gi_wp2
  refine ⟨trivial, fun h => by simp [Fence.wide] at h, (hnew _).mono ?_⟩
  rintro e W0 ⟨v0, r0, os0, G0, rfl, ⟨rfl, rfl⟩, hRep0, hWR0, hle0, hst0⟩
  obtain ⟨bt, hbt, rfl⟩ : ∃ b, G0.ob 0 = some (.blk b) ∧ v0 = .pointer (some ⟨b, 0, none⟩) := hRep0
  have hJ1 := hS 0 _ _ _ _ _ _ hJ0 hst0
  gi_wp2
  gi_loopw [5] (fun x wr => ∃ (i : Nat) (Gi : Gh), i ≤ l.length ∧ x = .int .i64 ((plP v l i : Nat) : Int) ∧ WR Gi (numbered 0 (tblS (tbP v l i))) wr ∧ Gi.ob 0 = some (.blk bt) ∧ (∀ b o u, G.K b o = some u → Gi.K b o = some u) ∧ J i (fun b => ∃ n, Gi.at n b) Gi.K wr)
    (fun x wr => match x with | .int _ x => (2000000 - x).toNat | _ => 0)
  case atStart => exact ⟨0, G0, by omega, rfl, hWR0, hbt, hle0.K, hJ1⟩
  case round =>
    obtain ⟨i, Gi, hi, rfl, hWi, hbi, hGK, hJi⟩ := hrel
    have hcV := hWi.know _ _ _ (hGK _ _ _ hvV)
    have hcP := hWi.know _ _ _ (hGK _ _ _ hvP)
    have hPi : Rep Gi (.sl none 1 (rowsB Ps)) vP := by
      have h1 : Rep G (.sl none 1 (rowsB Ps)) vP := by simp only [Rep]; exact hP
      exact Rep.nameless (G := G) (G' := Gi) hGK _ _ rfl h1
    have hvi : ∀ x : Int, Rep Gi (vi x) (.int .i64 x) := fun x => by
      show Rep _ (.val (.int .i64 x)) _
      simp only [Rep]
    have hargs : RepL Gi [vi v, .ptr 0 0, .sl none 1 (rowsB Ps), vi ((plP v l i : Nat) : Int)] [.int .i64 v, .pointer (some ⟨bt, 0, none⟩), vP, .int .i64 ((plP v l i : Nat) : Int)] := by
      simp only [RepL]
      exact ⟨_, _, rfl, hvi _, _, _, rfl, (by simp only [Rep]; exact ⟨bt, hbi, rfl⟩), _, _, rfl, hPi, _, _, rfl, hvi _, rfl⟩
    have hmt : ∀ r ∈ l.take i, mayP v r = true := fun r hr => hm r (List.mem_of_mem_take hr)
    have htl := tblL_len (v := v) (l := l.take i) (t := []) fun r hr => may_all (hmt r hr)
    have hnd : (tbP v l i).Nodup := tblL_nodup v (l.take i) List.nodup_nil
    have hT1 : v = 1 → tbP v l i = [] := fun e => by subst e; exact tblL_one _ _
    have htl : (tbP v l i).length ≤ 18000 := by
      unfold tbP
      rw [List.length_take] at htl
      simp at htl
      omega
    have hpt := paysP_len (v := v) (l := l.take i) (t := []) fun r hr => hd16 r (List.mem_of_mem_take hr)
    have hpt : plP v l i ≤ 19000 := by
      unfold plP
      rw [List.length_take] at hpt
      omega
    by_cases hlt : i < l.length
    · have hmi := hm _ (List.getElem_mem hlt)
      have hsp := paysP_split (v := v) hlt
      have hPs2 : Ps = paysP v [] (l.take i) ++ payP v (tbP v l i) l[i] ++ (paysP v (tbP v l (i + 1)) (l.drop (i + 1)) ++ ms.map defP) := by rw [← hPs, hsp, List.append_assoc]
      have hdl := paysP_len (v := v) (l := l.drop (i + 1)) (t := tbP v l (i + 1)) fun r hr => hd16 r (List.mem_of_mem_drop hr)
      have hget := sGet_any v hv l[i] hmi (tbP v l i) hT1 hnd (by omega) (paysP v [] (l.take i)) (paysP v (tbP v l (i + 1)) (l.drop (i + 1)) ++ ms.map defP) (by show plP v l i < _; omega) (by rw [List.length_append, List.length_map]; simp at hdl ⊢; omega)
        (R := fun r os => r = .tup [.agg l[i].enc, vi ((plP v l (i + 1) : Nat) : Int), vi 0] ∧ os = tblS (tbP v l (i + 1))) ⟨by rw [plP_succ hlt]; rfl, by rw [tbP_succ hlt]⟩
      rw [← hPs2] at hget
      have hcall := hget.ownCall hWi hargs (A := #[.int .i64 v, .pointer (some ⟨bt, 0, none⟩), vP, .int .i64 ((plP v l i : Nat) : Int)]) rfl
      have hxs := recsA_at v l [] 0 i hlt
      rw [Nat.zero_add] at hxs
      have hxs : (recsA v [] 0 l)[i]? = some [.agg (l[i]).enc, vi ((plP v l (i + 1) : Nat) : Int)] := hxs
      have hinc : plP v l i < plP v l (i + 1) ∧ plP v l (i + 1) < 2000000 := by
        have h1 := payP_len (v := v) (t := tbP v l i) (r := l[i]) (hd16 _ (List.getElem_mem hlt))
        have h2 := plP_succ (v := v) hlt
        omega
      clear hget hsp hPs2 hdl hmt htl hpt hT1 hnd hargs hPi hvi hmi
      gi_wp2
      refine ⟨trivial, fun h => by simp [Fence.wide] at h, (hcall _).mono ?_⟩
      rintro e W1 ⟨v1, r1, os1, G1, rfl, ⟨rfl, rfl⟩, hRep1, hWR1, hle1, hst1⟩
      obtain ⟨u1, rfl, hu1⟩ := rep_tup3 hRep1
      obtain ⟨d1, rfl, hd1⟩ := rep_rec hu1
      obtain ⟨A1, c1, rfl⟩ : ∃ A1 c1, d1 = .slice A1 (dpsA l[i].deps).length c1 := by
        simp only [Rep] at hd1
        obtain ⟨⟨A1, c1, e, _⟩, _⟩ := hd1
        exact ⟨A1, c1, e⟩
      have hJ2 := hS i _ _ _ _ _ _ hJi hst1
      clear hcall
      gi_wp2
      have hstep2 : ∀ o, Steps (fun b => ∃ n, G1.at n b) G1.K W1 (fun b => ∃ n, G1.at n b) G1.K (W1.alloc o) := fun o =>
        ⟨rfl, rfl, rfl, by simp, fun b hb _ => heap_alloc_old W1 o hb, fun b h => .inl h, fun _ _ _ h => h, fun _ _ _ _ => rfl, fun b o2 v2 e2 => by
          have hk := hWR1.know _ _ _ e2
          rw [cell_of_heap (heap_alloc_old W1 o (cell_lt hk))]
          exact hk, fun b h => by have := objs_lt hWR1 h; simp; omega⟩
      have hmove2 : ∀ o, WR G1 (numbered 0 (tblS (tbP v l (i + 1)))) (W1.alloc o) := fun o =>
        hWR1.move (K' := G1.K) (fun _ _ _ h => h) (fun b hb => ⟨heap_alloc_old W1 o (objs_lt hWR1 hb), fun _ => rfl⟩) (hstep2 o).know
      have hJ3 := fun o => hS i _ _ _ _ _ _ hJ2 (hstep2 o)
      have hRec : RepL ⟨G1.K, fun _ => none⟩ [.agg (l[i]).enc, vi ((plP v l (i + 1) : Nat) : Int)] [.agg #[.int .i64 l[i].kind, .string (ofB l[i].target), .int .u64 (l[i].rule.toNat : Int), .slice A1 (dpsA l[i].deps).length c1, .int .u64 (l[i].out.toNat : Int), .int .u64 (l[i].wen.toNat : Int), .string (ofB l[i].tag)], .int .i64 ((plP v l (i + 1) : Nat) : Int)] := by
        simp only [RepL]
        exact ⟨_, _, rfl, Rep.nameless (G := G1) (G' := ⟨G1.K, fun _ => none⟩) (fun _ _ _ h => h) _ _ rfl hu1, _, _, rfl, (by show Rep _ (.val (.int .i64 ((plP v l (i + 1) : Nat) : Int))) _; simp only [Rep]), rfl⟩
      generalize hW2 : W1.alloc _ = W2
      have hWR2 := hW2 ▸ hmove2 _
      have hJ4 := hW2 ▸ hJ3 _
      obtain ⟨fn, tmps, assign, body, hy, hR⟩ := hY (n' - 1) i _ #[.agg #[.int .i64 l[i].kind, .string (ofB l[i].target), .int .u64 (l[i].rule.toNat : Int), .slice A1 (dpsA l[i].deps).length c1, .int .u64 (l[i].out.toNat : Int), .int .u64 (l[i].wen.toNat : Int), .string (ofB l[i].tag)], .int .i64 ((plP v l (i + 1) : Nat) : Int)] _ G1.K W2 hxs hRec hJ4
      clear hY hJ3 hmove2 hstep2
      rw [hy]
      gi_wp2
      refine ⟨fun h => by simp [Fence.wide] at h, hR.mono ?_⟩
      rintro e W3 (⟨rfl, K', hJ5, hKK, hO3, hos3, htape3, hout3, hsz3⟩ | ⟨rfl, hJx3⟩)
      · clear hR hy
        have hWR3 : WR ⟨K', G1.ob⟩ (numbered 0 (tblS (tbP v l (i + 1)))) W3 := hWR2.move hKK (fun b hb => hO3 b hb) (hK (i + 1) _ K' W3 hJ5)
        gi_wp2
        refine ⟨⟨i + 1, ⟨K', G1.ob⟩, hlt, rfl, hWR3, hle1.blk _ _ hbi, fun b o u h => hKK _ _ _ (hle1.K _ _ _ (hGK _ _ _ h)), hJ5⟩, ?_⟩
        show (2000000 - ((plP v l (i + 1) : Nat) : Int)).toNat < (2000000 - ((plP v l i : Nat) : Int)).toNat
        omega
      · clear hR hy
        gi_wp2
        refine bodyPost_ret (results_none rfl _ _ _) rfl ?_
        exact ⟨⟨_, rfl⟩, .inr hJx3⟩
    · have hfin : i = l.length := by omega
      subst hfin
      have hPs2 : Ps = paysP v [] (l.take l.length) ++ ms.map defP := by rw [← hPs, List.take_length]
      have hget := sGetEnd_any v hv (tbP v l l.length) hT1 hnd (by omega) (paysP v [] (l.take l.length)) ms hms (by show plP v l l.length < _; omega) hml (R := fun r os => r = .tup [zRec, vi 0, vi 6] ∧ os = tblS (tbP v l l.length)) ⟨rfl, rfl⟩
      rw [← hPs2] at hget
      have hcall := hget.ownCall hWi hargs (A := #[.int .i64 v, .pointer (some ⟨bt, 0, none⟩), vP, .int .i64 ((plP v l l.length : Nat) : Int)]) rfl
      clear hget hPs2 hmt htl hpt hT1 hnd hargs hPi hvi
      gi_wp2
      refine ⟨trivial, fun h => by simp [Fence.wide] at h, (hcall _).mono ?_⟩
      rintro e W1 ⟨v1, r1, os1, G1, rfl, ⟨rfl, rfl⟩, hRep1, hWR1, hle1, hst1⟩
      obtain ⟨u1, rfl, hu1⟩ := rep_tup3 hRep1
      have hR6 : Rep G1 (.agg (Rc.mk 0 [] 0 [] 0 0 []).enc) u1 := le_rec3 0 [] 0 0 0 [] G1 u1 hu1
      obtain ⟨d1, rfl, hd1⟩ := rep_rec hR6
      obtain ⟨A1, c1, rfl⟩ : ∃ A1 c1, d1 = .slice A1 0 c1 := by
        simp only [Rep] at hd1
        obtain ⟨⟨A1, c1, e, _⟩, _⟩ := hd1
        exact ⟨A1, c1, e⟩
      have hJ2 := hS l.length _ _ _ _ _ _ hJi hst1
      have hstep2 : ∀ o, Steps (fun b => ∃ n, G1.at n b) G1.K W1 (fun b => ∃ n, G1.at n b) G1.K (W1.alloc o) := fun o =>
        ⟨rfl, rfl, rfl, by simp, fun b hb _ => heap_alloc_old W1 o hb, fun b h => .inl h, fun _ _ _ h => h, fun _ _ _ _ => rfl, fun b o2 v2 e2 => by
          have hk := hWR1.know _ _ _ e2
          rw [cell_of_heap (heap_alloc_old W1 o (cell_lt hk))]
          exact hk, fun b h => by have := objs_lt hWR1 h; simp; omega⟩
      have hJ3 := fun o => hS l.length _ _ _ _ _ _ hJ2 (hstep2 o)
      rw [← hlenA] at hJ3
      clear hcall hstep2
      gi_wp2
      refine ⟨fun f h => (nomatch h), ?_⟩
      gi_wp2
      refine bodyPost_ret (results_none rfl _ _ _) rfl ?_
      exact ⟨⟨_, rfl⟩, .inl ⟨_, _, hJ3 _⟩⟩
end Go.Abs
end

section
/- codec.Put. -/
set_option maxRecDepth 100000
set_option maxHeartbeats 4000000
set_option linter.unusedVariables false
set_option linter.unusedSimpArgs false
namespace Go.Abs
open Go Go.Proofs Dig
attribute [local irreducible] ibits byteAt strLt firstIdx

theorem Head_1 {R} (h : R (.tup [.sl none 1 (byteEls (headP 1)), vi 0]) []) : ACalls Tryz.prog 119 [vi 1] [] R := Head_calls 1 (by decide) h
theorem Head_2 {R} (h : R (.tup [.sl none 1 (byteEls (headP 2)), vi 0]) []) : ACalls Tryz.prog 119 [vi 2] [] R := Head_calls 2 (by decide) h
theorem Head_3 {R} (h : R (.tup [.sl none 1 (byteEls (headP 3)), vi 0]) []) : ACalls Tryz.prog 119 [vi 3] [] R := Head_calls 3 (by decide) h
theorem framesP_part (l : List B) (k : Nat) : (framesP (l.take k)).length ≤ (framesP l).length := by
  have h : framesP l = framesP (l.take k) ++ framesP (l.drop k) := by rw [← framesP_append, List.take_append_drop]
  rw [h, List.length_append]
  omega
theorem cPut_no (v : Int) (hv : ¬ (1 ≤ v ∧ v ≤ 3)) (l : List Rc) {R} (h : R (.tup [.val (.slice none 0 0), vi 11]) []) : ACalls Tryz.prog 82 [vi v, .sl none 7 (recs l)] [] R := by
  refine acalls_of_xwp (an := an82) tab_ok Tryz.func82 ?_
  (conv => whnf)
  refine Head_no v hv ?_
  (conv => whnf)
  exact h
/-- One record more. -/
theorem put_next {v : Int} {l : List Rc} {i : Nat} (hi : i < l.length) : headP v ++ framesP (paysP v [] (l.take i)) ++ framesP (payP v (tbP v l i) l[i]) = headP v ++ framesP (paysP v [] (l.take (i + 1))) := by
  rw [List.take_succ_eq_append_getElem hi, paysP_append, framesP_append, List.append_assoc]
  simp [paysP]
  rfl
theorem may_take {v : Int} {l : List Rc} {i : Nat} (hi : i < l.length) (h : ∀ r ∈ l.take i, mayP v r = true) (h1 : mayP v l[i] = true) : ∀ r ∈ l.take (i + 1), mayP v r = true := by
  rw [List.take_succ_eq_append_getElem hi]
  intro r hr
  rcases List.mem_append.1 hr with hr | hr
  · exact h r hr
  · rw [List.mem_singleton.1 hr]; exact h1
theorem put_len {v : Int} {l : List Rc} {i : Nat} (hl : l.length ≤ 1000) (h : ∀ r ∈ l.take i, mayP v r = true) : (headP v ++ framesP (paysP v [] (l.take i))).length ≤ 3000008 := by
  have h1 : (l.take i).length ≤ 1000 := by rw [List.length_take]; omega
  have h2 := paysP_frames (v := v) (l := l.take i) (t := []) (fun r hr => may_all (h r hr)) (by simp; omega)
  rw [List.length_append, headP_length]
  omega
theorem tbP_len {v : Int} {l : List Rc} {i : Nat} (hl : l.length ≤ 1000) (h : ∀ r ∈ l.take i, mayP v r = true) : (tbP v l i).length ≤ 18000 := by
  have h1 : (l.take i).length ≤ 1000 := by rw [List.length_take]; omega
  have h2 := tblL_len (v := v) (l := l.take i) (t := []) fun r hr => may_all (h r hr)
  unfold tbP
  simp at h2
  omega
theorem cPut_1 (l : List Rc) (hl : l.length ≤ 1000) (hd : ∀ r ∈ l, r.deps.length < 100000) {R} (hy : (∀ r ∈ l, mayP 1 r = true) → R (.tup [.sl none 1 (byteEls (fileP 1 l)), vi 0]) []) (hn : (¬ ∀ r ∈ l, mayP 1 r = true) → R (.tup [.val (.slice none 0 0), vi 1]) []) :
    ACalls Tryz.prog 82 [vi 1, .sl none 7 (recs l)] [] R := by
  refine acalls_of_xwp (an := an82) tab_ok Tryz.func82 ?_
  have hsl := recs_length l
  (conv => whnf)
  refine Head_1 ?_
  (conv => whnf)
  refine New_nil ?_
  (conv => whnf)
  refine LoopP.ind2 (fun (i : Nat) (b : B) => [(6, .sl none 1 (byteEls b)), (26, vi i)]) (fun i b => [(freshN 23 0, tblF)]) (fun i _ => l.length - i) (fun i b => i ≤ l.length ∧ (∀ r ∈ l.take i, mayP 1 r = true) ∧ b = headP 1 ++ framesP (paysP 1 [] (l.take i))) 0 (headP 1) rfl ⟨by omega, by simp, by simp [paysP, framesP]⟩ ?_
  rintro i b ⟨h0, hm, hb0⟩ IH
  have hbl : b.length ≤ 3000008 := by rw [hb0]; exact put_len hl hm
  (conv => whnf)
  refine br_intro (fun hc => ?_) (fun hc => ?_)
  · have hi := lt_of_decE hsl hc
    have hdi := hd _ (List.getElem_mem hi)
    obtain ⟨TT, hTT⟩ : ∃ TT, tbP 1 l i = TT := ⟨_, rfl⟩
    have hT0 : TT = [] := by rw [← hTT]; exact tblL_one _ _
    have hTl : TT.length ≤ 18000 := by rw [hT0]; simp
    (conv => whnf); (repeat ((with_reducible refine must_intro ?_ ?_); exact decide_eq_true (by omega); (conv => whnf)))
    refine idxK_map_intro (show (i : Int).toNat < l.length by simpa using hi) ?_
    rw [show l[(i : Int).toNat]'(by simpa using hi) = l[i] from by congr 1]
    (conv => whnf)
    by_cases hmi : mayP 1 l[i] = true
    · have hmt := may_take hi hm hmi
      refine sPut_1 l[i] hmi ?_
      rw [← hT0]
      have hpl := payP_lens (t := TT) (may_all hmi) (by omega)
      have hpf := payP_frames (t := TT) (may_all hmi) (by omega)
      have hpc := (payP_len (v := 1) (t := TT) (may_all hmi).deps).2
      have hpn := put_next (v := 1) hi
      rw [hTT] at hpn
      generalize hps : payP 1 TT l[i] = ps at hpl hpf hpn hpc
      have hrl := rowsB_length ps
      (conv => whnf)
      refine LoopP.ind2 (fun (k : Nat) (c : B) => [(6, .sl none 1 (byteEls c)), (42, vi k)]) (fun k c => [(freshN 23 0, tblF)]) (fun k _ => ps.length - k) (fun k c => k ≤ ps.length ∧ c = b ++ framesP (ps.take k)) 0 b rfl ⟨by omega, by simp [framesP]⟩ ?_
      rintro k c ⟨hk0, hc0⟩ IH2
      have hcl : c.length ≤ 3003008 := by have := framesP_part ps k; rw [hc0, List.length_append]; omega
      (conv => whnf)
      refine br_intro (fun hk => ?_) (fun hk => ?_)
      · have hk := lt_of_decE hrl hk
        have hp := hpl _ (List.getElem_mem hk)
        have hS : c ++ frameP ps[k] = b ++ framesP (ps.take (k + 1)) := by
          rw [hc0, List.take_succ_eq_append_getElem hk, framesP_snoc, List.append_assoc]
        have IH2 := IH2 (k + 1) _ ⟨hk, hS⟩ (by omega)
        (conv => whnf); (repeat ((with_reducible refine must_intro ?_ ?_); exact decide_eq_true (by omega); (conv => whnf)))
        refine idxK_map_intro (show (k : Int).toNat < ps.length by simpa using hk) ?_
        rw [show ps[(k : Int).toNat]'(by simpa using hk) = ps[k] from by congr 1]
        (conv => whnf)
        refine framePut_calls c ps[k] (by omega) hp.1 hp.2 ?_
        (conv => whnf)
        rw [i64_nat (by omega)]
        exact IH2
      · have hk := ge_of_decE hrl hk
        have hke : k = ps.length := by omega
        subst hke
        rw [List.take_length, hb0, hpn] at hc0
        (conv => whnf)
        rw [i64_nat (by omega)]
        exact IH (i + 1) c ⟨hi, hmt, hc0⟩ (by omega)
    · have hmi : mayP 1 l[i] = false := by simpa using hmi
      refine sNo_1F l[i] hdi hmi ?_
      (conv => whnf)
      exact hn fun h => by rw [h _ (List.getElem_mem hi)] at hmi; cases hmi
  · have hi := ge_of_decE hsl hc
    rw [List.take_of_length_le hi] at hm hb0
    (conv => whnf)
    rw [hb0]
    exact hy hm
theorem cPut_2 (l : List Rc) (hl : l.length ≤ 1000) (hd : ∀ r ∈ l, r.deps.length < 100000) {R} (hy : (∀ r ∈ l, mayP 2 r = true) → R (.tup [.sl none 1 (byteEls (fileP 2 l)), vi 0]) []) (hn : (¬ ∀ r ∈ l, mayP 2 r = true) → R (.tup [.val (.slice none 0 0), vi 1]) []) :
    ACalls Tryz.prog 82 [vi 2, .sl none 7 (recs l)] [] R := by
  refine acalls_of_xwp (an := an82) tab_ok Tryz.func82 ?_
  have hsl := recs_length l
  (conv => whnf)
  refine Head_2 ?_
  (conv => whnf)
  refine New_nil ?_
  (conv => whnf)
  by_cases hl0 : l = []
  · subst hl0
    refine LoopP.step ?_
    (conv => whnf)
    have e := hy (fun r hr => by cases hr)
    rw [show fileP 2 [] = headP 2 from by simp [fileP, paysP, framesP]] at e
    exact e
  have hi : 0 < l.length := List.length_pos_iff.2 hl0
  refine LoopP.step ?_
  (conv => whnf)
  refine br_true (by rw [hsl]; exact decide_eq_true (by omega)) ?_
  (conv => whnf); (repeat ((with_reducible refine must_intro ?_ ?_); exact decide_eq_true (by omega); (conv => whnf)))
  refine idxK_map_intro (show (0 : Int).toNat < l.length by simpa using hi) ?_
  rw [show l[(0 : Int).toNat]'(by simpa using hi) = l[0] from rfl]
  have hdi := hd _ (List.getElem_mem hi)
  by_cases hmi : mayP 2 l[0] = true
  · obtain ⟨TT, hTT⟩ : ∃ TT, tbP 2 l 0 = TT := ⟨_, rfl⟩
    have hT0 : TT = [] := by rw [← hTT]; rfl
    have hTl : TT.length ≤ 18000 := by rw [hT0]; simp
    have hm : ∀ r ∈ l.take 0, mayP 2 r = true := by simp
    have hmt := may_take hi hm hmi
    obtain ⟨i, hi0⟩ : ∃ i : Nat, i = 0 := ⟨0, rfl⟩
    obtain ⟨b, hb0⟩ : ∃ b, b = headP 2 ++ framesP (paysP 2 [] (l.take 0)) := ⟨_, rfl⟩
    have hbh : headP 2 = b := by rw [hb0]; simp [paysP, framesP]
    have hbl : b.length ≤ 3000008 := by rw [hb0]; exact put_len hl hm
    rw [hbh]
    (conv => whnf)
    refine sPut_2F l[0] hmi ?_
    rw [← hT0]
    have hpl := payP_lens (t := TT) (may_all hmi) (by omega)
    have hpf := payP_frames (t := TT) (may_all hmi) (by omega)
    have hpc := (payP_len (v := 2) (t := TT) (may_all hmi).deps).2
    have hpn := put_next (v := 2) hi
    rw [hTT] at hpn
    generalize hps : payP 2 TT l[0] = ps at hpl hpf hpn hpc
    have hrl := rowsB_length ps
    (conv => whnf)
    refine LoopP.ind2 (fun (k : Nat) (c : B) => [(6, .sl none 1 (byteEls c)), (42, vi k)]) (fun k c => [(freshN 23 0, tblO (freshN 34 0) (freshN 34 1) (addT 2 TT l[0])), (freshN 34 0, tblR (addT 2 TT l[0])), (freshN 34 1, tblM (addT 2 TT l[0]))]) (fun k _ => ps.length - k) (fun k c => k ≤ ps.length ∧ c = b ++ framesP (ps.take k)) 0 b rfl ⟨by omega, by simp [framesP]⟩ ?_
    rintro k c ⟨hk0, hc0⟩ IH2
    have hcl : c.length ≤ 3003008 := by have := framesP_part ps k; rw [hc0, List.length_append]; omega
    (conv => whnf)
    refine br_intro (fun hk => ?_) (fun hk => ?_)
    · have hk := lt_of_decE hrl hk
      have hp := hpl _ (List.getElem_mem hk)
      have hS : c ++ frameP ps[k] = b ++ framesP (ps.take (k + 1)) := by
        rw [hc0, List.take_succ_eq_append_getElem hk, framesP_snoc, List.append_assoc]
      have IH2 := IH2 (k + 1) _ ⟨hk, hS⟩ (by omega)
      (conv => whnf); (repeat ((with_reducible refine must_intro ?_ ?_); exact decide_eq_true (by omega); (conv => whnf)))
      refine idxK_map_intro (show (k : Int).toNat < ps.length by simpa using hk) ?_
      rw [show ps[(k : Int).toNat]'(by simpa using hk) = ps[k] from by congr 1]
      (conv => whnf)
      refine framePut_calls c ps[k] (by omega) hp.1 hp.2 ?_
      (conv => whnf)
      rw [i64_nat (by omega)]
      exact IH2
    · have hk := ge_of_decE hrl hk
      have hke : k = ps.length := by omega
      subst hke
      rw [List.take_length, hb0, hpn] at hc0
      (conv => whnf)
      rw [show IntKind.i64.wrap ((0 : Int) + 1) = ((1 : Nat) : Int) from rfl]
      have hT1 : addT 2 TT l[0] = tbP 2 l 1 := by rw [← hTT]; exact (tbP_succ hi).symm
      rw [hT1]
      refine LoopP.ind3 (fun (i : Nat) (b : B) (T : List B) => [(6, .sl none 1 (byteEls b)), (26, vi i)]) (fun i b T => [(freshN 23 0, tblO (freshN 34 0) (freshN 34 1) T), (freshN 34 0, tblR T), (freshN 34 1, tblM T)]) (fun i _ _ => l.length - i) (fun i b T => 1 ≤ i ∧ i ≤ l.length ∧ (∀ r ∈ l.take i, mayP 2 r = true) ∧ b = headP 2 ++ framesP (paysP 2 [] (l.take i)) ∧ T = tbP 2 l i) 1 c _ rfl ⟨by omega, hi, hmt, hc0, rfl⟩ ?_
      clear hc0 hcl hbl hb0 hbh hmi hdi hm hmt hTT hT0 hTl hT1 hpl hpf hpn hps hrl hk IH2 hk0
      skip
      rintro i b T ⟨h00, h0, hm, hb0, hT⟩ IH
      have hbl : b.length ≤ 3000008 := by rw [hb0]; exact put_len hl hm
      (conv => whnf)
      refine br_intro (fun hc => ?_) (fun hc => ?_)
      · have hi := lt_of_decE hsl hc
        have hdi := hd _ (List.getElem_mem hi)
        have hTne : T ≠ [] := by
          obtain ⟨j, rfl⟩ : ∃ j, i = j + 1 := ⟨i - 1, by omega⟩
          rw [hT, tbP_succ (by omega)]
          exact addT_ne (by decide) _ _
        obtain ⟨TT, hTT⟩ : ∃ TT, tbP 2 l i = TT := ⟨_, rfl⟩
        have hTeq : T = TT := hT.trans hTT
        have hTl : TT.length ≤ 18000 := by rw [← hTT]; exact tbP_len hl hm
        subst hTeq
        (conv => whnf); (repeat ((with_reducible refine must_intro ?_ ?_); exact decide_eq_true (by omega); (conv => whnf)))
        refine idxK_map_intro (show (i : Int).toNat < l.length by simpa using hi) ?_
        rw [show l[(i : Int).toNat]'(by simpa using hi) = l[i] from by congr 1]
        (conv => whnf)
        by_cases hmi : mayP 2 l[i] = true
        · have hmt := may_take hi hm hmi
          refine sPut_2O l[i] T (by omega) hmi ?_
          have hT1 : addT 2 T l[i] = tbP 2 l (i + 1) := by rw [← hTT]; exact (tbP_succ hi).symm
          rw [hT1]
          have hpl := payP_lens (t := T) (may_all hmi) (by omega)
          have hpf := payP_frames (t := T) (may_all hmi) (by omega)
          have hpc := (payP_len (v := 2) (t := T) (may_all hmi).deps).2
          have hpn := put_next (v := 2) hi
          rw [hTT] at hpn
          generalize hps : payP 2 T l[i] = ps at hpl hpf hpn hpc
          have hrl := rowsB_length ps
          (conv => whnf)
          refine LoopP.ind2 (fun (k : Nat) (c : B) => [(6, .sl none 1 (byteEls c)), (42, vi k)]) (fun k c => [(freshN 23 0, tblO (freshN 34 0) (freshN 34 1) (tbP 2 l (i + 1))), (freshN 34 0, tblR (tbP 2 l (i + 1))), (freshN 34 1, tblM (tbP 2 l (i + 1)))]) (fun k _ => ps.length - k) (fun k c => k ≤ ps.length ∧ c = b ++ framesP (ps.take k)) 0 b rfl ⟨by omega, by simp [framesP]⟩ ?_
          rintro k c ⟨hk0, hc0⟩ IH2
          have hcl : c.length ≤ 3003008 := by have := framesP_part ps k; rw [hc0, List.length_append]; omega
          (conv => whnf)
          refine br_intro (fun hk => ?_) (fun hk => ?_)
          · have hk := lt_of_decE hrl hk
            have hp := hpl _ (List.getElem_mem hk)
            have hS : c ++ frameP ps[k] = b ++ framesP (ps.take (k + 1)) := by
              rw [hc0, List.take_succ_eq_append_getElem hk, framesP_snoc, List.append_assoc]
            have IH2 := IH2 (k + 1) _ ⟨hk, hS⟩ (by omega)
            (conv => whnf); (repeat ((with_reducible refine must_intro ?_ ?_); exact decide_eq_true (by omega); (conv => whnf)))
            refine idxK_map_intro (show (k : Int).toNat < ps.length by simpa using hk) ?_
            rw [show ps[(k : Int).toNat]'(by simpa using hk) = ps[k] from by congr 1]
            (conv => whnf)
            refine framePut_calls c ps[k] (by omega) hp.1 hp.2 ?_
            (conv => whnf)
            rw [i64_nat (by omega)]
            exact IH2
          · have hk := ge_of_decE hrl hk
            have hke : k = ps.length := by omega
            subst hke
            rw [List.take_length, hb0, hpn] at hc0
            (conv => whnf)
            rw [i64_nat (by omega)]
            exact IH (i + 1) c _ ⟨by omega, hi, hmt, hc0, rfl⟩ (by omega)
        · have hmi : mayP 2 l[i] = false := by simpa using hmi
          refine sNo_2O l[i] T hdi hmi ?_
          (conv => whnf)
          exact hn fun h => by rw [h _ (List.getElem_mem hi)] at hmi; cases hmi
      · have hi := ge_of_decE hsl hc
        rw [List.take_of_length_le hi] at hm hb0
        (conv => whnf)
        rw [hb0]
        exact hy hm
  · have hmi : mayP 2 l[0] = false := by simpa using hmi
    (conv => whnf)
    refine sNo_2F l[0] hdi hmi ?_
    (conv => whnf)
    exact hn fun h => by rw [h _ (List.getElem_mem hi)] at hmi; cases hmi
theorem cPut_3 (l : List Rc) (hl : l.length ≤ 1000) (hd : ∀ r ∈ l, r.deps.length < 100000) {R} (hy : (∀ r ∈ l, mayP 3 r = true) → R (.tup [.sl none 1 (byteEls (fileP 3 l)), vi 0]) []) (hn : (¬ ∀ r ∈ l, mayP 3 r = true) → R (.tup [.val (.slice none 0 0), vi 1]) []) :
    ACalls Tryz.prog 82 [vi 3, .sl none 7 (recs l)] [] R := by
  refine acalls_of_xwp (an := an82) tab_ok Tryz.func82 ?_
  have hsl := recs_length l
  (conv => whnf)
  refine Head_3 ?_
  (conv => whnf)
  refine New_nil ?_
  (conv => whnf)
  by_cases hl0 : l = []
  · subst hl0
    refine LoopP.step ?_
    (conv => whnf)
    have e := hy (fun r hr => by cases hr)
    rw [show fileP 3 [] = headP 3 from by simp [fileP, paysP, framesP]] at e
    exact e
  have hi : 0 < l.length := List.length_pos_iff.2 hl0
  refine LoopP.step ?_
  (conv => whnf)
  refine br_true (by rw [hsl]; exact decide_eq_true (by omega)) ?_
  (conv => whnf); (repeat ((with_reducible refine must_intro ?_ ?_); exact decide_eq_true (by omega); (conv => whnf)))
  refine idxK_map_intro (show (0 : Int).toNat < l.length by simpa using hi) ?_
  rw [show l[(0 : Int).toNat]'(by simpa using hi) = l[0] from rfl]
  have hdi := hd _ (List.getElem_mem hi)
  by_cases hmi : mayP 3 l[0] = true
  · obtain ⟨TT, hTT⟩ : ∃ TT, tbP 3 l 0 = TT := ⟨_, rfl⟩
    have hT0 : TT = [] := by rw [← hTT]; rfl
    have hTl : TT.length ≤ 18000 := by rw [hT0]; simp
    have hm : ∀ r ∈ l.take 0, mayP 3 r = true := by simp
    have hmt := may_take hi hm hmi
    obtain ⟨i, hi0⟩ : ∃ i : Nat, i = 0 := ⟨0, rfl⟩
    obtain ⟨b, hb0⟩ : ∃ b, b = headP 3 ++ framesP (paysP 3 [] (l.take 0)) := ⟨_, rfl⟩
    have hbh : headP 3 = b := by rw [hb0]; simp [paysP, framesP]
    have hbl : b.length ≤ 3000008 := by rw [hb0]; exact put_len hl hm
    rw [hbh]
    (conv => whnf)
    refine sPut_3F l[0] hmi ?_
    rw [← hT0]
    have hpl := payP_lens (t := TT) (may_all hmi) (by omega)
    have hpf := payP_frames (t := TT) (may_all hmi) (by omega)
    have hpc := (payP_len (v := 3) (t := TT) (may_all hmi).deps).2
    have hpn := put_next (v := 3) hi
    rw [hTT] at hpn
    generalize hps : payP 3 TT l[0] = ps at hpl hpf hpn hpc
    have hrl := rowsB_length ps
    (conv => whnf)
    refine LoopP.ind2 (fun (k : Nat) (c : B) => [(6, .sl none 1 (byteEls c)), (42, vi k)]) (fun k c => [(freshN 23 0, tblO (freshN 34 0) (freshN 34 1) (addT 3 TT l[0])), (freshN 34 0, tblR (addT 3 TT l[0])), (freshN 34 1, tblM (addT 3 TT l[0]))]) (fun k _ => ps.length - k) (fun k c => k ≤ ps.length ∧ c = b ++ framesP (ps.take k)) 0 b rfl ⟨by omega, by simp [framesP]⟩ ?_
    rintro k c ⟨hk0, hc0⟩ IH2
    have hcl : c.length ≤ 3003008 := by have := framesP_part ps k; rw [hc0, List.length_append]; omega
    (conv => whnf)
    refine br_intro (fun hk => ?_) (fun hk => ?_)
    · have hk := lt_of_decE hrl hk
      have hp := hpl _ (List.getElem_mem hk)
      have hS : c ++ frameP ps[k] = b ++ framesP (ps.take (k + 1)) := by
        rw [hc0, List.take_succ_eq_append_getElem hk, framesP_snoc, List.append_assoc]
      have IH2 := IH2 (k + 1) _ ⟨hk, hS⟩ (by omega)
      (conv => whnf); (repeat ((with_reducible refine must_intro ?_ ?_); exact decide_eq_true (by omega); (conv => whnf)))
      refine idxK_map_intro (show (k : Int).toNat < ps.length by simpa using hk) ?_
      rw [show ps[(k : Int).toNat]'(by simpa using hk) = ps[k] from by congr 1]
      (conv => whnf)
      refine framePut_calls c ps[k] (by omega) hp.1 hp.2 ?_
      (conv => whnf)
      rw [i64_nat (by omega)]
      exact IH2
    · have hk := ge_of_decE hrl hk
      have hke : k = ps.length := by omega
      subst hke
      rw [List.take_length, hb0, hpn] at hc0
      (conv => whnf)
      rw [show IntKind.i64.wrap ((0 : Int) + 1) = ((1 : Nat) : Int) from rfl]
      have hT1 : addT 3 TT l[0] = tbP 3 l 1 := by rw [← hTT]; exact (tbP_succ hi).symm
      rw [hT1]
      refine LoopP.ind3 (fun (i : Nat) (b : B) (T : List B) => [(6, .sl none 1 (byteEls b)), (26, vi i)]) (fun i b T => [(freshN 23 0, tblO (freshN 34 0) (freshN 34 1) T), (freshN 34 0, tblR T), (freshN 34 1, tblM T)]) (fun i _ _ => l.length - i) (fun i b T => 1 ≤ i ∧ i ≤ l.length ∧ (∀ r ∈ l.take i, mayP 3 r = true) ∧ b = headP 3 ++ framesP (paysP 3 [] (l.take i)) ∧ T = tbP 3 l i) 1 c _ rfl ⟨by omega, hi, hmt, hc0, rfl⟩ ?_
      clear hc0 hcl hbl hb0 hbh hmi hdi hm hmt hTT hT0 hTl hT1 hpl hpf hpn hps hrl hk IH2 hk0
      skip
      rintro i b T ⟨h00, h0, hm, hb0, hT⟩ IH
      have hbl : b.length ≤ 3000008 := by rw [hb0]; exact put_len hl hm
      (conv => whnf)
      refine br_intro (fun hc => ?_) (fun hc => ?_)
      · have hi := lt_of_decE hsl hc
        have hdi := hd _ (List.getElem_mem hi)
        have hTne : T ≠ [] := by
          obtain ⟨j, rfl⟩ : ∃ j, i = j + 1 := ⟨i - 1, by omega⟩
          rw [hT, tbP_succ (by omega)]
          exact addT_ne (by decide) _ _
        obtain ⟨TT, hTT⟩ : ∃ TT, tbP 3 l i = TT := ⟨_, rfl⟩
        have hTeq : T = TT := hT.trans hTT
        have hTl : TT.length ≤ 18000 := by rw [← hTT]; exact tbP_len hl hm
        subst hTeq
        (conv => whnf); (repeat ((with_reducible refine must_intro ?_ ?_); exact decide_eq_true (by omega); (conv => whnf)))
        refine idxK_map_intro (show (i : Int).toNat < l.length by simpa using hi) ?_
        rw [show l[(i : Int).toNat]'(by simpa using hi) = l[i] from by congr 1]
        (conv => whnf)
        by_cases hmi : mayP 3 l[i] = true
        · have hmt := may_take hi hm hmi
          refine sPut_3O l[i] T (by omega) hmi ?_
          have hT1 : addT 3 T l[i] = tbP 3 l (i + 1) := by rw [← hTT]; exact (tbP_succ hi).symm
          rw [hT1]
          have hpl := payP_lens (t := T) (may_all hmi) (by omega)
          have hpf := payP_frames (t := T) (may_all hmi) (by omega)
          have hpc := (payP_len (v := 3) (t := T) (may_all hmi).deps).2
          have hpn := put_next (v := 3) hi
          rw [hTT] at hpn
          generalize hps : payP 3 T l[i] = ps at hpl hpf hpn hpc
          have hrl := rowsB_length ps
          (conv => whnf)
          refine LoopP.ind2 (fun (k : Nat) (c : B) => [(6, .sl none 1 (byteEls c)), (42, vi k)]) (fun k c => [(freshN 23 0, tblO (freshN 34 0) (freshN 34 1) (tbP 3 l (i + 1))), (freshN 34 0, tblR (tbP 3 l (i + 1))), (freshN 34 1, tblM (tbP 3 l (i + 1)))]) (fun k _ => ps.length - k) (fun k c => k ≤ ps.length ∧ c = b ++ framesP (ps.take k)) 0 b rfl ⟨by omega, by simp [framesP]⟩ ?_
          rintro k c ⟨hk0, hc0⟩ IH2
          have hcl : c.length ≤ 3003008 := by have := framesP_part ps k; rw [hc0, List.length_append]; omega
          (conv => whnf)
          refine br_intro (fun hk => ?_) (fun hk => ?_)
          · have hk := lt_of_decE hrl hk
            have hp := hpl _ (List.getElem_mem hk)
            have hS : c ++ frameP ps[k] = b ++ framesP (ps.take (k + 1)) := by
              rw [hc0, List.take_succ_eq_append_getElem hk, framesP_snoc, List.append_assoc]
            have IH2 := IH2 (k + 1) _ ⟨hk, hS⟩ (by omega)
            (conv => whnf); (repeat ((with_reducible refine must_intro ?_ ?_); exact decide_eq_true (by omega); (conv => whnf)))
            refine idxK_map_intro (show (k : Int).toNat < ps.length by simpa using hk) ?_
            rw [show ps[(k : Int).toNat]'(by simpa using hk) = ps[k] from by congr 1]
            (conv => whnf)
            refine framePut_calls c ps[k] (by omega) hp.1 hp.2 ?_
            (conv => whnf)
            rw [i64_nat (by omega)]
            exact IH2
          · have hk := ge_of_decE hrl hk
            have hke : k = ps.length := by omega
            subst hke
            rw [List.take_length, hb0, hpn] at hc0
            (conv => whnf)
            rw [i64_nat (by omega)]
            exact IH (i + 1) c _ ⟨by omega, hi, hmt, hc0, rfl⟩ (by omega)
        · have hmi : mayP 3 l[i] = false := by simpa using hmi
          refine sNo_3O l[i] T hdi hmi ?_
          (conv => whnf)
          exact hn fun h => by rw [h _ (List.getElem_mem hi)] at hmi; cases hmi
      · have hi := ge_of_decE hsl hc
        rw [List.take_of_length_le hi] at hm hb0
        (conv => whnf)
        rw [hb0]
        exact hy hm
  · have hmi : mayP 3 l[0] = false := by simpa using hmi
    (conv => whnf)
    refine sNo_3F l[0] hdi hmi ?_
    (conv => whnf)
    exact hn fun h => by rw [h _ (List.getElem_mem hi)] at hmi; cases hmi
end Go.Abs
end

section
/- codec.Get reads what was laid. -/
set_option maxRecDepth 100000
set_option maxHeartbeats 8000000
set_option linter.unusedVariables false
set_option linter.unusedSimpArgs false
namespace Go.Abs
open Go Go.Proofs Dig
attribute [local irreducible] ibits byteAt strLt firstIdx

/-- Where records end. -/
def endsR (v : Int) (l : List Rc) : List Nat := (List.range l.length).map fun i => (fileP v (l.take (i + 1))).length
theorem endsR_length (v : Int) (l : List Rc) : (endsR v l).length = l.length := by simp [endsR]
theorem endsR_at {v : Int} {l : List Rc} {i : Nat} (h : i < l.length) : (endsR v l)[i]'(by rw [endsR_length]; exact h) = (fileP v (l.take (i + 1))).length := by simp [endsR]
theorem fileP_len (v : Int) (l : List Rc) : (fileP v l).length = 8 + (framesP (paysP v [] l)).length := by
  unfold fileP
  rw [List.length_append, headP_length]
/-- What is read of a file. -/
def fileA (v : Int) (l : List Rc) : List AV := [vi v, .sl none 7 (recs l), .sl none 1 (ints (endsR v l)), vi (((fileP v l).length : Nat) : Int)]
theorem cRecords_calls (v : Int) (P : List B) {R} (h : R (.fn (.func 160) [] [.cptr [vi v] 0, .cptr [.sl none 1 (rowsB P)] 0]) []) : ACalls Tryz.prog 125 [vi v, .sl none 1 (rowsB P)] [] R := by
  refine acalls_of_xwp (an := an125) tab_ok Tryz.func125 ?_
  (conv => whnf)
  exact h
theorem bytes_rec : (tab.ti 67).bytes = 88 := rfl
theorem recs_take {l : List Rc} {i : Nat} (h : i < l.length) : recs (l.take (i + 1)) = recs (l.take i) ++ [l[i].enc] := by
  rw [List.take_succ_eq_append_getElem h]
  unfold recs
  rw [List.map_append]
  rfl
theorem endsP_at' (l : List B) (o i : Nat) (h : i < l.length) : (endsP o l)[i]'(by rw [endsP_length]; exact h) = o + (framesP (l.take (i + 1))).length := by
  have h1 := endsP_at l o i h
  rw [List.getElem?_eq_getElem (by rw [endsP_length]; exact h)] at h1
  exact Option.some.inj h1
def cgS (E : List Nat) : List AV := [.junk, .junk, .ptr (nameOf 2) 0, .junk, .junk, .junk, .ptr (nameOf 6) 0, .junk, .cptr [.sl none 1 (ints E)] 0, .junk, .junk, .junk, .junk, .junk, .junk, .junk, .junk, .junk, .junk, .junk, .junk, .junk, .junk, .junk, .junk, .junk, .junk, .junk, .junk, .junk, .junk, .junk, .junk, .junk, .junk, .junk, .junk, .junk, .junk, .junk, .junk, .junk, .junk, .junk, .junk, .junk, .junk, .junk, .junk, .junk, .junk, .junk]
def flO (v : Int) (a b : AV) (n : Nat) : AObj := .cells 50 [vi v, a, b, vi (n : Int)]
abbrev nlA : AV := .val (.slice none 0 0)
theorem cGetT_1 (l : List Rc) (hm : ∀ r ∈ l, mayP 1 r = true) (hl : l.length ≤ 300) (ms : List B) (hms : (1 : Int) = 1 → ms = []) (hml : ms.length < 100) (hmf : ∀ m ∈ ms, m.length ≤ 64) (t : B) (ht : EndAt t) (htl : t.length < 3000) {R} (h : R (.tup [.agg (fileA 1 l), vi 0]) []) : ACalls Tryz.prog 83 [.sl none 1 (byteEls (fileP 1 l ++ framesP (ms.map defP) ++ t))] [] R := by
  obtain ⟨Ps, hPs⟩ : ∃ Ps, Ps = paysP 1 [] l ++ ms.map defP := ⟨_, rfl⟩
  have hbytes : fileP 1 l ++ framesP (ms.map defP) ++ t = headP 1 ++ (framesP Ps ++ t) := by rw [hPs, framesP_append]; simp [fileP]
  rw [hbytes]
  clear hbytes
  refine ACalls.res ?_
  refine acalls_of_xwp (an := an83) tab_ok Tryz.func83 ?_
  have hM : ∀ r ∈ l, MayR 1 r := fun r hr => may_all (hm r hr)
  have hfl := paysP_frames (v := 1) (l := l) (t := []) hM (by simp; omega)
  have hpl := paysP_len (v := 1) (l := l) (t := []) fun r hr => (hM r hr).deps
  have hlens := paysP_lens (v := 1) (l := l) (t := []) hM (by simp; omega)
  have hh8 := headP_length 1
  have hit := records_iter 1 (by decide) l hm (by omega) ms hms (by omega)
  rw [← hPs] at hit
  have hfm := framesP_len (l := ms.map defP) (k := 65) (fun p hp => by
    obtain ⟨m, hm1, rfl⟩ := List.mem_map.1 hp
    have := hmf m hm1
    simp [defP]; omega) (by omega)
  rw [List.length_map] at hfm
  have hPl : Ps.length = (paysP 1 [] l).length + ms.length := by rw [hPs]; simp
  have hPf : (framesP Ps).length = (framesP (paysP 1 [] l)).length + (framesP (ms.map defP)).length := by rw [hPs, framesP_append, List.length_append]
  have hlensP : ∀ p ∈ Ps, 1 ≤ p.length ∧ p.length ≤ 2048 := by
    intro p hp
    rw [hPs] at hp
    rcases List.mem_append.1 hp with hp | hp
    · exact hlens p hp
    · obtain ⟨m, hm1, rfl⟩ := List.mem_map.1 hp
      have := hmf m hm1
      simp [defP]; omega
  have hlA := recsA_length 1 l [] 0
  have hEl := endsR_length 1 l
  have hEp := endsP_length Ps 8
  have hend : ∀ i (hi : i < l.length), (IntKind.i64.wrap (((plP 1 l (i + 1) : Nat) : Int) - 1)).toNat < (endsP 8 Ps).length ∧ ∀ hj, (endsP 8 Ps)[(IntKind.i64.wrap (((plP 1 l (i + 1) : Nat) : Int) - 1)).toNat]'hj = (fileP 1 (l.take (i + 1))).length := by
    intro i hi
    have h1 := payP_len (v := 1) (t := tbP 1 l i) (r := l[i]) (hM _ (List.getElem_mem hi)).deps
    have h2 := plP_succ (v := 1) hi
    have h3 : plP 1 l (i + 1) ≤ (paysP 1 [] l).length := by
      rw [paysP_split hi, List.length_append, List.length_append, h2]
      show (paysP 1 [] (l.take i)).length + _ ≤ _
      omega
    have h4 : (IntKind.i64.wrap (((plP 1 l (i + 1) : Nat) : Int) - 1)).toNat = plP 1 l (i + 1) - 1 := by
      rw [wrap_i64 (by omega) (by omega)]
      omega
    have h5 : Ps.take (plP 1 l (i + 1)) = paysP 1 [] (l.take (i + 1)) := by
      have e : Ps = paysP 1 [] (l.take (i + 1)) ++ (paysP 1 (tblL 1 [] (l.take (i + 1))) (l.drop (i + 1)) ++ ms.map defP) := by rw [hPs, ← List.append_assoc, ← paysP_append, List.take_append_drop]
      rw [e]
      exact List.take_left
    refine ⟨by rw [h4, hEp]; omega, fun hj => ?_⟩
    have h6 := endsP_at' Ps 8 (plP 1 l (i + 1) - 1) (by omega)
    rw [show plP 1 l (i + 1) - 1 + 1 = plP 1 l (i + 1) by omega, h5] at h6
    rw [fileP_len, ← h6]
    congr 1
  have hnn : ∀ i, 0 ≤ i → i < l.length → 0 ≤ IntKind.i64.wrap (((plP 1 l (i + 1) : Nat) : Int) - 1) := by
    intro i _ hi
    have h1 := payP_len (v := 1) (t := tbP 1 l i) (r := l[i]) (hM _ (List.getElem_mem hi)).deps
    have h2 := plP_succ (v := 1) hi
    have h3 : plP 1 l (i + 1) ≤ (paysP 1 [] l).length := by
      rw [paysP_split hi, List.length_append, List.length_append, h2]
      show (paysP 1 [] (l.take i)).length + _ ≤ _
      omega
    rw [wrap_i64 (by omega) (by omega)]
    omega
  (conv => whnf)
  refine Version_1 _ (by rw [List.length_append]; omega) ?_
  (conv => whnf)
  have hrun := fun R hR => Run_calls (headP 1) Ps t ht hlensP (by omega) (by omega) (R := R) hR
  rw [hh8] at hrun
  refine hrun _ ?_
  (conv => whnf)
  refine cRecords_calls 1 Ps ?_
  (conv => whnf)
  refine .inr ?_
  (conv => whnf)
  refine ⟨recsA 1 [] 0 l, hit, ?_, ?_⟩
  · intro x hx
    obtain ⟨i, hi, rfl⟩ := List.getElem_of_mem hx
    have h1 := recsA_at 1 l [] 0 i (by omega)
    rw [List.getElem?_eq_getElem hi] at h1
    rw [Option.some.inj h1]
    rfl
  refine ⟨fun i s => (i = 0 ∧ s = ⟨cgS (endsP 8 Ps), [(nameOf 2, flO 0 nlA nlA 0), (nameOf 6, flO 1 nlA nlA 8)]⟩) ∨
    (0 < i ∧ i ≤ l.length ∧ s = ⟨cgS (endsP 8 Ps), [(nameOf 2, flO 0 nlA nlA 0), (nameOf 6, flO 1 (.sl (some (nameOf 42)) 7 (recs (l.take i))) (.sl (some (nameOf 48)) 1 (ints ((endsR 1 l).take i))) (fileP 1 (l.take i)).length), (nameOf 42, .row 67 7 i), (nameOf 48, .row 3 1 i)]⟩), .inl ⟨rfl, rfl⟩, ?_, ?_⟩
  · rintro i x s hx hs
    have hi : i < l.length := by
      have := (List.getElem?_eq_some_iff.1 hx).1
      omega
    have hx2 := recsA_at 1 l [] 0 i hi
    rw [Nat.zero_add] at hx2
    rw [hx] at hx2
    cases hx2
    obtain ⟨he1, he2⟩ := hend i hi
    have hn0 := hnn i (Nat.zero_le i) hi
    have hie : i < (endsR 1 l).length := by omega
    have e1 := recs_take hi
    have e2 := ints_take hie
    rw [endsR_at hi] at e2
    have hpl2 : (paysP 1 [] (l.take (i + 1))).length = plP 1 l (i + 1) := rfl
    rw [hpl2]
    have l1 : (recs (l.take i)).length = i := by rw [recs_length, List.length_take]; omega
    have l2 : (ints ((endsR 1 l).take i)).length = i := by rw [ints_length, List.length_take]; omega
    clear hit hx
    rcases hs with ⟨rfl, rfl⟩ | ⟨h1, h2, rfl⟩
    · (conv => whnf)
      refine must_intro (decide_eq_true hn0) ?_
      refine idxK_map_intro he1 ?_
      rw [he2 he1]
      (conv => whnf)
      refine ⟨?_, ?_, ?_, trivial⟩
      · (conv => whnf)
        refine ⟨?_, ?_, ?_, trivial⟩
        · (conv => whnf)
          refine ⟨by rw [bytes_rec]; simp, ?_⟩
          (conv => whnf)
          refine ⟨?_, ?_, trivial⟩
          · (conv => whnf)
            refine ⟨?_, trivial⟩
            (conv => whnf)
            refine ⟨?_, trivial⟩
            (conv => whnf)
            refine ⟨by rw [bytes_int]; simp, ?_⟩
            (conv => whnf)
            refine ⟨?_, trivial⟩
            (conv => whnf)
            refine ⟨?_, trivial⟩
            (conv => whnf)
            refine .inr ⟨by omega, by omega, ?_⟩
            rw [e1, e2]
            rfl
          · (conv => whnf)
            refine ⟨?_, trivial⟩
            (conv => whnf)
            refine ⟨?_, trivial⟩
            (conv => whnf)
            refine ⟨by rw [bytes_int]; simp, ?_⟩
            (conv => whnf)
            refine ⟨?_, trivial⟩
            (conv => whnf)
            refine ⟨?_, trivial⟩
            (conv => whnf)
            refine .inr ⟨by omega, by omega, ?_⟩
            rw [e1, e2]
            rfl
        · (conv => whnf)
          refine ⟨?_, ?_, trivial⟩
          · (conv => whnf)
            refine ⟨by rw [bytes_rec]; simp, ?_⟩
            (conv => whnf)
            refine ⟨?_, trivial⟩
            (conv => whnf)
            refine ⟨?_, trivial⟩
            (conv => whnf)
            refine ⟨by rw [bytes_int]; simp, ?_⟩
            (conv => whnf)
            refine ⟨?_, trivial⟩
            (conv => whnf)
            refine ⟨?_, trivial⟩
            (conv => whnf)
            refine .inr ⟨by omega, by omega, ?_⟩
            rw [e1, e2]
            rfl
          · (conv => whnf)
            refine ⟨?_, trivial⟩
            (conv => whnf)
            refine ⟨by rw [bytes_rec]; simp, ?_⟩
            (conv => whnf)
            refine ⟨?_, trivial⟩
            (conv => whnf)
            refine ⟨by rw [bytes_int]; simp, ?_⟩
            (conv => whnf)
            refine ⟨?_, trivial⟩
            (conv => whnf)
            refine ⟨?_, trivial⟩
            (conv => whnf)
            refine .inr ⟨by omega, by omega, ?_⟩
            rw [e1, e2]
            rfl
        · (conv => whnf)
          refine ⟨?_, ?_, trivial⟩
          · (conv => whnf)
            refine ⟨by rw [bytes_rec]; simp, ?_⟩
            (conv => whnf)
            refine ⟨?_, trivial⟩
            (conv => whnf)
            refine ⟨?_, trivial⟩
            (conv => whnf)
            refine ⟨by rw [bytes_int]; simp, ?_⟩
            (conv => whnf)
            refine ⟨?_, trivial⟩
            (conv => whnf)
            refine ⟨?_, trivial⟩
            (conv => whnf)
            refine .inr ⟨by omega, by omega, ?_⟩
            rw [e1, e2]
            rfl
          · (conv => whnf)
            refine ⟨?_, trivial⟩
            (conv => whnf)
            refine ⟨by rw [bytes_rec]; simp, ?_⟩
            (conv => whnf)
            refine ⟨?_, trivial⟩
            (conv => whnf)
            refine ⟨by rw [bytes_int]; simp, ?_⟩
            (conv => whnf)
            refine ⟨?_, trivial⟩
            (conv => whnf)
            refine ⟨?_, trivial⟩
            (conv => whnf)
            refine .inr ⟨by omega, by omega, ?_⟩
            rw [e1, e2]
            rfl
      · (conv => whnf)
        refine ⟨?_, ?_, trivial⟩
        · (conv => whnf)
          refine ⟨?_, ?_, trivial⟩
          · (conv => whnf)
            refine ⟨by rw [bytes_rec]; simp, ?_⟩
            (conv => whnf)
            refine ⟨?_, trivial⟩
            (conv => whnf)
            refine ⟨?_, trivial⟩
            (conv => whnf)
            refine ⟨by rw [bytes_int]; simp, ?_⟩
            (conv => whnf)
            refine ⟨?_, trivial⟩
            (conv => whnf)
            refine ⟨?_, trivial⟩
            (conv => whnf)
            refine .inr ⟨by omega, by omega, ?_⟩
            rw [e1, e2]
            rfl
          · (conv => whnf)
            refine ⟨?_, trivial⟩
            (conv => whnf)
            refine ⟨by rw [bytes_rec]; simp, ?_⟩
            (conv => whnf)
            refine ⟨?_, trivial⟩
            (conv => whnf)
            refine ⟨by rw [bytes_int]; simp, ?_⟩
            (conv => whnf)
            refine ⟨?_, trivial⟩
            (conv => whnf)
            refine ⟨?_, trivial⟩
            (conv => whnf)
            refine .inr ⟨by omega, by omega, ?_⟩
            rw [e1, e2]
            rfl
        · (conv => whnf)
          refine ⟨?_, trivial⟩
          (conv => whnf)
          refine ⟨?_, trivial⟩
          (conv => whnf)
          refine ⟨by rw [bytes_rec]; simp, ?_⟩
          (conv => whnf)
          refine ⟨?_, trivial⟩
          (conv => whnf)
          refine ⟨by rw [bytes_int]; simp, ?_⟩
          (conv => whnf)
          refine ⟨?_, trivial⟩
          (conv => whnf)
          refine ⟨?_, trivial⟩
          (conv => whnf)
          refine .inr ⟨by omega, by omega, ?_⟩
          rw [e1, e2]
          rfl
      · (conv => whnf)
        refine ⟨?_, ?_, trivial⟩
        · (conv => whnf)
          refine ⟨?_, ?_, trivial⟩
          · (conv => whnf)
            refine ⟨by rw [bytes_rec]; simp, ?_⟩
            (conv => whnf)
            refine ⟨?_, trivial⟩
            (conv => whnf)
            refine ⟨?_, trivial⟩
            (conv => whnf)
            refine ⟨by rw [bytes_int]; simp, ?_⟩
            (conv => whnf)
            refine ⟨?_, trivial⟩
            (conv => whnf)
            refine ⟨?_, trivial⟩
            (conv => whnf)
            refine .inr ⟨by omega, by omega, ?_⟩
            rw [e1, e2]
            rfl
          · (conv => whnf)
            refine ⟨?_, trivial⟩
            (conv => whnf)
            refine ⟨by rw [bytes_rec]; simp, ?_⟩
            (conv => whnf)
            refine ⟨?_, trivial⟩
            (conv => whnf)
            refine ⟨by rw [bytes_int]; simp, ?_⟩
            (conv => whnf)
            refine ⟨?_, trivial⟩
            (conv => whnf)
            refine ⟨?_, trivial⟩
            (conv => whnf)
            refine .inr ⟨by omega, by omega, ?_⟩
            rw [e1, e2]
            rfl
        · (conv => whnf)
          refine ⟨?_, trivial⟩
          (conv => whnf)
          refine ⟨?_, trivial⟩
          (conv => whnf)
          refine ⟨by rw [bytes_rec]; simp, ?_⟩
          (conv => whnf)
          refine ⟨?_, trivial⟩
          (conv => whnf)
          refine ⟨by rw [bytes_int]; simp, ?_⟩
          (conv => whnf)
          refine ⟨?_, trivial⟩
          (conv => whnf)
          refine ⟨?_, trivial⟩
          (conv => whnf)
          refine .inr ⟨by omega, by omega, ?_⟩
          rw [e1, e2]
          rfl
    · (conv => whnf)
      refine must_intro (decide_eq_true hn0) ?_
      refine idxK_map_intro he1 ?_
      rw [he2 he1]
      (conv => whnf)
      refine ⟨?_, ?_, ?_, trivial⟩
      · (conv => whnf)
        refine ⟨?_, ?_, ?_, trivial⟩
        · (conv => whnf)
          refine ⟨l1.symm, by rw [l1, bytes_rec]; simp; omega, ?_⟩
          (conv => whnf)
          refine ⟨?_, ?_, trivial⟩
          · (conv => whnf)
            refine ⟨?_, trivial⟩
            (conv => whnf)
            refine ⟨?_, trivial⟩
            (conv => whnf)
            refine ⟨l2.symm, by rw [l2, bytes_int]; simp; omega, ?_⟩
            (conv => whnf)
            refine ⟨?_, trivial⟩
            (conv => whnf)
            refine ⟨?_, trivial⟩
            (conv => whnf)
            refine .inr ⟨by omega, by omega, ?_⟩
            rw [e1, e2, l1, l2]
            rfl
          · (conv => whnf)
            refine ⟨?_, trivial⟩
            (conv => whnf)
            refine ⟨?_, trivial⟩
            (conv => whnf)
            refine ⟨l2.symm, by rw [l2, bytes_int]; simp; omega, ?_⟩
            (conv => whnf)
            refine ⟨?_, trivial⟩
            (conv => whnf)
            refine ⟨?_, trivial⟩
            (conv => whnf)
            refine .inr ⟨by omega, by omega, ?_⟩
            rw [e1, e2, l1, l2]
            rfl
        · (conv => whnf)
          refine ⟨?_, ?_, trivial⟩
          · (conv => whnf)
            refine ⟨l1.symm, by rw [l1, bytes_rec]; simp; omega, ?_⟩
            (conv => whnf)
            refine ⟨?_, trivial⟩
            (conv => whnf)
            refine ⟨?_, trivial⟩
            (conv => whnf)
            refine ⟨l2.symm, by rw [l2, bytes_int]; simp; omega, ?_⟩
            (conv => whnf)
            refine ⟨?_, trivial⟩
            (conv => whnf)
            refine ⟨?_, trivial⟩
            (conv => whnf)
            refine .inr ⟨by omega, by omega, ?_⟩
            rw [e1, e2, l1, l2]
            rfl
          · (conv => whnf)
            refine ⟨?_, trivial⟩
            (conv => whnf)
            refine ⟨l1.symm, by rw [l1, bytes_rec]; simp; omega, ?_⟩
            (conv => whnf)
            refine ⟨?_, trivial⟩
            (conv => whnf)
            refine ⟨l2.symm, by rw [l2, bytes_int]; simp; omega, ?_⟩
            (conv => whnf)
            refine ⟨?_, trivial⟩
            (conv => whnf)
            refine ⟨?_, trivial⟩
            (conv => whnf)
            refine .inr ⟨by omega, by omega, ?_⟩
            rw [e1, e2, l1, l2]
            rfl
        · (conv => whnf)
          refine ⟨?_, ?_, trivial⟩
          · (conv => whnf)
            refine ⟨l1.symm, by rw [l1, bytes_rec]; simp; omega, ?_⟩
            (conv => whnf)
            refine ⟨?_, trivial⟩
            (conv => whnf)
            refine ⟨?_, trivial⟩
            (conv => whnf)
            refine ⟨l2.symm, by rw [l2, bytes_int]; simp; omega, ?_⟩
            (conv => whnf)
            refine ⟨?_, trivial⟩
            (conv => whnf)
            refine ⟨?_, trivial⟩
            (conv => whnf)
            refine .inr ⟨by omega, by omega, ?_⟩
            rw [e1, e2, l1, l2]
            rfl
          · (conv => whnf)
            refine ⟨?_, trivial⟩
            (conv => whnf)
            refine ⟨l1.symm, by rw [l1, bytes_rec]; simp; omega, ?_⟩
            (conv => whnf)
            refine ⟨?_, trivial⟩
            (conv => whnf)
            refine ⟨l2.symm, by rw [l2, bytes_int]; simp; omega, ?_⟩
            (conv => whnf)
            refine ⟨?_, trivial⟩
            (conv => whnf)
            refine ⟨?_, trivial⟩
            (conv => whnf)
            refine .inr ⟨by omega, by omega, ?_⟩
            rw [e1, e2, l1, l2]
            rfl
      · (conv => whnf)
        refine ⟨?_, ?_, trivial⟩
        · (conv => whnf)
          refine ⟨?_, ?_, trivial⟩
          · (conv => whnf)
            refine ⟨l1.symm, by rw [l1, bytes_rec]; simp; omega, ?_⟩
            (conv => whnf)
            refine ⟨?_, trivial⟩
            (conv => whnf)
            refine ⟨?_, trivial⟩
            (conv => whnf)
            refine ⟨l2.symm, by rw [l2, bytes_int]; simp; omega, ?_⟩
            (conv => whnf)
            refine ⟨?_, trivial⟩
            (conv => whnf)
            refine ⟨?_, trivial⟩
            (conv => whnf)
            refine .inr ⟨by omega, by omega, ?_⟩
            rw [e1, e2, l1, l2]
            rfl
          · (conv => whnf)
            refine ⟨?_, trivial⟩
            (conv => whnf)
            refine ⟨l1.symm, by rw [l1, bytes_rec]; simp; omega, ?_⟩
            (conv => whnf)
            refine ⟨?_, trivial⟩
            (conv => whnf)
            refine ⟨l2.symm, by rw [l2, bytes_int]; simp; omega, ?_⟩
            (conv => whnf)
            refine ⟨?_, trivial⟩
            (conv => whnf)
            refine ⟨?_, trivial⟩
            (conv => whnf)
            refine .inr ⟨by omega, by omega, ?_⟩
            rw [e1, e2, l1, l2]
            rfl
        · (conv => whnf)
          refine ⟨?_, trivial⟩
          (conv => whnf)
          refine ⟨?_, trivial⟩
          (conv => whnf)
          refine ⟨l1.symm, by rw [l1, bytes_rec]; simp; omega, ?_⟩
          (conv => whnf)
          refine ⟨?_, trivial⟩
          (conv => whnf)
          refine ⟨l2.symm, by rw [l2, bytes_int]; simp; omega, ?_⟩
          (conv => whnf)
          refine ⟨?_, trivial⟩
          (conv => whnf)
          refine ⟨?_, trivial⟩
          (conv => whnf)
          refine .inr ⟨by omega, by omega, ?_⟩
          rw [e1, e2, l1, l2]
          rfl
      · (conv => whnf)
        refine ⟨?_, ?_, trivial⟩
        · (conv => whnf)
          refine ⟨?_, ?_, trivial⟩
          · (conv => whnf)
            refine ⟨l1.symm, by rw [l1, bytes_rec]; simp; omega, ?_⟩
            (conv => whnf)
            refine ⟨?_, trivial⟩
            (conv => whnf)
            refine ⟨?_, trivial⟩
            (conv => whnf)
            refine ⟨l2.symm, by rw [l2, bytes_int]; simp; omega, ?_⟩
            (conv => whnf)
            refine ⟨?_, trivial⟩
            (conv => whnf)
            refine ⟨?_, trivial⟩
            (conv => whnf)
            refine .inr ⟨by omega, by omega, ?_⟩
            rw [e1, e2, l1, l2]
            rfl
          · (conv => whnf)
            refine ⟨?_, trivial⟩
            (conv => whnf)
            refine ⟨l1.symm, by rw [l1, bytes_rec]; simp; omega, ?_⟩
            (conv => whnf)
            refine ⟨?_, trivial⟩
            (conv => whnf)
            refine ⟨l2.symm, by rw [l2, bytes_int]; simp; omega, ?_⟩
            (conv => whnf)
            refine ⟨?_, trivial⟩
            (conv => whnf)
            refine ⟨?_, trivial⟩
            (conv => whnf)
            refine .inr ⟨by omega, by omega, ?_⟩
            rw [e1, e2, l1, l2]
            rfl
        · (conv => whnf)
          refine ⟨?_, trivial⟩
          (conv => whnf)
          refine ⟨?_, trivial⟩
          (conv => whnf)
          refine ⟨l1.symm, by rw [l1, bytes_rec]; simp; omega, ?_⟩
          (conv => whnf)
          refine ⟨?_, trivial⟩
          (conv => whnf)
          refine ⟨l2.symm, by rw [l2, bytes_int]; simp; omega, ?_⟩
          (conv => whnf)
          refine ⟨?_, trivial⟩
          (conv => whnf)
          refine ⟨?_, trivial⟩
          (conv => whnf)
          refine .inr ⟨by omega, by omega, ?_⟩
          rw [e1, e2, l1, l2]
          rfl
  · rintro s (⟨h1, rfl⟩ | ⟨h1, h2, rfl⟩)
    · have hl0 : l = [] := List.length_eq_zero_iff.1 (by omega)
      subst hl0
      (conv => whnf)
      exact res_le (le_tup (.cons (le_agg (.cons (.refl _) (.cons (le_nil 7) (.cons (le_nil 1) (leL.refl _))))) (leL.refl _))) rfl h
    · have hE : (endsR 1 l).take (recsA 1 [] 0 l).length = endsR 1 l := by rw [hlA, ← hEl, List.take_length]
      rw [hE, hlA, List.take_length]
      (conv => whnf)
      exact res_same h
theorem cGet_1 (l : List Rc) (hm : ∀ r ∈ l, mayP 1 r = true) (hl : l.length ≤ 300) {R} (h : R (.tup [.agg (fileA 1 l), vi 0]) []) : ACalls Tryz.prog 83 [.sl none 1 (byteEls (fileP 1 l))] [] R := by
  have h1 := cGetT_1 l hm hl [] (fun _ => rfl) (by simp) (by simp) [] (.inl rfl) (by simp) h
  rw [List.map_nil, show framesP [] = [] from rfl, List.append_nil, List.append_nil] at h1
  exact h1
theorem cGetT_2 (l : List Rc) (hm : ∀ r ∈ l, mayP 2 r = true) (hl : l.length ≤ 300) (ms : List B) (hms : (2 : Int) = 1 → ms = []) (hml : ms.length < 100) (hmf : ∀ m ∈ ms, m.length ≤ 64) (t : B) (ht : EndAt t) (htl : t.length < 3000) {R} (h : R (.tup [.agg (fileA 2 l), vi 0]) []) : ACalls Tryz.prog 83 [.sl none 1 (byteEls (fileP 2 l ++ framesP (ms.map defP) ++ t))] [] R := by
  obtain ⟨Ps, hPs⟩ : ∃ Ps, Ps = paysP 2 [] l ++ ms.map defP := ⟨_, rfl⟩
  have hbytes : fileP 2 l ++ framesP (ms.map defP) ++ t = headP 2 ++ (framesP Ps ++ t) := by rw [hPs, framesP_append]; simp [fileP]
  rw [hbytes]
  clear hbytes
  refine ACalls.res ?_
  refine acalls_of_xwp (an := an83) tab_ok Tryz.func83 ?_
  have hM : ∀ r ∈ l, MayR 2 r := fun r hr => may_all (hm r hr)
  have hfl := paysP_frames (v := 2) (l := l) (t := []) hM (by simp; omega)
  have hpl := paysP_len (v := 2) (l := l) (t := []) fun r hr => (hM r hr).deps
  have hlens := paysP_lens (v := 2) (l := l) (t := []) hM (by simp; omega)
  have hh8 := headP_length 2
  have hit := records_iter 2 (by decide) l hm (by omega) ms hms (by omega)
  rw [← hPs] at hit
  have hfm := framesP_len (l := ms.map defP) (k := 65) (fun p hp => by
    obtain ⟨m, hm1, rfl⟩ := List.mem_map.1 hp
    have := hmf m hm1
    simp [defP]; omega) (by omega)
  rw [List.length_map] at hfm
  have hPl : Ps.length = (paysP 2 [] l).length + ms.length := by rw [hPs]; simp
  have hPf : (framesP Ps).length = (framesP (paysP 2 [] l)).length + (framesP (ms.map defP)).length := by rw [hPs, framesP_append, List.length_append]
  have hlensP : ∀ p ∈ Ps, 1 ≤ p.length ∧ p.length ≤ 2048 := by
    intro p hp
    rw [hPs] at hp
    rcases List.mem_append.1 hp with hp | hp
    · exact hlens p hp
    · obtain ⟨m, hm1, rfl⟩ := List.mem_map.1 hp
      have := hmf m hm1
      simp [defP]; omega
  have hlA := recsA_length 2 l [] 0
  have hEl := endsR_length 2 l
  have hEp := endsP_length Ps 8
  have hend : ∀ i (hi : i < l.length), (IntKind.i64.wrap (((plP 2 l (i + 1) : Nat) : Int) - 1)).toNat < (endsP 8 Ps).length ∧ ∀ hj, (endsP 8 Ps)[(IntKind.i64.wrap (((plP 2 l (i + 1) : Nat) : Int) - 1)).toNat]'hj = (fileP 2 (l.take (i + 1))).length := by
    intro i hi
    have h1 := payP_len (v := 2) (t := tbP 2 l i) (r := l[i]) (hM _ (List.getElem_mem hi)).deps
    have h2 := plP_succ (v := 2) hi
    have h3 : plP 2 l (i + 1) ≤ (paysP 2 [] l).length := by
      rw [paysP_split hi, List.length_append, List.length_append, h2]
      show (paysP 2 [] (l.take i)).length + _ ≤ _
      omega
    have h4 : (IntKind.i64.wrap (((plP 2 l (i + 1) : Nat) : Int) - 1)).toNat = plP 2 l (i + 1) - 1 := by
      rw [wrap_i64 (by omega) (by omega)]
      omega
    have h5 : Ps.take (plP 2 l (i + 1)) = paysP 2 [] (l.take (i + 1)) := by
      have e : Ps = paysP 2 [] (l.take (i + 1)) ++ (paysP 2 (tblL 2 [] (l.take (i + 1))) (l.drop (i + 1)) ++ ms.map defP) := by rw [hPs, ← List.append_assoc, ← paysP_append, List.take_append_drop]
      rw [e]
      exact List.take_left
    refine ⟨by rw [h4, hEp]; omega, fun hj => ?_⟩
    have h6 := endsP_at' Ps 8 (plP 2 l (i + 1) - 1) (by omega)
    rw [show plP 2 l (i + 1) - 1 + 1 = plP 2 l (i + 1) by omega, h5] at h6
    rw [fileP_len, ← h6]
    congr 1
  have hnn : ∀ i, 0 ≤ i → i < l.length → 0 ≤ IntKind.i64.wrap (((plP 2 l (i + 1) : Nat) : Int) - 1) := by
    intro i _ hi
    have h1 := payP_len (v := 2) (t := tbP 2 l i) (r := l[i]) (hM _ (List.getElem_mem hi)).deps
    have h2 := plP_succ (v := 2) hi
    have h3 : plP 2 l (i + 1) ≤ (paysP 2 [] l).length := by
      rw [paysP_split hi, List.length_append, List.length_append, h2]
      show (paysP 2 [] (l.take i)).length + _ ≤ _
      omega
    rw [wrap_i64 (by omega) (by omega)]
    omega
  (conv => whnf)
  refine Version_2 _ (by rw [List.length_append]; omega) ?_
  (conv => whnf)
  have hrun := fun R hR => Run_calls (headP 2) Ps t ht hlensP (by omega) (by omega) (R := R) hR
  rw [hh8] at hrun
  refine hrun _ ?_
  (conv => whnf)
  refine cRecords_calls 2 Ps ?_
  (conv => whnf)
  refine .inr ?_
  (conv => whnf)
  refine ⟨recsA 2 [] 0 l, hit, ?_, ?_⟩
  · intro x hx
    obtain ⟨i, hi, rfl⟩ := List.getElem_of_mem hx
    have h1 := recsA_at 2 l [] 0 i (by omega)
    rw [List.getElem?_eq_getElem hi] at h1
    rw [Option.some.inj h1]
    rfl
  refine ⟨fun i s => (i = 0 ∧ s = ⟨cgS (endsP 8 Ps), [(nameOf 2, flO 0 nlA nlA 0), (nameOf 6, flO 2 nlA nlA 8)]⟩) ∨
    (0 < i ∧ i ≤ l.length ∧ s = ⟨cgS (endsP 8 Ps), [(nameOf 2, flO 0 nlA nlA 0), (nameOf 6, flO 2 (.sl (some (nameOf 42)) 7 (recs (l.take i))) (.sl (some (nameOf 48)) 1 (ints ((endsR 2 l).take i))) (fileP 2 (l.take i)).length), (nameOf 42, .row 67 7 i), (nameOf 48, .row 3 1 i)]⟩), .inl ⟨rfl, rfl⟩, ?_, ?_⟩
  · rintro i x s hx hs
    have hi : i < l.length := by
      have := (List.getElem?_eq_some_iff.1 hx).1
      omega
    have hx2 := recsA_at 2 l [] 0 i hi
    rw [Nat.zero_add] at hx2
    rw [hx] at hx2
    cases hx2
    obtain ⟨he1, he2⟩ := hend i hi
    have hn0 := hnn i (Nat.zero_le i) hi
    have hie : i < (endsR 2 l).length := by omega
    have e1 := recs_take hi
    have e2 := ints_take hie
    rw [endsR_at hi] at e2
    have hpl2 : (paysP 2 [] (l.take (i + 1))).length = plP 2 l (i + 1) := rfl
    rw [hpl2]
    have l1 : (recs (l.take i)).length = i := by rw [recs_length, List.length_take]; omega
    have l2 : (ints ((endsR 2 l).take i)).length = i := by rw [ints_length, List.length_take]; omega
    clear hit hx
    rcases hs with ⟨rfl, rfl⟩ | ⟨h1, h2, rfl⟩
    · (conv => whnf)
      refine must_intro (decide_eq_true hn0) ?_
      refine idxK_map_intro he1 ?_
      rw [he2 he1]
      (conv => whnf)
      refine ⟨?_, ?_, ?_, trivial⟩
      · (conv => whnf)
        refine ⟨?_, ?_, ?_, trivial⟩
        · (conv => whnf)
          refine ⟨by rw [bytes_rec]; simp, ?_⟩
          (conv => whnf)
          refine ⟨?_, ?_, trivial⟩
          · (conv => whnf)
            refine ⟨?_, trivial⟩
            (conv => whnf)
            refine ⟨?_, trivial⟩
            (conv => whnf)
            refine ⟨by rw [bytes_int]; simp, ?_⟩
            (conv => whnf)
            refine ⟨?_, trivial⟩
            (conv => whnf)
            refine ⟨?_, trivial⟩
            (conv => whnf)
            refine .inr ⟨by omega, by omega, ?_⟩
            rw [e1, e2]
            rfl
          · (conv => whnf)
            refine ⟨?_, trivial⟩
            (conv => whnf)
            refine ⟨?_, trivial⟩
            (conv => whnf)
            refine ⟨by rw [bytes_int]; simp, ?_⟩
            (conv => whnf)
            refine ⟨?_, trivial⟩
            (conv => whnf)
            refine ⟨?_, trivial⟩
            (conv => whnf)
            refine .inr ⟨by omega, by omega, ?_⟩
            rw [e1, e2]
            rfl
        · (conv => whnf)
          refine ⟨?_, ?_, trivial⟩
          · (conv => whnf)
            refine ⟨by rw [bytes_rec]; simp, ?_⟩
            (conv => whnf)
            refine ⟨?_, trivial⟩
            (conv => whnf)
            refine ⟨?_, trivial⟩
            (conv => whnf)
            refine ⟨by rw [bytes_int]; simp, ?_⟩
            (conv => whnf)
            refine ⟨?_, trivial⟩
            (conv => whnf)
            refine ⟨?_, trivial⟩
            (conv => whnf)
            refine .inr ⟨by omega, by omega, ?_⟩
            rw [e1, e2]
            rfl
          · (conv => whnf)
            refine ⟨?_, trivial⟩
            (conv => whnf)
            refine ⟨by rw [bytes_rec]; simp, ?_⟩
            (conv => whnf)
            refine ⟨?_, trivial⟩
            (conv => whnf)
            refine ⟨by rw [bytes_int]; simp, ?_⟩
            (conv => whnf)
            refine ⟨?_, trivial⟩
            (conv => whnf)
            refine ⟨?_, trivial⟩
            (conv => whnf)
            refine .inr ⟨by omega, by omega, ?_⟩
            rw [e1, e2]
            rfl
        · (conv => whnf)
          refine ⟨?_, ?_, trivial⟩
          · (conv => whnf)
            refine ⟨by rw [bytes_rec]; simp, ?_⟩
            (conv => whnf)
            refine ⟨?_, trivial⟩
            (conv => whnf)
            refine ⟨?_, trivial⟩
            (conv => whnf)
            refine ⟨by rw [bytes_int]; simp, ?_⟩
            (conv => whnf)
            refine ⟨?_, trivial⟩
            (conv => whnf)
            refine ⟨?_, trivial⟩
            (conv => whnf)
            refine .inr ⟨by omega, by omega, ?_⟩
            rw [e1, e2]
            rfl
          · (conv => whnf)
            refine ⟨?_, trivial⟩
            (conv => whnf)
            refine ⟨by rw [bytes_rec]; simp, ?_⟩
            (conv => whnf)
            refine ⟨?_, trivial⟩
            (conv => whnf)
            refine ⟨by rw [bytes_int]; simp, ?_⟩
            (conv => whnf)
            refine ⟨?_, trivial⟩
            (conv => whnf)
            refine ⟨?_, trivial⟩
            (conv => whnf)
            refine .inr ⟨by omega, by omega, ?_⟩
            rw [e1, e2]
            rfl
      · (conv => whnf)
        refine ⟨?_, ?_, trivial⟩
        · (conv => whnf)
          refine ⟨?_, ?_, trivial⟩
          · (conv => whnf)
            refine ⟨by rw [bytes_rec]; simp, ?_⟩
            (conv => whnf)
            refine ⟨?_, trivial⟩
            (conv => whnf)
            refine ⟨?_, trivial⟩
            (conv => whnf)
            refine ⟨by rw [bytes_int]; simp, ?_⟩
            (conv => whnf)
            refine ⟨?_, trivial⟩
            (conv => whnf)
            refine ⟨?_, trivial⟩
            (conv => whnf)
            refine .inr ⟨by omega, by omega, ?_⟩
            rw [e1, e2]
            rfl
          · (conv => whnf)
            refine ⟨?_, trivial⟩
            (conv => whnf)
            refine ⟨by rw [bytes_rec]; simp, ?_⟩
            (conv => whnf)
            refine ⟨?_, trivial⟩
            (conv => whnf)
            refine ⟨by rw [bytes_int]; simp, ?_⟩
            (conv => whnf)
            refine ⟨?_, trivial⟩
            (conv => whnf)
            refine ⟨?_, trivial⟩
            (conv => whnf)
            refine .inr ⟨by omega, by omega, ?_⟩
            rw [e1, e2]
            rfl
        · (conv => whnf)
          refine ⟨?_, trivial⟩
          (conv => whnf)
          refine ⟨?_, trivial⟩
          (conv => whnf)
          refine ⟨by rw [bytes_rec]; simp, ?_⟩
          (conv => whnf)
          refine ⟨?_, trivial⟩
          (conv => whnf)
          refine ⟨by rw [bytes_int]; simp, ?_⟩
          (conv => whnf)
          refine ⟨?_, trivial⟩
          (conv => whnf)
          refine ⟨?_, trivial⟩
          (conv => whnf)
          refine .inr ⟨by omega, by omega, ?_⟩
          rw [e1, e2]
          rfl
      · (conv => whnf)
        refine ⟨?_, ?_, trivial⟩
        · (conv => whnf)
          refine ⟨?_, ?_, trivial⟩
          · (conv => whnf)
            refine ⟨by rw [bytes_rec]; simp, ?_⟩
            (conv => whnf)
            refine ⟨?_, trivial⟩
            (conv => whnf)
            refine ⟨?_, trivial⟩
            (conv => whnf)
            refine ⟨by rw [bytes_int]; simp, ?_⟩
            (conv => whnf)
            refine ⟨?_, trivial⟩
            (conv => whnf)
            refine ⟨?_, trivial⟩
            (conv => whnf)
            refine .inr ⟨by omega, by omega, ?_⟩
            rw [e1, e2]
            rfl
          · (conv => whnf)
            refine ⟨?_, trivial⟩
            (conv => whnf)
            refine ⟨by rw [bytes_rec]; simp, ?_⟩
            (conv => whnf)
            refine ⟨?_, trivial⟩
            (conv => whnf)
            refine ⟨by rw [bytes_int]; simp, ?_⟩
            (conv => whnf)
            refine ⟨?_, trivial⟩
            (conv => whnf)
            refine ⟨?_, trivial⟩
            (conv => whnf)
            refine .inr ⟨by omega, by omega, ?_⟩
            rw [e1, e2]
            rfl
        · (conv => whnf)
          refine ⟨?_, trivial⟩
          (conv => whnf)
          refine ⟨?_, trivial⟩
          (conv => whnf)
          refine ⟨by rw [bytes_rec]; simp, ?_⟩
          (conv => whnf)
          refine ⟨?_, trivial⟩
          (conv => whnf)
          refine ⟨by rw [bytes_int]; simp, ?_⟩
          (conv => whnf)
          refine ⟨?_, trivial⟩
          (conv => whnf)
          refine ⟨?_, trivial⟩
          (conv => whnf)
          refine .inr ⟨by omega, by omega, ?_⟩
          rw [e1, e2]
          rfl
    · (conv => whnf)
      refine must_intro (decide_eq_true hn0) ?_
      refine idxK_map_intro he1 ?_
      rw [he2 he1]
      (conv => whnf)
      refine ⟨?_, ?_, ?_, trivial⟩
      · (conv => whnf)
        refine ⟨?_, ?_, ?_, trivial⟩
        · (conv => whnf)
          refine ⟨l1.symm, by rw [l1, bytes_rec]; simp; omega, ?_⟩
          (conv => whnf)
          refine ⟨?_, ?_, trivial⟩
          · (conv => whnf)
            refine ⟨?_, trivial⟩
            (conv => whnf)
            refine ⟨?_, trivial⟩
            (conv => whnf)
            refine ⟨l2.symm, by rw [l2, bytes_int]; simp; omega, ?_⟩
            (conv => whnf)
            refine ⟨?_, trivial⟩
            (conv => whnf)
            refine ⟨?_, trivial⟩
            (conv => whnf)
            refine .inr ⟨by omega, by omega, ?_⟩
            rw [e1, e2, l1, l2]
            rfl
          · (conv => whnf)
            refine ⟨?_, trivial⟩
            (conv => whnf)
            refine ⟨?_, trivial⟩
            (conv => whnf)
            refine ⟨l2.symm, by rw [l2, bytes_int]; simp; omega, ?_⟩
            (conv => whnf)
            refine ⟨?_, trivial⟩
            (conv => whnf)
            refine ⟨?_, trivial⟩
            (conv => whnf)
            refine .inr ⟨by omega, by omega, ?_⟩
            rw [e1, e2, l1, l2]
            rfl
        · (conv => whnf)
          refine ⟨?_, ?_, trivial⟩
          · (conv => whnf)
            refine ⟨l1.symm, by rw [l1, bytes_rec]; simp; omega, ?_⟩
            (conv => whnf)
            refine ⟨?_, trivial⟩
            (conv => whnf)
            refine ⟨?_, trivial⟩
            (conv => whnf)
            refine ⟨l2.symm, by rw [l2, bytes_int]; simp; omega, ?_⟩
            (conv => whnf)
            refine ⟨?_, trivial⟩
            (conv => whnf)
            refine ⟨?_, trivial⟩
            (conv => whnf)
            refine .inr ⟨by omega, by omega, ?_⟩
            rw [e1, e2, l1, l2]
            rfl
          · (conv => whnf)
            refine ⟨?_, trivial⟩
            (conv => whnf)
            refine ⟨l1.symm, by rw [l1, bytes_rec]; simp; omega, ?_⟩
            (conv => whnf)
            refine ⟨?_, trivial⟩
            (conv => whnf)
            refine ⟨l2.symm, by rw [l2, bytes_int]; simp; omega, ?_⟩
            (conv => whnf)
            refine ⟨?_, trivial⟩
            (conv => whnf)
            refine ⟨?_, trivial⟩
            (conv => whnf)
            refine .inr ⟨by omega, by omega, ?_⟩
            rw [e1, e2, l1, l2]
            rfl
        · (conv => whnf)
          refine ⟨?_, ?_, trivial⟩
          · (conv => whnf)
            refine ⟨l1.symm, by rw [l1, bytes_rec]; simp; omega, ?_⟩
            (conv => whnf)
            refine ⟨?_, trivial⟩
            (conv => whnf)
            refine ⟨?_, trivial⟩
            (conv => whnf)
            refine ⟨l2.symm, by rw [l2, bytes_int]; simp; omega, ?_⟩
            (conv => whnf)
            refine ⟨?_, trivial⟩
            (conv => whnf)
            refine ⟨?_, trivial⟩
            (conv => whnf)
            refine .inr ⟨by omega, by omega, ?_⟩
            rw [e1, e2, l1, l2]
            rfl
          · (conv => whnf)
            refine ⟨?_, trivial⟩
            (conv => whnf)
            refine ⟨l1.symm, by rw [l1, bytes_rec]; simp; omega, ?_⟩
            (conv => whnf)
            refine ⟨?_, trivial⟩
            (conv => whnf)
            refine ⟨l2.symm, by rw [l2, bytes_int]; simp; omega, ?_⟩
            (conv => whnf)
            refine ⟨?_, trivial⟩
            (conv => whnf)
            refine ⟨?_, trivial⟩
            (conv => whnf)
            refine .inr ⟨by omega, by omega, ?_⟩
            rw [e1, e2, l1, l2]
            rfl
      · (conv => whnf)
        refine ⟨?_, ?_, trivial⟩
        · (conv => whnf)
          refine ⟨?_, ?_, trivial⟩
          · (conv => whnf)
            refine ⟨l1.symm, by rw [l1, bytes_rec]; simp; omega, ?_⟩
            (conv => whnf)
            refine ⟨?_, trivial⟩
            (conv => whnf)
            refine ⟨?_, trivial⟩
            (conv => whnf)
            refine ⟨l2.symm, by rw [l2, bytes_int]; simp; omega, ?_⟩
            (conv => whnf)
            refine ⟨?_, trivial⟩
            (conv => whnf)
            refine ⟨?_, trivial⟩
            (conv => whnf)
            refine .inr ⟨by omega, by omega, ?_⟩
            rw [e1, e2, l1, l2]
            rfl
          · (conv => whnf)
            refine ⟨?_, trivial⟩
            (conv => whnf)
            refine ⟨l1.symm, by rw [l1, bytes_rec]; simp; omega, ?_⟩
            (conv => whnf)
            refine ⟨?_, trivial⟩
            (conv => whnf)
            refine ⟨l2.symm, by rw [l2, bytes_int]; simp; omega, ?_⟩
            (conv => whnf)
            refine ⟨?_, trivial⟩
            (conv => whnf)
            refine ⟨?_, trivial⟩
            (conv => whnf)
            refine .inr ⟨by omega, by omega, ?_⟩
            rw [e1, e2, l1, l2]
            rfl
        · (conv => whnf)
          refine ⟨?_, trivial⟩
          (conv => whnf)
          refine ⟨?_, trivial⟩
          (conv => whnf)
          refine ⟨l1.symm, by rw [l1, bytes_rec]; simp; omega, ?_⟩
          (conv => whnf)
          refine ⟨?_, trivial⟩
          (conv => whnf)
          refine ⟨l2.symm, by rw [l2, bytes_int]; simp; omega, ?_⟩
          (conv => whnf)
          refine ⟨?_, trivial⟩
          (conv => whnf)
          refine ⟨?_, trivial⟩
          (conv => whnf)
          refine .inr ⟨by omega, by omega, ?_⟩
          rw [e1, e2, l1, l2]
          rfl
      · (conv => whnf)
        refine ⟨?_, ?_, trivial⟩
        · (conv => whnf)
          refine ⟨?_, ?_, trivial⟩
          · (conv => whnf)
            refine ⟨l1.symm, by rw [l1, bytes_rec]; simp; omega, ?_⟩
            (conv => whnf)
            refine ⟨?_, trivial⟩
            (conv => whnf)
            refine ⟨?_, trivial⟩
            (conv => whnf)
            refine ⟨l2.symm, by rw [l2, bytes_int]; simp; omega, ?_⟩
            (conv => whnf)
            refine ⟨?_, trivial⟩
            (conv => whnf)
            refine ⟨?_, trivial⟩
            (conv => whnf)
            refine .inr ⟨by omega, by omega, ?_⟩
            rw [e1, e2, l1, l2]
            rfl
          · (conv => whnf)
            refine ⟨?_, trivial⟩
            (conv => whnf)
            refine ⟨l1.symm, by rw [l1, bytes_rec]; simp; omega, ?_⟩
            (conv => whnf)
            refine ⟨?_, trivial⟩
            (conv => whnf)
            refine ⟨l2.symm, by rw [l2, bytes_int]; simp; omega, ?_⟩
            (conv => whnf)
            refine ⟨?_, trivial⟩
            (conv => whnf)
            refine ⟨?_, trivial⟩
            (conv => whnf)
            refine .inr ⟨by omega, by omega, ?_⟩
            rw [e1, e2, l1, l2]
            rfl
        · (conv => whnf)
          refine ⟨?_, trivial⟩
          (conv => whnf)
          refine ⟨?_, trivial⟩
          (conv => whnf)
          refine ⟨l1.symm, by rw [l1, bytes_rec]; simp; omega, ?_⟩
          (conv => whnf)
          refine ⟨?_, trivial⟩
          (conv => whnf)
          refine ⟨l2.symm, by rw [l2, bytes_int]; simp; omega, ?_⟩
          (conv => whnf)
          refine ⟨?_, trivial⟩
          (conv => whnf)
          refine ⟨?_, trivial⟩
          (conv => whnf)
          refine .inr ⟨by omega, by omega, ?_⟩
          rw [e1, e2, l1, l2]
          rfl
  · rintro s (⟨h1, rfl⟩ | ⟨h1, h2, rfl⟩)
    · have hl0 : l = [] := List.length_eq_zero_iff.1 (by omega)
      subst hl0
      (conv => whnf)
      exact res_le (le_tup (.cons (le_agg (.cons (.refl _) (.cons (le_nil 7) (.cons (le_nil 1) (leL.refl _))))) (leL.refl _))) rfl h
    · have hE : (endsR 2 l).take (recsA 2 [] 0 l).length = endsR 2 l := by rw [hlA, ← hEl, List.take_length]
      rw [hE, hlA, List.take_length]
      (conv => whnf)
      exact res_same h
theorem cGet_2 (l : List Rc) (hm : ∀ r ∈ l, mayP 2 r = true) (hl : l.length ≤ 300) {R} (h : R (.tup [.agg (fileA 2 l), vi 0]) []) : ACalls Tryz.prog 83 [.sl none 1 (byteEls (fileP 2 l))] [] R := by
  have h1 := cGetT_2 l hm hl [] (fun _ => rfl) (by simp) (by simp) [] (.inl rfl) (by simp) h
  rw [List.map_nil, show framesP [] = [] from rfl, List.append_nil, List.append_nil] at h1
  exact h1
theorem cGetT_3 (l : List Rc) (hm : ∀ r ∈ l, mayP 3 r = true) (hl : l.length ≤ 300) (ms : List B) (hms : (3 : Int) = 1 → ms = []) (hml : ms.length < 100) (hmf : ∀ m ∈ ms, m.length ≤ 64) (t : B) (ht : EndAt t) (htl : t.length < 3000) {R} (h : R (.tup [.agg (fileA 3 l), vi 0]) []) : ACalls Tryz.prog 83 [.sl none 1 (byteEls (fileP 3 l ++ framesP (ms.map defP) ++ t))] [] R := by
  obtain ⟨Ps, hPs⟩ : ∃ Ps, Ps = paysP 3 [] l ++ ms.map defP := ⟨_, rfl⟩
  have hbytes : fileP 3 l ++ framesP (ms.map defP) ++ t = headP 3 ++ (framesP Ps ++ t) := by rw [hPs, framesP_append]; simp [fileP]
  rw [hbytes]
  clear hbytes
  refine ACalls.res ?_
  refine acalls_of_xwp (an := an83) tab_ok Tryz.func83 ?_
  have hM : ∀ r ∈ l, MayR 3 r := fun r hr => may_all (hm r hr)
  have hfl := paysP_frames (v := 3) (l := l) (t := []) hM (by simp; omega)
  have hpl := paysP_len (v := 3) (l := l) (t := []) fun r hr => (hM r hr).deps
  have hlens := paysP_lens (v := 3) (l := l) (t := []) hM (by simp; omega)
  have hh8 := headP_length 3
  have hit := records_iter 3 (by decide) l hm (by omega) ms hms (by omega)
  rw [← hPs] at hit
  have hfm := framesP_len (l := ms.map defP) (k := 65) (fun p hp => by
    obtain ⟨m, hm1, rfl⟩ := List.mem_map.1 hp
    have := hmf m hm1
    simp [defP]; omega) (by omega)
  rw [List.length_map] at hfm
  have hPl : Ps.length = (paysP 3 [] l).length + ms.length := by rw [hPs]; simp
  have hPf : (framesP Ps).length = (framesP (paysP 3 [] l)).length + (framesP (ms.map defP)).length := by rw [hPs, framesP_append, List.length_append]
  have hlensP : ∀ p ∈ Ps, 1 ≤ p.length ∧ p.length ≤ 2048 := by
    intro p hp
    rw [hPs] at hp
    rcases List.mem_append.1 hp with hp | hp
    · exact hlens p hp
    · obtain ⟨m, hm1, rfl⟩ := List.mem_map.1 hp
      have := hmf m hm1
      simp [defP]; omega
  have hlA := recsA_length 3 l [] 0
  have hEl := endsR_length 3 l
  have hEp := endsP_length Ps 8
  have hend : ∀ i (hi : i < l.length), (IntKind.i64.wrap (((plP 3 l (i + 1) : Nat) : Int) - 1)).toNat < (endsP 8 Ps).length ∧ ∀ hj, (endsP 8 Ps)[(IntKind.i64.wrap (((plP 3 l (i + 1) : Nat) : Int) - 1)).toNat]'hj = (fileP 3 (l.take (i + 1))).length := by
    intro i hi
    have h1 := payP_len (v := 3) (t := tbP 3 l i) (r := l[i]) (hM _ (List.getElem_mem hi)).deps
    have h2 := plP_succ (v := 3) hi
    have h3 : plP 3 l (i + 1) ≤ (paysP 3 [] l).length := by
      rw [paysP_split hi, List.length_append, List.length_append, h2]
      show (paysP 3 [] (l.take i)).length + _ ≤ _
      omega
    have h4 : (IntKind.i64.wrap (((plP 3 l (i + 1) : Nat) : Int) - 1)).toNat = plP 3 l (i + 1) - 1 := by
      rw [wrap_i64 (by omega) (by omega)]
      omega
    have h5 : Ps.take (plP 3 l (i + 1)) = paysP 3 [] (l.take (i + 1)) := by
      have e : Ps = paysP 3 [] (l.take (i + 1)) ++ (paysP 3 (tblL 3 [] (l.take (i + 1))) (l.drop (i + 1)) ++ ms.map defP) := by rw [hPs, ← List.append_assoc, ← paysP_append, List.take_append_drop]
      rw [e]
      exact List.take_left
    refine ⟨by rw [h4, hEp]; omega, fun hj => ?_⟩
    have h6 := endsP_at' Ps 8 (plP 3 l (i + 1) - 1) (by omega)
    rw [show plP 3 l (i + 1) - 1 + 1 = plP 3 l (i + 1) by omega, h5] at h6
    rw [fileP_len, ← h6]
    congr 1
  have hnn : ∀ i, 0 ≤ i → i < l.length → 0 ≤ IntKind.i64.wrap (((plP 3 l (i + 1) : Nat) : Int) - 1) := by
    intro i _ hi
    have h1 := payP_len (v := 3) (t := tbP 3 l i) (r := l[i]) (hM _ (List.getElem_mem hi)).deps
    have h2 := plP_succ (v := 3) hi
    have h3 : plP 3 l (i + 1) ≤ (paysP 3 [] l).length := by
      rw [paysP_split hi, List.length_append, List.length_append, h2]
      show (paysP 3 [] (l.take i)).length + _ ≤ _
      omega
    rw [wrap_i64 (by omega) (by omega)]
    omega
  (conv => whnf)
  refine Version_3 _ (by rw [List.length_append]; omega) ?_
  (conv => whnf)
  have hrun := fun R hR => Run_calls (headP 3) Ps t ht hlensP (by omega) (by omega) (R := R) hR
  rw [hh8] at hrun
  refine hrun _ ?_
  (conv => whnf)
  refine cRecords_calls 3 Ps ?_
  (conv => whnf)
  refine .inr ?_
  (conv => whnf)
  refine ⟨recsA 3 [] 0 l, hit, ?_, ?_⟩
  · intro x hx
    obtain ⟨i, hi, rfl⟩ := List.getElem_of_mem hx
    have h1 := recsA_at 3 l [] 0 i (by omega)
    rw [List.getElem?_eq_getElem hi] at h1
    rw [Option.some.inj h1]
    rfl
  refine ⟨fun i s => (i = 0 ∧ s = ⟨cgS (endsP 8 Ps), [(nameOf 2, flO 0 nlA nlA 0), (nameOf 6, flO 3 nlA nlA 8)]⟩) ∨
    (0 < i ∧ i ≤ l.length ∧ s = ⟨cgS (endsP 8 Ps), [(nameOf 2, flO 0 nlA nlA 0), (nameOf 6, flO 3 (.sl (some (nameOf 42)) 7 (recs (l.take i))) (.sl (some (nameOf 48)) 1 (ints ((endsR 3 l).take i))) (fileP 3 (l.take i)).length), (nameOf 42, .row 67 7 i), (nameOf 48, .row 3 1 i)]⟩), .inl ⟨rfl, rfl⟩, ?_, ?_⟩
  · rintro i x s hx hs
    have hi : i < l.length := by
      have := (List.getElem?_eq_some_iff.1 hx).1
      omega
    have hx2 := recsA_at 3 l [] 0 i hi
    rw [Nat.zero_add] at hx2
    rw [hx] at hx2
    cases hx2
    obtain ⟨he1, he2⟩ := hend i hi
    have hn0 := hnn i (Nat.zero_le i) hi
    have hie : i < (endsR 3 l).length := by omega
    have e1 := recs_take hi
    have e2 := ints_take hie
    rw [endsR_at hi] at e2
    have hpl2 : (paysP 3 [] (l.take (i + 1))).length = plP 3 l (i + 1) := rfl
    rw [hpl2]
    have l1 : (recs (l.take i)).length = i := by rw [recs_length, List.length_take]; omega
    have l2 : (ints ((endsR 3 l).take i)).length = i := by rw [ints_length, List.length_take]; omega
    clear hit hx
    rcases hs with ⟨rfl, rfl⟩ | ⟨h1, h2, rfl⟩
    · (conv => whnf)
      refine must_intro (decide_eq_true hn0) ?_
      refine idxK_map_intro he1 ?_
      rw [he2 he1]
      (conv => whnf)
      refine ⟨?_, ?_, ?_, trivial⟩
      · (conv => whnf)
        refine ⟨?_, ?_, ?_, trivial⟩
        · (conv => whnf)
          refine ⟨by rw [bytes_rec]; simp, ?_⟩
          (conv => whnf)
          refine ⟨?_, ?_, trivial⟩
          · (conv => whnf)
            refine ⟨?_, trivial⟩
            (conv => whnf)
            refine ⟨?_, trivial⟩
            (conv => whnf)
            refine ⟨by rw [bytes_int]; simp, ?_⟩
            (conv => whnf)
            refine ⟨?_, trivial⟩
            (conv => whnf)
            refine ⟨?_, trivial⟩
            (conv => whnf)
            refine .inr ⟨by omega, by omega, ?_⟩
            rw [e1, e2]
            rfl
          · (conv => whnf)
            refine ⟨?_, trivial⟩
            (conv => whnf)
            refine ⟨?_, trivial⟩
            (conv => whnf)
            refine ⟨by rw [bytes_int]; simp, ?_⟩
            (conv => whnf)
            refine ⟨?_, trivial⟩
            (conv => whnf)
            refine ⟨?_, trivial⟩
            (conv => whnf)
            refine .inr ⟨by omega, by omega, ?_⟩
            rw [e1, e2]
            rfl
        · (conv => whnf)
          refine ⟨?_, ?_, trivial⟩
          · (conv => whnf)
            refine ⟨by rw [bytes_rec]; simp, ?_⟩
            (conv => whnf)
            refine ⟨?_, trivial⟩
            (conv => whnf)
            refine ⟨?_, trivial⟩
            (conv => whnf)
            refine ⟨by rw [bytes_int]; simp, ?_⟩
            (conv => whnf)
            refine ⟨?_, trivial⟩
            (conv => whnf)
            refine ⟨?_, trivial⟩
            (conv => whnf)
            refine .inr ⟨by omega, by omega, ?_⟩
            rw [e1, e2]
            rfl
          · (conv => whnf)
            refine ⟨?_, trivial⟩
            (conv => whnf)
            refine ⟨by rw [bytes_rec]; simp, ?_⟩
            (conv => whnf)
            refine ⟨?_, trivial⟩
            (conv => whnf)
            refine ⟨by rw [bytes_int]; simp, ?_⟩
            (conv => whnf)
            refine ⟨?_, trivial⟩
            (conv => whnf)
            refine ⟨?_, trivial⟩
            (conv => whnf)
            refine .inr ⟨by omega, by omega, ?_⟩
            rw [e1, e2]
            rfl
        · (conv => whnf)
          refine ⟨?_, ?_, trivial⟩
          · (conv => whnf)
            refine ⟨by rw [bytes_rec]; simp, ?_⟩
            (conv => whnf)
            refine ⟨?_, trivial⟩
            (conv => whnf)
            refine ⟨?_, trivial⟩
            (conv => whnf)
            refine ⟨by rw [bytes_int]; simp, ?_⟩
            (conv => whnf)
            refine ⟨?_, trivial⟩
            (conv => whnf)
            refine ⟨?_, trivial⟩
            (conv => whnf)
            refine .inr ⟨by omega, by omega, ?_⟩
            rw [e1, e2]
            rfl
          · (conv => whnf)
            refine ⟨?_, trivial⟩
            (conv => whnf)
            refine ⟨by rw [bytes_rec]; simp, ?_⟩
            (conv => whnf)
            refine ⟨?_, trivial⟩
            (conv => whnf)
            refine ⟨by rw [bytes_int]; simp, ?_⟩
            (conv => whnf)
            refine ⟨?_, trivial⟩
            (conv => whnf)
            refine ⟨?_, trivial⟩
            (conv => whnf)
            refine .inr ⟨by omega, by omega, ?_⟩
            rw [e1, e2]
            rfl
      · (conv => whnf)
        refine ⟨?_, ?_, trivial⟩
        · (conv => whnf)
          refine ⟨?_, ?_, trivial⟩
          · (conv => whnf)
            refine ⟨by rw [bytes_rec]; simp, ?_⟩
            (conv => whnf)
            refine ⟨?_, trivial⟩
            (conv => whnf)
            refine ⟨?_, trivial⟩
            (conv => whnf)
            refine ⟨by rw [bytes_int]; simp, ?_⟩
            (conv => whnf)
            refine ⟨?_, trivial⟩
            (conv => whnf)
            refine ⟨?_, trivial⟩
            (conv => whnf)
            refine .inr ⟨by omega, by omega, ?_⟩
            rw [e1, e2]
            rfl
          · (conv => whnf)
            refine ⟨?_, trivial⟩
            (conv => whnf)
            refine ⟨by rw [bytes_rec]; simp, ?_⟩
            (conv => whnf)
            refine ⟨?_, trivial⟩
            (conv => whnf)
            refine ⟨by rw [bytes_int]; simp, ?_⟩
            (conv => whnf)
            refine ⟨?_, trivial⟩
            (conv => whnf)
            refine ⟨?_, trivial⟩
            (conv => whnf)
            refine .inr ⟨by omega, by omega, ?_⟩
            rw [e1, e2]
            rfl
        · (conv => whnf)
          refine ⟨?_, trivial⟩
          (conv => whnf)
          refine ⟨?_, trivial⟩
          (conv => whnf)
          refine ⟨by rw [bytes_rec]; simp, ?_⟩
          (conv => whnf)
          refine ⟨?_, trivial⟩
          (conv => whnf)
          refine ⟨by rw [bytes_int]; simp, ?_⟩
          (conv => whnf)
          refine ⟨?_, trivial⟩
          (conv => whnf)
          refine ⟨?_, trivial⟩
          (conv => whnf)
          refine .inr ⟨by omega, by omega, ?_⟩
          rw [e1, e2]
          rfl
      · (conv => whnf)
        refine ⟨?_, ?_, trivial⟩
        · (conv => whnf)
          refine ⟨?_, ?_, trivial⟩
          · (conv => whnf)
            refine ⟨by rw [bytes_rec]; simp, ?_⟩
            (conv => whnf)
            refine ⟨?_, trivial⟩
            (conv => whnf)
            refine ⟨?_, trivial⟩
            (conv => whnf)
            refine ⟨by rw [bytes_int]; simp, ?_⟩
            (conv => whnf)
            refine ⟨?_, trivial⟩
            (conv => whnf)
            refine ⟨?_, trivial⟩
            (conv => whnf)
            refine .inr ⟨by omega, by omega, ?_⟩
            rw [e1, e2]
            rfl
          · (conv => whnf)
            refine ⟨?_, trivial⟩
            (conv => whnf)
            refine ⟨by rw [bytes_rec]; simp, ?_⟩
            (conv => whnf)
            refine ⟨?_, trivial⟩
            (conv => whnf)
            refine ⟨by rw [bytes_int]; simp, ?_⟩
            (conv => whnf)
            refine ⟨?_, trivial⟩
            (conv => whnf)
            refine ⟨?_, trivial⟩
            (conv => whnf)
            refine .inr ⟨by omega, by omega, ?_⟩
            rw [e1, e2]
            rfl
        · (conv => whnf)
          refine ⟨?_, trivial⟩
          (conv => whnf)
          refine ⟨?_, trivial⟩
          (conv => whnf)
          refine ⟨by rw [bytes_rec]; simp, ?_⟩
          (conv => whnf)
          refine ⟨?_, trivial⟩
          (conv => whnf)
          refine ⟨by rw [bytes_int]; simp, ?_⟩
          (conv => whnf)
          refine ⟨?_, trivial⟩
          (conv => whnf)
          refine ⟨?_, trivial⟩
          (conv => whnf)
          refine .inr ⟨by omega, by omega, ?_⟩
          rw [e1, e2]
          rfl
    · (conv => whnf)
      refine must_intro (decide_eq_true hn0) ?_
      refine idxK_map_intro he1 ?_
      rw [he2 he1]
      (conv => whnf)
      refine ⟨?_, ?_, ?_, trivial⟩
      · (conv => whnf)
        refine ⟨?_, ?_, ?_, trivial⟩
        · (conv => whnf)
          refine ⟨l1.symm, by rw [l1, bytes_rec]; simp; omega, ?_⟩
          (conv => whnf)
          refine ⟨?_, ?_, trivial⟩
          · (conv => whnf)
            refine ⟨?_, trivial⟩
            (conv => whnf)
            refine ⟨?_, trivial⟩
            (conv => whnf)
            refine ⟨l2.symm, by rw [l2, bytes_int]; simp; omega, ?_⟩
            (conv => whnf)
            refine ⟨?_, trivial⟩
            (conv => whnf)
            refine ⟨?_, trivial⟩
            (conv => whnf)
            refine .inr ⟨by omega, by omega, ?_⟩
            rw [e1, e2, l1, l2]
            rfl
          · (conv => whnf)
            refine ⟨?_, trivial⟩
            (conv => whnf)
            refine ⟨?_, trivial⟩
            (conv => whnf)
            refine ⟨l2.symm, by rw [l2, bytes_int]; simp; omega, ?_⟩
            (conv => whnf)
            refine ⟨?_, trivial⟩
            (conv => whnf)
            refine ⟨?_, trivial⟩
            (conv => whnf)
            refine .inr ⟨by omega, by omega, ?_⟩
            rw [e1, e2, l1, l2]
            rfl
        · (conv => whnf)
          refine ⟨?_, ?_, trivial⟩
          · (conv => whnf)
            refine ⟨l1.symm, by rw [l1, bytes_rec]; simp; omega, ?_⟩
            (conv => whnf)
            refine ⟨?_, trivial⟩
            (conv => whnf)
            refine ⟨?_, trivial⟩
            (conv => whnf)
            refine ⟨l2.symm, by rw [l2, bytes_int]; simp; omega, ?_⟩
            (conv => whnf)
            refine ⟨?_, trivial⟩
            (conv => whnf)
            refine ⟨?_, trivial⟩
            (conv => whnf)
            refine .inr ⟨by omega, by omega, ?_⟩
            rw [e1, e2, l1, l2]
            rfl
          · (conv => whnf)
            refine ⟨?_, trivial⟩
            (conv => whnf)
            refine ⟨l1.symm, by rw [l1, bytes_rec]; simp; omega, ?_⟩
            (conv => whnf)
            refine ⟨?_, trivial⟩
            (conv => whnf)
            refine ⟨l2.symm, by rw [l2, bytes_int]; simp; omega, ?_⟩
            (conv => whnf)
            refine ⟨?_, trivial⟩
            (conv => whnf)
            refine ⟨?_, trivial⟩
            (conv => whnf)
            refine .inr ⟨by omega, by omega, ?_⟩
            rw [e1, e2, l1, l2]
            rfl
        · (conv => whnf)
          refine ⟨?_, ?_, trivial⟩
          · (conv => whnf)
            refine ⟨l1.symm, by rw [l1, bytes_rec]; simp; omega, ?_⟩
            (conv => whnf)
            refine ⟨?_, trivial⟩
            (conv => whnf)
            refine ⟨?_, trivial⟩
            (conv => whnf)
            refine ⟨l2.symm, by rw [l2, bytes_int]; simp; omega, ?_⟩
            (conv => whnf)
            refine ⟨?_, trivial⟩
            (conv => whnf)
            refine ⟨?_, trivial⟩
            (conv => whnf)
            refine .inr ⟨by omega, by omega, ?_⟩
            rw [e1, e2, l1, l2]
            rfl
          · (conv => whnf)
            refine ⟨?_, trivial⟩
            (conv => whnf)
            refine ⟨l1.symm, by rw [l1, bytes_rec]; simp; omega, ?_⟩
            (conv => whnf)
            refine ⟨?_, trivial⟩
            (conv => whnf)
            refine ⟨l2.symm, by rw [l2, bytes_int]; simp; omega, ?_⟩
            (conv => whnf)
            refine ⟨?_, trivial⟩
            (conv => whnf)
            refine ⟨?_, trivial⟩
            (conv => whnf)
            refine .inr ⟨by omega, by omega, ?_⟩
            rw [e1, e2, l1, l2]
            rfl
      · (conv => whnf)
        refine ⟨?_, ?_, trivial⟩
        · (conv => whnf)
          refine ⟨?_, ?_, trivial⟩
          · (conv => whnf)
            refine ⟨l1.symm, by rw [l1, bytes_rec]; simp; omega, ?_⟩
            (conv => whnf)
            refine ⟨?_, trivial⟩
            (conv => whnf)
            refine ⟨?_, trivial⟩
            (conv => whnf)
            refine ⟨l2.symm, by rw [l2, bytes_int]; simp; omega, ?_⟩
            (conv => whnf)
            refine ⟨?_, trivial⟩
            (conv => whnf)
            refine ⟨?_, trivial⟩
            (conv => whnf)
            refine .inr ⟨by omega, by omega, ?_⟩
            rw [e1, e2, l1, l2]
            rfl
          · (conv => whnf)
            refine ⟨?_, trivial⟩
            (conv => whnf)
            refine ⟨l1.symm, by rw [l1, bytes_rec]; simp; omega, ?_⟩
            (conv => whnf)
            refine ⟨?_, trivial⟩
            (conv => whnf)
            refine ⟨l2.symm, by rw [l2, bytes_int]; simp; omega, ?_⟩
            (conv => whnf)
            refine ⟨?_, trivial⟩
            (conv => whnf)
            refine ⟨?_, trivial⟩
            (conv => whnf)
            refine .inr ⟨by omega, by omega, ?_⟩
            rw [e1, e2, l1, l2]
            rfl
        · (conv => whnf)
          refine ⟨?_, trivial⟩
          (conv => whnf)
          refine ⟨?_, trivial⟩
          (conv => whnf)
          refine ⟨l1.symm, by rw [l1, bytes_rec]; simp; omega, ?_⟩
          (conv => whnf)
          refine ⟨?_, trivial⟩
          (conv => whnf)
          refine ⟨l2.symm, by rw [l2, bytes_int]; simp; omega, ?_⟩
          (conv => whnf)
          refine ⟨?_, trivial⟩
          (conv => whnf)
          refine ⟨?_, trivial⟩
          (conv => whnf)
          refine .inr ⟨by omega, by omega, ?_⟩
          rw [e1, e2, l1, l2]
          rfl
      · (conv => whnf)
        refine ⟨?_, ?_, trivial⟩
        · (conv => whnf)
          refine ⟨?_, ?_, trivial⟩
          · (conv => whnf)
            refine ⟨l1.symm, by rw [l1, bytes_rec]; simp; omega, ?_⟩
            (conv => whnf)
            refine ⟨?_, trivial⟩
            (conv => whnf)
            refine ⟨?_, trivial⟩
            (conv => whnf)
            refine ⟨l2.symm, by rw [l2, bytes_int]; simp; omega, ?_⟩
            (conv => whnf)
            refine ⟨?_, trivial⟩
            (conv => whnf)
            refine ⟨?_, trivial⟩
            (conv => whnf)
            refine .inr ⟨by omega, by omega, ?_⟩
            rw [e1, e2, l1, l2]
            rfl
          · (conv => whnf)
            refine ⟨?_, trivial⟩
            (conv => whnf)
            refine ⟨l1.symm, by rw [l1, bytes_rec]; simp; omega, ?_⟩
            (conv => whnf)
            refine ⟨?_, trivial⟩
            (conv => whnf)
            refine ⟨l2.symm, by rw [l2, bytes_int]; simp; omega, ?_⟩
            (conv => whnf)
            refine ⟨?_, trivial⟩
            (conv => whnf)
            refine ⟨?_, trivial⟩
            (conv => whnf)
            refine .inr ⟨by omega, by omega, ?_⟩
            rw [e1, e2, l1, l2]
            rfl
        · (conv => whnf)
          refine ⟨?_, trivial⟩
          (conv => whnf)
          refine ⟨?_, trivial⟩
          (conv => whnf)
          refine ⟨l1.symm, by rw [l1, bytes_rec]; simp; omega, ?_⟩
          (conv => whnf)
          refine ⟨?_, trivial⟩
          (conv => whnf)
          refine ⟨l2.symm, by rw [l2, bytes_int]; simp; omega, ?_⟩
          (conv => whnf)
          refine ⟨?_, trivial⟩
          (conv => whnf)
          refine ⟨?_, trivial⟩
          (conv => whnf)
          refine .inr ⟨by omega, by omega, ?_⟩
          rw [e1, e2, l1, l2]
          rfl
  · rintro s (⟨h1, rfl⟩ | ⟨h1, h2, rfl⟩)
    · have hl0 : l = [] := List.length_eq_zero_iff.1 (by omega)
      subst hl0
      (conv => whnf)
      exact res_le (le_tup (.cons (le_agg (.cons (.refl _) (.cons (le_nil 7) (.cons (le_nil 1) (leL.refl _))))) (leL.refl _))) rfl h
    · have hE : (endsR 3 l).take (recsA 3 [] 0 l).length = endsR 3 l := by rw [hlA, ← hEl, List.take_length]
      rw [hE, hlA, List.take_length]
      (conv => whnf)
      exact res_same h
theorem cGet_3 (l : List Rc) (hm : ∀ r ∈ l, mayP 3 r = true) (hl : l.length ≤ 300) {R} (h : R (.tup [.agg (fileA 3 l), vi 0]) []) : ACalls Tryz.prog 83 [.sl none 1 (byteEls (fileP 3 l))] [] R := by
  have h1 := cGetT_3 l hm hl [] (fun _ => rfl) (by simp) (by simp) [] (.inl rfl) (by simp) h
  rw [List.map_nil, show framesP [] = [] from rfl, List.append_nil, List.append_nil] at h1
  exact h1
end Go.Abs
end

section
/- The file system's own functions. -/
set_option maxRecDepth 100000
set_option maxHeartbeats 2000000
set_option linter.unusedVariables false
set_option linter.unusedSimpArgs false
namespace Go.Abs
open Go Go.Proofs
attribute [local irreducible] ibits byteAt strLt firstIdx

def fsC (s : FSt) (m : Nm) : AObj := .cells 99 [.mapv m, vi s.fail, vi s.fall, .val (.bool s.down)]
def fsM (s : FSt) : AObj := .map (amap fEnc s.fs)
theorem fsNew_calls {R} (h : R (.ptr 0 0) [fsC fs0 1, fsM fs0]) : ACalls Tryz.prog 23 [] [] R := by
  refine acalls_of_xwp (an := an23) tab_ok Tryz.func23 ?_
  (conv => whnf)
  exact h
theorem cnt_wrap {a : Int} (ha : okN a) : (if IntKind.i64.wrap (a - 1) < -1 then -1 else IntKind.i64.wrap (a - 1)) = cnt a := by
  unfold okN at ha
  rw [wrap_i64 (by omega) (by omega)]
  rfl
theorem count_calls (a : Int) (ha : okN a) {R} (h : R (.tup [vi (cnt a), .val (.bool (a == 0))]) []) : ACalls Tryz.prog 137 [vi a] [] R := by
  refine acalls_of_xwp (an := an137) tab_ok Tryz.func137 ?_
  (conv => whnf)
  rw [cnt_wrap ha]
  exact h
theorem Down_calls (s : FSt) {R} (h : R (.val (.bool s.down)) [fsC s 1, fsM s]) : ACalls Tryz.prog 52 [.ptr 0 0] [fsC s 1, fsM s] R := by
  refine acalls_of_xwp (an := an52) tab_ok Tryz.func52 ?_
  (conv => whnf)
  exact h
theorem Fail_calls (s : FSt) (n : Int) {R} (h : R (.tup []) [fsC ⟨s.fs, capN n, s.fall, s.down⟩ 1, fsM s]) : ACalls Tryz.prog 13 [.ptr 0 0, vi n] [fsC s 1, fsM s] R := by
  refine acalls_of_xwp (an := an13) tab_ok Tryz.func13 ?_
  (conv => whnf)
  exact h
theorem Fall_calls (s : FSt) (n : Int) {R} (h : R (.tup []) [fsC ⟨s.fs, s.fail, capN n, s.down⟩ 1, fsM s]) : ACalls Tryz.prog 14 [.ptr 0 0, vi n] [fsC s 1, fsM s] R := by
  refine acalls_of_xwp (an := an14) tab_ok Tryz.func14 ?_
  (conv => whnf)
  exact h
theorem fsNames_calls (s : FSt) (hl : s.fs.length < 1000000) (hs : ∀ n ∈ kys s.fs, n.length < 1000000) (hnd : (kys s.fs).Nodup) {R} (h : R (.sl none 1 (strs s.names)) [fsC s 1, fsM s]) : ACalls Tryz.prog 54 [.ptr 0 0] [fsC s 1, fsM s] R := by
  refine acalls_of_xwp (an := an54) tab_ok Tryz.func54 ?_
  (conv => whnf)
  refine fKeys_calls (amap fEnc s.fs) ?_
  (conv => whnf)
  refine fSorted_calls s.fs (by simpa [kys] using hl) hs hnd ?_
  (conv => whnf)
  exact h
theorem fsRead_calls (s : FSt) (name : B) (hb : (gF s.fs name).b.length < 100000000) {R} (h1 : name ∈ kys s.fs → R (.tup [.sl none 1 (byteEls (gF s.fs name).b), vi 0]) [fsC s 1, fsM s]) (h2 : name ∉ kys s.fs → R (.tup [nilV, vi 6]) [fsC s 1, fsM s]) : ACalls Tryz.prog 37 [.ptr 0 0, vs name] [fsC s 1, fsM s] R := by
  refine acalls_of_xwp (an := an37) tab_ok Tryz.func37 ?_
  (conv => whnf)
  rw [amap_find]
  cases e : lk s.fs name with
  | none =>
    have h2 := h2 (lk_none.1 e)
    (conv => whnf)
    exact h2
  | some v =>
    have h1 := h1 (lk_key e)
    unfold gF at h1 hb
    rw [e] at h1 hb
    (conv => whnf)
    refine bClone_calls v.b hb ?_
    (conv => whnf)
    exact h1
theorem may_calls (s : FSt) (name : B) {R} (h : R (vi (s.may name)) [fsC s 1, fsM s]) : ACalls Tryz.prog 92 [.ptr 0 0, vs name] [fsC s 1, fsM s] R := by
  refine acalls_of_xwp (an := an92) tab_ok Tryz.func92 ?_
  (conv => whnf)
  refine br_intro (fun g => ?_) (fun g => ?_)
  · have g : s.down = true := g
    rw [show s.may name = 7 by simp [FSt.may, g]] at h
    (conv => whnf)
    exact h
  have g : s.down = false := g
  (conv => whnf)
  rw [amap_find]
  cases e : lk s.fs name with
  | none =>
    rw [show s.may name = 6 by simp [FSt.may, g, e]] at h
    (conv => whnf)
    exact h
  | some v =>
    rw [show s.may name = 0 by simp [FSt.may, g, e]] at h
    (conv => whnf)
    exact h
theorem bel_take (l : B) (n : Nat) : (byteEls l).take n = byteEls (l.take n) := by simp [byteEls, List.map_take]
theorem le_two {b : B} : leE [[nilV], [AV.sl none 1 (byteEls b)]] [[AV.sl none 1 (byteEls [])], [AV.sl none 1 (byteEls b)]] :=
  leE.cons (leL.cons (le_nil 1) leL.nil) rfl (leE.cons (leL.refl _) rfl leE.nil)

theorem clA_calls (s : FSt) (name b : B) (hb : b.length < 100000000) (hg : (gF s.fs name).b.length < 100000000) {R} (h : R (.tup []) [.cells 26 [.ptr 1 0], fsC ⟨(addF name b) s.fs, s.fail, s.fall, s.down⟩ 2, fsM ⟨(addF name b) s.fs, s.fail, s.fall, s.down⟩, .cells 82 [.sl none 1 (byteEls b)]]) :
    ACalls Tryz.prog 138 [.ptr 0 0, .cptr [vs name] 0, .ptr 3 0] [.cells 26 [.ptr 1 0], fsC s 2, fsM s, .cells 82 [.sl none 1 (byteEls b)]] R := by
  refine acalls_of_xwp (an := an138) tab_ok Tryz.func138 ?_
  (conv => whnf)
  rw [amap_find]
  cases e : lk s.fs name with
  | none =>
    have e0 : gF s.fs name = flZ := by simp [gF, e]
    have e1 : addF name b s.fs = pt s.fs name ⟨[] ++ b, 0⟩ := by unfold addF; rw [e0]; rfl
    (conv => whnf)
    refine ACalls.args (leL.cons (le_sl _ _ le_two) leL.nil) (Concat_calls [] b (by simp) hb ?_)
    (conv => whnf)
    rw [show AV.agg (List.map AV.strip [AV.sl none 1 (byteEls ([] ++ b)), AV.val (Value.int IntKind.i64 0)]) = fEnc ⟨[] ++ b, 0⟩ from rfl, amap_put, ← e1]
    (conv => whnf)
    exact h
  | some v =>
    have e0 : gF s.fs name = v := by simp [gF, e]
    rw [e0] at hg
    have e1 : addF name b s.fs = pt s.fs name ⟨v.b ++ b, v.safe⟩ := by unfold addF; rw [e0]
    (conv => whnf)
    refine Concat_calls v.b b hg hb ?_
    (conv => whnf)
    rw [show AV.agg (List.map AV.strip [AV.sl none 1 (byteEls (v.b ++ b)), AV.val (Value.int IntKind.i64 v.safe)]) = fEnc ⟨v.b ++ b, v.safe⟩ from rfl, amap_put, ← e1]
    (conv => whnf)
    exact h

theorem actA_calls (s : FSt) (name b : B) (hb : b.length < 100000000) (hg : (gF s.fs name).b.length < 100000000) (late : Bool) (h1 : okN s.fail) (h2 : okN s.fall) {R} (h : R (vi (s.act late (addF name b)).2) (fsC (s.act late (addF name b)).1 1 :: fsM (s.act late (addF name b)).1 :: [.cells 26 [.ptr 0 0], .cells 82 [.sl none 1 (byteEls b)]])) :
    ACalls Tryz.prog 93 [.ptr 0 0, .val (.bool late), .fn (.func 138) [] [.ptr 2 0, .cptr [vs name] 0, .ptr 3 0]] (fsC s 1 :: fsM s :: [.cells 26 [.ptr 0 0], .cells 82 [.sl none 1 (byteEls b)]]) R := by
  refine acalls_of_xwp (an := an93) tab_ok Tryz.func93 ?_
  (conv => whnf)
  refine count_calls s.fail h1 ?_
  (conv => whnf)
  refine count_calls s.fall h2 ?_
  (conv => whnf)
  refine br_intro (fun g => ?_) (fun g => ?_)
  · have g : s.fall = 0 := by simpa using g
    (conv => whnf)
    refine br_intro (fun g2 => ?_) (fun g2 => ?_)
    · have g2 : late = true := g2
      rw [show s.act late (addF name b) = (⟨(addF name b) s.fs, cnt s.fail, cnt s.fall, true⟩, 7) by simp [FSt.act, g, g2]] at h
      (conv => whnf)
      refine clA_calls ⟨s.fs, cnt s.fail, cnt s.fall, true⟩ name b hb hg ?_
      (conv => whnf)
      exact h
    · have g2 : late = false := g2
      rw [show s.act late (addF name b) = (⟨s.fs, cnt s.fail, cnt s.fall, true⟩, 7) by simp [FSt.act, g, g2]] at h
      (conv => whnf)
      exact h
  have g : s.fall ≠ 0 := by simpa using g
  (conv => whnf)
  refine br_intro (fun g2 => ?_) (fun g2 => ?_)
  · have g2 : s.fail = 0 := by simpa using g2
    rw [show s.act late (addF name b) = (⟨s.fs, cnt s.fail, cnt s.fall, s.down⟩, 8) by simp [FSt.act, g, g2]] at h
    (conv => whnf)
    exact h
  have g2 : s.fail ≠ 0 := by simpa using g2
  rw [show s.act late (addF name b) = (⟨(addF name b) s.fs, cnt s.fail, cnt s.fall, s.down⟩, 0) by simp [FSt.act, g, g2]] at h
  (conv => whnf)
  refine clA_calls ⟨s.fs, cnt s.fail, cnt s.fall, s.down⟩ name b hb hg ?_
  (conv => whnf)
  exact h

theorem clS_calls (s : FSt) (name : B) (v : Fl) (hv : gF s.fs name = v) {R} (h : R (.tup []) [.cells 121 [.sl none 1 (byteEls v.b), vi v.safe], .cells 26 [.ptr 2 0], fsC ⟨(syncF name) s.fs, s.fail, s.fall, s.down⟩ 3, fsM ⟨(syncF name) s.fs, s.fail, s.fall, s.down⟩]) :
    ACalls Tryz.prog 103 [.ptr 0 0, .ptr 1 0, .cptr [vs name] 0] [.cells 121 [.sl none 1 (byteEls v.b), vi v.safe], .cells 26 [.ptr 2 0], fsC s 3, fsM s] R := by
  refine acalls_of_xwp (an := an103) tab_ok Tryz.func103 ?_
  have hl := bel_length v.b
  have e1 : syncF name s.fs = pt s.fs name ⟨v.b, v.b.length⟩ := by unfold syncF; rw [hv]
  (conv => whnf)
  show R (.tup []) [.cells 121 [.sl none 1 (byteEls v.b), vi v.safe], .cells 26 [.ptr 2 0], fsC s 3, .map (mapPut (amap fEnc s.fs) (ofB name) (.agg [.sl none 1 (byteEls v.b), vi ((byteEls v.b).length : Nat)]))]
  rw [hl, show AV.agg [.sl none 1 (byteEls v.b), vi (v.b.length : Nat)] = fEnc ⟨v.b, v.b.length⟩ from rfl, amap_put, ← e1]
  exact h

theorem actS_calls (s : FSt) (name : B) (v : Fl) (hv : gF s.fs name = v) (late : Bool) (h1 : okN s.fail) (h2 : okN s.fall) {R} (h : R (vi (s.act late (syncF name)).2) (fsC (s.act late (syncF name)).1 1 :: fsM (s.act late (syncF name)).1 :: [.cells 121 [.sl none 1 (byteEls v.b), vi v.safe], .cells 26 [.ptr 0 0]])) :
    ACalls Tryz.prog 93 [.ptr 0 0, .val (.bool late), .fn (.func 103) [] [.ptr 2 0, .ptr 3 0, .cptr [vs name] 0]] (fsC s 1 :: fsM s :: [.cells 121 [.sl none 1 (byteEls v.b), vi v.safe], .cells 26 [.ptr 0 0]]) R := by
  refine acalls_of_xwp (an := an93) tab_ok Tryz.func93 ?_
  (conv => whnf)
  refine count_calls s.fail h1 ?_
  (conv => whnf)
  refine count_calls s.fall h2 ?_
  (conv => whnf)
  refine br_intro (fun g => ?_) (fun g => ?_)
  · have g : s.fall = 0 := by simpa using g
    (conv => whnf)
    refine br_intro (fun g2 => ?_) (fun g2 => ?_)
    · have g2 : late = true := g2
      rw [show s.act late (syncF name) = (⟨(syncF name) s.fs, cnt s.fail, cnt s.fall, true⟩, 7) by simp [FSt.act, g, g2]] at h
      (conv => whnf)
      refine clS_calls ⟨s.fs, cnt s.fail, cnt s.fall, true⟩ name v hv ?_
      (conv => whnf)
      exact h
    · have g2 : late = false := g2
      rw [show s.act late (syncF name) = (⟨s.fs, cnt s.fail, cnt s.fall, true⟩, 7) by simp [FSt.act, g, g2]] at h
      (conv => whnf)
      exact h
  have g : s.fall ≠ 0 := by simpa using g
  (conv => whnf)
  refine br_intro (fun g2 => ?_) (fun g2 => ?_)
  · have g2 : s.fail = 0 := by simpa using g2
    rw [show s.act late (syncF name) = (⟨s.fs, cnt s.fail, cnt s.fall, s.down⟩, 8) by simp [FSt.act, g, g2]] at h
    (conv => whnf)
    exact h
  have g2 : s.fail ≠ 0 := by simpa using g2
  rw [show s.act late (syncF name) = (⟨(syncF name) s.fs, cnt s.fail, cnt s.fall, s.down⟩, 0) by simp [FSt.act, g, g2]] at h
  (conv => whnf)
  refine clS_calls ⟨s.fs, cnt s.fail, cnt s.fall, s.down⟩ name v hv ?_
  (conv => whnf)
  exact h

theorem clT_calls (s : FSt) (name : B) (v : Fl) (size : Nat) (hv : gF s.fs name = v) (hsz : size ≤ v.b.length) (hvb : v.b.length < 100000000) {R} (h : R (.tup []) [.cells 121 [.sl none 1 (byteEls v.b), vi v.safe], .cells 26 [.ptr 2 0], fsC ⟨(cutF name size) s.fs, s.fail, s.fall, s.down⟩ 3, fsM ⟨(cutF name size) s.fs, s.fail, s.fall, s.down⟩]) :
    ACalls Tryz.prog 141 [.ptr 0 0, .cptr [vi size] 0, .ptr 1 0, .cptr [vs name] 0] [.cells 121 [.sl none 1 (byteEls v.b), vi v.safe], .cells 26 [.ptr 2 0], fsC s 3, fsM s] R := by
  refine acalls_of_xwp (an := an141) tab_ok Tryz.func141 ?_
  have hl := bel_length v.b
  have e1 : cutF name size s.fs = pt s.fs name ⟨v.b.take size, min v.safe size⟩ := by unfold cutF; rw [hv]
  (conv => whnf)
  refine must_intro (decide_eq_true (by omega)) ?_
  (conv => whnf)
  refine must_intro (decide_eq_true (by omega)) ?_
  (conv => whnf)
  show R (.tup []) [.cells 121 [.sl none 1 (byteEls v.b), vi v.safe], .cells 26 [.ptr 2 0], fsC s 3, .map (mapPut (amap fEnc s.fs) (ofB name) (.agg [.sl none 1 ((byteEls v.b).take size), vi (if (size : Int) < (v.safe : Int) then (size : Int) else (v.safe : Int))]))]
  rw [show (if (size : Int) < (v.safe : Int) then (size : Int) else (v.safe : Int)) = ((min v.safe size : Nat) : Int) by split <;> omega, bel_take, show AV.agg [.sl none 1 (byteEls (v.b.take size)), vi (min v.safe size : Nat)] = fEnc ⟨v.b.take size, min v.safe size⟩ from rfl, amap_put, ← e1]
  exact h

theorem actT_calls (s : FSt) (name : B) (v : Fl) (size : Nat) (hv : gF s.fs name = v) (hsz : size ≤ v.b.length) (hvb : v.b.length < 100000000) (late : Bool) (h1 : okN s.fail) (h2 : okN s.fall) {R} (h : R (vi (s.act late (cutF name size)).2) (fsC (s.act late (cutF name size)).1 1 :: fsM (s.act late (cutF name size)).1 :: [.cells 121 [.sl none 1 (byteEls v.b), vi v.safe], .cells 26 [.ptr 0 0]])) :
    ACalls Tryz.prog 93 [.ptr 0 0, .val (.bool late), .fn (.func 141) [] [.ptr 2 0, .cptr [vi size] 0, .ptr 3 0, .cptr [vs name] 0]] (fsC s 1 :: fsM s :: [.cells 121 [.sl none 1 (byteEls v.b), vi v.safe], .cells 26 [.ptr 0 0]]) R := by
  refine acalls_of_xwp (an := an93) tab_ok Tryz.func93 ?_
  (conv => whnf)
  refine count_calls s.fail h1 ?_
  (conv => whnf)
  refine count_calls s.fall h2 ?_
  (conv => whnf)
  refine br_intro (fun g => ?_) (fun g => ?_)
  · have g : s.fall = 0 := by simpa using g
    (conv => whnf)
    refine br_intro (fun g2 => ?_) (fun g2 => ?_)
    · have g2 : late = true := g2
      rw [show s.act late (cutF name size) = (⟨(cutF name size) s.fs, cnt s.fail, cnt s.fall, true⟩, 7) by simp [FSt.act, g, g2]] at h
      (conv => whnf)
      refine clT_calls ⟨s.fs, cnt s.fail, cnt s.fall, true⟩ name v size hv hsz hvb ?_
      (conv => whnf)
      exact h
    · have g2 : late = false := g2
      rw [show s.act late (cutF name size) = (⟨s.fs, cnt s.fail, cnt s.fall, true⟩, 7) by simp [FSt.act, g, g2]] at h
      (conv => whnf)
      exact h
  have g : s.fall ≠ 0 := by simpa using g
  (conv => whnf)
  refine br_intro (fun g2 => ?_) (fun g2 => ?_)
  · have g2 : s.fail = 0 := by simpa using g2
    rw [show s.act late (cutF name size) = (⟨s.fs, cnt s.fail, cnt s.fall, s.down⟩, 8) by simp [FSt.act, g, g2]] at h
    (conv => whnf)
    exact h
  have g2 : s.fail ≠ 0 := by simpa using g2
  rw [show s.act late (cutF name size) = (⟨(cutF name size) s.fs, cnt s.fail, cnt s.fall, s.down⟩, 0) by simp [FSt.act, g, g2]] at h
  (conv => whnf)
  refine clT_calls ⟨s.fs, cnt s.fail, cnt s.fall, s.down⟩ name v size hv hsz hvb ?_
  (conv => whnf)
  exact h

theorem clR_calls (s : FSt) (a b : B) (hka : a ∈ kys s.fs) {R} (h : R (.tup []) [.cells 26 [.ptr 1 0], fsC ⟨(renF a b) s.fs, s.fail, s.fall, s.down⟩ 2, fsM ⟨(renF a b) s.fs, s.fail, s.fall, s.down⟩]) :
    ACalls Tryz.prog 140 [.ptr 0 0, .cptr [vs a] 0, .cptr [vs b] 0] [.cells 26 [.ptr 1 0], fsC s 2, fsM s] R := by
  refine acalls_of_xwp (an := an140) tab_ok Tryz.func140 ?_
  obtain ⟨v, e⟩ := lk_mem hka
  have e0 : gF s.fs a = v := by simp [gF, e]
  have e1 : renF a b s.fs = pt (dl s.fs a) b v := by unfold renF; rw [e0]
  (conv => whnf)
  rw [amap_find, e]
  (conv => whnf)
  rw [amap_del]
  (conv => whnf)
  rw [show AV.agg (List.map AV.strip [AV.sl none 1 (byteEls v.b), AV.val (Value.int IntKind.i64 v.safe)]) = fEnc v from rfl, amap_put, ← e1]
  (conv => whnf)
  exact h

theorem actR_calls (s : FSt) (a b : B) (hka : a ∈ kys s.fs) (late : Bool) (h1 : okN s.fail) (h2 : okN s.fall) {R} (h : R (vi (s.act late (renF a b)).2) (fsC (s.act late (renF a b)).1 1 :: fsM (s.act late (renF a b)).1 :: [.cells 26 [.ptr 0 0]])) :
    ACalls Tryz.prog 93 [.ptr 0 0, .val (.bool late), .fn (.func 140) [] [.ptr 2 0, .cptr [vs a] 0, .cptr [vs b] 0]] (fsC s 1 :: fsM s :: [.cells 26 [.ptr 0 0]]) R := by
  refine acalls_of_xwp (an := an93) tab_ok Tryz.func93 ?_
  (conv => whnf)
  refine count_calls s.fail h1 ?_
  (conv => whnf)
  refine count_calls s.fall h2 ?_
  (conv => whnf)
  refine br_intro (fun g => ?_) (fun g => ?_)
  · have g : s.fall = 0 := by simpa using g
    (conv => whnf)
    refine br_intro (fun g2 => ?_) (fun g2 => ?_)
    · have g2 : late = true := g2
      rw [show s.act late (renF a b) = (⟨(renF a b) s.fs, cnt s.fail, cnt s.fall, true⟩, 7) by simp [FSt.act, g, g2]] at h
      (conv => whnf)
      refine clR_calls ⟨s.fs, cnt s.fail, cnt s.fall, true⟩ a b hka ?_
      (conv => whnf)
      exact h
    · have g2 : late = false := g2
      rw [show s.act late (renF a b) = (⟨s.fs, cnt s.fail, cnt s.fall, true⟩, 7) by simp [FSt.act, g, g2]] at h
      (conv => whnf)
      exact h
  have g : s.fall ≠ 0 := by simpa using g
  (conv => whnf)
  refine br_intro (fun g2 => ?_) (fun g2 => ?_)
  · have g2 : s.fail = 0 := by simpa using g2
    rw [show s.act late (renF a b) = (⟨s.fs, cnt s.fail, cnt s.fall, s.down⟩, 8) by simp [FSt.act, g, g2]] at h
    (conv => whnf)
    exact h
  have g2 : s.fail ≠ 0 := by simpa using g2
  rw [show s.act late (renF a b) = (⟨(renF a b) s.fs, cnt s.fail, cnt s.fall, s.down⟩, 0) by simp [FSt.act, g, g2]] at h
  (conv => whnf)
  refine clR_calls ⟨s.fs, cnt s.fail, cnt s.fall, s.down⟩ a b hka ?_
  (conv => whnf)
  exact h

theorem clD_calls (s : FSt) (name : B) {R} (h : R (.tup []) [.cells 26 [.ptr 1 0], fsC ⟨(fun m => dl m name) s.fs, s.fail, s.fall, s.down⟩ 2, fsM ⟨(fun m => dl m name) s.fs, s.fail, s.fall, s.down⟩]) :
    ACalls Tryz.prog 94 [.ptr 0 0, .cptr [vs name] 0] [.cells 26 [.ptr 1 0], fsC s 2, fsM s] R := by
  refine acalls_of_xwp (an := an94) tab_ok Tryz.func94 ?_
  (conv => whnf)
  rw [amap_del]
  (conv => whnf)
  exact h

theorem actD_calls (s : FSt) (name : B) (late : Bool) (h1 : okN s.fail) (h2 : okN s.fall) {R} (h : R (vi (s.act late (fun m => dl m name)).2) (fsC (s.act late (fun m => dl m name)).1 1 :: fsM (s.act late (fun m => dl m name)).1 :: [.cells 26 [.ptr 0 0]])) :
    ACalls Tryz.prog 93 [.ptr 0 0, .val (.bool late), .fn (.func 94) [] [.ptr 2 0, .cptr [vs name] 0]] (fsC s 1 :: fsM s :: [.cells 26 [.ptr 0 0]]) R := by
  refine acalls_of_xwp (an := an93) tab_ok Tryz.func93 ?_
  (conv => whnf)
  refine count_calls s.fail h1 ?_
  (conv => whnf)
  refine count_calls s.fall h2 ?_
  (conv => whnf)
  refine br_intro (fun g => ?_) (fun g => ?_)
  · have g : s.fall = 0 := by simpa using g
    (conv => whnf)
    refine br_intro (fun g2 => ?_) (fun g2 => ?_)
    · have g2 : late = true := g2
      rw [show s.act late (fun m => dl m name) = (⟨(fun m => dl m name) s.fs, cnt s.fail, cnt s.fall, true⟩, 7) by simp [FSt.act, g, g2]] at h
      (conv => whnf)
      refine clD_calls ⟨s.fs, cnt s.fail, cnt s.fall, true⟩ name ?_
      (conv => whnf)
      exact h
    · have g2 : late = false := g2
      rw [show s.act late (fun m => dl m name) = (⟨s.fs, cnt s.fail, cnt s.fall, true⟩, 7) by simp [FSt.act, g, g2]] at h
      (conv => whnf)
      exact h
  have g : s.fall ≠ 0 := by simpa using g
  (conv => whnf)
  refine br_intro (fun g2 => ?_) (fun g2 => ?_)
  · have g2 : s.fail = 0 := by simpa using g2
    rw [show s.act late (fun m => dl m name) = (⟨s.fs, cnt s.fail, cnt s.fall, s.down⟩, 8) by simp [FSt.act, g, g2]] at h
    (conv => whnf)
    exact h
  have g2 : s.fail ≠ 0 := by simpa using g2
  rw [show s.act late (fun m => dl m name) = (⟨(fun m => dl m name) s.fs, cnt s.fail, cnt s.fall, s.down⟩, 0) by simp [FSt.act, g, g2]] at h
  (conv => whnf)
  refine clD_calls ⟨s.fs, cnt s.fail, cnt s.fall, s.down⟩ name ?_
  (conv => whnf)
  exact h
end Go.Abs
end

section
/- The file system's acts. -/
set_option maxRecDepth 100000
set_option maxHeartbeats 2000000
set_option linter.unusedVariables false
set_option linter.unusedSimpArgs false
namespace Go.Abs
open Go Go.Proofs
attribute [local irreducible] ibits byteAt strLt firstIdx

theorem Append_calls (s : FSt) (name b : B) (h1 : okN s.fail) (h2 : okN s.fall) (hb : b.length < 1000000) (hg : (gF s.fs name).b.length < 100000000) {R} (h : R (vi (s.append name b).2) [fsC (s.append name b).1 1, fsM (s.append name b).1]) : ACalls Tryz.prog 97 [.ptr 0 0, vs name, .sl none 1 (byteEls b)] [fsC s 1, fsM s] R := by
  refine acalls_of_xwp (an := an97) tab_ok Tryz.func97 ?_
  (conv => whnf)
  refine br_intro (fun g => ?_) (fun g => ?_)
  · have g : s.down = true := g
    rw [show s.append name b = (s, 7) by simp [FSt.append, g]] at h
    (conv => whnf)
    exact h
  have g : s.down = false := g
  rw [show s.append name b = s.act true (addF name b) by simp [FSt.append, g]] at h
  (conv => whnf)
  refine bClone_calls b (by omega) ?_
  (conv => whnf)
  refine actA_calls s name b (by omega) hg true h1 h2 ?_
  (conv => whnf)
  exact h
theorem Sync_calls (s : FSt) (name : B) (h1 : okN s.fail) (h2 : okN s.fall) {R} (h : R (vi (s.sync name).2) [fsC (s.sync name).1 1, fsM (s.sync name).1]) : ACalls Tryz.prog 66 [.ptr 0 0, vs name] [fsC s 1, fsM s] R := by
  refine acalls_of_xwp (an := an66) tab_ok Tryz.func66 ?_
  (conv => whnf)
  refine may_calls s name ?_
  (conv => whnf)
  refine br_intro (fun g => ?_) (fun g => ?_)
  · have g : s.may name ≠ 0 := by simpa using g
    rw [show s.sync name = (s, s.may name) by simp [FSt.sync, g]] at h
    (conv => whnf)
    exact h
  have g : ¬ s.may name ≠ 0 := by simpa using g
  rw [show s.sync name = s.act false (syncF name) by unfold FSt.sync; rw [if_neg g]] at h
  obtain ⟨v, e⟩ := lk_mem (may_mem g).2
  (conv => whnf)
  rw [amap_find, e]
  (conv => whnf)
  refine actS_calls s name v (by simp [gF, e]) false h1 h2 ?_
  (conv => whnf)
  exact h
theorem Truncate_calls (s : FSt) (name : B) (n : Int) (h1 : okN s.fail) (h2 : okN s.fall) (hg : (gF s.fs name).b.length < 100000000) {R} (h : R (vi (s.truncate name n).2) [fsC (s.truncate name n).1 1, fsM (s.truncate name n).1]) : ACalls Tryz.prog 102 [.ptr 0 0, vs name, vi n] [fsC s 1, fsM s] R := by
  refine acalls_of_xwp (an := an102) tab_ok Tryz.func102 ?_
  (conv => whnf)
  refine may_calls s name ?_
  (conv => whnf)
  refine br_intro (fun g => ?_) (fun g => ?_)
  · have g : s.may name ≠ 0 := by simpa using g
    rw [show s.truncate name n = (s, s.may name) by simp [FSt.truncate, g]] at h
    (conv => whnf)
    exact h
  have g : ¬ s.may name ≠ 0 := by simpa using g
  obtain ⟨v, e⟩ := lk_mem (may_mem g).2
  have ev : gF s.fs name = v := by simp [gF, e]
  have hl := bel_length v.b
  rw [ev] at hg
  (conv => whnf)
  rw [amap_find, e]
  (conv => whnf)
  refine br_intro (fun g1 => ?_) (fun g1 => ?_)
  · have g1 : n < 0 := by simpa using g1
    rw [show s.truncate name n = (s, 1) by unfold FSt.truncate; rw [if_neg g, if_pos (.inl g1)]] at h
    (conv => whnf)
    exact h
  have g1 : ¬ n < 0 := by simpa using g1
  (conv => whnf)
  refine br_intro (fun g2 => ?_) (fun g2 => ?_)
  · have g2 : (v.b.length : Int) < n := by rw [hl] at g2; simpa using g2
    rw [show s.truncate name n = (s, 1) by unfold FSt.truncate; rw [if_neg g, if_pos (.inr (by rw [ev]; exact g2))]] at h
    (conv => whnf)
    exact h
  have g2 : ¬ (v.b.length : Int) < n := by rw [hl] at g2; simpa using g2
  rw [show s.truncate name n = s.act false (cutF name n.toNat) by unfold FSt.truncate; rw [if_neg g, if_neg (by rw [ev]; omega)]] at h
  obtain ⟨k, rfl⟩ := Int.eq_ofNat_of_zero_le (show 0 ≤ n by omega)
  rw [Int.toNat_natCast] at h
  (conv => whnf)
  refine actT_calls s name v k ev (by omega) hg false h1 h2 ?_
  (conv => whnf)
  exact h
theorem Rename_calls (s : FSt) (a b : B) (h1 : okN s.fail) (h2 : okN s.fall) {R} (h : R (vi (s.rename a b).2) [fsC (s.rename a b).1 1, fsM (s.rename a b).1]) : ACalls Tryz.prog 100 [.ptr 0 0, vs a, vs b] [fsC s 1, fsM s] R := by
  refine acalls_of_xwp (an := an100) tab_ok Tryz.func100 ?_
  (conv => whnf)
  refine may_calls s a ?_
  (conv => whnf)
  refine br_intro (fun g => ?_) (fun g => ?_)
  · have g : s.may a ≠ 0 := by simpa using g
    rw [show s.rename a b = (s, s.may a) by simp [FSt.rename, g]] at h
    (conv => whnf)
    exact h
  have g : ¬ s.may a ≠ 0 := by simpa using g
  rw [show s.rename a b = s.act false (renF a b) by unfold FSt.rename; rw [if_neg g]] at h
  (conv => whnf)
  refine actR_calls s a b (may_mem g).2 false h1 h2 ?_
  (conv => whnf)
  exact h
theorem Remove_calls (s : FSt) (name : B) (h1 : okN s.fail) (h2 : okN s.fall) {R} (h : R (vi (s.remove name).2) [fsC (s.remove name).1 1, fsM (s.remove name).1]) : ACalls Tryz.prog 62 [.ptr 0 0, vs name] [fsC s 1, fsM s] R := by
  refine acalls_of_xwp (an := an62) tab_ok Tryz.func62 ?_
  (conv => whnf)
  refine may_calls s name ?_
  (conv => whnf)
  refine br_intro (fun g => ?_) (fun g => ?_)
  · have g : s.may name ≠ 0 := by simpa using g
    rw [show s.remove name = (s, s.may name) by simp [FSt.remove, g]] at h
    (conv => whnf)
    exact h
  have g : ¬ s.may name ≠ 0 := by simpa using g
  rw [show s.remove name = s.act false (fun m => dl m name) by unfold FSt.remove; rw [if_neg g]] at h
  (conv => whnf)
  refine actD_calls s name false h1 h2 ?_
  (conv => whnf)
  exact h
end Go.Abs
end

section
/- The file system's crash. -/
set_option maxRecDepth 100000
set_option maxHeartbeats 2000000
set_option linter.unusedVariables false
set_option linter.unusedSimpArgs false
namespace Go.Abs
open Go Go.Proofs
attribute [local irreducible] ibits byteAt strLt firstIdx

theorem crashF_same {n : B} {l : List B} {keep : List Int} {m : FM} (h : (gF m n).safe = (gF m n).b.length) : crashF (n :: l) keep m = crashF l keep m := by
  conv => lhs; unfold crashF
  rw [if_pos h]
theorem crashF_none {n : B} {l : List B} {m : FM} (h : ¬ (gF m n).safe = (gF m n).b.length) : crashF (n :: l) [] m = crashF l [] (pt m n ⟨(gF m n).b.take (gF m n).safe, (gF m n).safe⟩) := by
  conv => lhs; unfold crashF
  rw [if_neg h]
theorem crashF_more {n : B} {l : List B} {k : Int} {keep : List Int} {m : FM} (h : ¬ (gF m n).safe = (gF m n).b.length) (hs : (gF m n).safe ≤ (gF m n).b.length) {z : Nat} (hz : (z : Int) = (gF m n).safe + min (max k 0) ((gF m n).b.length - (gF m n).safe : Int)) :
    crashF (n :: l) (k :: keep) m = crashF l keep (pt m n ⟨(gF m n).b.take z, z⟩) := by
  conv => lhs; unfold crashF
  rw [if_neg h]
  have : z = (gF m n).safe + (min (max k 0) ((gF m n).b.length - (gF m n).safe : Int)).toNat := by omega
  rw [this]
theorem Crash_calls (s : FSt) (keep : List Int) {nb fb : Nat} (ho : FOk s nb fb) (hnb : nb < 1000000) (hfb : fb < 100000000) (hk : keep.length < 1000000) {R} (h : R (.tup []) [fsC (s.crash keep) 1, fsM (s.crash keep)]) : ACalls Tryz.prog 26 [.ptr 0 0, .sl none 1 (intsZ keep)] [fsC s 1, fsM s] R := by
  refine acalls_of_xwp (an := an26) tab_ok Tryz.func26 ?_
  have hsl := strs_length s.names
  have hnl : s.names.length = s.fs.length := by rw [(names_perm s).length_eq]; simp [kys]
  have hll := ho.m.len
  (conv => whnf)
  refine fsNames_calls s (by omega) ho.m.names ho.m.nodup ?_
  (conv => whnf)
  refine LoopP.ind3 (fun (i : Nat) (kp : List Int) (m : FM) => [(1, .sl none 1 (intsZ kp)), (12, vi i)]) (fun i kp m => [(0, fsC s 1), (1, .map (amap fEnc m))]) (fun i _ _ => s.names.length - i)
    (fun i kp m => i ≤ s.names.length ∧ FMOk m nb fb ∧ kys m = kys s.fs ∧ kp.length ≤ keep.length ∧ crashF (s.names.drop i) kp m = crashF s.names keep s.fs) 0 keep s.fs rfl ⟨by omega, ho.m, rfl, by omega, rfl⟩ ?_
  rintro i kp m ⟨h0, hm, hky, hkl, hcr⟩ IH
  have hil := intsZ_length kp
  (conv => whnf)
  refine br_intro (fun hc => ?_) (fun hc => ?_)
  · have hc := lt_of_decE hsl hc
    rw [List.drop_eq_getElem_cons hc] at hcr
    have hin : s.names[i] ∈ kys m := by rw [hky]; exact (names_perm s).mem_iff.1 (List.getElem_mem hc)
    obtain ⟨v, e⟩ := lk_mem hin
    have ev : gF m s.names[i] = v := by simp [gF, e]
    have hg := hm.get s.names[i]
    rw [ev] at hg
    have hvl := bel_length v.b
    (conv => whnf); (repeat ((with_reducible refine must_intro ?_ ?_); exact decide_eq_true (by omega); (conv => whnf)))
    refine idxK_map_intro (show (i : Int).toNat < s.names.length by simpa using hc) ?_
    rw [show s.names[(i : Int).toNat]'(by simpa using hc) = s.names[i] from by congr 1]
    (conv => whnf)
    rw [amap_find, e]
    (conv => whnf)
    rw [hvl]
    refine br_intro (fun g => ?_) (fun g => ?_)
    · have g : (v.safe : Int) = (v.b.length : Int) := by simpa using g
      rw [crashF_same (by rw [ev]; omega)] at hcr
      (conv => whnf)
      rw [i64_nat (by omega)]
      exact IH (i + 1) kp m ⟨by omega, hm, hky, hkl, hcr⟩ (by omega)
    have g : ¬ (v.safe : Int) = (v.b.length : Int) := by simpa using g
    have g' : ¬ (gF m s.names[i]).safe = (gF m s.names[i]).b.length := by rw [ev]; omega
    have put : ∀ (z : Nat), v.safe ≤ z → z ≤ v.b.length → FMOk (pt m s.names[i] ⟨v.b.take z, z⟩) nb fb ∧ kys (pt m s.names[i] ⟨v.b.take z, z⟩) = kys s.fs := fun z z1 z2 =>
      ⟨hm.put_old hin (by simp; omega) (by simp; omega) (by omega), by rw [kys_pt hin, hky]⟩
    cases kp with
    | nil =>
      rw [crashF_none g', ev] at hcr
      have ew : IntKind.i64.wrap ((v.safe : Int) + 0) = v.safe := by rw [wrap_i64 (by omega) (by omega)]; omega
      have eqm := amap_put fEnc m s.names[i] ⟨v.b.take v.safe, v.safe⟩
      have hnx := IH (i + 1) [] (pt m s.names[i] ⟨v.b.take v.safe, v.safe⟩) ⟨by omega, (put v.safe (by omega) hg.1).1, (put v.safe (by omega) hg.1).2, by simp, hcr⟩ (by omega)
      dsimp only at hnx
      rw [← eqm] at hnx
      (conv => whnf)
      refine must_intro (decide_eq_true (by rw [ew]; omega)) ?_
      (conv => whnf)
      refine must_intro (decide_eq_true (by rw [ew]; omega)) ?_
      (conv => whnf)
      refine must_intro (decide_eq_true (by rw [ew]; omega)) ?_
      rw [ew]
      (conv => whnf)
      rw [i64_nat (by omega)]
      simp only [fEnc, ← bel_take] at hnx
      exact hnx
    | cons k kp =>
      have w1 : IntKind.i64.wrap (((byteEls v.b).length : Int) - v.safe) = (v.b.length : Int) - v.safe := by rw [hvl, wrap_i64 (by omega) (by omega)]
      obtain ⟨z, hz⟩ : ∃ z : Nat, (z : Int) = v.safe + min (max k 0) (v.b.length - v.safe : Int) := ⟨((v.safe : Int) + min (max k 0) (v.b.length - v.safe : Int)).toNat, by omega⟩
      have hz1 : v.safe ≤ z ∧ z ≤ v.b.length := by omega
      have ew : IntKind.i64.wrap ((v.safe : Int) + if IntKind.i64.wrap (((byteEls v.b).length : Int) - v.safe) < if k < 0 then 0 else k then IntKind.i64.wrap (((byteEls v.b).length : Int) - v.safe) else if k < 0 then 0 else k) = z := by
        rw [w1]
        have : ((v.safe : Int) + if ((v.b.length : Int) - v.safe) < if k < 0 then 0 else k then ((v.b.length : Int) - v.safe) else if k < 0 then 0 else k) = z := by
          rw [hz]
          split <;> split <;> omega
        rw [this, wrap_i64 (by omega) (by omega)]
      have et : List.drop (Int.toNat 1) (List.take (((intsZ (k :: kp)).length : Int)).toNat (intsZ (k :: kp))) = intsZ kp := by
        rw [Int.toNat_natCast, List.take_length]; rfl
      rw [crashF_more g' (by rw [ev]; exact hg.1) (z := z) (by rw [ev]; exact hz), ev] at hcr
      have eqm := amap_put fEnc m s.names[i] ⟨v.b.take z, z⟩
      have hnx := IH (i + 1) kp (pt m s.names[i] ⟨v.b.take z, z⟩) ⟨by omega, (put z hz1.1 hz1.2).1, (put z hz1.1 hz1.2).2, by simp at hkl; omega, hcr⟩ (by omega)
      dsimp only at hnx
      rw [← eqm] at hnx
      (conv => whnf)
      refine br_true (decide_eq_true (by rw [hil]; simp)) ?_
      (conv => whnf)
      refine must_intro (decide_eq_true (by rw [hil]; simp; omega)) ?_
      (conv => whnf)
      refine must_intro (decide_eq_true (by omega)) ?_
      (conv => whnf)
      refine must_intro (decide_eq_true (by rw [ew]; omega)) ?_
      (conv => whnf)
      refine must_intro (decide_eq_true (by rw [ew]; omega)) ?_
      (conv => whnf)
      refine must_intro (decide_eq_true (by rw [ew]; omega)) ?_
      rw [ew, et]
      (conv => whnf)
      rw [i64_nat (by omega)]
      simp only [fEnc, ← bel_take] at hnx
      exact hnx
  · have hc := ge_of_decE hsl hc
    rw [List.drop_eq_nil_of_le hc] at hcr
    have hcr : m = crashF s.names keep s.fs := hcr
    (conv => whnf)
    rw [hcr]
    exact h
end Go.Abs
end

section
/- Acts upon a file system; are two the same. -/
set_option maxRecDepth 100000
set_option maxHeartbeats 4000000
set_option linter.unusedVariables false
set_option linter.unusedSimpArgs false
namespace Go.Abs
open Go Go.Proofs
attribute [local irreducible] ibits byteAt strLt firstIdx

end Go.Abs
end

section
/- The statements of vfs: how much is gone through; the chapter's example; arguments. -/
set_option maxRecDepth 100000
set_option maxHeartbeats 4000000
set_option linter.unusedVariables false
set_option linter.unusedSimpArgs false
namespace Go.Abs
open Go Go.Proofs
attribute [local irreducible] ibits byteAt strLt firstIdx

/-! ### arguments -/
/-! ### the chapter's example -/
end Go.Abs
end

section
/- The statements VfsSafe and VfsFails. -/
set_option maxRecDepth 100000
set_option maxHeartbeats 8000000
set_option linter.unusedVariables false
set_option linter.unusedSimpArgs false
namespace Go.Abs
open Go Go.Proofs
attribute [local irreducible] ibits byteAt strLt firstIdx

end Go.Abs
end

section
/- The statement VfsFails. -/
set_option maxRecDepth 100000
set_option maxHeartbeats 8000000
set_option linter.unusedVariables false
set_option linter.unusedSimpArgs false
namespace Go.Abs
open Go Go.Proofs
attribute [local irreducible] ibits byteAt strLt firstIdx

end Go.Abs
end

section
/- journal.Start. -/
set_option maxRecDepth 100000
set_option maxHeartbeats 4000000
set_option linter.unusedVariables false
set_option linter.unusedSimpArgs false
namespace Go.Abs
open Go Go.Proofs Dig
attribute [local irreducible] ibits byteAt strLt firstIdx

theorem sIndex_calls (l : List B) (s : B) (hl : l.length < 1000000) {R} (h : ∀ p, p = placeI l s → R (vi p) []) : ACalls Tryz.prog 91 [.sl none 1 (strs l), vs s] [] R := by
  refine acalls_of_xwp (an := an91) tab_ok Tryz.func91 ?_
  have hsl := strs_length l
  (conv => whnf)
  refine LoopP.ind1 (fun (i : Nat) => [(8, vi i)]) (fun i => []) (fun i => l.length - i) (fun i => i ≤ l.length ∧ ∀ j, j < i → l[j]? ≠ some s) 0 rfl ⟨by omega, fun j hj => by omega⟩ ?_
  rintro i ⟨h0, h1⟩ IH
  (conv => whnf)
  refine br_intro (fun hc => ?_) (fun hc => ?_)
  · have hc := lt_of_decE hsl hc
    (conv => whnf); (repeat ((with_reducible refine must_intro ?_ ?_); exact decide_eq_true (by omega); (conv => whnf)))
    refine idxK_map_intro (show (i : Int).toNat < l.length by simpa using hc) ?_
    rw [show l[(i : Int).toNat]'(by simpa using hc) = l[i] from by congr 1]
    (conv => whnf)
    refine br_intro (fun g => ?_) (fun g => ?_)
    · have g : s = l[i] := by
        have g : ofB s = ofB l[i] := of_decide_eq_true g
        exact ofB_inj g
      (conv => whnf)
      refine h _ ?_
      rw [placeI, placeOf_of (by rw [List.getElem?_eq_getElem hc, g]) h1]
    · have g : s ≠ l[i] := by
        have g : ¬ ofB s = ofB l[i] := of_decide_eq_false g
        exact fun e => g (by rw [e])
      (conv => whnf)
      rw [i64_nat (by omega)]
      refine IH (i + 1) ⟨hc, fun j hj => ?_⟩ (by omega)
      rcases Nat.lt_succ_iff_lt_or_eq.1 hj with hj | rfl
      · exact h1 j hj
      · rw [List.getElem?_eq_getElem hc]
        exact fun e => g (Option.some.inj e).symm
  · have hc := ge_of_decE hsl hc
    (conv => whnf)
    refine h _ ?_
    rw [placeI, placeOf_none.2]
    intro hm
    obtain ⟨j, hj, e⟩ := List.getElem_of_mem hm
    exact h1 j (by omega) (by rw [List.getElem?_eq_getElem hj, e])
theorem sContains_calls (l : List B) (s : B) (hl : l.length < 1000000) {R} (h : R (.val (.bool (decide (s ∈ l)))) []) : ACalls Tryz.prog 61 [.sl none 1 (strs l), vs s] [] R := by
  refine acalls_of_xwp (an := an61) tab_ok Tryz.func61 ?_
  (conv => whnf)
  refine sIndex_calls l s hl fun p hp => ?_
  have e : decide (p ≥ 0) = decide (s ∈ l) := by
    have := placeI_neg (l := l) (s := s)
    rw [← hp] at this
    by_cases hm : s ∈ l
    · rw [decide_eq_true hm, decide_eq_true]
      refine Classical.byContradiction fun hn => this.1 (by omega) hm
    · rw [decide_eq_false hm, decide_eq_false]
      have := this.2 hm
      omega
  (conv => whnf)
  rw [e]
  exact h

/-! ### the acts -/
def bxO : AObj := .cells 26 [.ptr 1 0]
def byO (b : B) : AObj := .cells 82 [.sl none 1 (byteEls b)]
theorem st1_calls (s : FSt) (aside : B) (h1 : okN s.fail) (h2 : okN s.fall) {R} (h : R (vi (s.remove aside).2) [bxO, fsC (s.remove aside).1 2, fsM (s.remove aside).1]) :
    ACalls Tryz.prog 95 [.ptr 0 0, .cptr [vs aside] 0] [bxO, fsC s 2, fsM s] R := by
  refine acalls_of_xwp (an := an95) tab_ok Tryz.func95 ?_
  (conv => whnf)
  refine Remove_calls s aside h1 h2 ?_
  (conv => whnf)
  exact h
theorem st2_calls (s : FSt) (aside b : B) (h1 : okN s.fail) (h2 : okN s.fall) (hb : b.length < 1000000) (hg : (gF s.fs aside).b.length < 100000000) {R} (h : R (vi (s.append aside b).2) [bxO, fsC (s.append aside b).1 2, fsM (s.append aside b).1, byO b]) :
    ACalls Tryz.prog 96 [.ptr 0 0, .cptr [vs aside] 0, .ptr 3 0] [bxO, fsC s 2, fsM s, byO b] R := by
  refine acalls_of_xwp (an := an96) tab_ok Tryz.func96 ?_
  (conv => whnf)
  refine Append_calls s aside b h1 h2 hb hg ?_
  (conv => whnf)
  exact h
theorem st3_calls (s : FSt) (aside : B) (h1 : okN s.fail) (h2 : okN s.fall) {R} (h : R (vi (s.sync aside).2) [bxO, fsC (s.sync aside).1 2, fsM (s.sync aside).1]) :
    ACalls Tryz.prog 98 [.ptr 0 0, .cptr [vs aside] 0] [bxO, fsC s 2, fsM s] R := by
  refine acalls_of_xwp (an := an98) tab_ok Tryz.func98 ?_
  (conv => whnf)
  refine Sync_calls s aside h1 h2 ?_
  (conv => whnf)
  exact h
theorem st4_calls (s : FSt) (aside name : B) (h1 : okN s.fail) (h2 : okN s.fall) {R} (h : R (vi (s.rename aside name).2) [bxO, fsC (s.rename aside name).1 2, fsM (s.rename aside name).1]) :
    ACalls Tryz.prog 99 [.ptr 0 0, .cptr [vs aside] 0, .cptr [vs name] 0] [bxO, fsC s 2, fsM s] R := by
  refine acalls_of_xwp (an := an99) tab_ok Tryz.func99 ?_
  (conv => whnf)
  refine Rename_calls s aside name h1 h2 ?_
  (conv => whnf)
  exact h
/-- The acts, up to the first that answers an error. -/
def run3 (s : FSt) (name aside b : B) : FSt × Int :=
  if (s.append aside b).2 ≠ 0 then s.append aside b
  else if ((s.append aside b).1.sync aside).2 ≠ 0 then (s.append aside b).1.sync aside
  else ((s.append aside b).1.sync aside).1.rename aside name
def startP (s : FSt) (name aside b : B) : FSt × Int :=
  if aside ∈ s.names then (if (s.remove aside).2 ≠ 0 then s.remove aside else run3 (s.remove aside).1 name aside b) else run3 s name aside b
def fn1 (aside : B) : AV := .fn (.func 95) [] [.ptr 1 0, .cptr [vs aside] 0]
def fn2 (aside : B) : AV := .fn (.func 96) [] [.ptr 1 0, .cptr [vs aside] 0, .ptr 4 0]
def fn3 (aside : B) : AV := .fn (.func 98) [] [.ptr 1 0, .cptr [vs aside] 0]
def fn4 (aside name : B) : AV := .fn (.func 99) [] [.ptr 1 0, .cptr [vs aside] 0, .cptr [vs name] 0]
def bx1 : AObj := .cells 26 [.ptr 2 0]
theorem run3_calls (s : FSt) (name aside b : B) {nb fb : Nat} (hk : FOk s nb fb) (hfb : fb ≤ 90000000) (hna : aside.length < 1000000) (hb : b.length < 1000000) {R}
    (h : R (vi (run3 s name aside b).2) [.fns 75 [fn2 aside, fn3 aside, fn4 aside name] 0, bx1, fsC (run3 s name aside b).1 3, fsM (run3 s name aside b).1, byO b]) :
    ACalls Tryz.prog 101 [.slv 0 0 0 0 3] [.fns 75 [fn2 aside, fn3 aside, fn4 aside name] 0, bx1, fsC s 3, fsM s, byO b] R := by
  refine acalls_of_xwp (an := an101) tab_ok Tryz.func101 ?_
  (conv => whnf)
  refine LoopP.step ?_
  (conv => whnf)
  refine ⟨rfl, ?_⟩
  (conv => whnf)
  refine st2_calls s aside b hk.fail hk.fall hb (by have := (hk.m.get aside).2; omega) ?_
  have hk2 := append_ok hk (name := aside) (b := b) hna
  (conv => whnf)
  refine br_intro (fun g => ?_) (fun g => ?_)
  · have g : (s.append aside b).2 ≠ 0 := by simpa using g
    rw [run3, if_pos g] at h
    (conv => whnf)
    exact h
  have g : ¬ (s.append aside b).2 ≠ 0 := by simpa using g
  rw [run3, if_neg g] at h
  generalize (s.append aside b).1 = s1 at h hk2 ⊢
  (conv => whnf)
  refine LoopP.step ?_
  (conv => whnf)
  refine ⟨rfl, ?_⟩
  (conv => whnf)
  refine st3_calls s1 aside hk2.fail hk2.fall ?_
  have hk3 := sync_ok hk2 (name := aside)
  (conv => whnf)
  refine br_intro (fun g2 => ?_) (fun g2 => ?_)
  · have g2 : (s1.sync aside).2 ≠ 0 := by simpa using g2
    rw [if_pos g2] at h
    (conv => whnf)
    exact h
  have g2 : ¬ (s1.sync aside).2 ≠ 0 := by simpa using g2
  rw [if_neg g2] at h
  generalize (s1.sync aside).1 = s2 at h hk3 ⊢
  (conv => whnf)
  refine LoopP.step ?_
  (conv => whnf)
  refine ⟨rfl, ?_⟩
  (conv => whnf)
  refine st4_calls s2 aside name hk3.fail hk3.fall ?_
  (conv => whnf)
  refine br_intro (fun g3 => ?_) (fun g3 => ?_)
  · (conv => whnf)
    exact h
  have g3 : (s2.rename aside name).2 = 0 := by simpa using g3
  rw [g3] at h
  (conv => whnf)
  refine LoopP.step ?_
  (conv => whnf)
  exact h
theorem run4_calls (s : FSt) (name aside b : B) {nb fb : Nat} (hk : FOk s nb fb) (hfb : fb ≤ 90000000) (hna : aside.length < 1000000) (hb : b.length < 1000000) {R}
    (h : R (vi (if (s.remove aside).2 ≠ 0 then s.remove aside else run3 (s.remove aside).1 name aside b).2) [.fns 75 [fn1 aside, fn2 aside, fn3 aside, fn4 aside name] 1, bx1, fsC (if (s.remove aside).2 ≠ 0 then s.remove aside else run3 (s.remove aside).1 name aside b).1 3, fsM (if (s.remove aside).2 ≠ 0 then s.remove aside else run3 (s.remove aside).1 name aside b).1, byO b]) :
    ACalls Tryz.prog 101 [.slv 0 0 1 0 4] [.fns 75 [fn1 aside, fn2 aside, fn3 aside, fn4 aside name] 1, bx1, fsC s 3, fsM s, byO b] R := by
  refine acalls_of_xwp (an := an101) tab_ok Tryz.func101 ?_
  (conv => whnf)
  refine LoopP.step ?_
  (conv => whnf)
  refine ⟨rfl, ?_⟩
  (conv => whnf)
  refine st1_calls s aside hk.fail hk.fall ?_
  have hk0 := remove_ok hk (name := aside)
  (conv => whnf)
  refine br_intro (fun g => ?_) (fun g => ?_)
  · have g : (s.remove aside).2 ≠ 0 := by simpa using g
    rw [if_pos g] at h
    (conv => whnf)
    exact h
  have g : ¬ (s.remove aside).2 ≠ 0 := by simpa using g
  rw [if_neg g] at h
  clear hk
  generalize (s.remove aside).1 = s at h hk0 ⊢
  have hk := hk0
  clear hk0
  (conv => whnf)
  refine LoopP.step ?_
  (conv => whnf)
  refine ⟨rfl, ?_⟩
  (conv => whnf)
  refine st2_calls s aside b hk.fail hk.fall hb (by have := (hk.m.get aside).2; omega) ?_
  have hk2 := append_ok hk (name := aside) (b := b) hna
  (conv => whnf)
  refine br_intro (fun g => ?_) (fun g => ?_)
  · have g : (s.append aside b).2 ≠ 0 := by simpa using g
    rw [run3, if_pos g] at h
    (conv => whnf)
    exact h
  have g : ¬ (s.append aside b).2 ≠ 0 := by simpa using g
  rw [run3, if_neg g] at h
  generalize (s.append aside b).1 = s1 at h hk2 ⊢
  (conv => whnf)
  refine LoopP.step ?_
  (conv => whnf)
  refine ⟨rfl, ?_⟩
  (conv => whnf)
  refine st3_calls s1 aside hk2.fail hk2.fall ?_
  have hk3 := sync_ok hk2 (name := aside)
  (conv => whnf)
  refine br_intro (fun g2 => ?_) (fun g2 => ?_)
  · have g2 : (s1.sync aside).2 ≠ 0 := by simpa using g2
    rw [if_pos g2] at h
    (conv => whnf)
    exact h
  have g2 : ¬ (s1.sync aside).2 ≠ 0 := by simpa using g2
  rw [if_neg g2] at h
  generalize (s1.sync aside).1 = s2 at h hk3 ⊢
  (conv => whnf)
  refine LoopP.step ?_
  (conv => whnf)
  refine ⟨rfl, ?_⟩
  (conv => whnf)
  refine st4_calls s2 aside name hk3.fail hk3.fall ?_
  (conv => whnf)
  refine br_intro (fun g3 => ?_) (fun g3 => ?_)
  · (conv => whnf)
    exact h
  have g3 : (s2.rename aside name).2 = 0 := by simpa using g3
  rw [g3] at h
  (conv => whnf)
  refine LoopP.step ?_
  (conv => whnf)
  exact h
theorem Start_ok (s : FSt) (name aside b : B) (hne : name ≠ aside) (v : Int) (l : List Rc) {nb fb : Nat} (hk : FOk s nb fb) (hnb : nb ≤ 900000) (hfb : fb ≤ 80000000) (hna : aside.length < 1000000) (hb : b.length < 1000000)
    (hput : ∀ {R : AV → List AObj → Prop}, R (.tup [.sl none 1 (byteEls b), vi 0]) [] → ACalls Tryz.prog 82 [vi v, .sl none 7 (recs l)] [] R) {R} (h : R (vi (startP s name aside b).2) [fsC (startP s name aside b).1 1, fsM (startP s name aside b).1]) :
    ACalls Tryz.prog 63 [.ptr 0 0, vs name, vs aside, vi v, .sl none 7 (recs l)] [fsC s 1, fsM s] R := by
  refine acalls_of_xwp (an := an63) tab_ok Tryz.func63 ?_
  have hlen := hk.m.len
  have hnl : s.names.length ≤ nb := by
    rw [(names_perm s).length_eq]
    simpa [kys] using hlen
  (conv => whnf)
  refine hput ?_
  (conv => whnf)
  refine br_false (decide_eq_false (fun e => hne (ofB_inj e))) ?_
  (conv => whnf)
  refine fsNames_calls s (by omega) hk.m.names hk.m.nodup ?_
  (conv => whnf)
  refine sContains_calls s.names aside (by omega) ?_
  (conv => whnf)
  refine br_intro (fun g => ?_) (fun g => ?_)
  · have g := of_decide_eq_true g
    unfold startP at h
    rw [if_pos g] at h
    (conv => whnf)
    refine ⟨by simp only [List.length_cons, List.length_nil]; decide, ?_⟩
    (conv => whnf)
    refine ⟨⟨rfl, rfl⟩, by simp only [List.length_cons, List.length_nil]; decide, ?_⟩
    (conv => whnf)
    refine run4_calls s name aside b hk (by omega) hna hb ?_
    (conv => whnf)
    exact h
  · have g := of_decide_eq_false g
    unfold startP at h
    rw [if_neg g] at h
    (conv => whnf)
    refine ⟨by simp only [List.length_cons, List.length_nil]; decide, ?_⟩
    (conv => whnf)
    refine run3_calls s name aside b hk (by omega) hna hb ?_
    (conv => whnf)
    exact h
end Go.Abs
end

section
/- journal.Open; the chapter's example; JournalNil. -/
set_option maxRecDepth 100000
set_option maxHeartbeats 4000000
set_option linter.unusedVariables false
set_option linter.unusedSimpArgs false
namespace Go.Abs
open Go Go.Proofs Dig
attribute [local irreducible] ibits byteAt strLt firstIdx

/-- No file. -/
def zF : AV := .agg [vi 0, nlA, nlA, vi 0]
theorem Open_ok (s : FSt) (name : B) (v : Int) (l : List Rc) (hin : name ∈ kys s.fs) (hb : (gF s.fs name).b = fileP v l) (hlen : (fileP v l).length < 1000000)
    (hget : ∀ {R : AV → List AObj → Prop}, R (.tup [.agg (fileA v l), vi 0]) [] → ACalls Tryz.prog 83 [.sl none 1 (byteEls (fileP v l))] [] R) {R} (h : R (.tup [.agg (fileA v l), vi 0]) [fsC s 1, fsM s]) :
    ACalls Tryz.prog 64 [.ptr 0 0, vs name] [fsC s 1, fsM s] R := by
  refine acalls_of_xwp (an := an64) tab_ok Tryz.func64 ?_
  have hbl := bel_length (fileP v l)
  (conv => whnf)
  refine fsRead_calls s name (by rw [hb]; omega) (fun _ => ?_) (fun hno => absurd hin hno)
  rw [hb]
  (conv => whnf)
  refine hget ?_
  (conv => whnf)
  refine br_false (decide_eq_false (by rw [hbl]; omega)) ?_
  (conv => whnf)
  exact h
def jr : Rc := ⟨1, [97], 0, [], 7, 0, []⟩
theorem jr_may : ∀ r ∈ [jr], mayP 2 r = true := by decide +kernel
theorem fs0_fok : FOk fs0 0 0 := ⟨⟨by decide, by simp [fs0], by simp [fs0], by simp [fs0], by simp [fs0, kys]⟩, (by decide : -1 ≤ (-1 : Int) ∧ (-1 : Int) < 9223372036854775808), (by decide : -1 ≤ (-1 : Int) ∧ (-1 : Int) < 9223372036854775808)⟩
/-- A journal begun on an empty file system. -/
theorem start_fs0 (name aside b : B) (hne : name ≠ aside) : startP fs0 name aside b = (⟨[(name, ⟨b, b.length⟩)], -1, -1, false⟩, 0) := by
  have h1 : fs0.append aside b = (⟨[(aside, ⟨b, 0⟩)], -1, -1, false⟩, 0) := rfl
  have h2 : (FSt.mk [(aside, ⟨b, 0⟩)] (-1) (-1) false).sync aside = (⟨[(aside, ⟨b, b.length⟩)], -1, -1, false⟩, 0) := by
    simp [FSt.sync, FSt.may, FSt.act, lk, syncF, pt, gF, cnt]
  have h3 : (FSt.mk [(aside, ⟨b, b.length⟩)] (-1) (-1) false).rename aside name = (⟨[(name, ⟨b, b.length⟩)], -1, -1, false⟩, 0) := by
    simp [FSt.rename, FSt.may, FSt.act, lk, renF, pt, dl, gF, cnt]
  have hn : aside ∉ fs0.names := by simp [FSt.names, sortB, fs0, kys]
  unfold startP run3
  rw [if_neg hn, h1]
  simp only [h2, h3, ne_eq, not_true_eq_false, if_false]
end Go.Abs
end

section
/- Whatever act of Start fails, or falls: the journal that was there, or the new one, whole (plain; no program in sight). -/
set_option maxRecDepth 100000
set_option linter.unusedVariables false
set_option linter.unusedSimpArgs false
namespace Go.Abs
open Go Go.Proofs Dig

theorem act_cases (s : FSt) (late : Bool) (g : FM → FM) : ((s.act late g).2 = 0 ∧ (s.act late g).1.fs = g s.fs) ∨ ((s.act late g).2 ≠ 0 ∧ ((s.act late g).1.fs = s.fs ∨ (late = true ∧ (s.act late g).1.fs = g s.fs))) := by
  unfold FSt.act
  split
  · refine .inr ⟨(by decide : (7 : Int) ≠ 0), ?_⟩
    cases late
    · exact .inl rfl
    · exact .inr ⟨rfl, rfl⟩
  · split
    · exact .inr ⟨(by decide : (8 : Int) ≠ 0), .inl rfl⟩
    · exact .inl ⟨rfl, rfl⟩
/-- A file that is there, all of it safe. -/
def Whole (s : FSt) (name : B) (b : B) : Prop := lk s.fs name = some ⟨b, b.length⟩
theorem remove_cases (s : FSt) {log new F0 : B} (hnd : (kys s.fs).Nodup) (hne : log ≠ new) (h : Whole s log F0) :
    ((s.remove new).2 = 0 ∧ Whole (s.remove new).1 log F0 ∧ lk (s.remove new).1.fs new = none) ∨ ((s.remove new).2 ≠ 0 ∧ Whole (s.remove new).1 log F0) := by
  have hg : lk (dl s.fs new) log = lk s.fs log ∧ lk (dl s.fs new) new = none := by
    rw [lk_dl hnd, lk_dl hnd, if_neg (Ne.symm hne), if_pos rfl]
    exact ⟨rfl, rfl⟩
  unfold FSt.remove
  split
  · rename_i hm
    exact .inr ⟨hm, h⟩
  · rcases act_cases s false (fun m => dl m new) with ⟨e, f⟩ | ⟨e, f | ⟨hl, _⟩⟩
    · refine .inl ⟨e, ?_, ?_⟩
      · unfold Whole; rw [f, hg.1]; exact h
      · rw [f]; exact hg.2
    · refine .inr ⟨e, ?_⟩
      unfold Whole; rw [f]; exact h
    · cases hl
theorem run3_ok {s : FSt} {nb fb : Nat} (h : FOk s nb fb) {name aside b : B} (hn : name.length < 1000000) (ha : aside.length < 1000000) : FOk (run3 s name aside b).1 (nb + 2) (fb + b.length) := by
  unfold run3
  have h1 := append_ok h (b := b) ha
  have h2 := sync_ok h1 (name := aside)
  have h3 := rename_ok h2 (a := aside) hn
  split
  · exact h1.mono (by omega) (by omega)
  · split
    · exact h2.mono (by omega) (by omega)
    · exact h3
theorem start_ok {s : FSt} {nb fb : Nat} (h : FOk s nb fb) {name aside b : B} (hn : name.length < 1000000) (ha : aside.length < 1000000) : FOk (startP s name aside b).1 (nb + 2) (fb + b.length) := by
  unfold startP
  split
  · split
    · exact (remove_ok h).mono (by omega) (by omega)
    · exact run3_ok (remove_ok h) hn ha
  · exact run3_ok h hn ha
end Go.Abs
end

section
/- JournalStart. -/
set_option maxRecDepth 100000
set_option maxHeartbeats 4000000
set_option linter.unusedVariables false
set_option linter.unusedSimpArgs false
namespace Go.Abs
open Go Go.Proofs Dig
attribute [local irreducible] ibits byteAt strLt firstIdx

def logB : B := [108, 111, 103]
def newB : B := [110, 101, 119]
def is3 (v : Int) : Prop := v = 1 ∨ v = 2 ∨ v = 3
theorem cPut_any {v : Int} (hv : is3 v) (l : List Rc) (hl : l.length ≤ 1000) (hd : ∀ r ∈ l, r.deps.length < 100000) {R} (hy : (∀ r ∈ l, mayP v r = true) → R (.tup [.sl none 1 (byteEls (fileP v l)), vi 0]) []) (hn : (¬ ∀ r ∈ l, mayP v r = true) → R (.tup [.val (.slice none 0 0), vi 1]) []) :
    ACalls Tryz.prog 82 [vi v, .sl none 7 (recs l)] [] R := by
  rcases hv with rfl | rfl | rfl
  · exact cPut_1 l hl hd hy hn
  · exact cPut_2 l hl hd hy hn
  · exact cPut_3 l hl hd hy hn
theorem cGet_any {v : Int} (hv : is3 v) (l : List Rc) (hm : ∀ r ∈ l, mayP v r = true) (hl : l.length ≤ 300) {R} (h : R (.tup [.agg (fileA v l), vi 0]) []) : ACalls Tryz.prog 83 [.sl none 1 (byteEls (fileP v l))] [] R := by
  rcases hv with rfl | rfl | rfl
  · exact cGet_1 l hm hl h
  · exact cGet_2 l hm hl h
  · exact cGet_3 l hm hl h
theorem fileP_small {v : Int} {l : List Rc} (hm : ∀ r ∈ l, mayP v r = true) (hl : l.length ≤ 300) : (fileP v l).length < 1000000 := by
  have h := paysP_frames (v := v) (l := l) (t := []) (fun r hr => may_all (hm r hr)) (by simp; omega)
  rw [fileP_len]
  omega
theorem log_new : logB ≠ newB := by decide
def fsL (F : B) : FSt := ⟨[(logB, ⟨F, F.length⟩)], -1, -1, false⟩
theorem fsL_ok (F : B) : FOk (fsL F) 1 F.length := ⟨⟨by simp [fsL, kys], by simp [fsL], by simp [fsL], by simp [fsL], by simp [fsL, kys, logB]⟩, (by decide : -1 ≤ (-1 : Int) ∧ (-1 : Int) < 9223372036854775808), (by decide : -1 ≤ (-1 : Int) ∧ (-1 : Int) < 9223372036854775808)⟩
theorem fsL_whole (F : B) : Whole (fsL F) logB F := by simp [Whole, fsL, lk]
theorem fail_ok {s : FSt} {nb fb : Nat} (h : FOk s nb fb) {n : Int} (hn : -9223372036854775808 ≤ n ∧ n < 9223372036854775808) : FOk ⟨s.fs, capN n, s.fall, s.down⟩ nb fb := ⟨h.m, capN_ok hn, h.fall⟩
theorem fall_ok {s : FSt} {nb fb : Nat} (h : FOk s nb fb) {n : Int} (hn : -9223372036854775808 ≤ n ∧ n < 9223372036854775808) : FOk ⟨s.fs, s.fail, capN n, s.down⟩ nb fb := ⟨h.m, h.fail, capN_ok hn⟩
end Go.Abs
end

section
/- journal.table, frames, Append. -/
set_option maxRecDepth 100000
set_option maxHeartbeats 4000000
set_option linter.unusedVariables false
set_option linter.unusedSimpArgs false
namespace Go.Abs
open Go Go.Proofs Dig
attribute [local irreducible] ibits byteAt strLt firstIdx

theorem table_3 (l : List Rc) (hl : l.length ≤ 1000) (hm : ∀ r ∈ l, mayP 3 r = true) (x : AV) (hx : x = .sl none 1 (ints (endsR 3 l))) (n : Int) {R} (h : R (.tup [.ptr 0 0, vi 0]) (tblS (tblL 3 [] l))) :
    ACalls Tryz.prog 144 [.agg [vi 3, .sl none 7 (recs l), x, vi n]] [] R := by
  subst hx
  refine acalls_of_xwp (an := an144) tab_ok Tryz.func144 ?_
  have hsl := recs_length l
  (conv => whnf)
  refine New_nil ?_
  (conv => whnf)
  by_cases hl0 : l = []
  · subst hl0
    refine LoopP.step ?_
    (conv => whnf)
    exact h
  have hi : 0 < l.length := List.length_pos_iff.2 hl0
  rw [tblS_ne (show tblL 3 [] l ≠ [] from by
    obtain ⟨j, hj⟩ : ∃ j, l.length = j + 1 := ⟨l.length - 1, by omega⟩
    have e : tblL 3 [] l = tbP 3 l (j + 1) := by unfold tbP; rw [← hj, List.take_length]
    rw [e, tbP_succ (by omega)]
    exact addT_ne (by decide) _ _)] at h
  refine LoopP.step ?_
  (conv => whnf)
  refine br_true (by rw [hsl]; exact decide_eq_true (by omega)) ?_
  (conv => whnf); (repeat ((with_reducible refine must_intro ?_ ?_); exact decide_eq_true (by omega); (conv => whnf)))
  refine idxK_map_intro (show (0 : Int).toNat < l.length by simpa using hi) ?_
  rw [show l[(0 : Int).toNat]'(by simpa using hi) = l[0] from rfl]
  (conv => whnf)
  refine sPut_3F l[0] (hm _ (List.getElem_mem hi)) ?_
  (conv => whnf)
  rw [show IntKind.i64.wrap ((0 : Int) + 1) = ((1 : Nat) : Int) from rfl]
  have hT1 : addT 3 [] l[0] = tbP 3 l 1 := (tbP_succ hi).symm
  rw [hT1]
  refine LoopP.ind2 (fun (i : Nat) (T : List B) => [(13, vi i)]) (fun i T => [(freshN 9 0, tblO (freshN 22 0) (freshN 22 1) T), (freshN 22 0, tblR T), (freshN 22 1, tblM T)]) (fun i _ => l.length - i) (fun i T => 1 ≤ i ∧ i ≤ l.length ∧ T = tbP 3 l i) 1 _ rfl ⟨by omega, hi, rfl⟩ ?_
  rintro i T ⟨h00, h0, hT⟩ IH
  (conv => whnf)
  refine br_intro (fun hc => ?_) (fun hc => ?_)
  · have hi := lt_of_decE hsl hc
    have hmt : ∀ r ∈ l.take i, mayP 3 r = true := fun r hr => hm r (List.mem_of_mem_take hr)
    have hTl : T.length ≤ 18000 := by rw [hT]; exact tbP_len hl hmt
    have IH := IH (i + 1) _ ⟨by omega, hi, rfl⟩ (by omega)
    rw [tbP_succ hi, ← hT] at IH
    (conv => whnf); (repeat ((with_reducible refine must_intro ?_ ?_); exact decide_eq_true (by omega); (conv => whnf)))
    refine idxK_map_intro (show (i : Int).toNat < l.length by simpa using hi) ?_
    rw [show l[(i : Int).toNat]'(by simpa using hi) = l[i] from by congr 1]
    (conv => whnf)
    refine sPut_3O l[i] T (by omega) (hm _ (List.getElem_mem hi)) ?_
    (conv => whnf)
    rw [i64_nat (by omega)]
    exact IH
  · have hi := ge_of_decE hsl hc
    rw [show tbP 3 l i = tblL 3 [] l from by unfold tbP; rw [List.take_of_length_le hi]] at hT
    subst hT
    (conv => whnf)
    exact h
theorem jframes_3 (r : Rc) (hm : mayP 3 r = true) (t : List B) (ht : t.length < 80000) {R} (h : R (.tup [.sl none 1 (byteEls (framesP (payP 3 t r))), vi 0]) (tblS (addT 3 t r))) :
    ACalls Tryz.prog 145 [vi 3, .ptr 0 0, .agg r.enc] (tblS t) R := by
  refine acalls_of_xwp (an := { an145 with keep := [(4, [1, 9, 10, 20, 21, 22])] }) tab_ok Tryz.func145 ?_
  rw [tblS_ne (addT_ne (by decide) t r)] at h
  by_cases h0 : t = []
  · subst h0
    obtain ⟨t, ht0⟩ : ∃ t : List B, t = [] := ⟨_, rfl⟩
    rw [show tblS [] = [tblF] from rfl]
    (conv => whnf)
    refine sPut_3F r hm ?_
    rw [← ht0] at h ⊢
    have ht : t.length < 80000 := by rw [ht0]; simp
    have hpl := payP_lens (t := t) (may_all hm) (by omega)
    have hpf := payP_frames (t := t) (may_all hm) (by omega)
    have hpc := payP_len (v := 3) (t := t) (may_all hm).deps
    generalize hps : payP 3 t r = ps at hpl hpf hpc h ⊢
    have hrl := rowsB_length ps
    (conv => whnf)
    refine LoopP.step ?_
    (conv => whnf)
    refine br_true (by rw [hrl]; exact decide_eq_true (by omega)) ?_
    (conv => whnf); (repeat ((with_reducible refine must_intro ?_ ?_); exact decide_eq_true (by omega); (conv => whnf)))
    refine idxK_map_intro (show (0 : Int).toNat < ps.length from by show 0 < ps.length; omega) ?_
    rw [show ps[(0 : Int).toNat]'(by show 0 < ps.length; omega) = ps[0] from rfl]
    (conv => whnf)
    refine ACalls.args (leL.cons (le_nil 1) (leL.refl _)) (framePut_calls [] ps[0] (by simp) (hpl _ (List.getElem_mem _)).1 (hpl _ (List.getElem_mem _)).2 ?_)
    have h1 : frameP ps[0] = framesP (ps.take 1) := by
      rw [show ps.take 1 = [] ++ [ps[0]] from by cases ps with | nil => simp at hpc | cons a l => rfl, framesP_snoc]
      rfl
    rw [List.nil_append, h1]
    (conv => whnf)
    rw [show IntKind.i64.wrap ((0 : Int) + 1) = ((1 : Nat) : Int) from rfl]
    refine LoopP.ind2 (fun (k : Nat) (c : B) => [(10, .sl none 1 (byteEls c)), (22, vi k)]) (fun k c => [(0, tblO (freshN 17 0) (freshN 17 1) (addT 3 t r)), (freshN 17 0, tblR (addT 3 t r)), (freshN 17 1, tblM (addT 3 t r))]) (fun k _ => ps.length - k) (fun k c => k ≤ ps.length ∧ c = framesP (ps.take k)) 1 _ rfl ⟨by omega, rfl⟩ ?_
    rintro k c ⟨hk0, hc0⟩ IH2
    have hcl : c.length ≤ 3008 := by have := framesP_part ps k; rw [hc0]; omega
    (conv => whnf)
    refine br_intro (fun hk => ?_) (fun hk => ?_)
    · have hk := lt_of_decE hrl hk
      have hp := hpl _ (List.getElem_mem hk)
      have hS : c ++ frameP ps[k] = framesP (ps.take (k + 1)) := by
        rw [hc0, List.take_succ_eq_append_getElem hk, framesP_snoc]
      have IH2 := IH2 (k + 1) _ ⟨hk, hS⟩ (by omega)
      (conv => whnf); (repeat ((with_reducible refine must_intro ?_ ?_); exact decide_eq_true (by omega); (conv => whnf)))
      refine idxK_map_intro (show (k : Int).toNat < ps.length by simpa using hk) ?_
      rw [show ps[(k : Int).toNat]'(by simpa using hk) = ps[k] from by congr 1]
      (conv => whnf)
      refine framePut_calls c ps[k] (by omega) hp.1 hp.2 ?_
      (conv => whnf)
      rw [i64_nat (by omega)]
      exact IH2
    · have hk := ge_of_decE hrl hk
      rw [List.take_of_length_le hk] at hc0
      subst hc0
      (conv => whnf)
      exact h
  · rw [tblS_ne h0]
    (conv => whnf)
    refine sPut_3O r t (by omega) hm ?_
    have hpl := payP_lens (t := t) (may_all hm) (by omega)
    have hpf := payP_frames (t := t) (may_all hm) (by omega)
    have hpc := payP_len (v := 3) (t := t) (may_all hm).deps
    generalize hps : payP 3 t r = ps at hpl hpf hpc h ⊢
    have hrl := rowsB_length ps
    (conv => whnf)
    refine LoopP.step ?_
    (conv => whnf)
    refine br_true (by rw [hrl]; exact decide_eq_true (by omega)) ?_
    (conv => whnf); (repeat ((with_reducible refine must_intro ?_ ?_); exact decide_eq_true (by omega); (conv => whnf)))
    refine idxK_map_intro (show (0 : Int).toNat < ps.length from by show 0 < ps.length; omega) ?_
    rw [show ps[(0 : Int).toNat]'(by show 0 < ps.length; omega) = ps[0] from rfl]
    (conv => whnf)
    refine ACalls.args (leL.cons (le_nil 1) (leL.refl _)) (framePut_calls [] ps[0] (by simp) (hpl _ (List.getElem_mem _)).1 (hpl _ (List.getElem_mem _)).2 ?_)
    have h1 : frameP ps[0] = framesP (ps.take 1) := by
      rw [show ps.take 1 = [] ++ [ps[0]] from by cases ps with | nil => simp at hpc | cons a l => rfl, framesP_snoc]
      rfl
    rw [List.nil_append, h1]
    (conv => whnf)
    rw [show IntKind.i64.wrap ((0 : Int) + 1) = ((1 : Nat) : Int) from rfl]
    refine LoopP.ind2 (fun (k : Nat) (c : B) => [(10, .sl none 1 (byteEls c)), (22, vi k)]) (fun k c => [(0, tblO 1 2 (addT 3 t r)), (1, tblR (addT 3 t r)), (2, tblM (addT 3 t r))]) (fun k _ => ps.length - k) (fun k c => k ≤ ps.length ∧ c = framesP (ps.take k)) 1 _ rfl ⟨by omega, rfl⟩ ?_
    rintro k c ⟨hk0, hc0⟩ IH2
    have hcl : c.length ≤ 3008 := by have := framesP_part ps k; rw [hc0]; omega
    (conv => whnf)
    refine br_intro (fun hk => ?_) (fun hk => ?_)
    · have hk := lt_of_decE hrl hk
      have hp := hpl _ (List.getElem_mem hk)
      have hS : c ++ frameP ps[k] = framesP (ps.take (k + 1)) := by
        rw [hc0, List.take_succ_eq_append_getElem hk, framesP_snoc]
      have IH2 := IH2 (k + 1) _ ⟨hk, hS⟩ (by omega)
      (conv => whnf); (repeat ((with_reducible refine must_intro ?_ ?_); exact decide_eq_true (by omega); (conv => whnf)))
      refine idxK_map_intro (show (k : Int).toNat < ps.length by simpa using hk) ?_
      rw [show ps[(k : Int).toNat]'(by simpa using hk) = ps[k] from by congr 1]
      (conv => whnf)
      refine framePut_calls c ps[k] (by omega) hp.1 hp.2 ?_
      (conv => whnf)
      rw [i64_nat (by omega)]
      exact IH2
    · have hk := ge_of_decE hrl hk
      rw [List.take_of_length_le hk] at hc0
      subst hc0
      (conv => whnf)
      exact h
theorem table_2 (l : List Rc) (hl : l.length ≤ 1000) (hm : ∀ r ∈ l, mayP 2 r = true) (x : AV) (hx : x = .sl none 1 (ints (endsR 2 l))) (n : Int) {R} (h : R (.tup [.ptr 0 0, vi 0]) (tblS (tblL 2 [] l))) :
    ACalls Tryz.prog 144 [.agg [vi 2, .sl none 7 (recs l), x, vi n]] [] R := by
  subst hx
  refine acalls_of_xwp (an := an144) tab_ok Tryz.func144 ?_
  have hsl := recs_length l
  (conv => whnf)
  refine New_nil ?_
  (conv => whnf)
  by_cases hl0 : l = []
  · subst hl0
    refine LoopP.step ?_
    (conv => whnf)
    exact h
  have hi : 0 < l.length := List.length_pos_iff.2 hl0
  rw [tblS_ne (show tblL 2 [] l ≠ [] from by
    obtain ⟨j, hj⟩ : ∃ j, l.length = j + 1 := ⟨l.length - 1, by omega⟩
    have e : tblL 2 [] l = tbP 2 l (j + 1) := by unfold tbP; rw [← hj, List.take_length]
    rw [e, tbP_succ (by omega)]
    exact addT_ne (by decide) _ _)] at h
  refine LoopP.step ?_
  (conv => whnf)
  refine br_true (by rw [hsl]; exact decide_eq_true (by omega)) ?_
  (conv => whnf); (repeat ((with_reducible refine must_intro ?_ ?_); exact decide_eq_true (by omega); (conv => whnf)))
  refine idxK_map_intro (show (0 : Int).toNat < l.length by simpa using hi) ?_
  rw [show l[(0 : Int).toNat]'(by simpa using hi) = l[0] from rfl]
  (conv => whnf)
  refine sPut_2F l[0] (hm _ (List.getElem_mem hi)) ?_
  (conv => whnf)
  rw [show IntKind.i64.wrap ((0 : Int) + 1) = ((1 : Nat) : Int) from rfl]
  have hT1 : addT 2 [] l[0] = tbP 2 l 1 := (tbP_succ hi).symm
  rw [hT1]
  refine LoopP.ind2 (fun (i : Nat) (T : List B) => [(13, vi i)]) (fun i T => [(freshN 9 0, tblO (freshN 22 0) (freshN 22 1) T), (freshN 22 0, tblR T), (freshN 22 1, tblM T)]) (fun i _ => l.length - i) (fun i T => 1 ≤ i ∧ i ≤ l.length ∧ T = tbP 2 l i) 1 _ rfl ⟨by omega, hi, rfl⟩ ?_
  rintro i T ⟨h00, h0, hT⟩ IH
  (conv => whnf)
  refine br_intro (fun hc => ?_) (fun hc => ?_)
  · have hi := lt_of_decE hsl hc
    have hmt : ∀ r ∈ l.take i, mayP 2 r = true := fun r hr => hm r (List.mem_of_mem_take hr)
    have hTl : T.length ≤ 18000 := by rw [hT]; exact tbP_len hl hmt
    have IH := IH (i + 1) _ ⟨by omega, hi, rfl⟩ (by omega)
    rw [tbP_succ hi, ← hT] at IH
    (conv => whnf); (repeat ((with_reducible refine must_intro ?_ ?_); exact decide_eq_true (by omega); (conv => whnf)))
    refine idxK_map_intro (show (i : Int).toNat < l.length by simpa using hi) ?_
    rw [show l[(i : Int).toNat]'(by simpa using hi) = l[i] from by congr 1]
    (conv => whnf)
    refine sPut_2O l[i] T (by omega) (hm _ (List.getElem_mem hi)) ?_
    (conv => whnf)
    rw [i64_nat (by omega)]
    exact IH
  · have hi := ge_of_decE hsl hc
    rw [show tbP 2 l i = tblL 2 [] l from by unfold tbP; rw [List.take_of_length_le hi]] at hT
    subst hT
    (conv => whnf)
    exact h
theorem jframes_2 (r : Rc) (hm : mayP 2 r = true) (t : List B) (ht : t.length < 80000) {R} (h : R (.tup [.sl none 1 (byteEls (framesP (payP 2 t r))), vi 0]) (tblS (addT 2 t r))) :
    ACalls Tryz.prog 145 [vi 2, .ptr 0 0, .agg r.enc] (tblS t) R := by
  refine acalls_of_xwp (an := { an145 with keep := [(4, [1, 9, 10, 20, 21, 22])] }) tab_ok Tryz.func145 ?_
  rw [tblS_ne (addT_ne (by decide) t r)] at h
  by_cases h0 : t = []
  · subst h0
    obtain ⟨t, ht0⟩ : ∃ t : List B, t = [] := ⟨_, rfl⟩
    rw [show tblS [] = [tblF] from rfl]
    (conv => whnf)
    refine sPut_2F r hm ?_
    rw [← ht0] at h ⊢
    have ht : t.length < 80000 := by rw [ht0]; simp
    have hpl := payP_lens (t := t) (may_all hm) (by omega)
    have hpf := payP_frames (t := t) (may_all hm) (by omega)
    have hpc := payP_len (v := 2) (t := t) (may_all hm).deps
    generalize hps : payP 2 t r = ps at hpl hpf hpc h ⊢
    have hrl := rowsB_length ps
    (conv => whnf)
    refine LoopP.step ?_
    (conv => whnf)
    refine br_true (by rw [hrl]; exact decide_eq_true (by omega)) ?_
    (conv => whnf); (repeat ((with_reducible refine must_intro ?_ ?_); exact decide_eq_true (by omega); (conv => whnf)))
    refine idxK_map_intro (show (0 : Int).toNat < ps.length from by show 0 < ps.length; omega) ?_
    rw [show ps[(0 : Int).toNat]'(by show 0 < ps.length; omega) = ps[0] from rfl]
    (conv => whnf)
    refine ACalls.args (leL.cons (le_nil 1) (leL.refl _)) (framePut_calls [] ps[0] (by simp) (hpl _ (List.getElem_mem _)).1 (hpl _ (List.getElem_mem _)).2 ?_)
    have h1 : frameP ps[0] = framesP (ps.take 1) := by
      rw [show ps.take 1 = [] ++ [ps[0]] from by cases ps with | nil => simp at hpc | cons a l => rfl, framesP_snoc]
      rfl
    rw [List.nil_append, h1]
    (conv => whnf)
    rw [show IntKind.i64.wrap ((0 : Int) + 1) = ((1 : Nat) : Int) from rfl]
    refine LoopP.ind2 (fun (k : Nat) (c : B) => [(10, .sl none 1 (byteEls c)), (22, vi k)]) (fun k c => [(0, tblO (freshN 17 0) (freshN 17 1) (addT 2 t r)), (freshN 17 0, tblR (addT 2 t r)), (freshN 17 1, tblM (addT 2 t r))]) (fun k _ => ps.length - k) (fun k c => k ≤ ps.length ∧ c = framesP (ps.take k)) 1 _ rfl ⟨by omega, rfl⟩ ?_
    rintro k c ⟨hk0, hc0⟩ IH2
    have hcl : c.length ≤ 3008 := by have := framesP_part ps k; rw [hc0]; omega
    (conv => whnf)
    refine br_intro (fun hk => ?_) (fun hk => ?_)
    · have hk := lt_of_decE hrl hk
      have hp := hpl _ (List.getElem_mem hk)
      have hS : c ++ frameP ps[k] = framesP (ps.take (k + 1)) := by
        rw [hc0, List.take_succ_eq_append_getElem hk, framesP_snoc]
      have IH2 := IH2 (k + 1) _ ⟨hk, hS⟩ (by omega)
      (conv => whnf); (repeat ((with_reducible refine must_intro ?_ ?_); exact decide_eq_true (by omega); (conv => whnf)))
      refine idxK_map_intro (show (k : Int).toNat < ps.length by simpa using hk) ?_
      rw [show ps[(k : Int).toNat]'(by simpa using hk) = ps[k] from by congr 1]
      (conv => whnf)
      refine framePut_calls c ps[k] (by omega) hp.1 hp.2 ?_
      (conv => whnf)
      rw [i64_nat (by omega)]
      exact IH2
    · have hk := ge_of_decE hrl hk
      rw [List.take_of_length_le hk] at hc0
      subst hc0
      (conv => whnf)
      exact h
  · rw [tblS_ne h0]
    (conv => whnf)
    refine sPut_2O r t (by omega) hm ?_
    have hpl := payP_lens (t := t) (may_all hm) (by omega)
    have hpf := payP_frames (t := t) (may_all hm) (by omega)
    have hpc := payP_len (v := 2) (t := t) (may_all hm).deps
    generalize hps : payP 2 t r = ps at hpl hpf hpc h ⊢
    have hrl := rowsB_length ps
    (conv => whnf)
    refine LoopP.step ?_
    (conv => whnf)
    refine br_true (by rw [hrl]; exact decide_eq_true (by omega)) ?_
    (conv => whnf); (repeat ((with_reducible refine must_intro ?_ ?_); exact decide_eq_true (by omega); (conv => whnf)))
    refine idxK_map_intro (show (0 : Int).toNat < ps.length from by show 0 < ps.length; omega) ?_
    rw [show ps[(0 : Int).toNat]'(by show 0 < ps.length; omega) = ps[0] from rfl]
    (conv => whnf)
    refine ACalls.args (leL.cons (le_nil 1) (leL.refl _)) (framePut_calls [] ps[0] (by simp) (hpl _ (List.getElem_mem _)).1 (hpl _ (List.getElem_mem _)).2 ?_)
    have h1 : frameP ps[0] = framesP (ps.take 1) := by
      rw [show ps.take 1 = [] ++ [ps[0]] from by cases ps with | nil => simp at hpc | cons a l => rfl, framesP_snoc]
      rfl
    rw [List.nil_append, h1]
    (conv => whnf)
    rw [show IntKind.i64.wrap ((0 : Int) + 1) = ((1 : Nat) : Int) from rfl]
    refine LoopP.ind2 (fun (k : Nat) (c : B) => [(10, .sl none 1 (byteEls c)), (22, vi k)]) (fun k c => [(0, tblO 1 2 (addT 2 t r)), (1, tblR (addT 2 t r)), (2, tblM (addT 2 t r))]) (fun k _ => ps.length - k) (fun k c => k ≤ ps.length ∧ c = framesP (ps.take k)) 1 _ rfl ⟨by omega, rfl⟩ ?_
    rintro k c ⟨hk0, hc0⟩ IH2
    have hcl : c.length ≤ 3008 := by have := framesP_part ps k; rw [hc0]; omega
    (conv => whnf)
    refine br_intro (fun hk => ?_) (fun hk => ?_)
    · have hk := lt_of_decE hrl hk
      have hp := hpl _ (List.getElem_mem hk)
      have hS : c ++ frameP ps[k] = framesP (ps.take (k + 1)) := by
        rw [hc0, List.take_succ_eq_append_getElem hk, framesP_snoc]
      have IH2 := IH2 (k + 1) _ ⟨hk, hS⟩ (by omega)
      (conv => whnf); (repeat ((with_reducible refine must_intro ?_ ?_); exact decide_eq_true (by omega); (conv => whnf)))
      refine idxK_map_intro (show (k : Int).toNat < ps.length by simpa using hk) ?_
      rw [show ps[(k : Int).toNat]'(by simpa using hk) = ps[k] from by congr 1]
      (conv => whnf)
      refine framePut_calls c ps[k] (by omega) hp.1 hp.2 ?_
      (conv => whnf)
      rw [i64_nat (by omega)]
      exact IH2
    · have hk := ge_of_decE hrl hk
      rw [List.take_of_length_le hk] at hc0
      subst hc0
      (conv => whnf)
      exact h
theorem rCloneO_calls (l : List Rc) (hl : l.length < 1000000) {R} (h1 : l = [] → R (.val (.slice none 0 0)) []) (h2 : R (.sl (some 0) 7 (recs l)) [.row 67 7 (recs l).length]) :
    ACalls Tryz.prog 146 [.sl none 7 (recs l)] [] R := by
  refine acalls_of_xwp (an := an146) tab_ok Tryz.func146 ?_
  have hsl := recs_length l
  (conv => whnf)
  intro b hb
  refine br_intro (fun g => ?_) (fun g => ?_)
  · have e := hb g
    have e : l = [] := by
      cases l with
      | nil => rfl
      | cons r l => simp [recs] at e
    (conv => whnf)
    exact h1 e
  · (conv => whnf)
    refine ⟨rfl, (by show (0 + (recs l).length) * (88 + 1) ≤ _; omega), ?_⟩
    (conv => whnf)
    rw [show [].length + (recs l).length = (recs l).length by simp, show [] ++ recs l = recs l from rfl]
    exact h2
theorem iCloneO_calls (b : List Nat) (hb : b.length < 1000000) {R} (h1 : b = [] → R (.val (.slice none 0 0)) []) (h : R (.sl (some 0) 1 (ints b)) [.row 3 1 b.length]) : ACalls Tryz.prog 147 [.sl none 1 (ints b)] [] R := by
  refine acalls_of_xwp (an := { an147 with keepRes := true }) tab_ok Tryz.func147 ?_
  have hsl := ints_length b
  (conv => whnf)
  intro p hp
  refine br_intro (fun g => ?_) (fun g => ?_)
  · have e := hp g
    have e : b = [] := by cases b with | nil => rfl | cons a b => cases e
    (conv => whnf)
    exact h1 e
  · (conv => whnf)
    refine ⟨rfl, (by show (0 + (ints b).length) * (8 + 1) ≤ _; omega), ?_⟩
    (conv => whnf)
    rw [show [] ++ ints b = ints b from rfl, hsl, show [].length + b.length = b.length by simp]
    exact h
end Go.Abs
end

section
/- journal.Append. -/
set_option maxRecDepth 100000
set_option maxHeartbeats 4000000
set_option linter.unusedVariables false
set_option linter.unusedSimpArgs false
namespace Go.Abs
open Go Go.Proofs Dig
attribute [local irreducible] ibits byteAt strLt firstIdx

/-- What is laid behind a file for one record more. -/
def moreP (v : Int) (l : List Rc) (r : Rc) : B := framesP (payP v (tblL v [] l) r)
theorem fileP_snoc (v : Int) (l : List Rc) (r : Rc) : fileP v (l ++ [r]) = fileP v l ++ moreP v l r := by
  unfold fileP moreP
  rw [paysP_append, framesP_append, List.append_assoc]
  simp [paysP]
theorem endsR_snoc (v : Int) (l : List Rc) (r : Rc) : endsR v (l ++ [r]) = endsR v l ++ [(fileP v (l ++ [r])).length] := by
  unfold endsR
  rw [List.length_append, List.length_singleton, List.range_succ, List.map_append]
  congr 1
  · refine List.map_congr_left fun i hi => ?_
    have hi := List.mem_range.1 hi
    rw [List.take_append_of_le_length (by omega)]
  · rw [List.map_singleton, show l.length + 1 = (l ++ [r]).length by simp, List.take_length]
theorem recs_snoc (l : List Rc) (r : Rc) : recs (l ++ [r]) = recs l ++ [r.enc] := by simp [recs]
theorem ints_snoc (l : List Nat) (n : Nat) : ints (l ++ [n]) = ints l ++ [[vi (n : Int)]] := by simp [ints]
theorem jframes_F (r : Rc) (hm : mayP 3 r = true) (t : List B) (ht : t = []) {R} (h : R (.tup [.sl none 1 (byteEls (framesP (payP 3 t r))), vi 0]) [tblO 1 2 (addT 3 t r), tblR (addT 3 t r), tblM (addT 3 t r)]) :
    ACalls Tryz.prog 145 [vi 3, .ptr 0 0, .agg r.enc] [tblF] R := by
  have h1 := jframes_3 r hm t (by rw [ht]; simp) (R := R)
  rw [tblS_ne (addT_ne (by decide) t r)] at h1
  have h2 := h1 h
  rw [ht] at h2
  exact h2
theorem jframes_O (r : Rc) (hm : mayP 3 r = true) (t : List B) (ht : t ≠ []) (hl : t.length < 80000) {R} (h : R (.tup [.sl none 1 (byteEls (framesP (payP 3 t r))), vi 0]) [tblO 1 2 (addT 3 t r), tblR (addT 3 t r), tblM (addT 3 t r)]) :
    ACalls Tryz.prog 145 [vi 3, .ptr 0 0, .agg r.enc] [tblO 1 2 t, tblR t, tblM t] R := by
  have h1 := jframes_3 r hm t hl (R := R)
  rw [tblS_ne (addT_ne (by decide) t r)] at h1
  have h2 := h1 h
  rw [tblS_ne ht] at h2
  exact h2
theorem jAppend_3 (s : FSt) (name : B) (hn : name.length < 1000000) {nb fb : Nat} (hk : FOk s nb fb) (hfb : fb ≤ 80000000) (l : List Rc) (hl : l.length ≤ 300) (hm : ∀ r ∈ l, mayP 3 r = true) (r : Rc) (hr : mayP 3 r = true) {R}
    (h1 : (s.append name (moreP 3 l r)).2 ≠ 0 → R (.tup [zF, vi (s.append name (moreP 3 l r)).2]) [fsC (s.append name (moreP 3 l r)).1 1, fsM (s.append name (moreP 3 l r)).1])
    (h2 : (s.append name (moreP 3 l r)).2 = 0 → R (.tup [.agg (fileA 3 (l ++ [r])), vi 0]) [fsC (s.append name (moreP 3 l r)).1 1, fsM (s.append name (moreP 3 l r)).1]) :
    ACalls Tryz.prog 115 [.ptr 0 0, vs name, .agg (fileA 3 l), .agg r.enc] [fsC s 1, fsM s] R := by
  refine ACalls.res ?_
  refine acalls_of_xwp (an := an115) tab_ok Tryz.func115 ?_
  have hM : ∀ x ∈ l, MayR 3 x := fun x hx => may_all (hm x hx)
  have hMr := may_all hr
  have hfl := fileP_small hm hl
  have htl := tblL_len (v := 3) (l := l) (t := []) hM
  simp at htl
  have hpf := payP_frames (v := 3) (t := tblL 3 [] l) hMr (by omega)
  have hsl := recs_length l
  have hel := endsR_length 3 l
  have hil := ints_length (endsR 3 l)
  have hml : (moreP 3 l r).length ≤ 3000 := hpf
  (conv => whnf)
  refine table_3 l (by omega) hm _ rfl _ ?_
  obtain ⟨T, hT⟩ : ∃ T, T = tblL 3 [] l := ⟨_, rfl⟩
  have hmo : moreP 3 l r = framesP (payP 3 T r) := by rw [hT]; rfl
  rw [← hT] at htl ⊢
  rw [hmo] at h1 h2 hml
  have hend : IntKind.i64.wrap (((fileP 3 l).length : Int) + ((byteEls (framesP (payP 3 T r))).length : Int)) = ((fileP 3 (l ++ [r])).length : Int) := by
    rw [fileP_snoc, hmo, List.length_append, bel_length, wrap_i64 (by omega) (by omega)]
    omega
  by_cases hl0 : T = []
  · rw [show tblS T = [tblF] from by rw [hl0]; rfl]
    (conv => whnf)
    refine jframes_F r hr T hl0 ?_
    (conv => whnf)
    refine Append_calls s name (framesP (payP 3 T r)) hk.fail hk.fall (by omega) (by have := (hk.m.get name).2; omega) ?_
    (conv => whnf)
    refine br_intro (fun g => ?_) (fun g => ?_)
    · (conv => whnf)
      exact res_same (h1 (by simpa using g))
    have h2 := h2 (by simpa using g)
    generalize framesP (payP 3 T r) = F at hml hend h2 ⊢
    (conv => whnf)
    rw [hend]
    refine rCloneO_calls l (by omega) (fun e => ?_) ?_
    · (conv => whnf)
      refine Clone_calls r (by have := hMr.deps; omega) ?_
      (conv => whnf)
      refine ⟨by rw [bytes_rec]; simp only [List.length_cons, List.length_nil]; decide, ?_⟩
      (conv => whnf)
      obtain ⟨X, hXX⟩ : ∃ X, X = [r.enc] := ⟨_, rfl⟩
      have hX : recs (l ++ [r]) = X := by rw [recs_snoc, e, hXX]; rfl
      refine iCloneO_calls (endsR 3 l) (by omega) (fun e2 => ?_) ?_
      · (conv => whnf)
        refine ⟨by rw [bytes_int]; simp only [List.length_cons, List.length_nil]; decide, ?_⟩
        (conv => whnf)
        have er : fileA 3 (l ++ [r]) = [vi 3, .sl none 7 X, .sl none 1 [[vi ((fileP 3 (l ++ [r])).length : Int)]], vi ((fileP 3 (l ++ [r])).length : Int)] := by
          unfold fileA
          rw [endsR_snoc, e2, ← hX]
          rfl
        rw [er, hXX] at h2
        exact res_same h2
      · (conv => whnf)
        refine ⟨hil.symm, by rw [hil, hel, bytes_int]; simp only [List.length_cons, List.length_nil]; omega, ?_⟩
        (conv => whnf)
        have er : fileA 3 (l ++ [r]) = [vi 3, .sl none 7 X, .sl none 1 (ints (endsR 3 l) ++ [[vi ((fileP 3 (l ++ [r])).length : Int)]]), vi ((fileP 3 (l ++ [r])).length : Int)] := by
          unfold fileA
          rw [← hX, endsR_snoc, ints_snoc]
        rw [er, hXX] at h2
        exact res_same h2
    · (conv => whnf)
      refine Clone_calls r (by have := hMr.deps; omega) ?_
      (conv => whnf)
      refine ⟨rfl, by rw [bytes_rec, hsl]; simp only [List.length_cons, List.length_nil]; omega, ?_⟩
      (conv => whnf)
      obtain ⟨X, hXX⟩ : ∃ X, X = recs l ++ [r.enc] := ⟨_, rfl⟩
      have hX : recs (l ++ [r]) = X := by rw [recs_snoc, hXX]
      refine iCloneO_calls (endsR 3 l) (by omega) (fun e2 => ?_) ?_
      · (conv => whnf)
        refine ⟨by rw [bytes_int]; simp only [List.length_cons, List.length_nil]; decide, ?_⟩
        (conv => whnf)
        have er : fileA 3 (l ++ [r]) = [vi 3, .sl none 7 X, .sl none 1 [[vi ((fileP 3 (l ++ [r])).length : Int)]], vi ((fileP 3 (l ++ [r])).length : Int)] := by
          unfold fileA
          rw [endsR_snoc, e2, ← hX]
          rfl
        rw [er, hXX] at h2
        exact res_same h2
      · (conv => whnf)
        refine ⟨hil.symm, by rw [hil, hel, bytes_int]; simp only [List.length_cons, List.length_nil]; omega, ?_⟩
        (conv => whnf)
        have er : fileA 3 (l ++ [r]) = [vi 3, .sl none 7 X, .sl none 1 (ints (endsR 3 l) ++ [[vi ((fileP 3 (l ++ [r])).length : Int)]]), vi ((fileP 3 (l ++ [r])).length : Int)] := by
          unfold fileA
          rw [← hX, endsR_snoc, ints_snoc]
        rw [er, hXX] at h2
        exact res_same h2
  · rw [tblS_ne hl0]
    (conv => whnf)
    refine jframes_O r hr T hl0 (by omega) ?_
    (conv => whnf)
    refine Append_calls s name (framesP (payP 3 T r)) hk.fail hk.fall (by omega) (by have := (hk.m.get name).2; omega) ?_
    (conv => whnf)
    refine br_intro (fun g => ?_) (fun g => ?_)
    · (conv => whnf)
      exact res_same (h1 (by simpa using g))
    have h2 := h2 (by simpa using g)
    generalize framesP (payP 3 T r) = F at hml hend h2 ⊢
    (conv => whnf)
    rw [hend]
    refine rCloneO_calls l (by omega) (fun e => ?_) ?_
    · (conv => whnf)
      refine Clone_calls r (by have := hMr.deps; omega) ?_
      (conv => whnf)
      refine ⟨by rw [bytes_rec]; simp only [List.length_cons, List.length_nil]; decide, ?_⟩
      (conv => whnf)
      obtain ⟨X, hXX⟩ : ∃ X, X = [r.enc] := ⟨_, rfl⟩
      have hX : recs (l ++ [r]) = X := by rw [recs_snoc, e, hXX]; rfl
      refine iCloneO_calls (endsR 3 l) (by omega) (fun e2 => ?_) ?_
      · (conv => whnf)
        refine ⟨by rw [bytes_int]; simp only [List.length_cons, List.length_nil]; decide, ?_⟩
        (conv => whnf)
        have er : fileA 3 (l ++ [r]) = [vi 3, .sl none 7 X, .sl none 1 [[vi ((fileP 3 (l ++ [r])).length : Int)]], vi ((fileP 3 (l ++ [r])).length : Int)] := by
          unfold fileA
          rw [endsR_snoc, e2, ← hX]
          rfl
        rw [er, hXX] at h2
        exact res_same h2
      · (conv => whnf)
        refine ⟨hil.symm, by rw [hil, hel, bytes_int]; simp only [List.length_cons, List.length_nil]; omega, ?_⟩
        (conv => whnf)
        have er : fileA 3 (l ++ [r]) = [vi 3, .sl none 7 X, .sl none 1 (ints (endsR 3 l) ++ [[vi ((fileP 3 (l ++ [r])).length : Int)]]), vi ((fileP 3 (l ++ [r])).length : Int)] := by
          unfold fileA
          rw [← hX, endsR_snoc, ints_snoc]
        rw [er, hXX] at h2
        exact res_same h2
    · (conv => whnf)
      refine Clone_calls r (by have := hMr.deps; omega) ?_
      (conv => whnf)
      refine ⟨rfl, by rw [bytes_rec, hsl]; simp only [List.length_cons, List.length_nil]; omega, ?_⟩
      (conv => whnf)
      obtain ⟨X, hXX⟩ : ∃ X, X = recs l ++ [r.enc] := ⟨_, rfl⟩
      have hX : recs (l ++ [r]) = X := by rw [recs_snoc, hXX]
      refine iCloneO_calls (endsR 3 l) (by omega) (fun e2 => ?_) ?_
      · (conv => whnf)
        refine ⟨by rw [bytes_int]; simp only [List.length_cons, List.length_nil]; decide, ?_⟩
        (conv => whnf)
        have er : fileA 3 (l ++ [r]) = [vi 3, .sl none 7 X, .sl none 1 [[vi ((fileP 3 (l ++ [r])).length : Int)]], vi ((fileP 3 (l ++ [r])).length : Int)] := by
          unfold fileA
          rw [endsR_snoc, e2, ← hX]
          rfl
        rw [er, hXX] at h2
        exact res_same h2
      · (conv => whnf)
        refine ⟨hil.symm, by rw [hil, hel, bytes_int]; simp only [List.length_cons, List.length_nil]; omega, ?_⟩
        (conv => whnf)
        have er : fileA 3 (l ++ [r]) = [vi 3, .sl none 7 X, .sl none 1 (ints (endsR 3 l) ++ [[vi ((fileP 3 (l ++ [r])).length : Int)]]), vi ((fileP 3 (l ++ [r])).length : Int)] := by
          unfold fileA
          rw [← hX, endsR_snoc, ints_snoc]
        rw [er, hXX] at h2
        exact res_same h2
theorem jframes_F2 (r : Rc) (hm : mayP 2 r = true) (t : List B) (ht : t = []) {R} (h : R (.tup [.sl none 1 (byteEls (framesP (payP 2 t r))), vi 0]) [tblO 1 2 (addT 2 t r), tblR (addT 2 t r), tblM (addT 2 t r)]) :
    ACalls Tryz.prog 145 [vi 2, .ptr 0 0, .agg r.enc] [tblF] R := by
  have h1 := jframes_2 r hm t (by rw [ht]; simp) (R := R)
  rw [tblS_ne (addT_ne (by decide) t r)] at h1
  have h2 := h1 h
  rw [ht] at h2
  exact h2
theorem jframes_O2 (r : Rc) (hm : mayP 2 r = true) (t : List B) (ht : t ≠ []) (hl : t.length < 80000) {R} (h : R (.tup [.sl none 1 (byteEls (framesP (payP 2 t r))), vi 0]) [tblO 1 2 (addT 2 t r), tblR (addT 2 t r), tblM (addT 2 t r)]) :
    ACalls Tryz.prog 145 [vi 2, .ptr 0 0, .agg r.enc] [tblO 1 2 t, tblR t, tblM t] R := by
  have h1 := jframes_2 r hm t hl (R := R)
  rw [tblS_ne (addT_ne (by decide) t r)] at h1
  have h2 := h1 h
  rw [tblS_ne ht] at h2
  exact h2
theorem jAppend_2 (s : FSt) (name : B) (hn : name.length < 1000000) {nb fb : Nat} (hk : FOk s nb fb) (hfb : fb ≤ 80000000) (l : List Rc) (hl : l.length ≤ 300) (hm : ∀ r ∈ l, mayP 2 r = true) (r : Rc) (hr : mayP 2 r = true) {R}
    (h1 : (s.append name (moreP 2 l r)).2 ≠ 0 → R (.tup [zF, vi (s.append name (moreP 2 l r)).2]) [fsC (s.append name (moreP 2 l r)).1 1, fsM (s.append name (moreP 2 l r)).1])
    (h2 : (s.append name (moreP 2 l r)).2 = 0 → R (.tup [.agg (fileA 2 (l ++ [r])), vi 0]) [fsC (s.append name (moreP 2 l r)).1 1, fsM (s.append name (moreP 2 l r)).1]) :
    ACalls Tryz.prog 115 [.ptr 0 0, vs name, .agg (fileA 2 l), .agg r.enc] [fsC s 1, fsM s] R := by
  refine ACalls.res ?_
  refine acalls_of_xwp (an := an115) tab_ok Tryz.func115 ?_
  have hM : ∀ x ∈ l, MayR 2 x := fun x hx => may_all (hm x hx)
  have hMr := may_all hr
  have hfl := fileP_small hm hl
  have htl := tblL_len (v := 2) (l := l) (t := []) hM
  simp at htl
  have hpf := payP_frames (v := 2) (t := tblL 2 [] l) hMr (by omega)
  have hsl := recs_length l
  have hel := endsR_length 2 l
  have hil := ints_length (endsR 2 l)
  have hml : (moreP 2 l r).length ≤ 3000 := hpf
  (conv => whnf)
  refine table_2 l (by omega) hm _ rfl _ ?_
  obtain ⟨T, hT⟩ : ∃ T, T = tblL 2 [] l := ⟨_, rfl⟩
  have hmo : moreP 2 l r = framesP (payP 2 T r) := by rw [hT]; rfl
  rw [← hT] at htl ⊢
  rw [hmo] at h1 h2 hml
  have hend : IntKind.i64.wrap (((fileP 2 l).length : Int) + ((byteEls (framesP (payP 2 T r))).length : Int)) = ((fileP 2 (l ++ [r])).length : Int) := by
    rw [fileP_snoc, hmo, List.length_append, bel_length, wrap_i64 (by omega) (by omega)]
    omega
  by_cases hl0 : T = []
  · rw [show tblS T = [tblF] from by rw [hl0]; rfl]
    (conv => whnf)
    refine jframes_F2 r hr T hl0 ?_
    (conv => whnf)
    refine Append_calls s name (framesP (payP 2 T r)) hk.fail hk.fall (by omega) (by have := (hk.m.get name).2; omega) ?_
    (conv => whnf)
    refine br_intro (fun g => ?_) (fun g => ?_)
    · (conv => whnf)
      exact res_same (h1 (by simpa using g))
    have h2 := h2 (by simpa using g)
    generalize framesP (payP 2 T r) = F at hml hend h2 ⊢
    (conv => whnf)
    rw [hend]
    refine rCloneO_calls l (by omega) (fun e => ?_) ?_
    · (conv => whnf)
      refine Clone_calls r (by have := hMr.deps; omega) ?_
      (conv => whnf)
      refine ⟨by rw [bytes_rec]; simp only [List.length_cons, List.length_nil]; decide, ?_⟩
      (conv => whnf)
      obtain ⟨X, hXX⟩ : ∃ X, X = [r.enc] := ⟨_, rfl⟩
      have hX : recs (l ++ [r]) = X := by rw [recs_snoc, e, hXX]; rfl
      refine iCloneO_calls (endsR 2 l) (by omega) (fun e2 => ?_) ?_
      · (conv => whnf)
        refine ⟨by rw [bytes_int]; simp only [List.length_cons, List.length_nil]; decide, ?_⟩
        (conv => whnf)
        have er : fileA 2 (l ++ [r]) = [vi 2, .sl none 7 X, .sl none 1 [[vi ((fileP 2 (l ++ [r])).length : Int)]], vi ((fileP 2 (l ++ [r])).length : Int)] := by
          unfold fileA
          rw [endsR_snoc, e2, ← hX]
          rfl
        rw [er, hXX] at h2
        exact res_same h2
      · (conv => whnf)
        refine ⟨hil.symm, by rw [hil, hel, bytes_int]; simp only [List.length_cons, List.length_nil]; omega, ?_⟩
        (conv => whnf)
        have er : fileA 2 (l ++ [r]) = [vi 2, .sl none 7 X, .sl none 1 (ints (endsR 2 l) ++ [[vi ((fileP 2 (l ++ [r])).length : Int)]]), vi ((fileP 2 (l ++ [r])).length : Int)] := by
          unfold fileA
          rw [← hX, endsR_snoc, ints_snoc]
        rw [er, hXX] at h2
        exact res_same h2
    · (conv => whnf)
      refine Clone_calls r (by have := hMr.deps; omega) ?_
      (conv => whnf)
      refine ⟨rfl, by rw [bytes_rec, hsl]; simp only [List.length_cons, List.length_nil]; omega, ?_⟩
      (conv => whnf)
      obtain ⟨X, hXX⟩ : ∃ X, X = recs l ++ [r.enc] := ⟨_, rfl⟩
      have hX : recs (l ++ [r]) = X := by rw [recs_snoc, hXX]
      refine iCloneO_calls (endsR 2 l) (by omega) (fun e2 => ?_) ?_
      · (conv => whnf)
        refine ⟨by rw [bytes_int]; simp only [List.length_cons, List.length_nil]; decide, ?_⟩
        (conv => whnf)
        have er : fileA 2 (l ++ [r]) = [vi 2, .sl none 7 X, .sl none 1 [[vi ((fileP 2 (l ++ [r])).length : Int)]], vi ((fileP 2 (l ++ [r])).length : Int)] := by
          unfold fileA
          rw [endsR_snoc, e2, ← hX]
          rfl
        rw [er, hXX] at h2
        exact res_same h2
      · (conv => whnf)
        refine ⟨hil.symm, by rw [hil, hel, bytes_int]; simp only [List.length_cons, List.length_nil]; omega, ?_⟩
        (conv => whnf)
        have er : fileA 2 (l ++ [r]) = [vi 2, .sl none 7 X, .sl none 1 (ints (endsR 2 l) ++ [[vi ((fileP 2 (l ++ [r])).length : Int)]]), vi ((fileP 2 (l ++ [r])).length : Int)] := by
          unfold fileA
          rw [← hX, endsR_snoc, ints_snoc]
        rw [er, hXX] at h2
        exact res_same h2
  · rw [tblS_ne hl0]
    (conv => whnf)
    refine jframes_O2 r hr T hl0 (by omega) ?_
    (conv => whnf)
    refine Append_calls s name (framesP (payP 2 T r)) hk.fail hk.fall (by omega) (by have := (hk.m.get name).2; omega) ?_
    (conv => whnf)
    refine br_intro (fun g => ?_) (fun g => ?_)
    · (conv => whnf)
      exact res_same (h1 (by simpa using g))
    have h2 := h2 (by simpa using g)
    generalize framesP (payP 2 T r) = F at hml hend h2 ⊢
    (conv => whnf)
    rw [hend]
    refine rCloneO_calls l (by omega) (fun e => ?_) ?_
    · (conv => whnf)
      refine Clone_calls r (by have := hMr.deps; omega) ?_
      (conv => whnf)
      refine ⟨by rw [bytes_rec]; simp only [List.length_cons, List.length_nil]; decide, ?_⟩
      (conv => whnf)
      obtain ⟨X, hXX⟩ : ∃ X, X = [r.enc] := ⟨_, rfl⟩
      have hX : recs (l ++ [r]) = X := by rw [recs_snoc, e, hXX]; rfl
      refine iCloneO_calls (endsR 2 l) (by omega) (fun e2 => ?_) ?_
      · (conv => whnf)
        refine ⟨by rw [bytes_int]; simp only [List.length_cons, List.length_nil]; decide, ?_⟩
        (conv => whnf)
        have er : fileA 2 (l ++ [r]) = [vi 2, .sl none 7 X, .sl none 1 [[vi ((fileP 2 (l ++ [r])).length : Int)]], vi ((fileP 2 (l ++ [r])).length : Int)] := by
          unfold fileA
          rw [endsR_snoc, e2, ← hX]
          rfl
        rw [er, hXX] at h2
        exact res_same h2
      · (conv => whnf)
        refine ⟨hil.symm, by rw [hil, hel, bytes_int]; simp only [List.length_cons, List.length_nil]; omega, ?_⟩
        (conv => whnf)
        have er : fileA 2 (l ++ [r]) = [vi 2, .sl none 7 X, .sl none 1 (ints (endsR 2 l) ++ [[vi ((fileP 2 (l ++ [r])).length : Int)]]), vi ((fileP 2 (l ++ [r])).length : Int)] := by
          unfold fileA
          rw [← hX, endsR_snoc, ints_snoc]
        rw [er, hXX] at h2
        exact res_same h2
    · (conv => whnf)
      refine Clone_calls r (by have := hMr.deps; omega) ?_
      (conv => whnf)
      refine ⟨rfl, by rw [bytes_rec, hsl]; simp only [List.length_cons, List.length_nil]; omega, ?_⟩
      (conv => whnf)
      obtain ⟨X, hXX⟩ : ∃ X, X = recs l ++ [r.enc] := ⟨_, rfl⟩
      have hX : recs (l ++ [r]) = X := by rw [recs_snoc, hXX]
      refine iCloneO_calls (endsR 2 l) (by omega) (fun e2 => ?_) ?_
      · (conv => whnf)
        refine ⟨by rw [bytes_int]; simp only [List.length_cons, List.length_nil]; decide, ?_⟩
        (conv => whnf)
        have er : fileA 2 (l ++ [r]) = [vi 2, .sl none 7 X, .sl none 1 [[vi ((fileP 2 (l ++ [r])).length : Int)]], vi ((fileP 2 (l ++ [r])).length : Int)] := by
          unfold fileA
          rw [endsR_snoc, e2, ← hX]
          rfl
        rw [er, hXX] at h2
        exact res_same h2
      · (conv => whnf)
        refine ⟨hil.symm, by rw [hil, hel, bytes_int]; simp only [List.length_cons, List.length_nil]; omega, ?_⟩
        (conv => whnf)
        have er : fileA 2 (l ++ [r]) = [vi 2, .sl none 7 X, .sl none 1 (ints (endsR 2 l) ++ [[vi ((fileP 2 (l ++ [r])).length : Int)]]), vi ((fileP 2 (l ++ [r])).length : Int)] := by
          unfold fileA
          rw [← hX, endsR_snoc, ints_snoc]
        rw [er, hXX] at h2
        exact res_same h2
end Go.Abs
end

section
/- A file that is cut off (plain; no program in sight). -/
set_option maxRecDepth 100000
set_option linter.unusedVariables false
set_option linter.unusedSimpArgs false
namespace Go.Abs
open Go Go.Proofs Dig
attribute [local irreducible] ibits byteAt strLt firstIdx

theorem framesP_cons (p : B) (P : List B) : framesP (p :: P) = frameP p ++ framesP P := rfl
theorem cut_frames : ∀ (P : List B) (m : Nat), (∀ p ∈ P, 1 ≤ p.length ∧ p.length ≤ 2048) → m ≤ (framesP P).length →
    ∃ (c : Nat) (t : B), c ≤ P.length ∧ (framesP P).take m = framesP (P.take c) ++ t ∧ EndAt t ∧ t.length < 3000 ∧ (c < P.length → m < (framesP (P.take (c + 1))).length) := by
  intro P
  induction P with
  | nil =>
    intro m _ hm
    exact ⟨0, [], by simp, by simp [framesP], .inl rfl, by simp, fun h => by simp at h⟩
  | cons p P ih =>
    intro m hP hm
    have hp := hP p List.mem_cons_self
    have hfl := frameP_len hp.2
    rw [framesP_cons] at hm ⊢
    by_cases hlt : m < (frameP p).length
    · refine ⟨0, (frameP p).take m, by simp, ?_, ?_, by rw [List.length_take]; omega, fun _ => ?_⟩
      · rw [List.take_append_of_le_length (by omega)]
        simp [framesP]
      · by_cases h0 : m = 0
        · exact .inl (by rw [h0]; rfl)
        · exact .inr ⟨p, m, hp.1, hp.2, by omega, hlt, rfl⟩
      · rw [List.take_succ_cons, List.take_zero, framesP_cons, List.length_append]
        omega
    · obtain ⟨m', rfl⟩ : ∃ m', m = (frameP p).length + m' := ⟨m - (frameP p).length, by omega⟩
      rw [List.length_append] at hm
      obtain ⟨c, t, h1, h2, h3, h4, h5⟩ := ih m' (fun q hq => hP q (List.mem_cons_of_mem _ hq)) (by omega)
      refine ⟨c + 1, t, by simpa using h1, ?_, h3, h4, fun h => ?_⟩
      · rw [List.take_length_add_append, h2, List.take_succ_cons, framesP_cons, List.append_assoc]
      · rw [List.take_succ_cons, framesP_cons, List.length_append]
        have := h5 (by simpa using h)
        omega
theorem cut_recs {v : Int} (hv : v ≠ 1) : ∀ (l : List Rc) (T : List B) (c : Nat), (∀ r ∈ l, MayR v r) → c ≤ (paysP v T l).length →
    ∃ (j : Nat) (ms : List B), j ≤ l.length ∧ (paysP v T l).take c = paysP v T (l.take j) ++ ms.map defP ∧ ms.length < 100 ∧ (∀ m ∈ ms, m.length ≤ 64) ∧ ∀ i, i ≤ l.length → (paysP v T (l.take i)).length ≤ c → i ≤ j := by
  intro l
  induction l with
  | nil =>
    intro T c _ hc
    exact ⟨0, [], by simp, by simp [paysP], by simp, by simp, fun i hi _ => by simpa using hi⟩
  | cons r l ih =>
    intro T c hM hc
    have hMr := hM r List.mem_cons_self
    have hd := hMr.deps
    rw [paysP] at hc ⊢
    by_cases hlt : c < (payP v T r).length
    · have hnl := news_len (namesR r) T
      have hnr := namesR_len r
      have hpp : payP v T r = (newsP T (namesR r)).map defP ++ [lastW v (addT v T r) r] := by
        unfold payP defsP
        rw [if_neg hv]
      have hcl : c ≤ (newsP T (namesR r)).length := by
        rw [hpp] at hlt
        simp at hlt
        omega
      refine ⟨0, (newsP T (namesR r)).take c, by simp, ?_, by rw [List.length_take]; omega, ?_, fun i hi hle => ?_⟩
      · rw [List.take_append_of_le_length (by omega), hpp, List.take_append_of_le_length (by simpa using hcl)]
        simp [paysP, List.map_take]
      · intro m hm
        have h1 := news_sub (namesR r) T m (List.mem_of_mem_take hm)
        have h2 : m ∈ textsR r := tblN_mem.1 h1
        exact (textsR_lens hMr m h2).2
      · cases i with
        | zero => omega
        | succ i =>
          exfalso
          rw [List.take_succ_cons, paysP, List.length_append] at hle
          omega
    · obtain ⟨c', rfl⟩ : ∃ c', c = (payP v T r).length + c' := ⟨c - (payP v T r).length, by omega⟩
      rw [List.length_append] at hc
      obtain ⟨j, ms, h1, h2, h3, h4, h5⟩ := ih (addT v T r) c' (fun q hq => hM q (List.mem_cons_of_mem _ hq)) (by omega)
      refine ⟨j + 1, ms, by simpa using h1, ?_, h3, h4, fun i hi hle => ?_⟩
      · rw [List.take_length_add_append, h2, List.take_succ_cons, paysP, List.append_assoc]
      · cases i with
        | zero => omega
        | succ i =>
          rw [List.take_succ_cons, paysP, List.length_append] at hle
          have := h5 i (by simpa using hi) (by omega)
          omega
theorem cut_file {v : Int} (hv : v ≠ 1) {l : List Rc} (hm : ∀ r ∈ l, mayP v r = true) (hl : l.length ≤ 300) {m : Nat} (h8 : 8 ≤ m) (hle : m ≤ (fileP v l).length) :
    ∃ (j : Nat) (ms : List B) (t : B), j ≤ l.length ∧ (fileP v l).take m = fileP v (l.take j) ++ framesP (ms.map defP) ++ t ∧ ms.length < 100 ∧ (∀ m ∈ ms, m.length ≤ 64) ∧ EndAt t ∧ t.length < 3000 ∧ ∀ i, i ≤ l.length → (fileP v (l.take i)).length ≤ m → i ≤ j := by
  have hM : ∀ r ∈ l, MayR v r := fun r hr => may_all (hm r hr)
  have hlens := paysP_lens (v := v) (l := l) (t := []) hM (by simp; omega)
  obtain ⟨m', rfl⟩ : ∃ m', m = 8 + m' := ⟨m - 8, by omega⟩
  rw [fileP_len] at hle
  obtain ⟨c, t, c1, c2, c3, c4, c5⟩ := cut_frames (paysP v [] l) m' hlens (by omega)
  obtain ⟨j, ms, j1, j2, j3, j4, j5⟩ := cut_recs hv l [] c hM c1
  refine ⟨j, ms, t, j1, ?_, j3, j4, c3, c4, fun i hi hil => j5 i hi ?_⟩
  · unfold fileP
    rw [show 8 + m' = (headP v).length + m' from by rw [headP_length], List.take_length_add_append, c2, j2, framesP_append]
    simp only [List.append_assoc]
  · refine Nat.le_of_not_lt fun hlt => ?_
    have e : paysP v [] l = paysP v [] (l.take i) ++ paysP v (tblL v [] (l.take i)) (l.drop i) := by rw [← paysP_append, List.take_append_drop]
    have hlen : (paysP v [] (l.take i)).length ≤ (paysP v [] l).length := by rw [e, List.length_append]; omega
    have h1 := c5 (by omega)
    have h2 : (paysP v [] l).take (c + 1) = (paysP v [] (l.take i)).take (c + 1) := by
      rw [e, List.take_append_of_le_length (by omega)]
    rw [h2] at h1
    have h3 := framesP_part (paysP v [] (l.take i)) (c + 1)
    rw [fileP_len] at hil
    omega
end Go.Abs
end

section
/- journal.Open on a file that was cut off. -/
set_option maxRecDepth 100000
set_option maxHeartbeats 4000000
set_option linter.unusedVariables false
set_option linter.unusedSimpArgs false
namespace Go.Abs
open Go Go.Proofs Dig
attribute [local irreducible] ibits byteAt strLt firstIdx

theorem Whole.key {s : FSt} {name b : B} (h : Whole s name b) : name ∈ kys s.fs := lk_key h
theorem Whole.get {s : FSt} {name b : B} (h : Whole s name b) : gF s.fs name = ⟨b, b.length⟩ := by unfold gF; rw [show lk s.fs name = _ from h]; rfl
/-- Nothing fails any more. -/
def Calm (s : FSt) : Prop := s.fail = -1 ∧ s.fall = -1 ∧ s.down = false
theorem crash_calm (s : FSt) (keep : List Int) : Calm (s.crash keep) := ⟨rfl, rfl, rfl⟩
theorem trunc_spec {s : FSt} (hc : Calm s) {name b : B} (hw : Whole s name b) {n : Nat} (hn : n ≤ b.length) : (s.truncate name (n : Int)).2 = 0 ∧ Whole (s.truncate name (n : Int)).1 name (b.take n) ∧ Calm (s.truncate name (n : Int)).1 := by
  obtain ⟨h1, h2, h3⟩ := hc
  have hm : s.may name = 0 := by unfold FSt.may; rw [h3, show lk s.fs name = _ from hw]; rfl
  have hg := hw.get
  unfold FSt.truncate
  rw [if_neg (by rw [hm]; simp), if_neg (by rw [hg]; show ¬ ((n : Int) < 0 ∨ ((b.length : Nat) : Int) < (n : Int)); omega)]
  unfold FSt.act
  rw [if_neg (by rw [h2]; decide), if_neg (by rw [h1]; decide)]
  refine ⟨rfl, ?_, by show cnt s.fail = -1; rw [h1]; rfl, by show cnt s.fall = -1; rw [h2]; rfl, h3⟩
  unfold Whole
  show lk (cutF name (n : Int).toNat s.fs) name = _
  unfold cutF
  rw [lk_pt, if_pos rfl, hg, Int.toNat_natCast]
  simp only [List.length_take, Option.some.injEq, Fl.mk.injEq, true_and]
  omega
end Go.Abs
end

section
/- fold.Right; FoldParts. -/
set_option maxRecDepth 100000
set_option maxHeartbeats 1000000
set_option linter.unusedVariables false
set_option linter.unusedSimpArgs false
namespace Go.Abs
open Go Go.Proofs Dig
attribute [local irreducible] ibits byteAt strLt firstIdx

end Go.Abs
end

section
/- The document's May. -/
set_option maxRecDepth 100000
set_option maxHeartbeats 2000000
set_option linter.unusedVariables false
set_option linter.unusedSimpArgs false
namespace Go.Abs
open Go Go.Proofs Dig
attribute [local irreducible] ibits byteAt strLt firstIdx

end Go.Abs
end

section
/- JournalAppends. -/
set_option maxRecDepth 100000
set_option maxHeartbeats 4000000
set_option linter.unusedVariables false
set_option linter.unusedSimpArgs false
namespace Go.Abs
open Go Go.Proofs Dig
attribute [local irreducible] ibits byteAt strLt firstIdx

/-- What stands behind the rounds: the first 'w' were appended, of which the first 'j' are in the file. -/
structure JEnd (x : List Rc) (s : FSt) (j w sy : Nat) : Prop where
  hok : FOk s 100 2000000
  hsy : sy ≤ j
  hj : j ≤ w
  hw : w ≤ x.length
  hmay : ∀ r ∈ x.take j, mayP 3 r = true
  hlog : ∃ k, lk s.fs logB = some ⟨fileP 3 (x.take j), k⟩ ∧ (fileP 3 (x.take sy)).length ≤ k
/-- Behind a crash. -/
theorem JEnd.crash {x : List Rc} {s : FSt} {j w sy : Nat} (h : JEnd x s j w sy) (hx : x.length ≤ 30) (keep : List Int) :
    ∃ (m : Nat) (ms : List B) (t : B), sy ≤ m ∧ m ≤ w ∧ (∀ r ∈ x.take m, mayP 3 r = true) ∧ ms.length < 100 ∧ (∀ m ∈ ms, m.length ≤ 64) ∧ EndAt t ∧ t.length < 3000 ∧ Whole (s.crash keep) logB (fileP 3 (x.take m) ++ framesP (ms.map defP) ++ t) ∧ FOk (s.crash keep) 100 2000000 := by
  obtain ⟨k, hk, hsy⟩ := h.hlog
  obtain ⟨c1, c2, c3⟩ := crash_spec h.hok keep
  obtain ⟨m, m1, m2, m3⟩ := c3 logB (lk_key hk)
  have hg : gF s.fs logB = ⟨fileP 3 (x.take j), k⟩ := by unfold gF; rw [hk]; rfl
  rw [hg] at m1 m2 m3
  have hjl : (x.take j).length = j := by rw [List.length_take]; have := h.hj; have := h.hw; omega
  have h8 : 8 ≤ m := by
    have := fileP_len 3 (x.take sy)
    have m1 : k ≤ m := m1
    omega
  obtain ⟨m', ms, t, e1, e2, e3, e4, e5, e6, e7⟩ := cut_file (v := 3) (by decide) h.hmay (by rw [hjl]; have := h.hj; have := h.hw; omega) h8 m2
  have htt : ∀ i, i ≤ j → (x.take j).take i = x.take i := fun i hi => by rw [List.take_take, Nat.min_eq_left hi]
  rw [hjl] at e1 e7
  rw [htt m' e1] at e2
  refine ⟨m', ms, t, ?_, Nat.le_trans e1 h.hj, ?_, e3, e4, e5, e6, ?_, c1⟩
  · refine e7 sy h.hsy ?_
    rw [htt sy h.hsy]
    have m1 : k ≤ m := m1
    omega
  · intro r hr
    rw [← htt m' e1] at hr
    exact h.hmay r (List.mem_of_mem_take hr)
  · have hin : logB ∈ kys (s.crash keep).fs := by rw [c2]; exact lk_key hk
    unfold Whole
    rw [← e2]
    cases e : lk (s.crash keep).fs logB with
    | none => exact absurd hin (lk_none.1 e)
    | some f =>
      have : gF (s.crash keep).fs logB = f := by unfold gF; rw [e]; rfl
      rw [this] at m3
      rw [m3]
      have m2 : m ≤ (fileP 3 (x.take j)).length := m2
      simp only [List.length_take, Option.some.injEq, Fl.mk.injEq, true_and]
      omega
theorem args_u16 {ts : List TypeId} {l : List AV} (h : Args tab 12 (56 :: ts) l) : ∃ (x : Int) (l' : List AV), l = .val (.int .u16 x) :: l' ∧ Args tab 12 ts l' := by
  obtain ⟨a, l', rfl, h1, h2⟩ := h
  obtain ⟨x, e, hx⟩ : ∃ x, [a] = [.val (.int .u16 x)] ∧ (Lit.int .u16 x).wf = true := h1
  simp only [List.cons.injEq, and_true] at e
  exact ⟨x, l', by rw [e], h2⟩
end Go.Abs
end

section
/- store: the small functions. -/
set_option maxRecDepth 100000
set_option maxHeartbeats 4000000
set_option linter.unusedVariables false
set_option linter.unusedSimpArgs false
namespace Go.Abs
open Go Go.Proofs Dig
attribute [local irreducible] ibits byteAt strLt firstIdx

/-- A store: is it over, the name of its file system, its file. -/
def stO (over : Bool) (n : Nat) (v : Int) (l : List Rc) : AObj := .cells 52 [.val (.bool over), .ptr n 0, vi v, .sl none 7 (recs l), .sl none 1 (ints (endsR v l)), vi (((fileP v l).length : Nat) : Int)]
theorem met_calls (e : Int) (v : Int) (l : List Rc) (s : FSt) {R} (h : R (vi e) [stO (e == 7) 1 v l, fsC s 2, fsM s]) :
    ACalls Tryz.prog 65 [.ptr 0 0, vi e] [stO false 1 v l, fsC s 2, fsM s] R := by
  refine acalls_of_xwp (an := an65) tab_ok Tryz.func65 ?_
  (conv => whnf)
  exact h
theorem Over_calls (o : Bool) (v : Int) (l : List Rc) (s : FSt) {R} (h : R (.val (.bool o)) [stO o 1 v l, fsC s 2, fsM s]) :
    ACalls Tryz.prog 20 [.ptr 0 0] [stO o 1 v l, fsC s 2, fsM s] R := by
  refine acalls_of_xwp (an := an20) tab_ok Tryz.func20 ?_
  (conv => whnf)
  exact h
theorem stVersion_calls (o : Bool) (v : Int) (l : List Rc) (s : FSt) {R} (h : R (vi v) [stO o 1 v l, fsC s 2, fsM s]) :
    ACalls Tryz.prog 31 [.ptr 0 0] [stO o 1 v l, fsC s 2, fsM s] R := by
  refine acalls_of_xwp (an := an31) tab_ok Tryz.func31 ?_
  (conv => whnf)
  exact h
theorem stAll_calls (o : Bool) (v : Int) (l : List Rc) (hl : l.length < 100000) (hd : ∀ r ∈ l, r.deps.length < 1000000) (s : FSt) {R} (h : R (.sl none 7 (recs (docOf l))) [stO o 1 v l, fsC s 2, fsM s]) :
    ACalls Tryz.prog 29 [.ptr 0 0] [stO o 1 v l, fsC s 2, fsM s] R := by
  refine acalls_of_xwp (an := an29) tab_ok Tryz.func29 ?_
  (conv => whnf)
  refine Of_records l (by omega) hd ?_
  (conv => whnf)
  exact h
theorem Commit_calls (v : Int) (l : List Rc) (s : FSt) (h1 : okN s.fail) (h2 : okN s.fall) {R} (h : R (vi (s.sync logB).2) [stO ((s.sync logB).2 == 7) 1 v l, fsC (s.sync logB).1 2, fsM (s.sync logB).1]) :
    ACalls Tryz.prog 28 [.ptr 0 0] [stO false 1 v l, fsC s 2, fsM s] R := by
  refine acalls_of_xwp (an := an28) tab_ok Tryz.func28 ?_
  (conv => whnf)
  refine Sync_calls s logB h1 h2 ?_
  generalize s.sync logB = se at h ⊢
  obtain ⟨s2, e⟩ := se
  (conv => whnf)
  refine met_calls e v l s2 ?_
  (conv => whnf)
  exact h
theorem Records_calls (o : Bool) (v : Int) (l : List Rc) (hl : l.length < 100000) (hd : ∀ r ∈ l, r.deps.length < 1000000) (s : FSt) {R} (h : R (.sl none 7 (recs l)) [stO o 1 v l, fsC s 2, fsM s]) :
    ACalls Tryz.prog 19 [.ptr 0 0] [stO o 1 v l, fsC s 2, fsM s] R := by
  refine acalls_of_xwp (an := an19) tab_ok Tryz.func19 ?_
  have hsl := recs_length l
  (conv => whnf)
  refine LoopP.ind1 (fun (i : Nat) => [(3, .sl (some (nameOf 3)) 7 (recs (l.take i))), (12, vi i)]) (fun i => [(0, stO o 1 v l), (1, fsC s 2), (2, fsM s), (nameOf 3, .row 67 7 i)]) (fun i => l.length - i) (fun i => i ≤ l.length) 0 rfl (by omega) ?_
  intro i hi0 IH
  (conv => whnf)
  refine br_intro (fun hc => ?_) (fun hc => ?_)
  · have hi := lt_of_decE hsl hc
    have IH := IH (i + 1) hi (by omega)
    rw [recs_take hi] at IH
    have hst : (recs (l.take i)).length = i := by rw [recs_length, List.length_take]; omega
    (conv => whnf); (repeat ((with_reducible refine must_intro ?_ ?_); exact decide_eq_true (by omega); (conv => whnf)))
    refine idxK_map_intro (show (i : Int).toNat < l.length by simpa using hi) ?_
    rw [show l[(i : Int).toNat]'(by simpa using hi) = l[i] from by congr 1]
    (conv => whnf)
    refine Clone_calls l[i] (hd _ (List.getElem_mem hi)) ?_
    (conv => whnf)
    refine ⟨hst.symm, by rw [hst, bytes_rec]; simp only [List.length_cons, List.length_nil]; omega, ?_⟩
    (conv => whnf)
    rw [i64_nat (by omega), hst]
    exact IH
  · have hi := ge_of_decE hsl hc
    rw [List.take_of_length_le hi]
    (conv => whnf)
    exact h
end Go.Abs
end

section
/- store: put, Put, Delete, Rewrite, Open. -/
set_option maxRecDepth 100000
set_option maxHeartbeats 4000000
set_option linter.unusedVariables false
set_option linter.unusedSimpArgs false
namespace Go.Abs
open Go Go.Proofs Dig
attribute [local irreducible] ibits byteAt strLt firstIdx

/-- A record more: the file system, the error, the records. -/
def putS (v : Int) (s : FSt) (l : List Rc) (r : Rc) : FSt × Int := s.append logB (moreP v l r)
theorem sPut_no (o : Bool) (s : FSt) (v : Int) (l : List Rc) (r : Rc) (hd : r.deps.length < 100000) (hr : o = false → r.kind ≠ 1 ∨ mayP v r = false) {R} (h1 : o = true → R (vi 7) [stO true 1 v l, fsC s 2, fsM s]) (h2 : o = false → R (vi 1) [stO false 1 v l, fsC s 2, fsM s]) :
    ACalls Tryz.prog 44 [.ptr 0 0, .agg r.enc] [stO o 1 v l, fsC s 2, fsM s] R := by
  refine acalls_of_xwp (an := an44) tab_ok Tryz.func44 ?_
  cases o with
  | true =>
    (conv => whnf)
    exact h1 rfl
  | false =>
    (conv => whnf)
    refine br_intro (fun g => ?_) (fun g => ?_)
    · (conv => whnf)
      exact h2 rfl
    have g : r.kind = 1 := by simpa using g
    have hm : mayP v r = false := (hr rfl).resolve_left fun hx => hx g
    (conv => whnf)
    refine May_calls v r hd fun p hp => ?_
    rw [hm] at hp
    subst hp
    (conv => whnf)
    exact h2 rfl
theorem sput_2 (s : FSt) {nb fb : Nat} (hk : FOk s nb fb) (hfb : fb ≤ 80000000) (l : List Rc) (hl : l.length ≤ 300) (hm : ∀ r ∈ l, mayP 2 r = true) (r : Rc) (hr : mayP 2 r = true) {R}
    (h1 : (putS 2 s l r).2 ≠ 0 → R (vi (putS 2 s l r).2) [stO ((putS 2 s l r).2 == 7) 1 2 l, fsC (putS 2 s l r).1 2, fsM (putS 2 s l r).1])
    (h2 : (putS 2 s l r).2 = 0 → R (vi 0) [stO false 1 2 (l ++ [r]), fsC (putS 2 s l r).1 2, fsM (putS 2 s l r).1]) :
    ACalls Tryz.prog 75 [.ptr 0 0, .agg r.enc] [stO false 1 2 l, fsC s 2, fsM s] R := by
  refine acalls_of_xwp (an := { an75 with anyo := [1] }) tab_ok Tryz.func75 ?_
  unfold putS at h1 h2
  (conv => whnf)
  repeat' first | exact trivial | apply And.intro | ((fail_if_success (refine (show ACalls _ _ _ _ _ from ?_))); (fail_if_success (refine br_true ?_ ?_)); (conv => whnf))
  all_goals refine jAppend_2 s logB (by decide) hk hfb l hl hm r hr ?_ ?_
  all_goals generalize s.append logB (moreP 2 l r) = se at h1 h2 ⊢
  all_goals obtain ⟨s2, e⟩ := se
  all_goals intro he
  all_goals first | (have he : e ≠ 0 := he) | (have he : e = 0 := he; subst he)
  all_goals (repeat' first | exact trivial | apply And.intro | ((fail_if_success (refine (show ACalls _ _ _ _ _ from ?_))); (fail_if_success (refine br_true ?_ ?_)); (conv => whnf)))
  all_goals first | refine br_false (by simpa using he) ?_ | skip
  all_goals (repeat' first | exact trivial | apply And.intro | ((fail_if_success (refine (show ACalls _ _ _ _ _ from ?_))); (fail_if_success (refine br_true ?_ ?_)); (conv => whnf)))
  all_goals first | refine met_calls 0 2 (l ++ [r]) s2 ?_ | refine met_calls e 2 l s2 ?_
  all_goals (conv => whnf)
  all_goals first | exact h2 rfl | exact h1 he
theorem sPut_2 (s : FSt) {nb fb : Nat} (hk : FOk s nb fb) (hfb : fb ≤ 80000000) (l : List Rc) (hl : l.length ≤ 300) (hm : ∀ r ∈ l, mayP 2 r = true) (r : Rc) (hkd : r.kind = 1) (hr : mayP 2 r = true) {R}
    (h1 : (putS 2 s l r).2 ≠ 0 → R (vi (putS 2 s l r).2) [stO ((putS 2 s l r).2 == 7) 1 2 l, fsC (putS 2 s l r).1 2, fsM (putS 2 s l r).1])
    (h2 : (putS 2 s l r).2 = 0 → R (vi 0) [stO false 1 2 (l ++ [r]), fsC (putS 2 s l r).1 2, fsM (putS 2 s l r).1]) :
    ACalls Tryz.prog 44 [.ptr 0 0, .agg r.enc] [stO false 1 2 l, fsC s 2, fsM s] R := by
  refine acalls_of_xwp (an := an44) tab_ok Tryz.func44 ?_
  have hd := (may_all hr).deps
  (conv => whnf)
  refine br_false (by simpa using hkd) ?_
  (conv => whnf)
  refine May_calls 2 r (by omega) fun p hp => ?_
  rw [hr] at hp
  subst hp
  (conv => whnf)
  refine sput_2 s hk hfb l hl hm r hr (fun he => ?_) (fun he => ?_)
  · have h1 := h1 he
    generalize putS 2 s l r = se at h1 he ⊢
    obtain ⟨s2, e⟩ := se
    (conv => whnf)
    exact h1
  · have h2 := h2 he
    generalize putS 2 s l r = se at h2 he ⊢
    obtain ⟨s2, e⟩ := se
    (conv => whnf)
    exact h2
theorem stFind_calls (o : Bool) (v : Int) (l : List Rc) (hl : l.length < 100000) (hd : ∀ r ∈ l, r.deps.length < 1000000) (s : FSt) (t : B) {R} (h : R (.tup [.agg (findR (docOf l) t).enc, .val (.bool (findP (docOf l) t).isSome)]) [stO o 1 v l, fsC s 2, fsM s]) :
    ACalls Tryz.prog 60 [.ptr 0 0, vs t] [stO o 1 v l, fsC s 2, fsM s] R := by
  refine acalls_of_xwp (an := an60) tab_ok Tryz.func60 ?_
  (conv => whnf)
  refine stAll_calls o v l hl hd s ?_
  (conv => whnf)
  refine Find_calls (docOf l) (by have := docOf_len l; omega) (fun r hr => hd r (docOf_sub hr).1) t ?_
  (conv => whnf)
  exact h
theorem Rewrite_calls (s : FSt) {nb fb : Nat} (hk : FOk s nb fb) (hnb : nb ≤ 800000) (hfb : fb ≤ 70000000) (v : Int) (l : List Rc) (w : Int) (m : List Rc) (hl : m.length ≤ 300) (hd : ∀ r ∈ m, r.deps.length < 100000) {R}
    (h0 : ∀ e : Int, e = 1 ∨ e = 11 → (¬ is3 w ∨ ¬ ∀ r ∈ m, mayP w r = true) → R (vi e) [stO false 1 v l, fsC s 2, fsM s])
    (h1 : is3 w → (∀ r ∈ m, mayP w r = true) → (startP s logB newB (fileP w m)).2 ≠ 0 → R (vi (startP s logB newB (fileP w m)).2) [stO ((startP s logB newB (fileP w m)).2 == 7) 1 v l, fsC (startP s logB newB (fileP w m)).1 2, fsM (startP s logB newB (fileP w m)).1])
    (h2 : is3 w → (∀ r ∈ m, mayP w r = true) → (startP s logB newB (fileP w m)).2 = 0 → R (vi 0) [stO false 1 w m, fsC (startP s logB newB (fileP w m)).1 2, fsM (startP s logB newB (fileP w m)).1]) :
    ACalls Tryz.prog 48 [.ptr 0 0, vi w, .sl none 7 (recs m)] [stO false 1 v l, fsC s 2, fsM s] R := by
  refine acalls_of_xwp (an := an48) tab_ok Tryz.func48 ?_
  by_cases hw : is3 w
  · by_cases hm : ∀ r ∈ m, mayP w r = true
    · have hs := fileP_small hm hl
      (conv => whnf)
      refine cPut_any hw m (by omega) hd (fun _ => ?_) (fun hno => absurd hm hno)
      (conv => whnf)
      refine Start_ok s logB newB (fileP w m) log_new w m hk (by omega) (by omega) (by decide) hs (fun hR => cPut_any hw m (by omega) hd (fun _ => hR) (fun hno => absurd hm hno)) ?_
      have h1 := h1 hw hm
      have h2 := h2 hw hm
      generalize startP s logB newB (fileP w m) = se at h1 h2 ⊢
      obtain ⟨s2, e⟩ := se
      by_cases he : e = 0
      · subst he
        have h2 := h2 rfl
        (conv => whnf)
        refine cGet_any hw m hm hl ?_
        (conv => whnf)
        exact h2
      · have h1 := h1 he
        (conv => whnf)
        refine br_true (by simpa using he) ?_
        (conv => whnf)
        refine met_calls e v l s2 ?_
        (conv => whnf)
        exact h1
    · (conv => whnf)
      refine cPut_any hw m (by omega) hd (fun hy => absurd hy hm) (fun _ => ?_)
      (conv => whnf)
      exact h0 1 (.inl rfl) (.inr hm)
  · (conv => whnf)
    refine cPut_no w (fun hx => hw (by unfold is3; omega)) m ?_
    (conv => whnf)
    exact h0 11 (.inr rfl) (.inl hw)
/-- The record that takes a target's trace away. -/
def goneT (t : B) : Rc := ⟨2, t, 0, [], 0, 0, []⟩
end Go.Abs
end
