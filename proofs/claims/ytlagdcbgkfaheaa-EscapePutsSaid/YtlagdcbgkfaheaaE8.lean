/- The library's strings.Builder: what its functions do in memory. -/
import Derived.Test.YtlagdcbgkfaheaaE1
import Derived.Shelf.RegionOpenPlain
import Derived.Lib.Builder
import Derived.Lib.UnsafeStr
import Derived.Lib.Strings
import Derived.Lib.Slices
import Derived.Lib.Walk
set_option linter.unusedVariables false
set_option linter.unusedSimpArgs false
namespace Go.Abs
open Go Go.Proofs Go.Shelf Go.RowKit

theorem sb_size : (Try.prog.info? 126).map (·.size) = some 2 := by kernel_rfl
theorem sb_lies : liesAt Try.prog Try.prog.depth 126 (2 / Try.prog.cellsOf 126) 0 126 1 = true := by kernel_rfl
theorem sb_cells : Try.prog.cellsOf 5 = 1 := by kernel_rfl

set_option maxHeartbeats 1000000 in
set_option maxRecDepth 100000 in
theorem copyCheck_used (b : Nat) (w : World) (h0 : w.cell? ⟨b, 0, none⟩ = some (.pointer (some ⟨b, 0, none⟩))) :
    Calls Try.prog 104 #[.pointer (some ⟨b, 0, none⟩)] w fun e w' => e = .returned (.tuple #[]) ∧ w' = w := by
  obtain ⟨j, hj, _⟩ := Option.map_eq_some_iff.1 sb_size
  have mixed := mixed_ok
  go_enter Try.func104, Try.ntmps104
  go_wp2
  rw [Lib.run_neq_ptr_same w _ Try.underlying124 hj]
  go_wp2
  go_end0
  exact ⟨rfl, rfl⟩

set_option maxHeartbeats 1000000 in
set_option maxRecDepth 100000 in
theorem copyCheck_fresh (b : Nat) (w : World) (h0 : w.cell? ⟨b, 0, none⟩ = some (.pointer none)) (hsh : w.shape? b = some (126, 2)) (hfz : w.frozen? ⟨b, 0, none⟩ = false) :
    Calls Try.prog 104 #[.pointer (some ⟨b, 0, none⟩)] w fun e w' => e = .returned (.tuple #[]) ∧ w' = w.setCell ⟨b, 0, none⟩ (.pointer (some ⟨b, 0, none⟩)) := by
  obtain ⟨j, hj, hjs⟩ := Option.map_eq_some_iff.1 sb_size
  have mixed := mixed_ok
  go_enter Try.func104, Try.ntmps104
  go_wp2
  rw [Lib.run_to_unsafe w ⟨b, 0, none⟩ Try.underlying124 Try.underlying153 hj (by rw [hjs]; decide) hsh (Nat.zero_lt_succ 1)]
  simp only [Result.andThen]
  rw [Oper.upon_value]
  go_wp2
  rw [run_callFunc_extern Try.func110 (by kernel_rfl) (by kernel_rfl) (by kernel_rfl) (e := Extern.AbiNoEscape.same) (by kernel_rfl)]
  rw [Lib.run_noEscape]
  simp only [Result.andThen]
  rw [Oper.upon_value]
  go_wp2
  rw [Lib.run_from_unsafe w ⟨b, 0, none⟩ Try.underlying153 Try.underlying124 hj hsh sb_lies]
  simp only [Result.andThen]
  rw [Oper.upon_value]
  go_wp2
  go_end0
  exact ⟨rfl, rfl⟩

set_option maxHeartbeats 1000000 in
set_option maxRecDepth 100000 in
theorem sbString_raw (b g cap : Nat) (p : Value) (cur : Array Value) (l : List UInt8) (w : World) (h0 : l ≠ []) (hbk : w.heap[b]? = some (.cells #[p, .slice (some ⟨g, 0, none⟩) l.length cap] 126 (0, 0)))
    (hg : w.heap[g]? = some (.cells cur 5 (0, 0))) (hnc : l.length ≤ cap) (hcm : cap ≤ maxLen) (hcs : cur.size = cap * 1) (htake : cur.toList.take (l.length * 1) = Lib.byteCells l) :
    Calls Try.prog 88 #[.pointer (some ⟨b, 0, none⟩)] w fun e w' => e = .returned (.string ⟨l.toArray⟩) ∧ ∃ w0 : World, w' = w0.freeze ⟨g, 0, none⟩ l.length ∧ w0.heap = w.heap ∧ w0.os = w.os ∧ w0.tape = w.tape ∧ w0.output = w.output := by
  have hl0 : l.length ≠ 0 := by simpa using h0
  have c1 : w.drew.cell? ⟨b, 1, none⟩ = some (.slice (some ⟨g, 0, none⟩) l.length cap) := by
    have : w.drew.heap[b]? = some (.cells #[p, .slice (some ⟨g, 0, none⟩) l.length cap] 126 (0, 0)) := hbk
    rw [Lib.cell_of_heap this]; rfl
  have hSD : (Builtin.unsafeSliceData_ #[70] 146 #[.slice (some ⟨g, 0, none⟩) l.length cap]).run Try.prog w.drew = .ok (.pointer (some ⟨g, 0, none⟩)) w.drew :=
    Lib.run_unsafeSliceData_row _ _ _ _ _ _ (by omega)
  have hUS : (Builtin.unsafeString_ #[146, 3] 9 #[.pointer (some ⟨g, 0, none⟩), .int .i64 l.length]).run Try.prog w.drew = .ok (.string ⟨l.toArray⟩) (w.drew.freeze ⟨g, 0, none⟩ l.length) := by
    refine Lib.run_unsafeString_row w.drew 146 3 9 5 Try.underlying146 sb_cells g cur.size (by have hg' : w.drew.heap[g]? = some (.cells cur 5 (0, 0)) := hg; simp [World.shape?, hg']) l h0 (by omega) (by unfold maxLen at hcm; omega) ?_
    intro j x hx
    have hj : j < l.length := (List.getElem?_eq_some_iff.1 hx).1
    have hcj : cur[j]? = some (.int .u8 x.toNat) := by
      have h1 : (cur.toList.take (l.length * 1))[j]? = some (.int .u8 x.toNat) := by rw [htake]; simp [Lib.byteCells, hx]
      rw [List.getElem?_take_of_lt (by omega)] at h1
      simpa using h1
    have hg' : w.drew.heap[g]? = some (.cells cur 5 (0, 0)) := hg
    rw [show Addr.add ⟨g, 0, none⟩ j = ⟨g, j, none⟩ from by rw [addr_add, Nat.zero_add], Lib.cell_of_heap hg']
    exact hcj
  have mixed := mixed_ok
  go_enter Try.func88, Try.ntmps88
  go_wp2
  go_region_o
  all_goals (go_wp2; go_ret; exact ⟨rfl, w.drew, rfl, rfl, rfl, rfl, rfl⟩)

/-! ### contracts by hand -/
def entry (G : Gh) (w : World) : Entry := ⟨G, w, fun b => ∃ n, G.at n b⟩
theorem inv0 {G : Gh} {os : List AObj} {w : World} (hW : WR G (numbered 0 os) w) : Inv (entry G w) ⟨[], numbered 0 os⟩ G { tmps := #[], defers := [] } w :=
  ⟨by simp [RepL], rfl, hW, Gh.le.refl _, ⟨rfl, rfl, rfl, Nat.le_refl _, fun _ _ _ => rfl, fun _ _ _ _ => rfl⟩, fun n b hb => .inl ⟨n, hb⟩⟩
theorem acalls_pack {P : Program} {f : FuncId} {args : List AV} {os : List AObj} {R : AV → List AObj → Prop}
    (h : ∀ (G : Gh) (w : World) (vals : List Value), WR G (numbered 0 os) w → RepL G args vals → Calls P f vals.toArray w fun e w' => ∃ (v : Value) (r : AV) (os' : List AObj) (G' : Gh), e = .returned v ∧ R r os' ∧ Rep G' r v ∧
      Inv (entry G w) ⟨[], numbered 0 os'⟩ G' { tmps := #[], defers := [] } w' ∧ (∀ (i : Nat) (o : AObj), os'[i]? = some o → ∀ m ∈ objNames o, m < os'.length) ∧ ∀ m ∈ r.names, m < os'.length) : ACalls P f args os R :=
  ⟨fun G w vals hW hA => (h G w vals hW hA).mono fun e w' ⟨v, r, os', G', h1, h2, h3, h4, h5, h6⟩ => ⟨v, r, os', G', h1, h2, h3, h4.wr, h4.le, h4.ext, h4.newb, h5, h6⟩⟩

def sbC (p X : AV) : AObj := .cells 126 [p, X]
def closedOs (os : List AObj) : Prop := ∀ (i : Nat) (o : AObj), os[i]? = some o → ∀ m ∈ objNames o, m < os.length
theorem addOb_same {ob : Nm → Option GO} {n : Nm} {g : GO} (h : ob n = some g) : addOb ob n g = ob := by
  funext m
  unfold addOb
  split
  · rename_i e; subst e; exact h.symm
  · rfl

theorem copyCheck_first (X : AV) (rest : List AObj) (hc : closedOs (sbC (.ptr 0 0) X :: rest)) {R} (h : R (.tup []) (sbC (.ptr 0 0) X :: rest)) :
    ACalls Try.prog 104 [.ptr 0 0] (sbC (.val (.pointer none)) X :: rest) R := by
  refine acalls_pack fun G w vals hW hA => ?_
  have hI := inv0 hW
  obtain ⟨b, vs, e1, e2, e3, e4⟩ := hW.obj 0 (sbC (.val (.pointer none)) X) rfl
  simp only [RepL, Rep] at e3 hA
  obtain ⟨_, _, rfl, rfl, x, _, rfl, hx, rfl⟩ := e3
  obtain ⟨_, _, rfl, ⟨b', hb', rfl⟩, rfl⟩ := hA
  rw [e1] at hb'
  cases hb'
  have hlt : b < w.heap.size := (Array.getElem?_eq_some_iff.1 e2).1
  have h0 : w.cell? ⟨b, 0, none⟩ = some (.pointer none) := by rw [Lib.cell_of_heap e2]; rfl
  have hsh : w.shape? b = some (126, 2) := by simp [World.shape?, e2]
  refine (copyCheck_fresh b w h0 hsh (Lib.frozen_of_heap e2 0)).mono ?_
  rintro e w' ⟨rfl, rfl⟩
  have hb2 : (w.setCell ⟨b, 0, none⟩ (.pointer (some ⟨b, 0, none⟩))).heap[b]? = some (.cells #[.pointer (some ⟨b, 0, none⟩), x] 126 (0, 0)) := by
    simp [World.setCell, Array.getElem?_modify, e2]
  have hsame : addOb G.ob 0 (.blk b) = G.ob := addOb_same e1
  have hI' := hI.setObj (w' := w.setCell ⟨b, 0, none⟩ (.pointer (some ⟨b, 0, none⟩))) (n := 0) (o := sbC (.val (.pointer none)) X) (o' := sbC (.ptr 0 0) X) (objs' := numbered 0 (sbC (.ptr 0 0) X :: rest)) (g := .blk b) (K' := G.K) rfl rfl rfl rfl (by simp [World.setCell])
    (fun c hc hn => Below.heap_setCell _ _ _ _ (fun e => hn (by subst e; exact .inl e1))) (fun _ _ _ _ => rfl) (by rw [hsame]; exact Gh.le.refl _)
    (fun c o v hc e => by
      rcases hc with hc | hc
      · have := hI.wr.kltb e; omega
      · rcases hc with hc | ⟨_, _, hc, _⟩
        · rw [e1] at hc; cases hc; rw [e4] at e; cases e
        · rw [e1] at hc; cases hc)
    (fun m => by
      rw [objGet_numbered0]
      show _ = if m = 0 then some (sbC (.ptr 0 0) X) else objGet (numbered 0 (sbC (.val (.pointer none)) X :: rest)) m
      rw [objGet_numbered0]
      cases m <;> simp)
    (by
      rw [hsame]
      exact ⟨b, [.pointer (some ⟨b, 0, none⟩), x], e1, hb2, by simp only [RepL, Rep]; exact ⟨_, _, rfl, ⟨b, e1, rfl⟩, _, _, rfl, hx, rfl⟩, e4⟩)
    (fun c hc => .inr (by rw [hsame] at hc; exact hc))
  rw [hsame] at hI'
  exact ⟨_, .tup [], _, G, rfl, h, by simp only [Rep]; exact ⟨[], rfl, by simp [RepL]⟩, hI', hc, by simp [AV.names, namesL]⟩

theorem copyCheck_again (X : AV) (rest : List AObj) (hc : closedOs (sbC (.ptr 0 0) X :: rest)) {R} (h : R (.tup []) (sbC (.ptr 0 0) X :: rest)) :
    ACalls Try.prog 104 [.ptr 0 0] (sbC (.ptr 0 0) X :: rest) R := by
  refine acalls_pack fun G w vals hW hA => ?_
  have hI := inv0 hW
  obtain ⟨b, vs, e1, e2, e3, e4⟩ := hW.obj 0 (sbC (.ptr 0 0) X) rfl
  simp only [RepL, Rep] at e3 hA
  obtain ⟨_, _, rfl, ⟨b1, hb1, rfl⟩, x, _, rfl, hx, rfl⟩ := e3
  obtain ⟨_, _, rfl, ⟨b', hb', rfl⟩, rfl⟩ := hA
  rw [e1] at hb' hb1
  cases hb'
  cases hb1
  have h0 : w.cell? ⟨b, 0, none⟩ = some (.pointer (some ⟨b, 0, none⟩)) := by rw [Lib.cell_of_heap e2]; rfl
  refine (copyCheck_used b w h0).mono ?_
  rintro e w' ⟨rfl, rfl⟩
  exact ⟨_, .tup [], _, G, rfl, h, by simp only [Rep]; exact ⟨[], rfl, by simp [RepL]⟩, hI, hc, by simp [AV.names, namesL]⟩

def byteEls (l : B) : List (List AV) := l.map fun c => [.val (.int .u8 c.toNat)]
theorem freeze_other (w : World) (g n b : Nat) (h : b ≠ g) : (w.freeze ⟨g, 0, none⟩ n).heap[b]? = w.heap[b]? := by
  unfold World.freeze
  split
  · rfl
  · simp [Array.getElem?_modify, Ne.symm h]
theorem freeze_same (w : World) (g n : Nat) (cur : Array Value) (e : TypeId) (h : w.heap[g]? = some (.cells cur e (0, 0))) : ∃ fz, (w.freeze ⟨g, 0, none⟩ n).heap[g]? = some (.cells cur e fz) := by
  unfold World.freeze
  split
  · exact ⟨_, h⟩
  · exact ⟨(0, 0 + n), by simp [Array.getElem?_modify, h]⟩
theorem freeze_size (w : World) (g n : Nat) : (w.freeze ⟨g, 0, none⟩ n).heap.size = w.heap.size := by
  unfold World.freeze
  split
  · rfl
  · simp
theorem freeze_os (w : World) (g n : Nat) : (w.freeze ⟨g, 0, none⟩ n).os = w.os ∧ (w.freeze ⟨g, 0, none⟩ n).tape = w.tape ∧ (w.freeze ⟨g, 0, none⟩ n).output = w.output := by
  unfold World.freeze
  split <;> exact ⟨rfl, rfl, rfl⟩

theorem sbString_calls (p : AV) (l : B) (h0 : l ≠ []) {R} (h : R (.val (.string (ofB l))) [sbC (.ptr 0 0) (.sl (some 1) 1 (byteEls l)), .dead]) :
    ACalls Try.prog 88 [.ptr 0 0] [sbC (.ptr 0 0) (.sl (some 1) 1 (byteEls l)), .row 5 1 l.length] R := by
  refine acalls_pack fun G w vals hW hA => ?_
  have hI := inv0 hW
  obtain ⟨b, vs, e1, e2, e3, e4⟩ := hW.obj 0 (sbC (.ptr 0 0) (.sl (some 1) 1 (byteEls l))) rfl
  obtain ⟨u, xs, r1, r2, r3⟩ := hW.obj 1 (.row 5 1 l.length) rfl
  simp only [RepL, Rep] at e3 hA
  obtain ⟨_, _, rfl, ⟨b1, hb1, rfl⟩, x, _, rfl, ⟨⟨A, c, hxv, hcap, hE⟩, u', top, q1, q2, q3⟩, rfl⟩ := e3
  obtain ⟨_, _, rfl, ⟨b', hb', rfl⟩, rfl⟩ := hA
  rw [e1] at hb' hb1
  cases hb'
  cases hb1
  rw [r1] at q1
  cases q1
  have hlen : (byteEls l).length = l.length := by simp [byteEls]
  have hxu : x = u := q3 hlen
  subst hxu
  rcases r2.2 with ⟨_, hz⟩ | ⟨g, cap, cur, hu, _, hg, hnc, hcm, hcs, htake⟩
  · exact absurd (List.eq_nil_of_length_eq_zero hz) h0
  subst hu
  obtain ⟨ws, v1, v2, v3, v4⟩ := hE.flat
  obtain ⟨gb, go, hA', hkv⟩ := v4 (by intro e; rw [e] at hlen; exact h0 (List.eq_nil_of_length_eq_zero hlen.symm))
  rw [hA'] at hxv
  injection hxv with hx1 _ _
  injection hx1 with hx1
  injection hx1 with hx1 hx2 _
  subst hx1 hx2
  have hflat : (byteEls l).flatten = l.map fun c => AV.val (.int .u8 c.toNat) := by
    unfold byteEls
    exact flatten_single _ _
  rw [hflat] at v1
  have hws : ws = l.map fun c => Value.int .u8 c.toNat := RepL_vmap_eq (fun c : UInt8 => Value.int .u8 c.toNat) v1
  have hxs : xs = Lib.byteCells l := by
    have hxl : xs.length = l.length := by rw [r2.1]; simp
    apply List.ext_getElem?
    intro j
    rcases Nat.lt_or_ge j l.length with hj | hj
    · have h1 := hkv j (.int .u8 l[j].toNat) (by rw [hws]; simp [List.getElem?_eq_getElem hj])
      rw [r3 g rfl, Nat.zero_add] at h1
      rw [h1]
      simp [Lib.byteCells, List.getElem?_eq_getElem hj]
    · rw [List.getElem?_eq_none (by omega), List.getElem?_eq_none (by simp [Lib.byteCells]; exact hj)]
  rw [hxs] at htake
  have hgb : g ≠ b := by
    rintro rfl
    rw [e2] at hg
    injection hg with hg
    injection hg with _ hg _
    exact absurd hg (by decide)
  refine (sbString_raw b g cap _ cur l w h0 e2 hg hnc hcm hcs htake).mono ?_
  rintro e w' ⟨rfl, w0, rfl, k1, k2, k3, k4⟩
  have hsame : addOb G.ob 1 (.rowv (.slice (some ⟨g, 0, none⟩) l.length cap) l.length) = G.ob := addOb_same r1
  have hat : G.at 1 g := .inr ⟨_, _, r1, rfl⟩
  have hsz : (w0.freeze ⟨g, 0, none⟩ l.length).heap.size = w.heap.size := by rw [freeze_size, k1]
  obtain ⟨fz, hfz⟩ := freeze_same w0 g l.length cur 5 (by rw [k1]; exact hg)
  have hI' := hI.setObj (w' := w0.freeze ⟨g, 0, none⟩ l.length) (n := 1) (o := .row 5 1 l.length) (o' := .dead) (objs' := numbered 0 [sbC (.ptr 0 0) (.sl (some 1) 1 (byteEls l)), .dead]) (g := .rowv (.slice (some ⟨g, 0, none⟩) l.length cap) l.length) (K' := G.K) rfl
    (by rw [(freeze_os _ _ _).1, k2]) (by rw [(freeze_os _ _ _).2.1, k3]) (by rw [(freeze_os _ _ _).2.2, k4]) (by rw [hsz]; exact Nat.le_refl _)
    (fun c hc hn => by rw [freeze_other _ _ _ _ (fun e => hn (by subst e; exact hat)), k1]) (fun _ _ _ _ => rfl) (by rw [hsame]; exact Gh.le.refl _)
    (fun c o v hc e => by
      rcases hc with hc | hc
      · have := hI.wr.kltb e; omega
      · have hcg : c = g := by
          rcases hc with hc | ⟨_, _, hc, hc'⟩
          · rw [r1] at hc; cases hc
          · rw [r1] at hc; cases hc; simpa [Value.ownBlock] using hc'.symm
        subst hcg
        have := hW.know _ _ _ e
        rw [Lib.cell_of_heap hg] at this
        simp only [World.cell?, hfz]
        exact this)
    (fun m => by
      rw [objGet_numbered0]
      show _ = if m = 1 then some AObj.dead else objGet (numbered 0 [sbC (.ptr 0 0) (.sl (some 1) 1 (byteEls l)), .row 5 1 l.length]) m
      rw [objGet_numbered0]
      match m with
      | 0 => rfl
      | 1 => rfl
      | m + 2 => simp)
    (by
      rw [hsame]
      refine ⟨⟨_, r1⟩, fun c hc => ?_⟩
      rcases hc with hc | ⟨_, _, hc, hc'⟩
      · rw [r1] at hc; cases hc
      · rw [r1] at hc; cases hc
        have : g = c := by simpa [Value.ownBlock] using hc'
        subst this
        rw [hsz]
        exact (Array.getElem?_eq_some_iff.1 hg).1)
    (fun c hc => .inr (by rw [hsame] at hc; exact hc))
  rw [hsame] at hI'
  refine ⟨_, _, _, G, rfl, h, by simp only [Rep]; rfl, hI', fun i o ho m hm => ?_, by simp [AV.names]⟩
  match i, ho with
  | 0, ho =>
    cases ho
    simp only [objNames, sbC, namesL, AV.names, List.append_nil, List.cons_append, List.nil_append, List.mem_cons, List.not_mem_nil, or_false] at hm
    rcases hm with rfl | rfl <;> simp
  | 1, ho => cases ho; simp [objNames] at hm
  | i + 2, ho => simp at ho
end Go.Abs
