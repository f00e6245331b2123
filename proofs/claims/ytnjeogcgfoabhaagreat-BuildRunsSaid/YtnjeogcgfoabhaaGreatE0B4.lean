/- The engine, B4. -/
import Derived.Test.YtnjeogcgfoabhaaGreatE0B3
set_option linter.unusedVariables false
set_option linter.unusedSimpArgs false
namespace Go.Abs
open Go
section
variable {P : Program} {T : Tab} {an : Ann} {E : dQ} {st : St} {G : Gh} {a : Act} {w : World} {o : Oper} {k : St → Prop} {next : Act → World → Prop} {Q : Exit → Act → World → Prop}
theorem cB (hT : cd P T) {t : TypeId} {x : TD} (h : dOf T t = x) (hx : x ≠ .other) : ∃ i d, P.info? t = some i ∧ P.underlying t = some d ∧ TD.of d = x := by
 obtain ⟨i, d, h1, h2, _, _, h3, _, _⟩ := fc hT (t := t) (by rw [h]; exact hx);exact ⟨i, d, h1, h2, by rw [← h3, h]⟩
theorem pk {α β : Type} (l : List α) (f : α → β) : (l.map fun c => [f c]).flatten = l.map f := by
 induction l with
 | nil => rfl
 | cons a l ih => simp [ih]
theorem IZ {β : Type} (f : β → Value) (l : List β) : aB G (l.map fun b => .val (f b)) (l.map f) := by
 induction l with
 | nil => simp [aB]
 | cons x l ih => simp only [aaF, aB]; exact ⟨_, _, rfl, by simp only [Rep], ih⟩
theorem og {β : Type} (f : β → Value) {l : List β} {vs : List Value} (h : aB G (l.map fun b => .val (f b)) vs) : vs = l.map f := by
 induction l generalizing vs with
 | nil => simpa [aB] using h
 | cons x l ih =>
  simp only [aaF, aB, Rep] at h;obtain ⟨v, us, rfl, rfl, h⟩ := h;rw [ih h]; rfl
theorem xh (hT : cd P T) {s d : TypeId} {x : Operand} (hop : o.op = .convert s d x) (hI : Inv E st G a w) (h : ck P T an o st k) (hn : fy E k next) : o.wp P a w next Q := by
 unfold ck aQ at h;simp only [hop] at h;obtain ⟨hok, h⟩ := bz h;obtain ⟨hok', h⟩ := bz h;obtain ⟨inf, ds, hinf, hd, _, _, htd, _, _⟩ := bN hT hok;obtain ⟨inf', dd, hinf', hd', _, _, htd', _, _⟩ := bN hT hok';have hx := hI.eval x;split at h
 ·rename_i kd ks n hde hxe;rw [hxe] at hx;simp only [Rep] at hx;rw [htd'] at hde;obtain rfl := mN hde;split at h
  ·rename_i k' hse;rw [htd] at hse;obtain rfl := mN hse;refine ba (x := .int kd (kd.wrap n)) hI ?_ (by simp only [Rep]) h hn;simp [execOp, hop, hx, convert, run_underlying hd, run_underlying hd', Conv.intToInt]
  ·exact h.elim
 ·rename_i b hde hxe;rw [hxe] at hx;simp only [Rep] at hx;rw [htd'] at hde;obtain rfl := dP hde;split at h
  ·rename_i hse;rw [htd] at hse;obtain rfl := dP hse;refine ba (x := .string b) hI ?_ (by simp only [Rep]) h hn;simp [execOp, hop, hx, convert, run_underlying hd, run_underlying hd']
  ·exact h.elim
 ·rename_i e b hde hxe;rw [hxe] at hx;simp only [Rep] at hx;rw [htd'] at hde;obtain rfl := dc hde;split at h
  ·rename_i hee;obtain ⟨ie, de, hie, hue, hte⟩ := cB hT hee (by simp);obtain rfl := mN hte;have hrun := Lib.run_convert_string_bytes (P := P) w s d e b hd hd' hue;have hcap : b.size ≤ grownCap w b.size 0 e := grownCap_ge w b.size 0 e;obtain ⟨hI', hle⟩ := hI.grow (w' := Lib.bytesWorld w e b) (K' := iZ G.K w.heap.size (b.data.toList.map fun c => Value.int .u8 c.toNat)) rfl rfl rfl (by rw [Lib.bytesWorld_size]; omega)
    (fun i hi => Lib.bytesWorld_at_old w e b i hi) (fun i o hi => by
     have hne : i ≠ w.heap.size := Nat.ne_of_lt hi;simp [iZ, hne]) (fun i o v hi ev => by
     by_cases hii : i = w.heap.size
     ·subst hii;simp only [iZ, abq, aaE, aa5] at ev;obtain ⟨c, hc, rfl⟩ := ev;have ho : o < b.size := by
       have := (List.getElem?_eq_some_iff.1 hc).1;simpa using this
      rw [Lib.bytesWorld_cell w e b o ho];have hc' : b.data[o]? = some c := by simpa using hc
      simp [hc']
     ·simp only [iZ, hii, aaW] at ev;have := hI.wr.kltb ev;omega)
   refine cQ (x := .slice (some ⟨w.heap.size, 0, none⟩) b.size (grownCap w b.size 0 e)) hI' ?_ ?_ h hn
   ·simp only [execOp, hop, hx, Sem.run_bind, hrun, Result.andThen_ok, Sem.run_pure]
   ·simp only [Rep];refine ⟨⟨some ⟨w.heap.size, 0, none⟩, grownCap w b.size 0 e, by simp, by simpa using hcap, d7.of_flat (vs := b.data.toList.map fun c => Value.int .u8 c.toNat) ?_ ?_ ?_⟩, trivial⟩
    ·rw [pk];exact IZ (fun c : UInt8 => Value.int .u8 c.toNat) _
    ·intro e' he';simp only [List.mem_map] at he';obtain ⟨c, _, rfl⟩ := he';exact ⟨rfl, rfl⟩
    ·intro j v hj;simpa [iZ] using hj
  ·exact h.elim
 ·rename_i own sz l hde hxe;rw [hxe] at hx;simp only [Rep] at hx;obtain ⟨⟨A, c, hxv, hc, hE⟩, _⟩ := hx;rw [htd'] at hde;obtain rfl := dP hde;split at h
  ·rename_i e hse;rw [htd] at hse;obtain rfl := dc hse;split at h
   ·rename_i hee;obtain ⟨ie, de, hie, hue, hte⟩ := cB hT hee (by simp);obtain rfl := mN hte;obtain ⟨bs, rfl, h⟩ := h;refine ba (x := .string (strOfNums bs)) hI ?_ (by simp only [Rep]) h hn;simp only [execOp, hop, hxv, Sem.run_bind];by_cases hb : bs = []
    ·subst hb
     cases A with
     | none =>
      have := run_convert_bytes_nil (P := P) w s e hd hue 0 c d hd';simp only [abi, aaj];rw [this]; rfl
     | some ad =>
      obtain ⟨b, o', sp⟩ := ad;have hn0 : (convert s d (.slice (some ⟨b, o', sp⟩) 0 c)).run P w = .ok (.string (strOfNums [])) w := by
       simp [convert, run_underlying hd, run_underlying hd', run_underlying hue, Conv.bytesToString, loadCells, loadCellsFrom, strOfNums]; rfl
      simp only [abi, aaj, hn0, Result.andThen_ok, Sem.run_pure]
    ·obtain ⟨vs, h1, h2, h3, h4⟩ := hE.flat;obtain ⟨b, o', rfl, h5⟩ := h4 (by simpa using hb);have hsz : sz = 1 := by
      cases bs with
      | nil => exact absurd rfl hb
      | cons x bs =>
       obtain ⟨_, _, _, hl, _⟩ := hE.get (i := 0) (e := [.val (.int .u8 x)]) (by simp);simpa using hl.symm
     subst hsz;rw [pk] at h1;have h1' := og (fun b => Value.int .u8 b) h1;subst h1';simp only [abg];rw [run_convert_bytes_arg (P := P) w s e hd hue b o' bs.length c bs rfl (fun i hi => hI.wr.know _ _ _ (by
      have := h5 i (.int .u8 (bs.getD i 0)) (by simp [aad hi, aas]);simpa using this)) d hd']
     rfl
   ·exact h.elim
  ·exact h.elim
 ·rename_i n sz ver off len hde hxe;rw [hxe] at hx;simp only [Rep] at hx;obtain ⟨_, u0, top0, q1, q2, q3⟩ := hx;rw [htd'] at hde;obtain rfl := dP hde;split at h
  ·rename_i e hse;rw [htd] at hse;obtain rfl := dc hse;split at h
   ·rename_i hee;obtain ⟨ie, de, hie, hue, hte⟩ := cB hT hee (by simp);obtain rfl := mN hte;split at h
    ·rename_i t' sr l ver' ho;obtain ⟨hsz, h2⟩ := az h;obtain ⟨⟨hver, hlen, hpos⟩, bs, hbs, hq⟩ := h2;clear h;rw [aaq] at hsz;obtain rfl : sz = 1 := aah hsz.1;obtain rfl : off = 0 := aah hsz.2;obtain ⟨u, xs, o1, o2, o3, o4, o5⟩ := hI.wr.obj _ _ ho;rw [o1] at q1;injection q1 with q1
     injection q1 with q1 q1'
     subst q1 q1';obtain ⟨A0, L, c0, A', v1, v2, v3, v4, v5, v6⟩ := q3 hver;obtain ⟨g, a1, a2⟩ := v6 (by omega);rw [Nat.zero_mul] at a2;obtain rfl : sr = 1 := by
      cases bs with
      | nil => rw [hbs] at hlen; simp at hlen; omega
      | cons b bs => have := (o4 [.val (.int .u8 b)] (by rw [hbs]; simp)).1; simpa using this.symm
     have hxs : xs = bs.map fun b => Value.int .u8 b := by
      have key : ∀ m : List Int, (m.map fun b => [AV.val (.int .u8 b)]).flatten = m.map fun b => AV.val (.int .u8 b) := fun m => by
       induction m with
       | nil => rfl
       | cons b m ih => rw [aaF, aa2, ih]; rfl
      rw [hbs, key] at o3;exact og (fun b => Value.int .u8 b) o3
     have hbl : bs.length = len := by rw [hlen, hbs]; simp
     rcases o2.2 with ⟨_, hz⟩ | ⟨g', cap, cur, hu, _, hg, hnc, hcm, hcs, htake⟩
     ·omega
     rw [hu] at v1;injection v1 with v1 v1' v1''
     rw [a1] at v1;injection v1 with v1
     injection v1 with v1
     subst v1;refine ba (x := .string (strOfNums bs)) hI ?_ (by simp only [Rep]) hq hn;simp only [execOp, hop, v4, a2, Sem.run_bind];subst hbl;rw [run_convert_bytes_arg (P := P) w s e hd hue g' 0 bs.length (c0 - 0) bs rfl (fun i hi => by
      rw [iq hg];have h1 : xs[i]? = some (.int .u8 (bs.getD i 0)) := by
       rw [hxs];simp [aad hi, aas]
      rw [← htake, abb (by rw [← hlen]; omega)] at h1;simpa using h1) d hd']
     rfl
    ·exact h.elim
   ·exact h.elim
  ·exact h.elim
 ·exact h.elim
theorem Hg {t ty : TypeId} {A : AV} {x : Value} {n : Int} (hA : Rep G A x) (hI : Inv E st G a w) {d : TypeDesc} (hd : P.underlying t = some d) (hk : qb (TD.of d) A = true)
  (hl : xw A st.objs = some n) : (Builtin.len_ #[t] ty #[x]).run P w = .ok (.int .i64 n) w := by
 unfold xw at hl;split at hl
 ·injection hl with hl; subst hl
  simp only [Rep] at hA; subst hA
  cases d <;> simp [qb, TD.of] at hk
  simp [Builtin.len_, run_underlying hd, goInt]
 ·injection hl with hl; subst hl
  simp only [Rep] at hA; subst hA
  cases d <;> simp [qb, TD.of] at hk
  simp [Builtin.len_, run_underlying hd, goInt]
 ·injection hl with hl; subst hl
  simp only [Rep] at hA;obtain ⟨⟨A, c, rfl, _⟩, _⟩ := hA
  cases d <;> simp [qb, TD.of] at hk
  simp [Builtin.len_, run_underlying hd, goInt]
 ·injection hl with hl; subst hl
  simp only [Rep] at hA;obtain ⟨b, _, rfl⟩ := hA
  cases d <;> simp [qb, TD.of] at hk
  simp [Builtin.len_, run_underlying hd, goInt]
 ·injection hl with hl; subst hl
  simp only [Rep] at hA;obtain ⟨⟨A, c, rfl, _⟩, _⟩ := hA
  cases d <;> simp [qb, TD.of] at hk
  simp [Builtin.len_, run_underlying hd, goInt]
 ·rename_i m;simp only [Rep] at hA;obtain ⟨b, hb, rfl⟩ := hA;split at hl
  ·rename_i es ho;injection hl with hl; subst hl
   obtain ⟨b', ms, cl, e1, e2, e3, e4⟩ := hI.wr.obj _ _ ho;rw [hb] at e1; cases e1;have hlen : ms.size = es.length := by
    have : ∀ {es : List (ByteArray × AV)} {ms : List MapEntry}, fw G es ms → ms.length = es.length := by
     intro es
     induction es with
     | nil => intro ms h; cases ms with
      | nil => rfl
      | cons m ms => exact h.elim
     | cons e es ih => intro ms h; cases ms with
      | nil => exact h.elim
      | cons m ms => simp [ih h.2.2]
    simpa using this e3
   cases d <;> simp [qb, TD.of] at hk
   simp [Builtin.len_, run_underlying hd, goInt, getObj, Sem.run, e2, hlen]
  ·cases hl
 ·cases hl
end
end Go.Abs
