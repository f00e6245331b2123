/- The engine, A8. -/
import Derived.Test.YtnjeogcgfoabhaaGreatE0A7
set_option linter.unusedVariables false
set_option linter.unusedSimpArgs false
namespace Go.Abs
open Go
theorem O4 {x y : ByteArray} (h : x.data.toList = y.data.toList) : x = y := by
 cases x; cases y;simp at h;congr
theorem qX {x y : ByteArray} : (x.toList == y.toList) = decide (x = y) := by
 rw [Bool.eq_iff_iff];simp only [beq_iff_eq, aa0, ByteArray.toList_eq];exact ⟨O4, fun h => by rw [h]⟩
section
variable {P : Program} {T : Tab} {an : Ann} {E : dQ} {st : St} {G : Gh} {a : Act} {w : World}
theorem sa {t : TypeId} (h : P.underlying t = some .bool) (x y : Bool) (d : Nat) : (Op.equalIn (d + 1) t (.bool x) (.bool y)).run P w = .ok (x == y) w := by
 simp [Op.equalIn, run_underlying h]
theorem oR {t : TypeId} (h : P.underlying t = some .bool) (x y : Bool) : (Op.equal t (.bool x) (.bool y)).run P w = .ok (x == y) w :=
 sa h x y 9999
theorem uR {d : TypeDesc} (h : TD.of d = .bool) : d = .bool := by cases d <;> simp [TD.of] at h ⊢
theorem dP {d : TypeDesc} (h : TD.of d = .string) : d = .string := by cases d <;> simp [TD.of] at h ⊢
theorem mN {d : TypeDesc} {k : IntKind} (h : TD.of d = .int k) : d = .int k := by cases d <;> simp [TD.of] at h ⊢; exact h
theorem dc {d : TypeDesc} {e : TypeId} (h : TD.of d = .slice e) : d = .slice e := by cases d <;> simp [TD.of] at h ⊢; exact h
theorem nv {d : TypeDesc} {n : Nat} {e : TypeId} (h : TD.of d = .array n e) : d = .array n e := by cases d <;> simp [TD.of] at h ⊢; exact h
theorem q9 {d : TypeDesc} {k e : TypeId} (h : TD.of d = .map k e) : d = .map k e := by cases d <;> simp [TD.of] at h ⊢; exact h
theorem nu {d : TypeDesc} {fs : List (Nat × TypeId)} (h : TD.of d = .struct fs) : ∃ f : Array Field, d = .struct f ∧ f.toList.map (fun f => (f.offset, f.type)) = fs := by
 cases d <;> simp [TD.of] at h ⊢; exact h
theorem lO {d : TypeDesc} (h : TD.of d = .pointer) : ∃ e, d = .pointer e := by cases d <;> simp [TD.of] at h ⊢
theorem Dj {d : TypeDesc} (h : TD.of d = .iface) : ∃ e, d = .interface e := by cases d <;> simp [TD.of] at h ⊢
theorem GP {d : TypeDesc} (h : TD.of d = .func) : ∃ x y z, d = .func x y z := by cases d <;> simp [TD.of] at h ⊢
theorem iI {K : AV → Prop} {v : Value} {R : Value → Prop} (h : K (.val v)) (hr : R v) : ∃ a r, K a ∧ Rep G a r ∧ R r := ⟨_, v, h, by simp only [Rep], hr⟩
theorem fc (hT : cd P T) {t : TypeId} (h : dOf T t ≠ .other) : ∃ i d, P.info? t = some i ∧ P.underlying t = some d ∧ (T.ti t).size = i.size ∧ (T.ti t).bytes = i.bytes ∧
  dOf T t = TD.of d ∧ (T.ti t).agg = qJ d ∧ (T.ti t).zero = (match i.zero with | some z => z.cells.toList | none => []) := by
 unfold dOf at h ⊢
 cases e : (T.ti t).ok with
 | true => exact bN hT e
 | false => rw [e] at h; exact absurd rfl h
theorem AP {t : TypeId} {op : BinOp} {k : IntKind} {x y : Int} {K : AV → Prop} (hs : op ≠ .shl) (hs' : op ≠ .shr) (h : tt op k x y K) : ∃ v r, K v ∧ Rep G v r ∧ ∀ xo yo, (do eqGuard op t xo yo (.int k x) (.int k y); Go.binOp op t (.int k x) (.int k y)).run P w = .ok r w := by
 cases op <;> simp only [tt] at h <;> first | exact h.elim | (exact absurd rfl hs) | (exact absurd rfl hs') | skip
 case quo =>
  obtain ⟨h0, h⟩ := az h;have h0 : y ≠ 0 := by simpa using h0
  exact iI h fun xo yo => by simp [eqGuard, Go.binOp, Op.intDiv, h0]
 case rem =>
  obtain ⟨h0, h⟩ := az h;have h0 : y ≠ 0 := by simpa using h0
  exact iI h fun xo yo => by simp [eqGuard, Go.binOp, Op.intDiv, h0]
 all_goals exact iI h fun xo yo => by simp [eqGuard, Go.binOp, Op.intArith, Op.intBits, Op.intCmp, aH]
theorem tN {t : TypeId} {op : BinOp} {k k' : IntKind} {x y : Int} {K : AV → Prop} (hs : op = .shl ∨ op = .shr) (h : qu op k x y K) : ∃ v r, K v ∧ Rep G v r ∧ ∀ xo yo, (do eqGuard op t xo yo (.int k x) (.int k' y); Go.binOp op t (.int k x) (.int k' y)).run P w = .ok r w := by
 obtain ⟨h0, h⟩ := az h;have h0 : ¬ y < 0 := by
  have : 0 ≤ y := by simpa using h0
  omega
 rcases hs with rfl | rfl
 ·exact iI h fun xo yo => by simp [eqGuard, Go.binOp, Op.shift, h0]
 ·exact iI h fun xo yo => by simp [eqGuard, Go.binOp, Op.shift, h0]
theorem AO {t : TypeId} {op : BinOp} {x y : ByteArray} {K : AV → Prop} (h : wQ op x y K) : ∃ v r, K v ∧ Rep G v r ∧ ∀ xo yo, (do eqGuard op t xo yo (.string x) (.string y); Go.binOp op t (.string x) (.string y)).run P w = .ok r w := by
 cases op <;> simp only [wQ] at h <;> first | exact h.elim | skip
 case add =>
  obtain ⟨h0, h⟩ := az h;have h0 : x.size + y.size ≤ 9223372036854775807 := by simpa using h0
  have h1 : ¬ (((x.size + y.size : Nat) : Int) > IntKind.i64.max) := by
   have : IntKind.i64.max = 9223372036854775807 := by decide
   rw [this]; omega
  exact iI h fun xo yo => by
   simp only [eqGuard, Go.binOp, Op.stringOp, aap h1]; simp
 all_goals exact iI h fun xo yo => by simp [eqGuard, Go.binOp, Op.stringOp, qX, aO]
theorem B6 {t : TypeId} {d : TypeDesc} (ht : P.underlying t = some d) {A B : AV} {c : Bool} (h : B7 (TD.of d) A B = some c) {x y : Value} (hx : Rep G A x) (hy : Rep G B y) : (∀ xo yo, (do eqGuard .eql t xo yo x y; Go.binOp .eql t x y).run P w = .ok (.bool c) w) ∧ (∀ xo yo, (do eqGuard .neq t xo yo x y; Go.binOp .neq t x y).run P w = .ok (.bool (!c)) w) := by
 have key : ∀ (x y : Value), (∀ n, (Op.equalIn (n + 1) t x y).run P w = .ok c w) → (Op.equal t x y).run P w = .ok c w := fun x y h => h 9999;unfold B7 at h;split at h
 all_goals first | (cases h; done) | skip
 all_goals rename_i hd
 all_goals (injection h with h; subst h)
 all_goals simp only [Rep] at hx hy
 ·obtain ⟨e, rfl⟩ := lO hd;obtain ⟨b, _, rfl⟩ := hx; subst hy;have := fun o' => key (.pointer (some ⟨b, o', none⟩)) (.pointer none) (fun n => by simp [Op.equalIn, run_underlying ht]);constructor <;> intro xo yo <;> simp [eqGuard, Go.binOp, this]
 ·obtain ⟨e, rfl⟩ := lO hd;obtain ⟨b, o, rfl, _⟩ := hx; subst hy;have := fun o' => key (.pointer (some ⟨b, o', none⟩)) (.pointer none) (fun n => by simp [Op.equalIn, run_underlying ht]);constructor <;> intro xo yo <;> simp [eqGuard, Go.binOp, this]
 ·obtain ⟨e, rfl⟩ := lO hd;obtain ⟨b, _, rfl⟩ := hy; subst hx;have := fun o' => key (.pointer none) (.pointer (some ⟨b, o', none⟩)) (fun n => by simp [Op.equalIn, run_underlying ht]);constructor <;> intro xo yo <;> simp [eqGuard, Go.binOp, this]
 ·obtain ⟨e, rfl⟩ := lO hd;obtain ⟨b, o, rfl, _⟩ := hy; subst hx;have := fun o' => key (.pointer none) (.pointer (some ⟨b, o', none⟩)) (fun n => by simp [Op.equalIn, run_underlying ht]);constructor <;> intro xo yo <;> simp [eqGuard, Go.binOp, this]
 ·obtain ⟨e, rfl⟩ := lO hd;subst hx hy;have := key (.pointer none) (.pointer none) (fun n => by simp [Op.equalIn, run_underlying ht]);constructor <;> intro xo yo <;> simp [eqGuard, Go.binOp, this]
 ·obtain ⟨e, rfl⟩ := Dj hd;obtain ⟨u, rfl, _⟩ := hx; subst hy;have := fun t' => key (.iface t' u) .nilIface (fun n => by simp [Op.equalIn, run_underlying ht]);constructor <;> intro xo yo <;> simp [eqGuard, Go.binOp, this]
 ·obtain ⟨e, rfl⟩ := Dj hd;obtain ⟨u, rfl, _⟩ := hy; subst hx;have := fun t' => key .nilIface (.iface t' u) (fun n => by simp [Op.equalIn, run_underlying ht]);constructor <;> intro xo yo <;> simp [eqGuard, Go.binOp, this]
 ·obtain ⟨b, _, rfl⟩ := hx; subst hy;have ht' := ht;rw [q9 hd] at ht';have := key (.map (some b)) (.map none) (fun n => by simp [Op.equalIn, run_underlying ht']);constructor <;> intro xo yo <;> simp [eqGuard, Go.binOp, this]
 ·subst hx hy;have ht' := ht;rw [q9 hd] at ht';have := key (.map none) (.map none) (fun n => by simp [Op.equalIn, run_underlying ht']);constructor <;> intro xo yo <;> simp [eqGuard, Go.binOp, this]
 ·subst hx hy;have ht' := ht;rw [dc hd] at ht';have := fun a b c d => key (.slice none a b) (.slice none c d) (fun n => by simp [Op.equalIn, run_underlying ht']);constructor <;> intro xo yo <;> simp [eqGuard, Go.binOp, this]
 ·obtain ⟨x1, x2, x3, rfl⟩ := GP hd;obtain ⟨vs, us, rfl, _⟩ := hx; subst hy;have := fun f' => key (.func f' vs.toArray us.toArray) .nilFunc (fun n => by simp [Op.equalIn, run_underlying ht]);constructor <;> intro xo yo <;> simp [eqGuard, Go.binOp, this]
 ·obtain ⟨x1, x2, x3, rfl⟩ := GP hd;subst hx hy;have := key .nilFunc .nilFunc (fun n => by simp [Op.equalIn, run_underlying ht]);constructor <;> intro xo yo <;> simp [eqGuard, Go.binOp, this]
theorem EW (hT : cd P T) {l m : List AV} {xs ys : List Value} (hl : aB G l xs) (hm : aB G m ys) (d : Nat) : ∀ (fs : List Field) (acc : Bool) (k : Bool → Prop), (∀ f ∈ fs, f.name ≠ "_") →
  sb T l m (fs.map fun f => (f.offset, f.type)) acc k → ∃ b, k (acc && b) ∧ (Op.eqFields (d + 1) xs.toArray ys.toArray fs).run P w = .ok b w := by
 intro fs
 induction fs with
 | nil => intro acc k _ h; exact ⟨true, by simpa [sb] using h, by simp [Op.eqFields]⟩
 | cons f fs ih =>
  intro acc k hn h;have hne : f.name ≠ "_" := hn f (by simp);have key : ∀ {v u : Value} {c : Bool}, dOf T f.type ≠ .other → (∀ e, dOf T f.type ≠ .struct e) → (∀ a b, dOf T f.type ≠ .array a b) → iW l f.offset = .val v → iW m f.offset = .val u →
    (Op.equalIn (d + 1) f.type v u).run P w = .ok c w → sb T l m (fs.map fun f => (f.offset, f.type)) (acc && c) k → ∃ b, k (acc && b) ∧ (Op.eqFields (d + 1) xs.toArray ys.toArray (f :: fs)).run P w = .ok b w := by
   intro v u c h1 h2 h3 g1 g2 hr hk;obtain ⟨i, dd, hi, hu, _, _, htd, _, _⟩ := fc hT h1;have hag : qJ dd = false := by
    cases dd <;> first | rfl | (exfalso; rw [htd] at h2 h3; first | exact h2 _ rfl | exact h3 _ _ rfl)
   have get : ∀ {l : List AV} {xs : List Value} {v : Value}, aB G l xs → iW l f.offset = .val v → (part f.type xs.toArray f.offset).run P w = .ok v w := by
    intro l xs v hl hg;have hlt : f.offset < l.length := by
     rcases aaN f.offset l.length with h | h
     ·exact h
     ·rw [eo, aas, aaP h] at hg; simp at hg
    obtain ⟨v', e1, e2⟩ := hl.get (aad hlt);have he : l[f.offset] = .val v := by
     rw [eo, aas, aad hlt] at hg;exact hg
    rw [he] at e2;simp only [Rep] at e2;subst e2;simp only [part, Sem.run_bind, jU hu, Result.andThen_ok, hag, List.getElem?_toArray, e1];rfl
   obtain ⟨b, hb1, hb2⟩ := ih (acc && c) k (fun g hg => hn g (by simp [hg])) hk;refine ⟨c && b, by rw [← Bool.and_assoc]; exact hb1, ?_⟩;rw [Op.eqFields, aaz hne];simp only [Sem.run_bind, get hl g1, get hm g2, Result.andThen_ok, hr]
   cases c
   ·simp
   ·simp [hb2]
  simp only [aaF, sb] at h;split at h
  ·rename_i hd;split at h
   ·rename_i g1 g2;split at h
    ·rename_i hk;obtain rfl := Ci hk;refine key (by rw [hd]; simp) (by rw [hd]; simp) (by rw [hd]; simp) g1 g2 ?_ h;obtain ⟨i, dd, hi, hu, _, _, htd, _, _⟩ := fc hT (t := f.type) (by rw [hd]; simp);rw [hd] at htd;obtain rfl := mN htd.symm;exact run_equalIn_int w d _ _ _ _ _ hu
    ·exact h.elim
   ·exact h.elim
  ·rename_i hd;split at h
   ·rename_i g1 g2;refine key (by rw [hd]; simp) (by rw [hd]; simp) (by rw [hd]; simp) g1 g2 ?_ h;obtain ⟨i, dd, hi, hu, _, _, htd, _, _⟩ := fc hT (t := f.type) (by rw [hd]; simp);rw [hd] at htd;obtain rfl := dP htd.symm;rw [run_equalIn_string w d _ _ _ hu, qX]
   ·exact h.elim
  ·rename_i hd;split at h
   ·rename_i g1 g2;refine key (by rw [hd]; simp) (by rw [hd]; simp) (by rw [hd]; simp) g1 g2 ?_ h;obtain ⟨i, dd, hi, hu, _, _, htd, _, _⟩ := fc hT (t := f.type) (by rw [hd]; simp);rw [hd] at htd;obtain rfl := uR htd.symm;exact sa hu _ _ d
   ·exact h.elim
  ·exact h.elim
theorem FD (hT : cd P T) {op : BinOp} {t : TypeId} {A B : AV} {K : AV → Prop} (h : IQ T op t A B K) {x y : Value} (hx : Rep G A x) (hy : Rep G B y) : ∃ v r, K v ∧ Rep G v r ∧ ∀ xo yo, (do eqGuard op t xo yo x y; Go.binOp op t x y).run P w = .ok r w := by
 unfold IQ at h;split at h
 ·simp only [Rep] at hx hy;subst hx hy;split at h
  ·exact tN (.inl rfl) h
  ·exact tN (.inr rfl) h
  ·rename_i h1 h2;split at h
   ·rename_i hk;obtain rfl := Ci hk;exact AP (fun e => h1 e) (fun e => h2 e) h
   ·exact h.elim
 ·simp only [Rep] at hx hy;subst hx hy;exact AO h
 ·simp only [Rep] at hx hy;subst hx hy;split at h
  ·rename_i hd;obtain ⟨i, d, hi, hu, _, _, htd, _, _⟩ := fc hT (t := t) (by rw [hd]; simp);rw [htd] at hd;obtain rfl := uR hd;split at h
   ·exact iI h fun xo yo => by simp [eqGuard, Go.binOp, oR hu]
   ·exact iI h fun xo yo => by simp [eqGuard, Go.binOp, oR hu]
   ·exact h.elim
  ·exact h.elim
 ·simp only [Rep] at hx hy;obtain ⟨xs, rfl, hl⟩ := hx;obtain ⟨ys, rfl, hm⟩ := hy;split at h
  ·rename_i he;split at h
   ·rename_i fs hd;have hty := hT.eqs t he;unfold OR at hty;split at hty
    ·rename_i ff hu;simp only [aaq, Bool.not_eq_true', Array.all_eq_true', bne_iff_ne, ne_eq] at hty;obtain ⟨h1, h2, h3⟩ := hty;obtain ⟨i, dd, hi, hu', _, _, htd, _, _⟩ := fc hT (t := t) (by rw [hd]; simp);rw [hu] at hu'
     cases hu';rw [hd] at htd;have hfs : fs = ff.toList.map fun f => (f.offset, f.type) := by simpa [TD.of] using htd
     subst hfs;obtain ⟨b, hb1, hb2⟩ := EW (w := w) hT hl hm 9998 ff.toList true _ (fun f hf => h3 f (by simpa using hf)) h;have hfo : P.fieldsOf t = ff := by simp [Program.fieldsOf, hu]
     have hrun : (Op.equalIn 10000 t (.agg xs.toArray) (.agg ys.toArray)).run P w = .ok b w := by
      rw [run_equalIn_struct w 9999 t _ _ (by rw [hfo, hu]) h1, hfo];exact hb2
     simp only [aaI] at hb1;split at hb1
     ·exact iI hb1 fun xo yo => by
       rw [Sem.run_bind, run_eqGuard_agg w .eql t xo yo _ _ h2, Result.andThen_ok, run_eql_struct, hrun]; rfl
     ·exact iI hb1 fun xo yo => by
       rw [Sem.run_bind, run_eqGuard_agg w .neq t xo yo _ _ h2, Result.andThen_ok, run_neq_struct, hrun]; rfl
     ·exact hb1.elim
    ·cases hty
   ·exact h.elim
  ·exact h.elim
 ·split at h
  ·rename_i c hc;have hne : dOf T t ≠ .other := by
    intro e;rw [e] at hc;simp [B7] at hc
   obtain ⟨i, d, hi, hu, _, _, htd, _, _⟩ := fc hT hne;rw [htd] at hc;obtain ⟨h1, h2⟩ := B6 (w := w) hu hc hx hy;split at h
   ·exact iI h h1
   ·exact iI h h2
   ·exact h.elim
  ·exact h.elim
theorem IJ {op : UnOp} {A : AV} {K : AV → Prop} (h : aun op A K) {x : Value} (hx : Rep G A x) : ∃ v r, K v ∧ Rep G v r ∧ (Op.unary op x).run P w = .ok r w := by
 unfold aun at h;split at h
 ·simp only [Rep] at hx; subst hx;exact iI h (by simp [Op.unary])
 ·simp only [Rep] at hx; subst hx;exact iI h (by simp [Op.unary, Op.intArith])
 ·rename_i k n;simp only [Rep] at hx; subst hx;refine iI h ?_
  cases k <;> simp [unary_xor, Op.intBits, aH, IntKind.signed]
 ·exact h.elim
end
end Go.Abs
