/- Several texts of this claim, one behind the other: F8, ZH. -/
import Derived.Test.YtnjeogcgfoabhaaGreatYBuildRefuses4
set_option maxRecDepth 100000
set_option maxHeartbeats 4000000
set_option linter.unusedVariables false
set_option linter.unusedSimpArgs false
section
namespace Go.Abs
open Go Go.Proofs Dig
attribute [local irreducible] aH aE aO firstIdx
theorem uI {n : Nat} {x : List AV} (h : cD tab (n + 3) 45 x) : ∃ s : Sp, x = iN s.v := by
 obtain ⟨a1, r1, rfl, ⟨s, rfl, hs⟩, a2, r2, rfl, ⟨b, rfl⟩, a3, r3, rfl, ⟨u, rfl, hu⟩, rfl⟩ : ∃ a r, x = a ++ r ∧ (∃ s : ByteArray, a = [.val (.string s)] ∧ s.size ≤ maxLen) ∧
   ∃ a r', r = a ++ r' ∧ (∃ b, a = [.val (.bool b)]) ∧ ∃ a r'', r' = a ++ r'' ∧ (∃ y, a = [.val (.int .u64 y)] ∧ (Lit.int .u64 y).wf = true) ∧ r'' = [] := h
 refine ⟨⟨bs s, b, BitVec.ofInt 64 u⟩, ?_⟩;simp only [iN, Sp.v, kO, List.cons_append, List.nil_append];rw [← oD hu]
theorem tu {n : Nat} {l : List (List AV)} (h : ∀ x ∈ l, cD tab (n + 3) 45 x) : ∃ m : List Sp, l = sps m := by
 induction l with
 | nil => exact ⟨[], rfl⟩
 | cons x l ih =>
  obtain ⟨m, rfl⟩ := ih fun y hy => h y (by simp [hy]);obtain ⟨s, rfl⟩ := uI (h x (by simp));exact ⟨s :: m, rfl⟩
theorem Fy (l : List Sp) (hl : l.length ≤ maxLen) {R} (h : ∀ b : Bool, (b = true → l.length ≤ 100 ∧ ∀ s ∈ l, s.name.length ≤ 100) → R (.val (.bool b)) []) :
  ag Tryz.prog 40 [.sl none 3 (sps l)] [] R := by
 refine aa (an := OV) tab_ok Tryz.func40 ?_;have hsl := bB l;have hmx : maxLen ≤ 9223372036854775807 := by decide
 conv=>whnf
 refine aq.ind1 (fun (i : Nat) => [(7, vi i)]) (fun _ => []) (fun i => l.length - i) (fun i => i ≤ l.length ∧ ∀ s ∈ l.take i, s.name.length ≤ 100) 0 rfl ⟨Nat.zero_le _, by simp⟩ ?_;rintro i ⟨hi, hn⟩ IH;conv=>whnf
 refine ae (fun hc => ?_) (fun hc => ?_)
 ·have hc := ap hsl hc;have hsn : l[i].v.name.size = l[i].name.length := aG _
  (conv=>whnf); (repeat ((with_reducible refine ac ?_ ?_); exact decide_eq_true (by omega); (conv=>whnf)))
  refine ab (show (i : Int).toNat < (l.map Sp.v).length by simpa using hc) ?_;rw [show (l.map Sp.v)[(i : Int).toNat]'(by simpa using hc) = l[i].v from by simp];conv=>whnf
  rw [hsn];refine ae (fun hb => ?_) (fun hb => ?_)
  ·conv=>whnf
   exact h false (by simp)
  ·conv=>whnf
   rw [aM (by omega) (by omega), show ((i : Int) + 1) = ((i + 1 : Nat) : Int) by omega];refine IH (i + 1) ⟨by omega, fun s hs => ?_⟩ (by omega);rw [List.take_succ_eq_append_getElem hc, List.mem_append, List.mem_singleton] at hs;rcases hs with hs | rfl
   ·exact hn s hs
   ·simp at hb;omega
 ·have hc := au hsl hc;rw [List.take_of_length_le hc] at hn;conv=>whnf
  rw [hsl];refine h _ fun hb => ⟨?_, hn⟩;simp at hb;omega
theorem FC {name : B} : ∀ (ds : List Dn) (a : Int × Int), (∀ d ∈ ds, d.step.name ≠ name) → ds.foldl (qX name) a = a := by
 intro ds
 induction ds with
 | nil => intro a _; rfl
 | cons d ds ih =>
  intro a h;rw [List.foldl_cons, qX, if_neg (h d (by simp))];exact ih a fun x hx => h x (by simp [hx])
theorem AW {name : B} : ∀ (ds : List Dn) (a : Int × Int), (ds.map (·.step.name)).Nodup → ∀ d ∈ ds, d.step.name = name → ds.foldl (qX name) a = (d.why, 0) := by
 intro ds
 induction ds with
 | nil => intro a _ d hd; cases hd
 | cons x ds ih =>
  intro a hn d hd he;have hn := List.nodup_cons.1 hn;rw [List.foldl_cons];rcases List.mem_cons.1 hd with rfl | hd
  ·rw [qX, if_pos he];exact FC ds _ fun y hy e => hn.1 (by show d.step.name ∈ _; rw [he, ← e]; exact List.mem_map_of_mem hy)
  ·exact ih _ hn.2 d hd he
theorem yn {l : List Nd} (h : aY l = 0) (x : B) : x ∈ (cn l).map (nm l) ↔ x ∈ l.map (·.name) := by
 have ho := oV h;have hsub : ∀ y ∈ (cn l).map (nm l), y ∈ l.map (·.name) := fun y hy => by
  obtain ⟨b, hb, rfl⟩ := List.mem_map.1 hy;rw [eZ (ho.hb b hb)];exact List.mem_map_of_mem (List.getElem_mem _)
 refine ⟨hsub x, fun hx => Classical.byContradiction fun hno => ?_⟩;have h1 := pv (l := (l.map (·.name)).erase x) ho.nd fun y hy => (List.mem_erase_of_ne (fun e => hno (by rw [← e]; exact hy))).2 (hsub y hy);rw [List.length_erase_of_mem hx, List.length_map, List.length_map, jy h] at h1;have := List.length_pos_of_mem hx;simp at this;omega
theorem yK {l : List Nd} (h : aY l = 0) (state : List Rc) (given : List Sp) (w : U) : ((b9 l state given w).map (·.step.name)) = (cn l).map (nm l) := by
 have := CB state given w (oV h).hb;rw [ar, List.map_map] at this;exact this
theorem K6 {l : List Nd} (h : aY l = 0) (state : List Rc) (given : List Sp) (w : U) (name : B) : ((b9 l state given w).foldl (qX name) (0, 6)).2 = if name ∈ l.map (·.name) then 0 else 6 := by
 have hn := yK h state given w;by_cases hx : name ∈ l.map (·.name)
 ·rw [if_pos hx];have h2 := (yn h name).2 hx;rw [← hn] at h2;obtain ⟨d, hd, he⟩ := List.mem_map.1 h2;rw [AW _ _ (by rw [hn]; exact oT h) d hd he]
 ·rw [if_neg hx, FC];intro d hd he;refine hx ((yn h name).1 ?_);rw [← hn, ← he];exact List.mem_map_of_mem (f := fun d : Dn => d.step.name) hd
structure O9 (l : List Nd) (given : List Sp) : Prop where
 gg : gg l
 len : l.length ≤ 80
 given : given.length ≤ 100
theorem kv (l : List Nd) (g : List Sp) (hl : l.length ≤ maxLen) (hn : ∀ n ∈ l, n.deps.length ≤ maxLen) (hg : g.length ≤ maxLen) {R} (h : ∀ b : Bool, (b = false → O9 l g) → R (.val (.bool b)) []) :
  ag Tryz.prog 10 [.sl none 4 (nds l), .sl none 3 (sps g)] [] R := by
 refine aa (an := SQ) tab_ok Tryz.func10 ?_;conv=>whnf
 refine t8 l hl hn fun b hb => ?_
 cases b with
 | true =>
  conv=>whnf
  exact h _ (fun e => by cases e)
 | false =>
  obtain ⟨h1, h2⟩ := hb rfl;conv=>whnf
  refine Fy g hg fun b hb => ?_;conv=>whnf
  refine h _ fun e => ?_;have hb := hb (by simpa using e);exact ⟨⟨by omega, fun n hn => by have := h2 n hn; exact ⟨by omega, by omega, fun d hd => by have := this.2.2 d hd; omega⟩⟩, h1, hb.1⟩
theorem oF {n : Nat} {x : List AV} (h : cD tab (n + 6) 35 x) : ∃ (l : List Nd) (g : List Sp) (w : U), x = [.sl none 4 (nds l), .sl none 3 (sps g), uv w] ∧ l.length ≤ maxLen ∧ (∀ n ∈ l, n.deps.length ≤ maxLen) ∧ g.length ≤ maxLen := by
 have h : n6 (cD tab (n + 5)) [31, 32, 33] x := h;obtain ⟨p, q, rfl, h1, r, s, rfl, h2, t, u, rfl, h3, rfl⟩ := h;obtain ⟨y, rfl, e1, e2⟩ : ∃ y : List (List AV), p = [.sl none 4 y] ∧ y.length ≤ maxLen ∧ ∀ z ∈ y, cD tab (n + 4) 73 z := h1;obtain ⟨l, rfl, hl⟩ := oE (n := n + 1) e2;obtain ⟨y, rfl, f1, f2⟩ : ∃ y : List (List AV), r = [.sl none 3 y] ∧ y.length ≤ maxLen ∧ ∀ z ∈ y, cD tab (n + 4) 45 z := h2;obtain ⟨g, rfl⟩ := tu (n := n + 1) f2;obtain ⟨w, rfl, hw⟩ : ∃ w, t = [.val (.int .u64 w)] ∧ (Lit.int .u64 w).wf = true := h3;refine ⟨l, g, BitVec.ofInt 64 w, ?_, by simpa [nds] using e1, hl, by simpa [sps] using f1⟩;rw [uv, ← oD hw];rfl
theorem v7 (F : B) (k : Nat) : ((FSt.mk [(aT, ⟨F, k⟩)] (-1) 0 false).sync aT).2 = 7 := by
 simp [FSt.sync, FSt.may, FSt.act, lk]
theorem qV (l : List Nd) (g : List Sp) (w : U) (name : B) (hnm : name.length ≤ maxLen) (hl : l.length ≤ maxLen) (hn : ∀ n ∈ l, n.deps.length ≤ maxLen) (hg : g.length ≤ maxLen) {R} (h : R (.val (.bool true)) []) :
  ag Tryz.prog 5 [.agg [.sl none 4 (nds l), .sl none 3 (sps g), uv w], vs name] [] R := by
 refine aa (an := an5) tab_ok Tryz.func5 ?_;have hmx : maxLen ≤ 9223372036854775807 := by decide
 conv=>whnf
 refine kv l g hl hn hg fun b hb => ?_
 cases b with
 | true =>
  conv=>whnf
  refine cG ?_;conv=>whnf
  exact h
 | false =>
 obtain ⟨hsm, hl80, hg100⟩ := hb rfl;conv=>whnf
 refine ae (fun q => ?_) (fun q => ?_)
 ·conv=>whnf
  refine cG ?_;conv=>whnf
  exact h
 have hv : is3 2 := .inr (.inl rfl);conv=>whnf
 refine ag.args (leL.cons (.refl _) (leL.cons (cC 7) leL.nil)) (rE hv [] (by simp) (by simp) fun hm hml => ?_);have e0 : mF 2 [] = [] := rfl;rw [e0];clear hm hml e0;obtain ⟨s, hs⟩ : ∃ s, s = fsV 2 [] := ⟨_, rfl⟩;have hfok : FOk s 1 1000000 := by rw [hs]; exact z7 2 (by simp) (by simp)
 rw [← hs];conv=>whnf
 refine lD l hsm fun c hc => ?_;conv=>whnf
 refine Kq l g 1 ?_;conv=>whnf
 refine Ih l g ?_;conv=>whnf
 refine Kp l g name ?_;conv=>whnf
 refine wA l hsm (by omega) g (by omega) [] (by simp) (by simp) s name (fun hcn => ?_) (fun hc0 a ha => ?_)
 ·rw [← hc] at hcn ⊢;conv=>whnf
  refine am (decide_eq_false hcn) ?_;conv=>whnf
  refine aK (by simpa using hcn) ?_;conv=>whnf
  refine am (by simp) ?_;conv=>whnf
  refine aK (by simpa using hcn) ?_;conv=>whnf
  refine km hv l hsm (by omega) g (by omega) 1 s hfok (by omega) [] (by simp) (by simp) (fun _ => ?_) (fun hc0 => absurd (hc.trans hc0) hcn) (fun hc0 => absurd (hc.trans hc0) hcn);rw [← hc];conv=>whnf
  refine jG s aT (by rw [hs]; simp [fsV, fsK, gF, lk, cv, aV, aw]) (fun _ => ?_) (fun hno => absurd (by rw [hs]; simp [fsV, fsK, kys]) hno);have h8 : (ai (gF s.fs aT).b).length = 8 := by rw [hs]; simp [fsV, fsK, gF, lk, cv, aV, aw, ai]
  generalize ai (gF s.fs aT).b = fb at h8 ⊢;conv=>whnf
  refine am (by simp) ?_;conv=>whnf
  refine ce false 2 [] (by simp) (by simp) s ?_;conv=>whnf
  refine am (by rw [h8]; rfl) ?_;conv=>whnf
  refine oe s 0 ?_;rw [show pO 0 = 0 from rfl];have h7 : ((FSt.mk s.fs s.fail 0 s.down).sync aT).2 = 7 := by rw [hs]; exact v7 _ _
  conv=>whnf
  refine lg 2 [] ⟨s.fs, s.fail, 0, s.down⟩ hfok.fail (by decide : -1 ≤ (0 : Int) ∧ (0 : Int) < 9223372036854775808) ?_;rw [h7];generalize ((FSt.mk s.fs s.fail 0 s.down).sync aT).1 = s2;conv=>whnf
  refine yY l g 1 2 [] s2 ?_;conv=>whnf
  refine cG ?_;conv=>whnf
  exact h
 ·have hc : c = 0 := by rw [hc, hc0]
  subst hc;have ha2 := K6 hc0 (ax []) g 0 name;rw [← ha] at ha2;conv=>whnf
  refine jB l name (by omega) rfl fun p hp => ?_;have hpl : (p < 0) ↔ name ∉ l.map (·.name) := by rw [hp]; exact cJ
  conv=>whnf
  refine am ?_ ?_
  ·rw [ha2];by_cases hx : name ∈ l.map (·.name)
   ·have : ¬ p < 0 := fun e => hpl.1 e hx;rw [if_pos hx];simp; omega
   ·have : p < 0 := hpl.2 hx;rw [if_neg hx];simp; omega
  conv=>whnf
  refine oe s 0 ?_;rw [show pO 0 = 0 from rfl];have h7 : ((FSt.mk s.fs s.fail 0 s.down).sync aT).2 = 7 := by rw [hs]; exact v7 _ _
  conv=>whnf
  refine lg 2 [] ⟨s.fs, s.fail, 0, s.down⟩ hfok.fail (by decide : -1 ≤ (0 : Int) ∧ (0 : Int) < 9223372036854775808) ?_;rw [h7];generalize ((FSt.mk s.fs s.fail 0 s.down).sync aT).1 = s2;conv=>whnf
  refine yY l g 1 2 [] s2 ?_;conv=>whnf
  refine cG ?_;conv=>whnf
  exact h
theorem BuildRefuses_row (l : List AV) (h : fV tab 12 [35, 9] l) : ag Tryz.prog 5 l [] fun r _ => r = .val (.bool true) := by
 obtain ⟨v, l3, rfl, ⟨x, rfl, hx⟩, h1⟩ := h;obtain ⟨m, g, w, rfl, hl, hn, hg⟩ := oF (n := 6) hx;obtain ⟨s, l4, rfl, hsl, h2⟩ := Im h1;obtain rfl := wH h2;exact qV m g w s hsl hl hn hg rfl
end Go.Abs
end
