/- Several texts of this claim, one behind the other: ZG, F6, F8, ZH, ZI. -/
import Derived.Test.YtnjeogcgfoabhaaGreatYBuildNeeds4
set_option maxRecDepth 100000
set_option maxHeartbeats 4000000
set_option linter.unusedVariables false
set_option linter.unusedSimpArgs false
section
namespace Go.Abs
open Go Go.Proofs Dig
attribute [local irreducible] aH aE aO firstIdx
theorem Ka (F : B) (k : Nat) : (fsK F k).sync aS = (fsK F F.length, 0) := by
 simp [FSt.sync, FSt.may, FSt.act, fsK, lk, cR, pt, gF, cnt, kys]
theorem Jz (v : Int) (k : Nat) : ∀ (ds : List Dn) (L : List Rc), cY v ds (fsK (aC v L) k) L = (fsK (aC v (L ++ aL ds)) k, L ++ aL ds, 0) := by
 intro ds
 induction ds with
 | nil => intro L; simp [cY, aL]
 | cons d ds ih =>
  intro L;have hp : bT v (fsK (aC v L) k) L d.trace = (fsK (aC v (L ++ [d.trace])) k, 0) := by unfold bT; rw [wq, ir]
  unfold cY;by_cases g : d.step.ran = true
  ·rw [if_pos g, hp, if_pos rfl, ih];simp [aL, g]
  ·rw [if_neg g, ih];simp [aL, g]
theorem pq (v : Int) (k : Nat) (ds : List Dn) (L : List Rc) : ∃ k', (k = k' ∨ k' = (aC v (L ++ aL ds)).length) ∧ gi v ds (fsK (aC v L) k) L = (fsK (aC v (L ++ aL ds)) k', L ++ aL ds, 0) := by
 unfold gi;rw [Jz];split
 ·exact ⟨_, .inr rfl, by simp only [Ka]⟩
 ·exact ⟨k, .inl rfl, rfl⟩
theorem GD {v : Int} {L : List Rc} (hm : ∀ r ∈ L, aR v r = true) (hl : L.length ≤ 1100) {k : Nat} (hk : k ≤ (aC v L).length) : FOk (fsK (aC v L) k) 1 4000000 :=
 (Kb hk).mono (Nat.le_refl _) (by have := nv hm hl; omega)
theorem nV {v : Int} (hv : is3 v) (l : List Rc) (hl : l.length ≤ 100) (hd : ∀ r ∈ l, r.deps.length ≤ 60) {R}
  (h : (∀ r ∈ lS v l, aR v r = true) → (lS v l).length ≤ l.length → R (.tup [.ptr 0 0, .ptr 2 0, .agg (stR false v (lS v l) (fsV v (lS v l)))]) [fsC (fsV v (lS v l)) 1, fsM (fsV v (lS v l)), stO false 0 v (lS v l)]) :
  ag Tryz.prog 18 [vi v, .sl none 7 (bf l)] [] R := by
 refine ab (an := R6) tab_ok Tryz.func18 ?_;have hsl := be l;conv=>whnf
 refine mC ?_;conv=>whnf
 refine nK v hv ?_;rw [r9];conv=>whnf
 refine vI ?_;conv=>whnf
 refine vq hv ?_;rw [Cr];conv=>whnf
 refine au.ind2 (fun (i : Nat) (L : List Rc) => [(37, vi i)]) (fun i L => [(ak 6, .cells 58 [.val (.slice none 0 0), vi 0, vi 0, .val (.bool false), vi 0, .val (.slice none 0 0), .val (.slice none 0 0), vi 0, .val (.bool false)]), (ak 10, .cells 58 (stR false v L (fsV v L))), (ax 14 0, fsC (fsV v L) (ax 14 1)), (ax 18 0, stO false (ax 14 0) v L), (ax 14 1, fsM (fsV v L))]) (fun i _ => l.length - i) (fun i L => (i ≤ l.length ∧ L.length ≤ i) ∧ (∀ r ∈ L, aR v r = true) ∧ L = (l.take i).foldl (puM v) []) 0 [] rfl ⟨⟨by omega, by simp⟩, by simp, rfl⟩ ?_;rintro i L hI IH;have hm := hI.2.1;have hLi := hI.1.2;conv=>whnf
 refine ae (fun hc => ?_) (fun hc => ?_)
 ·have hi := ap hsl hc;obtain ⟨o1, o2⟩ := JJ hI.2.1 l[i];have IH := IH (i + 1) (puM v L l[i]) ⟨⟨hi, by omega⟩, o1, by rw [List.take_succ_eq_append_getElem hi, List.foldl_append, ← hI.2.2]; rfl⟩ (by omega);have hdi := hd _ (List.getElem_mem hi)
  (conv=>whnf); (repeat ((with_reducible refine ac ?_ ?_); exact decide_eq_true (by omega); (conv=>whnf)))
  refine idxNat (by simpa using hi) ?_;generalize l[i] = r at IH hdi o1 o2 ⊢;conv=>whnf
  refine Dz hv L (by omega) hm r (by omega) fun e => ?_;conv=>whnf
  refine Bj hv L (by omega) hm r (by omega) fun e2 => ?_;conv=>whnf
  rw [al (by omega)];exact IH
 ·have hi := aw hsl hc;have hL : L = lS v l := by rw [hI.2.2, List.take_of_length_le hi]; rfl
  rw [← hL] at h;have h := h hm (by have := hI.1.1; omega);conv=>whnf
  exact h
theorem ja (n : U) {R} (h : ∀ d, d = gY n → R (uv d) []) : ag Tryz.prog 32 [uv n] [] R := by
 refine ab (an := U7) tab_ok Tryz.func32 ?_;conv=>whnf
 rw [show (11400714819323198485 : Int) = (Hw.toNat : Int) from rfl, show (3573116690164977347 : Int) = ((back other).toNat : Int) from by decide +kernel, show (10871156337175269513 : Int) = ((back first).toNat : Int) from by decide +kernel];have e31 := fun x => rA x 31 (by omega) (c := 2147483648) rfl;have e62 := fun x => rA x 62 (by omega) (c := 4611686018427387904) rfl;have e27 := fun x => rA x 27 (by omega) (c := 134217728) rfl;have e54 := fun x => rA x 54 (by omega) (c := 18014398509481984) rfl;have e30 := fun x => rA x 30 (by omega) (c := 1073741824) rfl;have e60 := fun x => rA x 60 (by omega) (c := 1152921504606846976) rfl;have hup : ∀ k (x : U), (x ^^^ (x >>> k)) ^^^ (x >>> (k + k)) = up k x := fun k x => by
  unfold up;rw [BitVec.ushiftRight_xor_distrib, ← BitVec.shiftRight_add, BitVec.xor_assoc]
 rw [e31, mj, e62, mj, hup 31, u3, e27, mj, e54, mj, hup 27, u3, e30, mj, e60, mj, hup 30, Jd];exact h _ rfl
def kg : List Nd := [⟨[97], true, 0, []⟩, ⟨[98], false, 1, [[97]]⟩]
theorem uj : cp kg = [0, 1] := by decide +kernel
theorem kK : aV kg = 0 := by decide +kernel
theorem ui : fN kg := by
 refine ⟨by decide, ?_⟩;simp [kg]
theorem uh (w : U) : aq (bG kg (ar []) [] w) = [⟨[97], false, 0⟩, ⟨[98], true, iO 1 [0]⟩] := by
 rw [bG, uj];rfl
theorem Kg {a : List Sp} {c : U} (h : a.map nc = [([97], 0), ([98], c)]) (hr : ∀ s ∈ a, s.ran = false) : a = [⟨[97], false, 0⟩, ⟨[98], false, c⟩] := by
 have hl := congrArg List.length h;simp only [List.length_map, List.length_cons, List.length_nil] at hl;obtain ⟨s, t, rfl⟩ : ∃ s t, a = [s, t] := by
  cases a with
  | nil => simp at hl
  | cons s a => cases a with
   | nil => simp at hl
   | cons t a => cases a with
    | nil => exact ⟨s, t, rfl⟩
    | cons u a => simp at hl
 simp only [List.map_cons, List.map_nil, nc, List.cons.injEq, Prod.mk.injEq, and_true] at h;have h1 := hr s (by simp);have h2 := hr t (by simp);obtain ⟨n1, r1, c1⟩ := s;obtain ⟨n2, r2, c2⟩ := t;simp only at h h1 h2;obtain ⟨⟨rfl, rfl⟩, rfl, rfl⟩ := h;subst h1 h2;rfl
theorem Cx (w u : U) : aq (bG kg (ar ([] ++ aL (bG kg (ar []) [] w))) [] u) = [⟨[97], false, 0⟩, ⟨[98], false, iO 1 [0]⟩] := by
 obtain ⟨h1, h2, _⟩ := kz (given := []) (w := w) (pb kK) [] u;refine Kg ?_ fun s hs => ?_
 ·rw [bG, bG, h1];have := uh w;rw [bG] at this;rw [this];rfl
 ·obtain ⟨d, hd, rfl⟩ := List.mem_map.1 hs;exact h2 d hd
theorem wx (s : AV) (w : AV) {own o1 o2 : Option Nm} : leL [s, .sl own 4 [[vs [97], .val (.bool true), .val (.int .u64 0), .val (.slice none 0 0)], [vs [98], .val (.bool false), .val (.int .u64 1), .sl none 1 [[vs [97]]]]], .val (.slice none 0 0), w] [s, .sl none 4 (nds kg), .sl none 3 (sps []), w] := by
 refine leL.cons (.refl _) (leL.cons (Na _ _ (leE.cons ?_ rfl (leE.cons (leL.refl _) rfl leE.nil))) (leL.cons (cy 3) (leL.refl _)));exact leL.cons (.refl _) (leL.cons (.refl _) (leL.cons (.refl _) (leL.cons (cy 1) leL.nil)))
theorem cc {R} (h : R (.val (.bool true)) []) : ag Tryz.prog 7 [] [] R := by
 refine ab (an := an7) tab_ok Tryz.func7 ?_;have hv : is3 3 := .inr (.inr rfl);conv=>whnf
 refine mC ?_;conv=>whnf
 refine nK 3 hv ?_;rw [r9];conv=>whnf
 refine ag.args (wx _ _ (o1 := none) (o2 := none)) (jm hv kg ui (by decide) [] (by simp) 5 (fsV 3 []) (wo 3 (by simp) (by simp)) (by omega) [] (by simp) (by simp) (fun hc => absurd kK hc) (fun _ f hf he => ?_) (fun _ f hf _ => ?_))
 ·obtain ⟨k, _, hk⟩ := pq 3 8 (bG kg (ar []) [] (wen 3 5)) [];rw [hf, fsV, hk] at he;exact absurd rfl he
 obtain ⟨k, hk0, hk⟩ := pq 3 8 (bG kg (ar []) [] (wen 3 5)) [];rw [fsV, hk] at hf;rw [uh];have hmT : ∀ r ∈ [] ++ aL (bG kg (ar []) [] (wen 3 5)), aR 3 r = true := fun r hr => by
  rw [List.nil_append] at hr;obtain ⟨d, hd, rfl⟩ := List.mem_map.1 hr;rw [List.mem_filter] at hd;exact nI (.inr (.inr rfl)) kK (fun e => by cases e) d hd.1 hd.2
 have hlT : ([] ++ aL (bG kg (ar []) [] (wen 3 5))).length ≤ 10 := by
  have h1 := fL (bG kg (ar []) [] (wen 3 5));have h2 : (bG kg (ar []) [] (wen 3 5)).length = 2 := by rw [bG, eK _ _ _ (pb kK).hb, uj]; rfl
  rw [List.nil_append]; omega
 have hag := Cx (wen 3 5) (wen 3 6);generalize hL : [] ++ aL (bG kg (ar []) [] (wen 3 5)) = L at hf hmT hlT hag hk0;subst hf;have hkl : k ≤ (aC 3 L).length := by
  rcases hk0 with rfl | rfl
  ·rw [cr]; omega
  ·exact Nat.le_refl _
 have hfok := GD hmT (by omega) hkl;generalize hc : iO 1 [0] = c at hag ⊢;obtain ⟨s1, hs1⟩ : ∃ s1, s1 = fsK (aC 3 L) k := ⟨_, rfl⟩;rw [← hs1] at hfok ⊢;conv=>whnf
 refine ag.args (wx _ _ (o1 := none) (o2 := none)) (jm hv kg ui (by decide) [] (by simp) 6 s1 hfok (by omega) L (by omega) hmT (fun hc => absurd kK hc) (fun _ f hf he => ?_) (fun _ f hf _ => ?_))
 ·obtain ⟨k2, _, hk2⟩ := pq 3 k (bG kg (ar L) [] (wen 3 6)) L;rw [hf, hs1, hk2] at he;exact absurd rfl he
 rw [hag];conv=>whnf
 refine aI (by simp [Sp.v]) ?_;conv=>whnf
 refine jt 7 fun d hd => ?_;conv=>whnf
 refine ja d fun e he => ?_;rw [hd, lB] at he;subst he;conv=>whnf
 exact h
theorem Ql (a b : Sp) (h : (!(true && decide (ofB a.name = ofB b.name) && (a.ran == b.ran) && ((a.con.toNat : Int) == (b.con.toNat : Int)))) = true) : a ≠ b := by
 rintro rfl;simp at h
theorem Qm (a b : Sp) (h : (!(true && decide (ofB a.name = ofB b.name) && (a.ran == b.ran) && ((a.con.toNat : Int) == (b.con.toNat : Int)))) = false) : a = b := by
 simp [bI] at h;obtain ⟨⟨h1, h2⟩, h3⟩ := h;have h3 : a.con = b.con := BitVec.eq_of_toNat_eq (by omega)
 cases a; cases b
 simp_all
theorem pF (a b : List Sp) (ha : a.length < 1000000) {R} (h : ∀ p : Bool, (p = true ↔ a = b) → R (.val (.bool p)) []) : ag Tryz.prog 21 [.sl none 3 (sps a), .sl none 3 (sps b)] [] R := by
 refine ab (an := Vg) tab_ok Tryz.func21 ?_;have hsa := bA a;have hsb := bA b;conv=>whnf
 rw [hsa, hsb];refine ae (fun hc => ?_) (fun hc => ?_)
 ·conv=>whnf
  refine h false ⟨fun e => (by cases e), ?_⟩;rintro rfl;simp at hc
 have hlen : a.length = b.length := by simp at hc; omega
 conv=>whnf
 refine au.ind1 (fun (i : Nat) => [(5, vi i)]) (fun _ => []) (fun i => a.length - i) (fun i => i ≤ a.length ∧ a.take i = b.take i) 0 rfl ⟨by omega, by simp⟩ ?_;rintro i ⟨h0, h1⟩ IH;conv=>whnf
 refine ae (fun hc => ?_) (fun hc => ?_)
 ·have hc := ap hsa hc;have hcb : i < b.length := by omega
  (conv=>whnf); (repeat ((with_reducible refine ac ?_ ?_); exact decide_eq_true (by omega); (conv=>whnf)))
  refine aa (show (i : Int).toNat < (a.map Sp.v).length by simpa using hc) ?_;rw [show (a.map Sp.v)[(i : Int).toNat]'(by simpa using hc) = a[i].v from by simp]
  (conv=>whnf); (repeat ((with_reducible refine ac ?_ ?_); exact decide_eq_true (by omega); (conv=>whnf)))
  refine aa (show (i : Int).toNat < (b.map Sp.v).length by simpa using hcb) ?_;rw [show (b.map Sp.v)[(i : Int).toNat]'(by simpa using hcb) = b[i].v from by simp];conv=>whnf
  refine ae (fun he => ?_) (fun he => ?_)
  ·conv=>whnf
   refine h false ⟨fun e => (by cases e), ?_⟩;rintro rfl;exact absurd rfl (Ql _ _ he)
  ·conv=>whnf
   rw [al (by omega)];refine IH (i + 1) ⟨by omega, ?_⟩ (by omega);rw [List.take_succ_eq_append_getElem hc, List.take_succ_eq_append_getElem hcb, h1, Qm _ _ he]
 ·have hc := aw hsa hc;rw [List.take_of_length_le hc, List.take_of_length_le (by omega)] at h1;conv=>whnf
  exact h true ⟨fun _ => h1, fun _ => rfl⟩
theorem u4 {n : Nat} {x : List AV} (h : cA tab (n + 3) 45 x) : ∃ s : Sp, x = iT s.v := by
 obtain ⟨a1, r1, rfl, ⟨s, rfl, hs⟩, a2, r2, rfl, ⟨b, rfl⟩, a3, r3, rfl, ⟨u, rfl, hu⟩, rfl⟩ : ∃ a r, x = a ++ r ∧ (∃ s : ByteArray, a = [.val (.string s)] ∧ s.size ≤ maxLen) ∧
   ∃ a r', r = a ++ r' ∧ (∃ b, a = [.val (.bool b)]) ∧ ∃ a r'', r' = a ++ r'' ∧ (∃ y, a = [.val (.int .u64 y)] ∧ (Lit.int .u64 y).wf = true) ∧ r'' = [] := h
 refine ⟨⟨bs s, b, BitVec.ofInt 64 u⟩, ?_⟩;simp only [iT, Sp.v, kV, List.cons_append, List.nil_append];rw [← oN hu]
theorem tM {n : Nat} {l : List (List AV)} (h : ∀ x ∈ l, cA tab (n + 3) 45 x) : ∃ m : List Sp, l = sps m := by
 induction l with
 | nil => exact ⟨[], rfl⟩
 | cons x l ih =>
  obtain ⟨m, rfl⟩ := ih fun y hy => h y (by simp [hy]);obtain ⟨s, rfl⟩ := u4 (h x (by simp));exact ⟨s :: m, rfl⟩
theorem FQ (l : List Sp) (hl : l.length ≤ maxLen) {R} (h : ∀ b : Bool, (b = true → l.length ≤ 100 ∧ ∀ s ∈ l, s.name.length ≤ 100) → R (.val (.bool b)) []) :
  ag Tryz.prog 40 [.sl none 3 (sps l)] [] R := by
 refine ab (an := Pg) tab_ok Tryz.func40 ?_;have hsl := bA l;have hmx : maxLen ≤ 9223372036854775807 := by decide
 conv=>whnf
 refine au.ind1 (fun (i : Nat) => [(7, vi i)]) (fun _ => []) (fun i => l.length - i) (fun i => i ≤ l.length ∧ ∀ s ∈ l.take i, s.name.length ≤ 100) 0 rfl ⟨Nat.zero_le _, by simp⟩ ?_;rintro i ⟨hi, hn⟩ IH;conv=>whnf
 refine ae (fun hc => ?_) (fun hc => ?_)
 ·have hc := ap hsl hc;have hsn : l[i].v.name.size = l[i].name.length := aG _
  (conv=>whnf); (repeat ((with_reducible refine ac ?_ ?_); exact decide_eq_true (by omega); (conv=>whnf)))
  refine aa (show (i : Int).toNat < (l.map Sp.v).length by simpa using hc) ?_;rw [show (l.map Sp.v)[(i : Int).toNat]'(by simpa using hc) = l[i].v from by simp];conv=>whnf
  rw [hsn];refine ae (fun hb => ?_) (fun hb => ?_)
  ·conv=>whnf
   exact h false (by simp)
  ·conv=>whnf
   rw [aK (by omega) (by omega), show ((i : Int) + 1) = ((i + 1 : Nat) : Int) by omega];refine IH (i + 1) ⟨by omega, fun s hs => ?_⟩ (by omega);rw [List.take_succ_eq_append_getElem hc, List.mem_append, List.mem_singleton] at hs;rcases hs with hs | rfl
   ·exact hn s hs
   ·simp at hb;omega
 ·have hc := aw hsl hc;rw [List.take_of_length_le hc] at hn;conv=>whnf
  rw [hsl];refine h _ fun hb => ⟨?_, hn⟩;simp at hb;omega
theorem FV {name : B} : ∀ (ds : List Dn) (a : Int × Int), (∀ d ∈ ds, d.step.name ≠ name) → ds.foldl (qs name) a = a := by
 intro ds
 induction ds with
 | nil => intro a _; rfl
 | cons d ds ih =>
  intro a h;rw [List.foldl_cons, qs, if_neg (h d (by simp))];exact ih a fun x hx => h x (by simp [hx])
theorem Bd {name : B} : ∀ (ds : List Dn) (a : Int × Int), (ds.map (·.step.name)).Nodup → ∀ d ∈ ds, d.step.name = name → ds.foldl (qs name) a = (d.why, 0) := by
 intro ds
 induction ds with
 | nil => intro a _ d hd; cases hd
 | cons x ds ih =>
  intro a hn d hd he;have hn := List.nodup_cons.1 hn;rw [List.foldl_cons];rcases List.mem_cons.1 hd with rfl | hd
  ·rw [qs, if_pos he];exact FV ds _ fun y hy e => hn.1 (by show d.step.name ∈ _; rw [he, ← e]; exact List.mem_map_of_mem hy)
  ·exact ih _ hn.2 d hd he
theorem yZ {l : List Nd} (h : aV l = 0) (state : List Rc) (given : List Sp) (w : U) : ((bG l state given w).map (·.step.name)) = (cp l).map (nm l) := by
 have := CS state given w (pb h).hb;rw [aq, List.map_map] at this;exact this
structure Pu (l : List Nd) (given : List Sp) : Prop where
 fN : fN l
 len : l.length ≤ 80
 given : given.length ≤ 100
theorem iY (l : List Nd) (g : List Sp) (hl : l.length ≤ maxLen) (hn : ∀ n ∈ l, n.deps.length ≤ maxLen) (hg : g.length ≤ maxLen) {R} (h : ∀ b : Bool, (b = false → Pu l g) → R (.val (.bool b)) []) :
  ag Tryz.prog 10 [.sl none 4 (nds l), .sl none 3 (sps g)] [] R := by
 refine ab (an := S9) tab_ok Tryz.func10 ?_;conv=>whnf
 refine uu l hl hn fun b hb => ?_
 cases b with
 | true =>
  conv=>whnf
  exact h _ (fun e => by cases e)
 | false =>
  obtain ⟨h1, h2⟩ := hb rfl;conv=>whnf
  refine FQ g hg fun b hb => ?_;conv=>whnf
  refine h _ fun e => ?_;have hb := hb (by simpa using e);exact ⟨⟨by omega, fun n hn => by have := h2 n hn; exact ⟨by omega, by omega, fun d hd => by have := this.2.2 d hd; omega⟩⟩, h1, hb.1⟩
theorem ml {n : Nat} {x : List AV} (h : cA tab (n + 6) 35 x) : ∃ (l : List Nd) (g : List Sp) (w : U), x = [.sl none 4 (nds l), .sl none 3 (sps g), uv w] ∧ l.length ≤ maxLen ∧ (∀ n ∈ l, n.deps.length ≤ maxLen) ∧ g.length ≤ maxLen := by
 have h : mW (cA tab (n + 5)) [31, 32, 33] x := h;obtain ⟨p, q, rfl, h1, r, s, rfl, h2, t, u, rfl, h3, rfl⟩ := h;obtain ⟨y, rfl, e1, e2⟩ : ∃ y : List (List AV), p = [.sl none 4 y] ∧ y.length ≤ maxLen ∧ ∀ z ∈ y, cA tab (n + 4) 73 z := h1;obtain ⟨l, rfl, hl⟩ := oO (n := n + 1) e2;obtain ⟨y, rfl, f1, f2⟩ : ∃ y : List (List AV), r = [.sl none 3 y] ∧ y.length ≤ maxLen ∧ ∀ z ∈ y, cA tab (n + 4) 45 z := h2;obtain ⟨g, rfl⟩ := tM (n := n + 1) f2;obtain ⟨w, rfl, hw⟩ : ∃ w, t = [.val (.int .u64 w)] ∧ (Lit.int .u64 w).wf = true := h3;refine ⟨l, g, BitVec.ofInt 64 w, ?_, by simpa [nds] using e1, hl, by simpa [sps] using f1⟩;rw [uv, ← oN hw];rfl
theorem gX {l : List Nd} (h : aV l ≠ 0) (state : List Rc) (given : List Sp) (w : U) : bG l state given w = [] := by
 rw [bG, cp, if_neg h]; rfl
theorem zh {v : Int} (l : List Nd) (hl : fN l) (hl2 : l.length ≤ 100) (given : List Sp) (hg : given.length < 1000000) (L : List Rc) (hL : L.length ≤ 1100) (hm : ∀ r ∈ L, aR v r = true) (s : FSt) {R}
  (h : R (.tup [.sl none 3 (sps (aq (bG l (ar L) given 0))), vi (aV l)]) [stO false 1 v L, fsC s 2, fsM s]) :
  ag Tryz.prog 19 [.ptr 0 0, .sl none 4 (nds l), .sl none 3 (sps given)] [stO false 1 v L, fsC s 2, fsM s] R := by
 refine ag.res (Db l hl hl2 given hg L hL hm s (fun hc => ?_) (fun hc => ?_))
 ·rw [gX hc] at h;exact cf (gg (leL.cons (cy 3) (leL.refl _))) rfl h
 ·rw [hc] at h;exact bB h
theorem KR {v : Int} (hv : is3 v) (l : List Nd) (hl : fN l) (hl2 : l.length ≤ 100) (given : List Sp) (hg : given.length < 1000000) (w : U) (L : List Rc) (hL : L.length ≤ 1030) (hm : ∀ r ∈ L, aR v r = true) (k : Nat) (hk : k ≤ (aC v L).length) (h8 : 8 ≤ k) {R}
  (h : ∀ k', k' ≤ (aC v (L ++ aL (bG l (ar L) given (wen v w)))).length → 8 ≤ k' → R (.tup [.sl none 3 (sps (aq (bG l (ar L) given (wen v w)))), vi (aV l)]) [stO false 1 v (L ++ aL (bG l (ar L) given (wen v w))), fsC (fsK (aC v (L ++ aL (bG l (ar L) given (wen v w)))) k') 2, fsM (fsK (aC v (L ++ aL (bG l (ar L) given (wen v w)))) k')]) :
  ag Tryz.prog 12 [.ptr 0 0, .sl none 4 (nds l), .sl none 3 (sps given), uv w] [stO false 1 v L, fsC (fsK (aC v L) k) 2, fsM (fsK (aC v L) k)] R := by
 refine ag.res (jm hv l hl hl2 given hg w (fsK (aC v L) k) (GD hm (by omega) hk) (by omega) L hL hm (fun hc => ?_) (fun hc f hf he => ?_) (fun hc f hf _ => ?_))
 ·have h := h k;rw [gX hc] at h;have h := h (by simpa [aL] using hk) h8;rw [show L ++ aL [] = L from by simp [aL]] at h;exact cf (gg (leL.cons (cy 3) (leL.refl _))) rfl h
 ·obtain ⟨k2, _, hk2⟩ := pq v k (bG l (ar L) given (wen v w)) L;rw [hf, hk2] at he;exact absurd rfl he
 ·obtain ⟨k2, hk3, hk2⟩ := pq v k (bG l (ar L) given (wen v w)) L;rw [hk2] at hf;have hle : (aC v L).length ≤ (aC v (L ++ aL (bG l (ar L) given (wen v w)))).length := by rw [cr, cr, eR, dG, List.length_append]; omega
  have h := h k2 (by rcases hk3 with rfl | rfl <;> omega) (by rcases hk3 with rfl | rfl <;> omega);rw [hc] at h;subst hf;exact bB h
theorem uR {v : Int} (hv : is3 v) (l : List Nd) (state : List Rc) (given : List Sp) {w : U} (hw : v = 1 → w = 0) : ∀ r ∈ aL (bG l state given w), aR v r = true := by
 intro r hr;obtain ⟨d, hd, rfl⟩ := List.mem_map.1 hr;rw [List.mem_filter] at hd;by_cases hc : aV l = 0
 ·exact nI hv hc hw d hd.1 hd.2
 ·rw [gX hc] at hd
  cases hd.1
theorem gk (l : List Nd) (state : List Rc) (given : List Sp) (w : U) : (bG l state given w).length ≤ 64 := by
 by_cases hc : aV l = 0
 ·rw [bG, eK _ _ _ (pb hc).hb, jH hc]; exact (eM hc).2.2.2
 ·rw [gX hc]; simp
theorem rT {v : Int} {L M : List Rc} (h1 : ∀ r ∈ L, aR v r = true) (h2 : ∀ r ∈ M, aR v r = true) : ∀ r ∈ L ++ M, aR v r = true := fun r hr => by
 rcases List.mem_append.1 hr with hr | hr
 ·exact h1 r hr
 ·exact h2 r hr
theorem Hs {a : List Dn} {i : Nat} (hi : i < a.length) : (aL (a.take (i + 1))).length = (aL (a.take i)).length + if a[i].step.ran = true then 1 else 0 := by
 rw [List.take_succ_eq_append_getElem hi, cX];by_cases h : a[i].step.ran = true <;> simp [h]
theorem JL {l : List Nd} (hn : (l.map (·.name)).Nodup) {b : Nat} (hb : b < l.length) : gy (l.map (·.name)) l[b].name = (b : Int) := by
 have h := lO (l := l.map (·.name)) (s := l[b].name) (i := b) (by simp [List.getElem?_eq_getElem hb]) (fun j hj e => by
  have hjl : j < l.length := by omega
  have := List.pairwise_iff_getElem.1 hn j b (by simpa using hjl) (by simpa using hb) hj;refine this ?_;simp only [List.getElem?_map, List.getElem?_eq_getElem hjl, Option.map_some, Option.some.injEq] at e;simpa using e)
 rw [gy, h]
theorem GJ {l : List Nd} (S : List Rc) (g : List Sp) (w u : U) (hc : aV l = 0) (D : List Dn) (hD : bG l S g w = D) (i : Nat) (hi : i < D.length) : (bG l S g u).foldl (qs D[i].step.name) (0, 6) = (D[i].why, 0) := by
 have hst : aq (bG l S g u) = aq D := by rw [← hD, bG, bG]; exact tn _ _ _ _ _
 have hwy : (bG l S g u).map (·.why) = D.map (·.why) := by rw [← hD, bG, bG]; exact Kq _ _ _ _ _
 have hnd : ((bG l S g u).map (·.step.name)).Nodup := by rw [yZ hc]; exact o9 hc
 generalize bG l S g u = E at hst hwy hnd ⊢;have hil : i < E.length := by have := congrArg List.length hwy; simp at this; omega
 have e1 : E[i].why = D[i].why := by
  have := congrArg (fun x => x[i]?) hwy;simp only [List.getElem?_map, List.getElem?_eq_getElem hil, List.getElem?_eq_getElem hi, Option.map_some, Option.some.injEq] at this;exact this
 have e2 : E[i].step = D[i].step := by
  have := congrArg (fun x => x[i]?) hst;simp only [aq, List.getElem?_map, List.getElem?_eq_getElem hil, List.getElem?_eq_getElem hi, Option.map_some, Option.some.injEq] at this;exact this
 rw [Bd _ _ hnd _ (List.getElem_mem hil) (by rw [e2]), e1]
theorem tE (l0 : List Rc) (h0 : l0.length ≤ maxLen) (h0d : ∀ r ∈ l0, r.deps.length ≤ maxLen) (l : List Nd) (g : List Sp) (w : U) (hl : l.length ≤ maxLen) (hn : ∀ n ∈ l, n.deps.length ≤ maxLen) (hg : g.length ≤ maxLen) {R} (h : R (.val (.bool true)) []) :
  ag Tryz.prog 4 [.sl none 7 (bf l0), .agg [.sl none 4 (nds l), .sl none 3 (sps g), uv w]] [] R := by
 refine ab (an := an4) tab_ok Tryz.func4 ?_;conv=>whnf
 refine qq l0 h0 h0d fun b hb0 => ?_
 cases b with
 | true =>
  conv=>whnf
  refine cc ?_;conv=>whnf
  exact h
 | false =>
 obtain ⟨h30, h60⟩ := hb0 rfl;conv=>whnf
 refine iY l g hl hn hg fun b hb => ?_
 cases b with
 | true =>
  conv=>whnf
  refine cc ?_;conv=>whnf
  exact h
 | false =>
 obtain ⟨hsm, hl80, hg100⟩ := hb rfl;have hv : is3 3 := .inr (.inr rfl);conv=>whnf
 refine nV hv l0 (by omega) (fun r hr => (h60 r hr).1) fun hm hml => ?_;generalize lS 3 l0 = L at hm hml ⊢;have hLd : ∀ r ∈ L, r.deps.length < 1000000 := fun r hr => by have := (aQ (hm r hr)).deps; omega
 obtain ⟨s, hs⟩ : ∃ s, s = fsV 3 L := ⟨_, rfl⟩;rw [← hs];conv=>whnf
 refine bY false 3 L (by omega) hLd s ?_;conv=>whnf
 refine zh l hsm (by omega) g (by omega) L (by omega) hm s ?_;have hst0 : aq (bG l (ar L) g 0) = aq (bG l (ar L) g w) := by rw [bG, bG]; exact tn _ _ _ _ _
 rw [hst0];generalize hD : bG l (ar L) g w = D;have hD64 : D.length ≤ 64 := by rw [← hD]; exact gk _ _ _ _
 have hmT : ∀ r ∈ aL D, aR 3 r = true := by rw [← hD]; exact uR hv l _ _ (fun e => by cases e)
 have hck : ∀ i, i < D.length → aV l = 0 := fun i hi => Classical.byContradiction fun hc => by rw [← hD, gX hc] at hi; cases hi
 obtain ⟨P, hP⟩ : ∃ P, P = aq D := ⟨_, rfl⟩;have hPl : P.length = D.length := by rw [hP]; simp [aq]
 have hget : ∀ (i : Nat) (hi : i < D.length), P[i]'(by omega) = D[i].step := fun i hi => by subst hP; simp [aq]
 have hmet : ∀ (i : Nat) (hi : i < D.length) (a : Int × Int), a = (bG l (ar L) g 0).foldl (qs D[i].step.name) (0, 6) → a = (D[i].why, 0) := fun i hi a ha => by
  have := GJ (ar L) g w 0 (hck i hi) D hD i hi;rw [ha, this]
 have hran : ∀ (i : Nat) (hi : i < D.length), D[i].step.ran = decide (D[i].why ≠ 0) := fun i hi => by
  have hmem : D[i] ∈ bG l (ar L) g w := by rw [hD]; exact List.getElem_mem hi
  obtain ⟨j, hj, e⟩ := n9 (fH l) hmem;rw [e];exact HI _ _ _ _ _
 rw [← hP];conv=>whnf
 refine bY false 3 L (by omega) hLd s ?_;conv=>whnf
 refine iJ L L (by omega) hLd fun p hp => ?_;have hp : p = true := by rw [hp]; exact decide_eq_true rfl
 subst hp;have hsl : (sps P).length = P.length := bA P;rw [eO P] at hsl ⊢;conv=>whnf
 refine au.ind1 (fun (i : Nat) => [(58, vi i)]) (fun _ => [(ax 34 0, fsC s (ax 34 1)), (ax 34 1, fsM s), (ax 34 2, stO false (ax 34 0) 3 L)]) (fun i => P.length - i) (fun i => i ≤ P.length) 0 rfl (Nat.zero_le _) ?_;rintro i hi IH;conv=>whnf
 refine ae (fun hc => ?_) (fun hc => ?_)
 ·have hc := ap hsl hc;have hgi := hget i (by omega);have hmi := hmet i (by omega);have hri := hran i (by omega)
  (conv=>whnf); (repeat ((with_reducible refine ac ?_ ?_); exact decide_eq_true (by omega); (conv=>whnf)))
  refine idxNat (by simpa using hc) ?_;rw [hgi];generalize D[i]'(by omega) = d at hmi hri ⊢;conv=>whnf
  refine q8 l hsm (by omega) g (by omega) L (by omega) hm s d.step.name (fun hcn => absurd (hck i (by omega)) hcn) (fun _ a ha => ?_);rw [hmi a ha];conv=>whnf
  refine am (by rw [hri]; by_cases q : d.why = 0 <;> simp [q]) ?_;conv=>whnf
  rw [al (by omega)];exact IH (i + 1) (by omega) (by omega)
 ·clear IH hi hc;rw [hs];conv=>whnf
  refine KR hv l hsm (by omega) g (by omega) w L (by omega) hm 8 (by rw [cr]; omega) (by omega) fun k hk _ => ?_;rw [show wen 3 w = w from rfl, hD] at hk ⊢;have hL2 : (L ++ aL D).length ≤ 200 := by have := fL D; simp; omega
  have hm2 := rT hm hmT;have hL2d : ∀ r ∈ L ++ aL D, r.deps.length < 1000000 := fun r hr => by have := (aQ (hm2 r hr)).deps; omega
  have hlen : (L ++ aL D).length = L.length + (aL D).length := by simp
  have hfd : ∀ (i : Nat) (hi : i < D.length), D[i].step.ran = true → ∃ (b : Nat) (hb : b < l.length), D[i].step.name = l[b].name ∧ cJ (ar (L ++ aL D)) D[i].step.name = some D[i].trace ∧ D[i].trace.wen = w ∧ D[i].trace.out = dig D[i].step.con ∧ D[i].trace.rule = l[b].rule := fun i hi hr => by
   have hmem : D[i] ∈ bG l (ar L) g w := by rw [hD]; exact List.getElem_mem hi
   obtain ⟨t1, t2⟩ := nH (state := ar L) (given := g) (w := w) (fH l);have ht := gt (fH l) hmem hr;have hin : D[i].trace ∈ aL D := List.mem_map.2 ⟨_, List.mem_filter.2 ⟨List.getElem_mem hi, hr⟩, rfl⟩;have hf := (wA L (aL D) (by rw [← hD]; exact t2) (by rw [← hD]; exact t1) D[i].step.name).1 _ hin ht.2;obtain ⟨j, hj, e⟩ := n9 (fH l) hmem;refine ⟨_, (fH l).hb _ (List.getElem_mem hj), ?_, hf, ?_⟩
   ·rw [e, kr]
   ·rw [e] at hr ⊢;obtain ⟨x1, _, x3⟩ := nj hr;rw [x1, x3];exact ⟨rfl, rfl, rfl⟩
  obtain ⟨s2, hs2⟩ : ∃ s2, s2 = fsK (aC 3 (L ++ aL D)) k := ⟨_, rfl⟩;rw [← hs2];generalize hLL : L ++ aL D = L2 at hL2 hL2d hfd hlen ⊢;rw [← hP];conv=>whnf
  refine am (by simp) ?_;conv=>whnf
  rw [← eO P];refine pF P P (by omega) fun p hp => ?_;have hp : p = true := hp.2 rfl;subst hp;rw [eO P];conv=>whnf
  refine au.ind2 (fun (i n : Nat) => [(17, vi n), (105, vi i)]) (fun _ _ => [(ax 34 0, fsC s2 (ax 34 1)), (ax 34 1, fsM s2), (ax 34 2, stO false (ax 34 0) 3 L2)]) (fun i _ => P.length - i) (fun i n => i ≤ P.length ∧ n = (aL (D.take i)).length) 0 0 rfl ⟨Nat.zero_le _, rfl⟩ ?_;rintro i n ⟨hi, hnn⟩ IH;have hn64 : n ≤ 64 := by rw [hnn]; have := fL (D.take i); rw [List.length_take] at this; omega
  conv=>whnf
  refine ae (fun hc => ?_) (fun hc => ?_)
  ·have hc := ap hsl hc;have hgi := hget i (by omega);have hfi := hfd i (by omega);have hcnt := Hs (a := D) (i := i) (by omega);rw [← hnn] at hcnt;have hch := hck i (by omega)
   (conv=>whnf); (repeat ((with_reducible refine ac ?_ ?_); exact decide_eq_true (by omega); (conv=>whnf)))
   refine idxNat (by simpa using hc) ?_;rw [hgi];generalize D[i]'(by omega) = d at hfi hcnt ⊢;conv=>whnf
   refine zy false 3 L2 (by omega) hL2d s2 d.step.name ?_;unfold cz;by_cases hr : d.step.ran = true
   ·obtain ⟨b, hb, e1, e2, e3, e4, e5⟩ := hfi hr;rw [e2, Option.getD_some];have hpl := JL (eM hch).1 hb;rw [← e1] at hpl;rw [if_pos hr] at hcnt;generalize d.trace = t at e3 e4 e5 ⊢;conv=>whnf
    refine aI hr ?_;rw [hr];conv=>whnf
    refine am (by rw [e3]; simp) ?_;conv=>whnf
    refine jt d.step.con fun u hu => ?_;conv=>whnf
    refine am (by rw [hu, e4]; simp) ?_;conv=>whnf
    refine jK l d.step.name (by omega) rfl fun p hp => ?_;rw [hpl] at hp;subst hp
    (conv=>whnf); (repeat ((with_reducible refine ac ?_ ?_); exact decide_eq_true (by omega); (conv=>whnf)))
    refine idxNat (by simpa using hb) ?_;conv=>whnf
    refine am (by rw [e5]; simp) ?_;conv=>whnf
    rw [al (by omega), al (by omega)];exact IH (i + 1) (n + 1) ⟨by omega, hcnt.symm⟩ (by omega)
   ·rw [if_neg hr] at hcnt;have hr : d.step.ran = false := by simpa using hr
    generalize (cJ (ar L2) d.step.name).getD cG = t;generalize (cJ (ar L2) d.step.name).isSome = f;conv=>whnf
    refine am hr ?_;rw [hr];conv=>whnf
    rw [al (by omega)];exact IH (i + 1) n ⟨by omega, hcnt.symm⟩ (by omega)
  ·have hc := aw hsl hc;rw [List.take_of_length_le (by omega)] at hnn;have hrl : (bf L2).length = L2.length := be L2;have hrl0 : (bf L).length = L.length := be L;conv=>whnf
   refine cc ?_;conv=>whnf
   refine bY false 3 L2 (by omega) hL2d s2 ?_;conv=>whnf
   rw [hrl, hrl0, aK (by omega) (by omega), show (((L2.length : Nat) : Int) == (L.length : Int) + (n : Int)) = true from by rw [beq_iff_eq]; omega];exact h
theorem BuildNeeds_row (l : List AV) (h : fT tab 12 [46, 35] l) : ag Tryz.prog 4 l [] fun r _ => r = .val (.bool true) := by
 obtain ⟨r0, l3, rfl, hr, hrd, h1⟩ := zi h;obtain ⟨v, l4, rfl, ⟨x, rfl, hx⟩, h2⟩ := h1;obtain ⟨m, g, w, rfl, hl, hn, hg⟩ := ml (n := 6) hx;obtain rfl := sE h2;exact tE r0 hr hrd m g w hl hn hg rfl
end Go.Abs
end
