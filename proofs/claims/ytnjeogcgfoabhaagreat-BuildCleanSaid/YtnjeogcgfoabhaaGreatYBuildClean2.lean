/- Several texts of this claim, one behind the other: HB, ZC, ZB, ZD, N1, K1, N2, K2, L1, E8, L2, L3, L4, N4, N5, N3, L5, M1, M4, N6, N7, N8, P1, N9, P2, P3, P4, P5. -/
import Derived.Test.YtnjeogcgfoabhaaGreatYBuildClean1
import Derived.Test.YtnjeogcgfoabhaaGreatE0BA
import Derived.RangeFuncBound
import Derived.RangeFuncGives
import Derived.RangeFuncSeq
import Derived.Sort.MapsRangeIn
import Derived.Sort.KeysCollected
import Derived.Sort.OwnSorted
import Derived.Maps.AppendAt
import Derived.Shelf.Abstract
import Derived.WalkKit
import Derived.OwnWalkIn
import Derived.TacticsInMore
import Derived.RegionIn
import Derived.LoopNIn
import Derived.LoopIn
import Derived.Shelf.RegionOpenPlain
import Derived.Lib.Builder
import Derived.Lib.UnsafeStr
import Derived.Lib.Strings
import Derived.Lib.Slices
import Derived.Lib.Walk
import Derived.Laws.Externs
import Derived.MapKept
import Derived.Lib.SliceRun
import Derived.Lib.AppendZerosOnto
set_option maxRecDepth 100000
set_option maxHeartbeats 4000000
set_option linter.unusedVariables false
set_option linter.unusedSimpArgs false
section
namespace Go.Abs
open Go Go.Proofs Dig
attribute [local irreducible] aH aE aO firstIdx
def dO (v : Int) : List Dp → List B → Bool
 | [], _ => true
 | d :: ds, seen => dj d.name && (decide (d.name ∉ seen) && (!(d.order && decide (v < 3)) && dO v ds (seen ++ [d.name])))
def pz (v : Int) (r : Rc) : Bool := dO v r.deps [r.target] && decide (r.deps.length ≤ 16)
theorem py (v : Int) (r : Rc) (hd : r.deps.length < 100000) {R} (h : ∀ p, p = pz v r → R (.val (.bool p)) []) : ag Tryz.prog 137 [vi v, .agg r.enc] [] R := by
 refine ab (an := SC) tab_ok Tryz.func137 ?_;have hsl := bF r.deps;have no : dO v r.deps [r.target] = false → R (.val (.bool false)) [] := fun e => h false (by rw [pz, e]; rfl);conv=>whnf
 refine lE r.target [] (by simp) fun m hm => ?_;have hm : m = [r.target] := by rw [hm]; simp [m6, cQ]
 subst hm;conv=>whnf
 refine au.ind2 (fun (i : Nat) (seen : List B) => [(17, vi i)]) (fun i seen => [(ax 13 0, bN (ax 13 1) (ax 13 2) seen), (ax 13 1, bM seen), (ax 13 2, bL seen)])
  (fun i _ => r.deps.length - i) (fun i seen => i ≤ r.deps.length ∧ seen.length ≤ i + 1 ∧ dO v (r.deps.drop i) seen = dO v r.deps [r.target]) 0 [r.target] rfl ⟨by omega, by simp, by simp⟩ ?_
 rintro i seen ⟨h0, hsn, hD⟩ IH;conv=>whnf
 refine ae (fun hc => ?_) (fun hc => ?_)
 ·have hc := ap hsl hc;rw [List.drop_eq_getElem_cons hc, dO] at hD
  (conv=>whnf); (repeat ((with_reducible refine ac ?_ ?_); exact decide_eq_true (by omega); (conv=>whnf)))
  refine idxNat (by simpa using hc) ?_;generalize r.deps[i] = d at hD ⊢;conv=>whnf
  by_cases hm : d.name ∈ seen
  ·have hbad : dO v r.deps [r.target] = false := by rw [← hD]; simp [hm]
   refine j8 seen d.name hm fun j => ?_;conv=>whnf
   refine oz d.name ?_;conv=>whnf
   refine ae (fun hq => ?_) (fun hq => ?_)
   ·conv=>whnf
    exact no hbad
   ·conv=>whnf
    exact no hbad
  ·refine gZ seen d.name (by omega) hm fun j => ?_;conv=>whnf
   refine oz d.name ?_;conv=>whnf
   refine ae (fun hq => ?_) (fun hq => ?_)
   ·have hq : dj d.name = false := by simpa using hq
    conv=>whnf
    exact no (by rw [← hD, hq]; rfl)
   ·have hq : dj d.name = true := by simpa using hq
    rw [hq, decide_eq_true hm, Bool.true_and, Bool.true_and] at hD;conv=>whnf
    refine ae (fun ho => ?_) (fun ho => ?_)
    ·rw [ho, Bool.true_and] at hD;conv=>whnf
     refine ae (fun hv => ?_) (fun hv => ?_)
     ·rw [hv] at hD;conv=>whnf
      exact no (by rw [← hD]; rfl)
     ·rw [hv] at hD;conv=>whnf
      rw [al (by omega)];exact IH (i + 1) (seen ++ [d.name]) ⟨by omega, by simp; omega, by rw [← hD]; simp⟩ (by omega)
    ·rw [ho] at hD;conv=>whnf
     rw [al (by omega)];exact IH (i + 1) (seen ++ [d.name]) ⟨by omega, by simp; omega, by rw [← hD]; simp⟩ (by omega)
 ·have hc := aw hsl hc;rw [List.drop_eq_nil_of_le hc, dO] at hD;conv=>whnf
  rw [hsl];refine h _ ?_;rw [pz, ← hD, Bool.true_and];exact decide_eq_decide.2 (by omega)
def dU (v : Int) (r : Rc) : Bool := (decide (v < 2) && decide (r.wen ≠ 0)) || (decide (v < 3) && decide (r.tag ≠ []))
def qf (r : Rc) : Rc := ⟨2, r.target, 0, [], 0, 0, []⟩
def aR (v : Int) (r : Rc) : Bool :=
 if (decide (v < 1) || decide (3 < v) || !dj r.target) = true then false
 else if r.kind = 1 then !dU v r && (decide (r.tag.length ≤ 64) && pz v r)
 else if r.kind = 2 then decide (r = qf r) else false
theorem HJ : ofB [] = { data := #[] } := rfl
theorem eG (v : Int) (r : Rc) (hd : r.deps.length < 100000) {R} (h : ∀ p, p = aR v r → R (.val (.bool p)) []) : ag Tryz.prog 94 [vi v, .agg r.enc] [] R := by
 refine ab (an := Ui) tab_ok Tryz.func94 ?_;have hst := aG r.tag;conv=>whnf
 refine ae (fun g1 => ?_) (fun g1 => ?_)
 ·conv=>whnf
  exact h false (by rw [aR, if_pos (by rw [g1]; rfl)])
 conv=>whnf
 refine ae (fun g2 => ?_) (fun g2 => ?_)
 ·have g2 : 3 < v := by simpa using g2
  conv=>whnf
  exact h false (by rw [aR, if_pos (by rw [g1, decide_eq_true g2]; rfl)])
 have g2 : ¬ 3 < v := by simpa using g2
 conv=>whnf
 refine oz r.target ?_;conv=>whnf
 refine ae (fun g3 => ?_) (fun g3 => ?_)
 ·conv=>whnf
  exact h false (by rw [aR, if_pos (by rw [g3]; simp)])
 have hm : aR v r = if r.kind = 1 then !dU v r && (decide (r.tag.length ≤ 64) && pz v r) else if r.kind = 2 then decide (r = qf r) else false := by
  rw [aR, if_neg (by rw [g1, decide_eq_false g2, g3]; simp)]
 conv=>whnf
 refine ae (fun k1 => ?_) (fun k1 => ?_)
 ·have k1 : r.kind = 1 := by simpa using k1
  rw [if_pos k1] at hm;have wz : ((r.wen.toNat : Int) != 0) = decide (r.wen ≠ 0) := by
   by_cases e : r.wen = 0
   ·simp [e]
   ·have : r.wen.toNat ≠ 0 := fun x => e (BitVec.eq_of_toNat_eq (by simpa using x));rw [decide_eq_true e]; simp; omega
  conv=>whnf
  refine ae (fun e1 => ?_) (fun e1 => ?_)
  ·conv=>whnf
   refine ae (fun e2 => ?_) (fun e2 => ?_)
   ·rw [wz] at e2;conv=>whnf
    exact h false (by rw [hm, dU, e1, e2]; rfl)
   ·rw [wz] at e2;have e3 : decide (v < 3) = true := by simp at e1 ⊢; omega
    conv=>whnf
    refine aI e3 ?_;conv=>whnf
    refine ae (fun e4 => ?_) (fun e4 => ?_)
    ·have e4 : r.tag = [] := by simpa [← HJ, bI] using e4
     have e4 : decide (r.tag ≠ []) = false := by rw [e4]; rfl
     have he : dU v r = false := by rw [dU, e2, e4]; simp
     conv=>whnf
     refine ae (fun q => ?_) (fun q => ?_)
     ·have q : r.tag.length ≤ 64 := by have q := of_decide_eq_true q; omega
      conv=>whnf
      refine py v r hd fun p hp => ?_;conv=>whnf
      exact h p (by rw [hm, he, decide_eq_true q, hp]; rfl)
     ·have q : ¬ r.tag.length ≤ 64 := by have q := of_decide_eq_false q; omega
      conv=>whnf
      exact h false (by rw [hm, decide_eq_false q]; simp)
    ·have e4 : r.tag ≠ [] := by simpa [← HJ, bI] using e4
     have e4 : decide (r.tag ≠ []) = true := decide_eq_true e4;conv=>whnf
     exact h false (by rw [hm, dU, e3, e4]; simp)
  ·conv=>whnf
   refine ae (fun e3 => ?_) (fun e3 => ?_)
   ·conv=>whnf
    refine ae (fun e4 => ?_) (fun e4 => ?_)
    ·have e4 : r.tag = [] := by simpa [← HJ, bI] using e4
     have e4 : decide (r.tag ≠ []) = false := by rw [e4]; rfl
     have he : dU v r = false := by rw [dU, e1, e4]; simp
     conv=>whnf
     refine ae (fun q => ?_) (fun q => ?_)
     ·have q : r.tag.length ≤ 64 := by have q := of_decide_eq_true q; omega
      conv=>whnf
      refine py v r hd fun p hp => ?_;conv=>whnf
      exact h p (by rw [hm, he, decide_eq_true q, hp]; rfl)
     ·have q : ¬ r.tag.length ≤ 64 := by have q := of_decide_eq_false q; omega
      conv=>whnf
      exact h false (by rw [hm, decide_eq_false q]; simp)
    ·have e4 : r.tag ≠ [] := by simpa [← HJ, bI] using e4
     have e4 : decide (r.tag ≠ []) = true := decide_eq_true e4;conv=>whnf
     exact h false (by rw [hm, dU, e3, e4]; simp)
   ·have he : dU v r = false := by rw [dU, e1, e3]; simp
    conv=>whnf
    refine ae (fun q => ?_) (fun q => ?_)
    ·have q : r.tag.length ≤ 64 := by have q := of_decide_eq_true q; omega
     conv=>whnf
     refine py v r hd fun p hp => ?_;conv=>whnf
     exact h p (by rw [hm, he, decide_eq_true q, hp]; rfl)
    ·have q : ¬ r.tag.length ≤ 64 := by have q := of_decide_eq_false q; omega
     conv=>whnf
     exact h false (by rw [hm, decide_eq_false q]; simp)
 ·have k1 : ¬ r.kind = 1 := by simpa using k1
  rw [if_neg k1] at hm;conv=>whnf
  refine ae (fun k2 => ?_) (fun k2 => ?_)
  ·have k2 : r.kind = 2 := by simpa using k2
   rw [if_pos k2] at hm;conv=>whnf
   refine ag.args ?_ (Do r (qf r) (by omega) fun p hp => ?_)
   ·exact leL.cons (.refl _) (leL.cons (iL (Gx 2 r.target 0 0 0 [])) leL.nil)
   conv=>whnf
   exact h p (by rw [hp, hm])
  ·have k2 : ¬ r.kind = 2 := by simpa using k2
   rw [if_neg k2] at hm;conv=>whnf
   exact h false hm.symm
end Go.Abs
end
section
namespace Go.Abs
open Go Go.Proofs Dig
theorem Ih {S : List Rc} {t : B} {r : Rc} (h : cJ S t = some r) : r ∈ S ∧ r.target = t := by
 unfold cJ at h;have h1 := List.mem_of_find?_eq_some h;have h2 := List.find?_some h;simp only [nX, Bool.and_eq_true, decide_eq_true_eq] at h2;exact ⟨List.mem_reverse.1 h1, h2.2⟩
theorem Cy {S S' : List Rc} (hs : Srt S) (hs' : Srt S') (hk : ∀ x ∈ S, x.kind = 1) (hk' : ∀ x ∈ S', x.kind = 1) {t : B} (h : ∀ x, x.target = t → (x ∈ S ↔ x ∈ S')) : cJ S t = cJ S' t := by
 by_cases hx : ∃ x ∈ S, x.target = t
 ·obtain ⟨x, hx, rfl⟩ := hx;rw [n5 hs hx (hk x hx), n5 hs' ((h x rfl).1 hx) (hk x hx)]
 ·rw [qS fun x hx1 e => hx ⟨x, hx1, e⟩, qS fun x hx1 e => hx ⟨x, (h x e).2 hx1, e⟩]
theorem wA (L ts : List Rc) (hk : ∀ r ∈ ts, r.kind = 1) (hd : (ts.map (·.target)).Nodup) (t : B) :
  (∀ r ∈ ts, r.target = t → cJ (ar (L ++ ts)) t = some r) ∧ ((∀ r ∈ ts, r.target ≠ t) → cJ (ar (L ++ ts)) t = cJ (ar L) t) := by
 refine ⟨fun r hr e => ?_, fun hno => ?_⟩
 ·subst e;obtain ⟨a, b, rfl⟩ := List.append_of_mem hr;have hb : ∀ s ∈ b, Er r.target s = true := fun s hs => by
   rw [List.map_append, List.map_cons] at hd;have h1 := (List.nodup_cons.1 (List.nodup_append.1 hd).2.1).1;have : s.target ≠ r.target := fun e => h1 (by rw [← e]; exact List.mem_map_of_mem hs);simp [Er, this]
  have hm : r ∈ ar (L ++ (a ++ r :: b)) := by
   rw [show L ++ (a ++ r :: b) = ((L ++ a) ++ [r]) ++ b by simp, jS];refine (n8 b _ hb r rfl).2 ?_;rw [wG];exact (mF (hk r hr) r).2 (.inl rfl)
  exact n5 (lA _) hm (hk r hr)
 ·refine Cy (lA _) (lA _) (fun x hx => (jy hx).2) (fun x hx => (jy hx).2) fun x hx => ?_;rw [jS];exact n8 ts _ (fun s hs => by simp [Er, hno s hs]) x hx
def nc (s : Sp) : B × U := (s.name, s.con)
theorem Id : ∀ (a b : List Sp), a.map nc = b.map nc → dN a = dN b := by
 intro a b h;funext x;unfold dN;have h : a.reverse.map nc = b.reverse.map nc := by rw [List.map_reverse, h, List.map_reverse]
 generalize a.reverse = a at h;generalize b.reverse = b at h
 induction a generalizing b with
 | nil => cases b with
  | nil => rfl
  | cons y b => simp at h
 | cons y a ih =>
  cases b with
  | nil => simp at h
  | cons z b =>
   simp only [List.map_cons, List.cons.injEq, nc, Prod.mk.injEq] at h;obtain ⟨⟨h1, h2⟩, h3⟩ := h;simp only [List.find?_cons, h1];by_cases hx : z.name = x
   ·simp [hx, h2]
   ·simp only [hx, decide_false];exact ih b h3
theorem GM {a b : List Sp} (h : a.map nc = b.map nc) (n : Nd) : kL a n = kL b n := by rw [kL, kL, Id a b h]
def trN (n : Nd) (c : List U) (w : U) : Rc := ⟨1, n.name, n.rule, dH n.deps (c.map dig), dig (iO n.rule c), w, []⟩
theorem G7 {n : Nd} {c : List U} (hs : n.source = false) (hc : c.length = n.deps.length) (w : U) : dM n (c.map dig) (iO n.rule c) w = trN n c w := by
 rw [dM, f8, hs]; simp [hc, trN]
theorem pA (a : List Sp) (n : Nd) : (kL a n).length = n.deps.length := by simp [kL]
theorem nj {n : Nd} {state : List Rc} {steps given : List Sp} {w : U} (h : (bQ n state steps given w).step.ran = true) :
  (bQ n state steps given w).trace = trN n (kL steps n) w ∧ n.source = false ∧ (bQ n state steps given w).step.con = iO n.rule (kL steps n) := by
 obtain ⟨h1, h2, h3⟩ := B8 n state steps given w h;exact ⟨by rw [h1, G7 h2 (pA _ _)], h2, h3⟩
theorem Lt {n : Nd} {S : List Rc} {c : List U} {w : U} (hs : n.source = false) (hc : c.length = n.deps.length) (hf : cJ S n.name = some (trN n c w)) : kX n S (c.map dig) = 0 := by
 have hb : fZ n (trN n c w) (c.map dig) = false := by simp [fZ, trN, hc, AH (ns := n.deps) (hs := c.map dig) (by simp [hc])]
 rw [kX, if_neg (by simp [hs]), hf, if_neg (by simp), cz, hf, Option.getD_some, uZ, if_neg (by simp [trN]), if_neg (by simp [hb])];rw [show (trN n c w).deps = dH n.deps (c.map dig) from rfl, CU (by simp [hc]) (by simp [hc])];simp
structure oG (l : List Nd) (o : List Nat) : Prop where
 hb : ∀ b ∈ o, b < l.length
 nd : (o.map (nm l)).Nodup
theorem pb {l : List Nd} (h : aV l = 0) : oG l (cp l) := ⟨fun b hb => iE hb, o9 h⟩
theorem fH (l : List Nd) : oG l (cp l) := by
 by_cases h : aV l = 0
 ·exact pb h
 ·rw [cp, if_neg h]; exact ⟨by simp, by simp⟩
section
variable {l : List Nd} {state : List Rc} {given : List Sp} {w : U} {o : List Nat}
theorem n9 (ho : oG l o) {d : Dn} (h : d ∈ aJ l state given w o) : ∃ (i : Nat) (hi : i < o.length), d = bQ (l[o[i]]'(ho.hb _ (List.getElem_mem _))) state (aq (aJ l state given w (o.take i))) given w := by
 obtain ⟨i, hi⟩ := List.getElem?_of_mem h;have hil : i < o.length := by have := (List.getElem?_eq_some_iff.1 hi).1; rwa [eK state given w ho.hb] at this
 rw [kE state given w ho.hb hil, jT state given w ho.hb (Nat.le_of_lt hil)] at hi;exact ⟨i, hil, by injection hi with hi; exact hi.symm⟩
theorem gt (ho : oG l o) {d : Dn} (h : d ∈ aJ l state given w o) (hr : d.step.ran = true) : d.trace.kind = 1 ∧ d.trace.target = d.step.name := by
 obtain ⟨i, hi, rfl⟩ := n9 ho h;obtain ⟨h1, _, _⟩ := nj hr;rw [h1, kr];exact ⟨rfl, rfl⟩
theorem nH (ho : oG l o) : ((aL (aJ l state given w o)).map (·.target)).Nodup ∧ ∀ r ∈ aL (aJ l state given w o), r.kind = 1 := by
 have e : (aL (aJ l state given w o)).map (·.target) = ((aJ l state given w o).filter (·.step.ran)).map (·.step.name) := by
  unfold aL;rw [List.map_map];refine List.map_congr_left fun d hd => ?_;rw [List.mem_filter] at hd;exact (gt ho hd.1 hd.2).2
 refine ⟨?_, fun r hr => ?_⟩
 ·rw [e];have h := ho.nd;rw [← CS state given w ho.hb, aq, List.map_map] at h;exact h.sublist (List.filter_sublist.map _)
 ·obtain ⟨d, hd, rfl⟩ := List.mem_map.1 hr;rw [List.mem_filter] at hd;exact (gt ho hd.1 hd.2).1
theorem Fw (ho : oG l o) (L : List Rc) (u : U) : ∀ i, i ≤ o.length →
  (aq (aJ l (ar (L ++ aL (aJ l (ar L) given w o))) given u (o.take i))).map nc = (aq (aJ l (ar L) given w (o.take i))).map nc ∧
  ∀ d ∈ aJ l (ar (L ++ aL (aJ l (ar L) given w o))) given u (o.take i), d.step.ran = false := by
 intro i;obtain ⟨h1, h2⟩ := nH (state := ar L) (given := given) (w := w) ho;have hf := fun t => wA L (aL (aJ l (ar L) given w o)) h2 h1 t;generalize hS : ar (L ++ aL (aJ l (ar L) given w o)) = S at hf ⊢
 induction i with
 | zero => intro _; exact ⟨rfl, by simp [aJ]⟩
 | succ i ih =>
  intro hi;have hi : i < o.length := hi;obtain ⟨i1, i2⟩ := ih (Nat.le_of_lt hi);have hl : o[i] < l.length := ho.hb _ (List.getElem_mem _);have hg := kE (ar L) given w ho.hb hi;rw [jT (ar L) given w ho.hb (Nat.le_of_lt hi)] at hg;have hmem := List.mem_of_getElem? hg;rw [gj S given u hi hl, gj (ar L) given w hi hl, aY, aY, List.map_append, List.map_append, i1];have hc := GM i1 l[o[i]];generalize aq (aJ l S given u (o.take i)) = A at hc ⊢;generalize hB : aq (aJ l (ar L) given w (o.take i)) = C at hc hmem ⊢;have key : nc (bQ l[o[i]] S A given u).step = nc (bQ l[o[i]] (ar L) C given w).step ∧ (bQ l[o[i]] S A given u).step.ran = false := by
   by_cases hs : l[o[i]].source = true
   ·simp [bQ, hs, nc]
   have hs0 : l[o[i]].source = false := by simpa using hs
   by_cases hr : (bQ l[o[i]] (ar L) C given w).step.ran = true
   ·obtain ⟨t1, _, t3⟩ := nj hr;have hin : (bQ l[o[i]] (ar L) C given w).trace ∈ aL (aJ l (ar L) given w o) := List.mem_map.2 ⟨_, List.mem_filter.2 ⟨hmem, hr⟩, rfl⟩;rw [t1] at hin;have hfi := (hf l[o[i]].name).1 _ hin rfl;have hy := Lt (n := l[o[i]]) hs0 (pA C _) hfi;have e : bQ l[o[i]] S A given u = ⟨⟨l[o[i]].name, false, gY (cz S l[o[i]].name).out⟩, 0, cG⟩ := by rw [bQ, if_neg hs, hc, if_pos hy]
    rw [e];refine ⟨?_, rfl⟩;rw [nc, nc, kr, t3, cz, hfi];simp [trN, lB]
   ·have hr0 : (bQ l[o[i]] (ar L) C given w).step.ran = false := by simpa using hr
    have hw0 : kX l[o[i]] (ar L) ((kL C l[o[i]]).map dig) = 0 := by
     rw [bQ, if_neg hs] at hr0;refine Classical.byContradiction fun e => ?_;rw [if_neg e] at hr0
     cases hr0
    have hno : ∀ r ∈ aL (aJ l (ar L) given w o), r.target ≠ l[o[i]].name := fun r hr2 e => by
     obtain ⟨d, hd, rfl⟩ := List.mem_map.1 hr2;rw [List.mem_filter] at hd;have h5 := (gt ho hd.1 hd.2).2;obtain ⟨j, hj, rfl⟩ := n9 ho hd.1;rw [h5, kr] at e;have hnd := ho.nd;have e2 : nm l o[j] = nm l o[i] := by rw [fd (ho.hb _ (List.getElem_mem _)), fd hl]; exact e
     have hpw := List.pairwise_iff_getElem.1 hnd;have hji : j = i := by
      rcases Nat.lt_trichotomy j i with hlt | heq | hgt
      ·exact (hpw j i (by simpa using hj) (by simpa using hi) hlt (by simp only [List.getElem_map]; exact e2)).elim
      ·exact heq
      ·exact (hpw i j (by simpa using hi) (by simpa using hj) hgt (by simp only [List.getElem_map]; exact e2.symm)).elim
     subst hji;rw [hB] at hd;rw [hr0] at hd
     cases hd.2
    have hfi := (hf l[o[i]].name).2 hno;have hy : kX l[o[i]] S ((kL A l[o[i]]).map dig) = 0 := by
     rw [hc, ← hw0, kX, kX, cz, cz, hfi]
    have e : bQ l[o[i]] S A given u = ⟨⟨l[o[i]].name, false, gY (cz S l[o[i]].name).out⟩, 0, cG⟩ := by rw [bQ, if_neg hs, if_pos hy]
    have e2 : bQ l[o[i]] (ar L) C given w = ⟨⟨l[o[i]].name, false, gY (cz (ar L) l[o[i]].name).out⟩, 0, cG⟩ := by rw [bQ, if_neg hs, if_pos hw0]
    rw [e, e2];exact ⟨by rw [cz, cz, hfi], rfl⟩
  refine ⟨by simp only [List.map_cons, List.map_nil, key.1], fun d hd => ?_⟩;rcases List.mem_append.1 hd with hd | hd
  ·exact i2 d hd
  ·rw [List.mem_singleton.1 hd]; exact key.2
theorem kz (ho : oG l o) (L : List Rc) (u : U) :
  (aq (aJ l (ar (L ++ aL (aJ l (ar L) given w o))) given u o)).map nc = (aq (aJ l (ar L) given w o)).map nc ∧
  (∀ d ∈ aJ l (ar (L ++ aL (aJ l (ar L) given w o))) given u o, d.step.ran = false) ∧ aL (aJ l (ar (L ++ aL (aJ l (ar L) given w o))) given u o) = [] := by
 have h := Fw (given := given) (w := w) ho L u o.length (Nat.le_refl _);rw [List.take_length] at h;refine ⟨h.1, h.2, ?_⟩;rw [aL, List.filter_eq_nil_iff.2 fun d hd => by simp [h.2 d hd]];rfl
end
theorem xL {v : Int} : ∀ (ns : List B) (hs : List U) (seen : List B), hs.length = ns.length → (∀ n ∈ ns, dj n = true ∧ n ∉ seen) → ns.Nodup → dO v (dH ns hs) seen = true := by
 intro ns
 induction ns with
 | nil => intro hs seen hl _ _; rfl
 | cons n ns ih =>
  intro hs seen hl hn hd
  cases hs with
  | nil => simp at hl
  | cons h hs =>
   have h1 := hn n (by simp);have h2 := List.nodup_cons.1 hd;simp only [dH, dO, h1.1, Bool.true_and, Bool.false_and, Bool.not_false, Bool.and_eq_true, decide_eq_true_eq];refine ⟨h1.2, ih hs _ (by simpa using hl) (fun m hm => ⟨(hn m (by simp [hm])).1, fun hx => ?_⟩) h2.2⟩;rcases List.mem_append.1 hx with hx | hx
   ·exact (hn m (by simp [hm])).2 hx
   ·exact h2.1 (by rw [← List.mem_singleton.1 hx]; exact hm)
theorem yH {n : Nd} (h : jj n = 0) : dj n.name = true ∧ (n.source = true → n.deps = []) ∧ (n.name :: n.deps).Nodup ∧ n.deps.length ≤ 16 := by
 unfold jj at h;split at h
 ·cases h
 rename_i h1;split at h
 ·cases h
 rename_i h2;split at h
 ·cases h
 rename_i h3;simp only [ge, Bool.or_eq_true, Bool.not_eq_true', Bool.and_eq_true, not_or, decide_eq_true_eq] at h1;refine ⟨by simpa using h1.1, fun hs => ?_, Classical.not_not.1 h2, by omega⟩;by_cases hd : n.deps = []
 ·exact hd
 ·exact absurd ⟨hs, .inl (List.length_pos_iff.2 hd)⟩ h1.2
theorem Mc {v : Int} (hv : v = 1 ∨ v = 2 ∨ v = 3) {l : List Nd} (hc : aV l = 0) {n : Nd} (hn : n ∈ l) {c : List U} (hl : c.length = n.deps.length) {w : U} (hw : v = 1 → w = 0) : aR v (trN n c w) = true := by
 obtain ⟨h1, h2, h3, h4, h5⟩ := (tw l).1 hc;obtain ⟨o1, o2, o3, o4⟩ := yH (h3 n hn);have o5 := List.nodup_cons.1 o3;have hg : dO v (dH n.deps (c.map dig)) [n.name] = true := by
  refine xL _ _ _ (by simp [hl]) (fun d hd => ⟨?_, fun hx => o5.1 (by rw [← List.mem_singleton.1 hx]; exact hd)⟩) o5.2;obtain ⟨m, hm, hmd⟩ := List.mem_map.1 (h4 n hn d hd);rw [← hmd];exact (yH (h3 m hm)).1
 have hdl : (dH n.deps (c.map dig)).length = n.deps.length := mV (by simp [hl]);unfold aR;rw [if_neg (by rcases hv with rfl | rfl | rfl <;> simp [trN, o1]), if_pos (show (trN n c w).kind = 1 from rfl)];have he : dU v (trN n c w) = false := by
  rcases hv with rfl | rfl | rfl
  ·simp [dU, trN, hw rfl]
  ·simp [dU, trN]
  ·simp [dU, trN]
 rw [he];simp [pz, trN, hg, hdl, o4]
theorem nI {v : Int} (hv : v = 1 ∨ v = 2 ∨ v = 3) {l : List Nd} (hc : aV l = 0) {state : List Rc} {given : List Sp} {w : U} (hw : v = 1 → w = 0) : ∀ d ∈ bG l state given w, d.step.ran = true → aR v d.trace = true := by
 intro d hd hr;obtain ⟨i, hi, rfl⟩ := n9 (pb hc) hd;rw [(nj hr).1];exact Mc hv hc (List.getElem_mem _) (pA _ _) hw
end Go.Abs
end
section
namespace Go.Abs
open Go
theorem ag.nilbox {P : Program} {f : FuncId} {args : List AV} {os : List aF} {R : AV → List aF → Prop} (j : Nat) (t0 e : TypeId) (sz : Nat) (hj : os[j]? = some (.cells t0 [.val (.slice none 0 0)]))
  (hc : ag P f args (os.set j (.cells t0 [.sl (some os.length) sz []]) ++ [.row e sz 0]) R) : ag P f args os R := by
 refine ⟨fun G w vals hW hA => ?_⟩;have hjl : j < os.length := (List.getElem?_eq_some_iff.1 hj).1;have hno : G.ob os.length = none := by
  cases e : G.ob os.length with
  | none => rfl
  | some g =>
   obtain ⟨o, ho⟩ := hW.dom _ g e;rw [bX, List.getElem?_eq_none (Nat.le_refl _)] at ho
   cases ho
 have hle := wg hno (.rowv (.slice none 0 0) 0);obtain ⟨G1, hG1⟩ : ∃ G1 : Gh, G1 = ⟨G.K, aN G.ob os.length (.rowv (.slice none 0 0) 0)⟩ := ⟨_, rfl⟩;rw [← hG1] at hle;have hK : G1.K = G.K := by rw [hG1]
 have hat : ∀ n b, G1.at n b → G.at n b := fun n b hb => by
  rw [hG1] at hb;by_cases hn : n = os.length
  ·subst hn;have := gJ hb
   cases this
  ·rcases hb with hb | ⟨u, t', hb, hu⟩
   ·exact .inl (by simpa [aN, hn] using hb)
   ·exact .inr ⟨u, t', by simpa [aN, hn] using hb, hu⟩
 have hob : ∀ n, n ≠ os.length → G1.ob n = G.ob n := fun n hn => by rw [hG1]; simp [aN, hn]
 have hobl : G1.ob os.length = some (.rowv (.slice none 0 0) 0) := by rw [hG1]; simp [aN]
 have hW1 : WR G1 (bE 0 (os.set j (.cells t0 [.sl (some os.length) sz []]) ++ [.row e sz 0])) w := by
  refine ⟨by rw [hK]; exact hW.know, fun n o ho => ?_, fun n g hg => ?_, fun n m b hn hm => hW.apart n m b (hat _ _ hn) (hat _ _ hm), by rw [hK]; exact hW.glob⟩
  ·rw [bX] at ho;rcases Nat.lt_or_ge n os.length with hn | hn
   ·rw [List.getElem?_append_left (by simpa using hn)] at ho;by_cases hnj : n = j
    ·subst hnj;rw [List.getElem?_set_self hn] at ho
     cases ho;obtain ⟨b, vs, e1, e2, e3, e4⟩ := hW.obj n _ (by rw [bX]; exact hj);refine ⟨b, vs, by rw [hob _ (by omega)]; exact e1, e2, ?_, by rw [hK]; exact e4⟩;simp only [aB] at e3 ⊢;obtain ⟨v, us, rfl, h1, rfl⟩ := e3;simp only [Rep] at h1;subst h1;refine ⟨_, _, rfl, ?_, rfl⟩;simp only [Rep];exact ⟨⟨none, 0, rfl, Nat.le_refl _, by simp [eh]⟩, .slice none 0 0, 0, hobl, Nat.le_refl _, fun _ => rfl⟩
    ·rw [List.getElem?_set_ne (fun h => hnj h.symm)] at ho;exact sL.keep (hW.obj n o (by rw [bX]; exact ho)) hle (hob _ (by omega)) fun b _ => ⟨rfl, fun o => by rw [hK]⟩
   ·rw [List.getElem?_append_right (by simpa using hn)] at ho;simp only [List.length_set] at ho;have h0 : n - os.length < 1 := (List.getElem?_eq_some_iff.1 ho).1;have hn0 : n = os.length := Nat.le_antisymm (Nat.sub_eq_zero_iff_le.1 (Nat.lt_one_iff.1 h0)) hn;subst hn0;simp at ho;subst ho;exact ⟨.slice none 0 0, [], hobl, World.ownsRow_nil _ _ _ _, fun g hg => by cases hg⟩
  ·rw [bX];by_cases hn : n = os.length
   ·subst hn;exact ⟨.row e sz 0, by simp⟩
   ·rw [hob n hn] at hg;obtain ⟨o, ho⟩ := hW.dom n g hg;rw [bX] at ho;have hnl := (List.getElem?_eq_some_iff.1 ho).1;rw [List.getElem?_append_left (by simpa using hnl)];exact ⟨_, List.getElem?_eq_getElem (by simpa using hnl)⟩
 refine (hc.run G1 w vals hW1 (aB.mono hle _ _ hA)).mono ?_;rintro x w' ⟨v, r, os', G', h1, h2, h3, h4, h5, h6, h7, h8, h9⟩;refine ⟨v, r, os', G', h1, h2, h3, h4, hle.trans h5, ⟨h6.os, h6.tape, h6.output, h6.size, fun b hb hT => h6.block b hb fun ⟨n, hn⟩ => hT ⟨n, hat _ _ hn⟩, fun b o hb hT => by rw [h6.knew b o hb fun ⟨n, hn⟩ => hT ⟨n, hat _ _ hn⟩, hK]⟩, fun n b hb => ?_, h8, h9⟩;rcases h7 n b hb with ⟨m, hm⟩ | h7
 ·exact .inl ⟨m, hat _ _ hm⟩
 ·exact .inr h7
end Go.Abs
end
section
namespace Go.Abs
open Go Go.Proofs Dig
attribute [local irreducible] aH aE aO firstIdx
def Sp.enc (s : Sp) : List AV := [vs s.name, .val (.bool s.ran), uv s.con]
theorem eO (l : List Sp) : sps l = l.map Sp.enc := by simp [sps, List.map_map, Function.comp_def]; intros; rfl
theorem ey (l : List Sp) (s : Sp) : sps (l ++ [s]) = sps l ++ [s.enc] := by simp [eO]
def CG (d : Dn) : List AV := d.step.enc ++ vi d.why :: d.trace.enc
theorem Cg (name : B) (con : U) : leL [vs name, .val (.bool false), uv con, .val (.int .i64 0), .val (.int .i64 0), .val (.string ⟨#[]⟩), .val (.int .u64 0), .val (.slice none 0 0), .val (.int .u64 0), .val (.int .u64 0), .val (.string ⟨#[]⟩)] (CG ⟨⟨name, false, con⟩, 0, cG⟩) :=
 leL.cons (.refl _) (leL.cons (.refl _) (leL.cons (.refl _) (leL.cons (.refl _) pk)))
theorem pc (n : Nd) (hn : n.deps.length < 10000) (S : List Rc) (hS : S.length < 1000000) (hSd : ∀ r ∈ S, r.deps.length < 1000000) (steps given : List Sp) (hst : steps.length < 1000000) (hg : given.length < 1000000) (w : U) {R}
  (h : ∀ d, d = bQ n S steps given w → R (.agg (CG d)) []) :
  ag Tryz.prog 92 [.agg n.enc, .sl none 7 (bf S), .sl none 3 (sps steps), .sl none 3 (sps given), uv w] [] R := by
 refine ag.res ?_;refine ab (an := Uk) tab_ok Tryz.func92 ?_;have hsl := aD n.deps;conv=>whnf
 refine ae (fun g => ?_) (fun g => ?_)
 ·conv=>whnf
  refine y6 given hg n.name fun c hc => ?_;conv=>whnf
  exact cf (iL (Cg n.name c)) rfl (h _ (by rw [bQ, if_pos g, hc]))
 conv=>whnf
 refine au.ind2 (fun (i : Nat) (out : List U) => [(11, .sl (some (ak 11)) 1 (du out)), (34, vi i)]) (fun i out => [(ak 10, .cells 110 [.val (.string ⟨#[]⟩), .val (.bool false), .val (.int .u64 0), .val (.int .i64 0), .val (.int .i64 0), .val (.string ⟨#[]⟩), .val (.int .u64 0), .val (.slice none 0 0), .val (.int .u64 0), .val (.int .u64 0), .val (.string ⟨#[]⟩)]), (ak 11, .row 33 1 out.length)]) (fun i _ => n.deps.length - i) (fun i out => i ≤ n.deps.length ∧ out = (n.deps.take i).map (dN steps)) 0 [] rfl ⟨by omega, by simp⟩ ?_;rintro i out ⟨h0, ho⟩ IH;have hnl := jw out;have hol : out.length = i := by rw [ho]; simp; omega
 conv=>whnf
 refine ae (fun hc => ?_) (fun hc => ?_)
 ·have hc := ap hsl hc
  (conv=>whnf); (repeat ((with_reducible refine ac ?_ ?_); exact decide_eq_true (by omega); (conv=>whnf)))
  refine idxNat (by simpa using hc) ?_;conv=>whnf
  refine y6 steps hst n.deps[i] fun c hcc => ?_;conv=>whnf
  refine ⟨hnl.symm, (by rw [hnl]; show (out.length + 1) * (8 + 1) ≤ _; omega), ?_⟩;conv=>whnf
  have e1 : du out ++ [[AV.val (Value.int IntKind.u64 (c.toNat : Int))]] = du (out ++ [c]) := by simp [du, uv]
  have e2 : (du out).length + [[AV.val (Value.int IntKind.u64 (c.toNat : Int))]].length = (out ++ [c]).length := by simp [hnl]
  rw [e1, e2, al (by omega)];exact IH (i + 1) (out ++ [c]) ⟨by omega, by rw [ho, hcc, List.take_succ_eq_append_getElem hc, List.map_append]; rfl⟩ (by omega)
 ·have hc := aw hsl hc;have ho : out = kL steps n := by rw [ho, List.take_of_length_le hc]; rfl
  clear hc IH;conv=>whnf
  refine A8 out (by omega) fun hs hhs => ?_;conv=>whnf
  refine IT n S hS hSd hs fun y hy => ?_;rw [hhs] at hy;have hy2 : y = kX n S ((kL steps n).map dig) := by rw [hy, ho]
  conv=>whnf
  refine ae (fun g2 => ?_) (fun g2 => ?_)
  ·have g2 : y = 0 := by simpa using g2
   rw [g2] at hy2;conv=>whnf
   refine rm S hS hSd n.name ?_;generalize hr : cz S n.name = r;generalize (cJ S n.name).isSome = f;conv=>whnf
   refine FT r.out fun c hcc => ?_;conv=>whnf
   exact cf (iL (Cg n.name c)) rfl (h _ (by rw [bQ, if_neg (by simp [g]), if_pos hy2.symm, hr, hcc]))
  ·have g2 : y ≠ 0 := by simpa using g2
   conv=>whnf
   refine Tb n out (by omega) fun c hcc => ?_;conv=>whnf
   refine Dk n (by omega) hs c w fun r e hr _ => ?_;conv=>whnf
   refine bB (h ⟨⟨n.name, true, c⟩, y, r⟩ ?_);rw [bQ, if_neg (by simp [g]), if_neg (by rw [← hy2]; exact g2), ← hy2, hcc, hr, hhs, ho];rw [hcc, ho]
end Go.Abs
end
section
namespace Go.Abs
open Go Go.Proofs
def vrn (n : Nat) : B := if h : n < 128 then [UInt8.ofNat n] else UInt8.ofNat (n % 128 + 128) :: vrn (n / 128)
termination_by n
decreasing_by omega
theorem eu {n : Nat} (h : n < 128) : vrn n = [UInt8.ofNat n] := by rw [vrn, dif_pos h]
theorem uK {n : Nat} (h : ¬ n < 128) : vrn n = UInt8.ofNat (n % 128 + 128) :: vrn (n / 128) := by
 conv => lhs; rw [vrn]
 rw [dif_neg h]
theorem jD (n : Nat) : 1 ≤ (vrn n).length := by
 by_cases h : n < 128
 ·rw [eu h]; simp
 ·rw [uK h]; simp
theorem Ly : ∀ (k n : Nat), n < 128 ^ (k + 1) → (vrn n).length ≤ k + 1 := by
 intro k
 induction k with
 | zero => intro n h; rw [eu (by simpa using h)]; simp
 | succ k ih =>
  intro n h;by_cases h1 : n < 128
  ·rw [eu h1]; simp
  ·rw [uK h1];have := ih (n / 128) (by rw [Nat.pow_succ] at h; omega);simp only [List.length_cons];omega
theorem cv {n : Nat} (h : n < 18446744073709551616) : (vrn n).length ≤ 10 := Ly 9 n (by omega)
theorem sQ {n : Nat} (h : n < 256) : (UInt8.ofNat n).toNat = n := by rw [UInt8.toNat_ofNat']; omega
theorem zp : ∀ (n i : Nat) (h : i < (vrn n).length), ((vrn n)[i]).toNat = n / 128 ^ i % 128 + (if i + 1 < (vrn n).length then 128 else 0) ∧ (i + 1 = (vrn n).length → n / 128 ^ i < 128 ∧ (0 < i → 0 < n / 128 ^ i)) ∧ (i + 1 < (vrn n).length → 128 ≤ n / 128 ^ i) := by
 intro n
 induction n using Nat.strongRecOn with
 | ind n ih =>
  intro i h;by_cases h1 : n < 128
  ·have hl : (vrn n).length = 1 := by rw [eu h1]; rfl
   have hi : i = 0 := by omega
   subst hi;have e : (vrn n)[0] = UInt8.ofNat n := by
    have := List.getElem_of_eq (eu h1) h;simpa using this
   rw [e, sQ (by omega), hl];simp;omega
  ·have hb := uK h1;have hl : (vrn n).length = (vrn (n / 128)).length + 1 := by rw [hb]; rfl
   have hp := jD (n / 128)
   cases i with
   | zero =>
    have e : (vrn n)[0] = UInt8.ofNat (n % 128 + 128) := by
     have := List.getElem_of_eq hb h;simpa using this
    rw [e, sQ (by omega), hl, if_pos (by omega)];refine ⟨by simp, fun h3 => by omega, fun _ => ?_⟩;rw [Nat.pow_zero, Nat.div_one];omega
   | succ i =>
    have h2 : i < (vrn (n / 128)).length := by omega
    have e : (vrn n)[i + 1] = (vrn (n / 128))[i] := by
     have := List.getElem_of_eq hb h;simpa using this
    have hd : n / 128 ^ (i + 1) = n / 128 / 128 ^ i := by rw [Nat.pow_succ, Nat.mul_comm, Nat.div_div_eq_div_mul]
    obtain ⟨i1, i2, i3⟩ := ih (n / 128) (by omega) i h2;rw [e, hd, i1, hl];refine ⟨?_, ?_, ?_⟩
    ·congr 1;by_cases h3 : i + 1 < (vrn (n / 128)).length
     ·rw [if_pos h3, if_pos (by omega)]
     ·rw [if_neg h3, if_neg (by omega)]
    ·intro h3;obtain ⟨j1, j2⟩ := i2 (by omega);refine ⟨j1, fun _ => ?_⟩;by_cases h4 : 0 < i
     ·exact j2 h4
     ·have : i = 0 := by omega
      subst this;simp;omega
    ·intro h3;exact i3 (by omega)
end Go.Abs
end
section
namespace Go.Proofs
open Go.RowKit Go.Maps Go.Sort Go.Shelf
theorem Kx.law26 : Keyed Tryz.prog 9 := string_keyed Tryz.underlying9
def Kx.apAssign : Code := (Code.region 2 #[{ dst := some 5, op := Op.assign (Operand.tmp 7), type := 9, pos := "iter.go:51", after := #[], guard := none }] false)
def Kx.apBody : Code := (Code.block 1 (Code.region 3 #[{ dst := some 8, op := Op.load 71 (Operand.tmp 2), type := 71, pos := "iter.go:52", after := #[], guard := none }, { dst := some 9, op := Op.move (Operand.tmp 5), type := 9, pos := "iter.go:52", after := #[], guard := none }, { dst := some 10, op := Op.buildSlice 71 1 #[(0, Operand.tmp 9)], type := 71, pos := "iter.go:52", after := #[{ on := 1, ground := Ground.data }], guard := none }, { dst := some 11, op := Op.call { callee := Callee.builtin Builtin.append, args := #[Operand.tmp 8, Operand.tmp 10], argTypes := #[71, 71] }, type := 71, pos := "iter.go:52", after := #[{ on := 0, ground := Ground.data }, { on := 2, ground := Ground.data }], guard := none }, { dst := none, op := Op.store 71 (Operand.tmp 2) (Operand.tmp 11), type := 0, pos := "iter.go:52", after := #[{ on := 3, ground := Ground.data }, { on := 3, ground := Ground.chain }, { on := 0, ground := Ground.phase }, { on := 1, ground := Ground.phase }, { on := 2, ground := Ground.phase }, { on := 3, ground := Ground.phase }], guard := none }] false))
def Kx.apRec (fn : FuncId) (sv : Value) (Bs D : Nat) (st : LoopState) (pend : Option Code) : Loop :=
 { state := st, pending := pend, fn, tmps := #[.slice none 0 0, sv, .pointer (some ⟨Bs, 0, none⟩), undef, .slice none 0 0, undef, sv, undef, undef, undef, undef, undef, undef], params := #[7], assign := Kx.apAssign, body := Kx.apBody, defers := D }
structure Kx.ApAt (w0 : World) (fn : FuncId) (sv : Value) (Bs l D : Nat) (ss : List (List UInt8)) (W : World) : Prop where
 box : ∃ v, W.heap[Bs]? = some (.cells #[v] 71 (0, 0)) ∧ W.ownsRow w0.heap.size 9 1 v ss.length (ss.map encStr) ∧ (v = .slice none 0 0 ↔ ss = [])
 L : W.heap[l]? = some (.loop (Kx.apRec fn sv Bs D .ready none))
 K : W.heap[D]? = some (.deferred (some []))
 below : Below w0.heap.size w0 W
theorem rX {W W' : World} {row : Option Nat} {base : Nat} {e : TypeId} {size : Nat} {v : Value} {k : Nat} {xs : List Value} (h : W.ownsRow base e size v k xs) (hg : W.grownBy W' row)
  (hrow : ∀ r, row = some r → ∃ o : Obj, W.heap[r]? = some o ∧ o.isWalk = true) : W'.ownsRow base e size v k xs := by
 refine h.kept hg ?_;rcases h.2 with ⟨rfl, _⟩ | ⟨g, cap, cur, rfl, _, hgb, _⟩
 ·exact .inl rfl
 ·refine .inr fun e' => ?_;obtain ⟨o, ho, hw⟩ := hrow g (by simpa [Value.ownBlock] using e'.symm);rw [hgb] at ho; cases ho; cases hw
theorem Kx.ap_abides (w0 : World) (fn : FuncId) (sv : Value) (Bs l D B : Nat) (hB : w0.heap.size ≤ B) : AbidesFrom B (Kx.ApAt w0 fn sv Bs l D) := fun s W W' row h hg hrow => by
 have hrow' : ∀ r, row = some r → ∃ o : Obj, W.heap[r]? = some o ∧ o.isWalk = true := fun r e => (hrow r e).2;obtain ⟨v, hv, hr, hn⟩ := h.box;exact ⟨⟨v, (grownBy_keeps hg hrow' hv rfl).trans hv, rX hr hg hrow', hn⟩, (grownBy_keeps hg hrow' h.L rfl).trans h.L, (grownBy_keeps hg hrow' h.K rfl).trans h.K,
  h.below.grown hg h.below.size (fun k e => Nat.le_trans hB (hrow k e).1)⟩
theorem ez (W : World) (l : Nat) (o : Obj) : W.grownBy (W.putObj l o) (some l) :=
 ⟨rfl, rfl, rfl, by simp, fun k _ hk => World.putObj_heap_other (fun e => hk (by rw [e]))⟩
theorem p4 (W : World) (b : Nat) (v : Value) : W.grownBy (W.setCell ⟨b, 0, none⟩ v) (some b) :=
 ⟨rfl, rfl, rfl, (KeepsWalks.setCell W _ v).size, fun k _ hk => Below.heap_setCell _ _ _ k (fun e => hk (by rw [e]))⟩
theorem gQ {W : World} {base : Nat} {e : TypeId} {size : Nat} {v : Value} {k : Nat} {xs : List Value} (h : W.ownsRow base e size v k xs) {j : Nat} {o : Obj} (hj : W.heap[j]? = some o) (hno : ∀ cur, o ≠ .cells cur e (0, 0)) :
  v.ownBlock = none ∨ v.ownBlock ≠ some j := by
 rcases h.2 with ⟨rfl, _⟩ | ⟨g, cap, cur, rfl, _, hgb, _⟩
 ·exact .inl rfl
 ·refine .inr fun e' => ?_;have : g = j := by simpa [Value.ownBlock] using e'
  subst this; rw [hgb] at hj; cases hj; exact hno cur rfl
theorem cU {W : World} {B : Nat} {v : Value} {t : TypeId} (h : W.heap[B]? = some (.cells #[v] t (0, 0))) : W.cell? ⟨B, 0, none⟩ = some v ∧ W.frozen? ⟨B, 0, none⟩ = false := by
 constructor <;> simp [World.cell?, World.frozen?, h]
theorem iM {W : World} {B : Nat} {v : Value} {t : TypeId} (v' : Value) (h : W.heap[B]? = some (.cells #[v] t (0, 0))) : (W.setCell ⟨B, 0, none⟩ v').heap[B]? = some (.cells #[v'] t (0, 0)) := by
 obtain ⟨hlt, hk⟩ := Array.getElem?_eq_some_iff.1 h;show (W.heap.modify B _)[B]? = _;rw [Array.getElem?_eq_getElem (by rw [Array.size_modify]; exact hlt), Array.getElem_modify_self, hk];rfl
theorem pZ {W : World} {base : Nat} {e : TypeId} {size : Nat} {v : Value} {k : Nat} {xs : List Value} (h : W.ownsRow base e size v k xs) : ∀ (j : Nat) (o : Obj), v.ownBlock = some j → W.heap[j]? = some o → o.isWalk = false := by
 intro j o hj ho;rcases h.2 with ⟨rfl, _⟩ | ⟨g, cap, cur, rfl, _, hgb, _⟩
 ·simp [Value.ownBlock] at hj
 ·have : g = j := by simpa [Value.ownBlock] using hj
  subst this; rw [hgb] at ho; cases ho; rfl
theorem Kx.info26 : (Tryz.prog.info? 9).map (fun i => (i.zero, i.size, i.bytes)) = some (some (.string ⟨#[]⟩), 1, 16) := by kernel_rfl
set_option maxRecDepth 100000 in
set_option maxHeartbeats 2000000 in
theorem Kx.apYield (F : Fence) (m : Nat) (w0 : World) (fn : FuncId) (hfn : F.fn fn) (sv : Value) (Bs l D : Nat) (hBl : Bs ≠ l) (hDl : D ≠ l) (hDB : D ≠ Bs) (h0B : w0.heap.size ≤ Bs) (h0l : w0.heap.size ≤ l)
  (N : Nat) (hN : N ≤ maxLen) (hNb : N * 16 ≤ 140737488355328) (ss : List (List UInt8)) (x : List UInt8) (W : World) (h : Kx.ApAt w0 fn sv Bs l D ss W) (hlen : ss.length < N) :
  YieldAt F m Tryz.prog l #[encStr x] W fun e W' => e = .returned (.bool true) ∧ Kx.ApAt w0 fn sv Bs l D (ss ++ [x]) W' ∧ KeepsWalks W W' := by
 obtain ⟨i0, hi, hz0, hz1, hz2⟩ := info_parts Kx.info26;obtain ⟨v, hv, hrow, _⟩ := h.box;refine ⟨fn, #[.slice none 0 0, sv, .pointer (some ⟨Bs, 0, none⟩), undef, .slice none 0 0, undef, sv, encStr x, undef, undef, undef, undef, undef], Kx.apAssign, Kx.apBody, by simpa [Kx.apRec] using run_yield (P := Tryz.prog) (args := #[encStr x]) h.L rfl, roundIn_of_wpIn hfn ?_⟩;have hl : l < W.heap.size := (Array.getElem?_eq_some_iff.1 h.L).1;have hbr := run_beginRound (P := Tryz.prog) h.L rfl;obtain ⟨W2, hW2⟩ : ∃ W2, W.putObj l (.loop { Kx.apRec fn sv Bs D .ready none with state := .busy }) = W2 := ⟨_, rfl⟩;rw [hW2] at hbr;have hg2 : W.grownBy W2 (some l) := by rw [← hW2]; exact ez _ _ _
 have hk2 : KeepsWalks W W2 := by rw [← hW2]; exact KeepsWalks.putObj _ h.L rfl
 have hv2 : W2.heap[Bs]? = some (.cells #[v] 71 (0, 0)) := by rw [← hW2]; exact (World.putObj_heap_other hBl).trans hv
 have hK2 : W2.heap[D]? = some (.deferred (some [])) := by rw [← hW2]; exact (World.putObj_heap_other hDl).trans h.K
 have hL2 : W2.heap[l]? = some (.loop { Kx.apRec fn sv Bs D .ready none with state := .busy }) := by rw [← hW2]; exact World.putObj_heap_same hl
 have hrow2 : W2.ownsRow w0.heap.size 9 1 v ss.length (ss.map encStr) := hrow.kept hg2 (gQ hrow h.L (fun cur e => by cases e));have hb2 : Below w0.heap.size w0 W2 := h.below.grown hg2 h.below.size (fun k e => by cases e; exact h0l);obtain ⟨hc2, hf2⟩ := cU hv2;have hBlt : Bs < W2.heap.size := (Array.getElem?_eq_some_iff.1 hv2).1;have hl2 : l < W2.heap.size := (Array.getElem?_eq_some_iff.1 hL2).1;have hDlt : D < W2.heap.size := (Array.getElem?_eq_some_iff.1 hK2).1;have ne_of : ∀ {j : Nat} {o : Obj}, W2.heap[j]? = some o → (∀ cur, o ≠ .cells cur 9 (0, 0)) → some j ≠ v.ownBlock := fun hj hno => by
  rcases gQ hrow2 hj hno with e | e
  ·rw [e]; simp
  ·exact fun e' => e e'.symm
 clear hW2;unfold Kx.apAssign
 gi_wp2_with (rw [Oper.semAt_eq _ _ _ (fun c h => by cases h)]; go_simp; try go_bits)
 unfold Kx.apBody
 gi_wp2_with (first
  | (
    gi_at_builtin; refine wpListIn_append_own _ rfl _ _ 71 rfl w0.heap.size 9 i0 (.string ⟨#[]⟩) 1 16 Tryz.underlying71 hi hz0 hz1 hz2 rfl (by decide) _ _ _ rfl (hrow2.alloc _) ⟨W2.heap.size, 0, none⟩ 1 1 [encStr x] rfl rfl (cell_one_new _ _ _) (by simp [Value.oneCell', encStr]) (by omega) (by omega) (by have := hb2.size; simp; omega) ?_; intro v' w3 hown' hg3 hnil3
    have hv3 : w3.heap[Bs]? = some (.cells #[v] 71 (0, 0)) := (hg3.block Bs (by simp; omega) (ne_of hv2 (fun cur e => by cases e))).trans ((Below.heap_alloc _ _ Bs hBlt).trans hv2);obtain ⟨hc3, hf3⟩ := cU hv3;obtain ⟨g', cap', cur', rfl, hbase', hgb', hr1, hr2, hr3, hr4⟩ : ∃ g' cap' cur', v' = .slice (some ⟨g', 0, none⟩) (ss.length + 1) cap' ∧ w0.heap.size ≤ g' ∧ w3.heap[g']? = some (.cells cur' 9 (0, 0)) ∧ ss.length + 1 ≤ cap' ∧ cap' ≤ maxLen ∧ cur'.size = cap' * 1 ∧ cur'.toList.take ((ss.length + 1) * 1) = ss.map encStr ++ [encStr x] := by
     rcases hown'.2 with ⟨_, h0⟩ | h'
     ·exact absurd h0 (by omega)
     ·exact h'
    go_frame)
  | (rw [Oper.semAt_eq _ _ _ (fun c h => by cases h)]; go_simp; try go_bits))
 have hg3' : (W2.alloc (.cells #[encStr x] 9)).grownBy w3 v.ownBlock := hg3;have hL3 : w3.heap[l]? = some (.loop { Kx.apRec fn sv Bs D .ready none with state := .busy }) := (hg3'.block l (by simp; omega) (ne_of hL2 (fun cur e => by cases e))).trans ((Below.heap_alloc _ _ l hl2).trans hL2);have hK3 : w3.heap[D]? = some (.deferred (some [])) := (hg3'.block D (by simp; omega) (ne_of hK2 (fun cur e => by cases e))).trans ((Below.heap_alloc _ _ D hDlt).trans hK2);obtain ⟨w4, hw4⟩ : ∃ w4, w3.setCell ⟨Bs, 0, none⟩ (.slice (some ⟨g', 0, none⟩) (ss.length + 1) cap') = w4 := ⟨_, rfl⟩;rw [hw4];have hg4 : w3.grownBy w4 (some Bs) := by rw [← hw4]; exact p4 _ _ _
 have hv4 : w4.heap[Bs]? = some (.cells #[.slice (some ⟨g', 0, none⟩) (ss.length + 1) cap'] 71 (0, 0)) := by rw [← hw4]; exact iM _ hv3
 have hL4 : w4.heap[l]? = some (.loop { Kx.apRec fn sv Bs D .ready none with state := .busy }) := (hg4.block l (Array.getElem?_eq_some_iff.1 hL3).1 (fun e => hBl (by cases e; rfl))).trans hL3;have hK4 : w4.heap[D]? = some (.deferred (some [])) := (hg4.block D (Array.getElem?_eq_some_iff.1 hK3).1 (fun e => hDB (by cases e; rfl))).trans hK3;have hrow4 := hown'.kept hg4 (gQ hown' hv3 (fun cur e => by cases e));have hl4 : l < w4.heap.size := (Array.getElem?_eq_some_iff.1 hL4).1;have hb3 : Below w0.heap.size w0 w3 := (hb2.alloc hb2.size _).grown hg3' (by have := hb2.size; simp; omega) (fun k e => (hrow2.lt k e).1);have hb4 : Below w0.heap.size w0 w4 := hb3.grown hg4 hb3.size (fun k e => by cases e; exact h0B);have hk4 : KeepsWalks W w4 := ((hk2.trans (KeepsWalks.alloc _ _)).trans (KeepsWalks.of_grownBy hg3' (pZ (hrow2.alloc _)))).trans (by rw [← hw4]; exact KeepsWalks.setCell _ _ _);clear hw4;refine ⟨_, _, run_endRound none hL4, rfl, ⟨⟨_, (World.putObj_heap_other hBl).trans hv4, ?_, by simp⟩, World.putObj_heap_same hl4, (World.putObj_heap_other hDl).trans hK4, hb4.grown (ez _ _ _) hb4.size (fun k e => by cases e; exact h0l)⟩, hk4.trans (KeepsWalks.putObj _ hL4 rfl)⟩;have := hrow4.kept (ez w4 l (.loop { { Kx.apRec fn sv Bs D .ready none with state := .busy } with state := if (none : Option Code).isNone then .ready else .done, pending := none })) (gQ hrow4 hL4 (fun cur e => by cases e));simpa using this
set_option maxRecDepth 100000 in
set_option maxHeartbeats 2000000 in
theorem Kx.appendSeq_in (F : Fence) (n : Nat) (h11 : F.fn 151) (hro : F.round = none) (hn : 2 ≤ n) (g : Nat) (lb : Array Value) (hFg : F.fn g) (eg : ∀ args w, (callFunc g args).run Tryz.prog w = .ok (.enter g args) w)
  (S : List (List UInt8) → Prop) (N : Nat) (hN : N ≤ maxLen) (hNb : N * 16 ≤ 140737488355328) (w : World) (hseq : SeqGives F (n - 1) Tryz.prog g lb encStr S N w) :
  CallsIn F n Tryz.prog 151 #[.slice none 0 0, .func (.func g) #[] lb] w fun e w' => ∃ (v : Value) (ss : List (List UInt8)), e = .returned v ∧ S ss ∧ w'.ownsRow w.heap.size 9 1 v ss.length (ss.map encStr) ∧ (v = .slice none 0 0 ↔ ss = []) ∧ Below w.heap.size w w' := by
 have h1 : 1 ≤ n := by omega
 refine callsIn_of_wp_marks Tryz.func151 rfl h11 ?_ hro;simp only [Tryz.ntmps151, List.size_toArray, List.length_cons, List.length_nil, Nat.reduceAdd, Nat.reduceSub, Array.replicate_succ, Array.replicate_zero, List.push_toArray, List.append_toArray, List.nil_append, List.cons_append]
 gi_wp2
 refine wpIn_rangeFunc ?_;intro fn hfn;rw [hro];obtain ⟨W0, hW0⟩ : ∃ W0, w.alloc (.cells #[.slice none 0 0] 71) = W0 := ⟨_, rfl⟩;have hs0 : W0.heap.size = w.heap.size + 1 := by rw [← hW0]; simp
 have hv0 : W0.heap[w.heap.size]? = some (.cells #[.slice none 0 0] 71 (0, 0)) := by rw [← hW0]; exact World.alloc_heap_new w _
 have hb0 : Below w.heap.size w W0 := by rw [← hW0]; exact (Below.refl _ w).alloc (Nat.le_refl _) _
 rw [hW0];obtain ⟨W1, hW1⟩ : ∃ W1, (W0.alloc (.deferred (some []))).alloc (.loop (Kx.apRec fn (.func (.func g) #[] lb) w.heap.size W0.heap.size .ready none)) = W1 := ⟨_, rfl⟩;have hold : ∀ k, k < W0.heap.size → W1.heap[k]? = W0.heap[k]? := fun k hk => by
  rw [← hW1]; exact (Below.heap_alloc _ _ k (by simp; omega)).trans (Below.heap_alloc _ _ k hk)
 have hb1 : Below w.heap.size w W1 := by rw [← hW1]; exact (hb0.alloc hb0.size _).alloc (by have := hb0.size; simp; omega) _
 have hs1 : W1.heap.size = W0.heap.size + 2 := by rw [← hW1]; simp
 have hM : Kx.ApAt w fn (.func (.func g) #[] lb) w.heap.size (W0.heap.size + 1) W0.heap.size [] W1 :=
  ⟨⟨_, (hold w.heap.size (by omega)).trans hv0, ⟨rfl, .inl ⟨rfl, rfl⟩⟩, by simp⟩,
   by rw [← hW1]; have := World.alloc_heap_new (W0.alloc (.deferred (some []))) (.loop (Kx.apRec fn (.func (.func g) #[] lb) w.heap.size W0.heap.size .ready none)); rwa [World.size_alloc] at this,
   by rw [← hW1]; exact (Below.heap_alloc _ _ _ (by simp)).trans (World.alloc_heap_new W0 _), hb1⟩
 refine ⟨W0.heap.size + 1, [{ target := .collected W0.heap.size, args := #[] }], W1, { target := .fn (.func g) lb, args := #[.func (.yield (W0.heap.size + 1)) #[] #[]] }, W1, g,
  #[.func (.yield (W0.heap.size + 1)) #[] #[]] ++ lb, W1, ?_, ?_, ?_, ?_, fun _ => h1, ?_⟩
 ·rw [← hW1]; exact run_enterLoop_outer _ _ _ _ _
 ·simp [resolve, go_sem]
 ·intro f' hf'; simp [Target.leads] at hf'; subst hf'; exact hFg
 ·simp [invoke, go_sem, eg]
 ·refine (hseq (W0.heap.size + 1) (Kx.ApAt w fn (.func (.func g) #[] lb) w.heap.size (W0.heap.size + 1) W0.heap.size) W1 hb1 (Kx.ap_abides _ _ _ _ _ _ _ hb1.size)
   (fun pre x W hJ hl => Kx.apYield F (n - 1 - 1) w fn hfn _ w.heap.size (W0.heap.size + 1) W0.heap.size (by omega) (by omega) (by omega) (Nat.le_refl _) (by omega) N hN hNb pre x W hJ hl) hM).mono ?_
  rintro e W2 ⟨⟨v0, rfl⟩, ss, hS, h2⟩;obtain ⟨v, hv, hrow, hnil⟩ := h2.box;have hend := run_endLoop (P := Tryz.prog) h2.L (by simp [Kx.apRec]);obtain ⟨W3, hW3⟩ : ∃ W3, W2.putObj (W0.heap.size + 1) (.loop { Kx.apRec fn (.func (.func g) #[] lb) w.heap.size W0.heap.size .ready none with state := .exhausted }) = W3 := ⟨_, rfl⟩;rw [hW3] at hend;have hg3 : W2.grownBy W3 (some (W0.heap.size + 1)) := by rw [← hW3]; exact ez _ _ _
  have hv3 : W3.heap[w.heap.size]? = some (.cells #[v] 71 (0, 0)) := by rw [← hW3]; exact (World.putObj_heap_other (by omega)).trans hv
  have hK3 : W3.heap[W0.heap.size]? = some (.deferred (some [])) := by rw [← hW3]; exact (World.putObj_heap_other (by omega)).trans h2.K
  have hrow3 := hrow.kept hg3 (gQ hrow h2.L (fun cur e => by cases e));have hb3 : Below w.heap.size w W3 := h2.below.grown hg3 h2.below.size (fun k e => by cases e; omega);obtain ⟨hc3, hf3⟩ := cU hv3;clear hW3;refine ⟨none, W3, hend, ?_⟩
  gi_wp2
  rw [← hs0];refine ⟨by simp, .inl ⟨_, _, rfl, run_takeDeferred hK3, ?_⟩⟩;exact ⟨_, results_tmp rfl _ _ _, v, ss, rfl, hS, hrow3.kept (ez _ _ _) (gQ hrow3 hK3 (fun cur e => by cases e)), hnil, hb3.grown (ez _ _ _) hb3.size (fun k e => by cases e; omega)⟩
set_option maxHeartbeats 1000000 in
theorem Kx.collect_in (F : Fence) (n : Nat) (h8 : F.fn 111) (h11 : F.fn 151) (hro : F.round = none) (hn : 3 ≤ n) (g : Nat) (lb : Array Value) (hFg : F.fn g) (eg : ∀ args w, (callFunc g args).run Tryz.prog w = .ok (.enter g args) w)
  (S : List (List UInt8) → Prop) (N : Nat) (hN : N ≤ maxLen) (hNb : N * 16 ≤ 140737488355328) (w : World) (hseq : SeqGives F (n - 1 - 1) Tryz.prog g lb encStr S N w) :
  CallsIn F n Tryz.prog 111 #[.func (.func g) #[] lb] w fun e w' => ∃ (v : Value) (ss : List (List UInt8)), e = .returned v ∧ S ss ∧ w'.ownsRow w.heap.size 9 1 v ss.length (ss.map encStr) ∧ (v = .slice none 0 0 ↔ ss = []) ∧ Below w.heap.size w w' := by
 have h1 : 1 ≤ n := by omega
 refine callsIn_of_wp Tryz.func111 rfl h8 ?_ hro;simp only [Tryz.ntmps111, List.size_toArray, List.length_cons, List.length_nil, Nat.reduceAdd, Nat.reduceSub, Array.replicate_succ, Array.replicate_zero, List.push_toArray, List.append_toArray, List.nil_append, List.cons_append]
 gi_wp2_with (gi_at_call 151; refine (Kx.appendSeq_in F (n - 1) h11 hro (by omega) g lb hFg eg S N hN hNb _ hseq).mono ?_; rintro e w' ⟨v, ss, rfl, hS, hrow, hnil, hb⟩)
 go_ret
 exact ⟨v, ss, rfl, hS, hrow, hnil, hb⟩
def Kx.SortsIn (F : Fence) (m : Nat) : Prop :=
 (∀ (blk off cap : Nat) (ss : List (List UInt8)) (W : World), Holds encStr W blk off ss.toArray → blk < W.heap.size → ss.length < 4611686018427387904 →
  CallsIn F m Tryz.prog 112 #[.slice (some ⟨blk, off, none⟩) ss.length cap] W fun e w' => e = .returned (.tuple #[]) ∧ ∃ k os, w' = grow (putRow encStr (Sort.ahead W k) blk off (ss.mergeSort fun x y => decide (x ≤ y)).toArray) os) ∧
 (∀ (p : Option Addr) (cap : Nat) (W : World), CallsIn F m Tryz.prog 112 #[.slice p 0 cap] W fun e w' => e = .returned (.tuple #[]) ∧ w' = W)
set_option maxRecDepth 100000 in
set_option maxHeartbeats 2000000 in
theorem Kx.sorted_in (F : Fence) (n : Nat) (h6 : F.fn 75) (h8 : F.fn 111) (h9 : F.fn 112) (h11 : F.fn 151) (hro : F.round = none) (hn : 4 ≤ n) (hsort : Kx.SortsIn F (n - 1)) (g : Nat) (lb : Array Value) (hFg : F.fn g) (eg : ∀ args w, (callFunc g args).run Tryz.prog w = .ok (.enter g args) w)
  (S : List (List UInt8) → Prop) (N : Nat) (hN : N ≤ maxLen) (hNb : N * 16 ≤ 140737488355328) (w : World) (hseq : SeqGives F (n - 1 - 1 - 1) Tryz.prog g lb encStr S N w) :
  CallsIn F n Tryz.prog 75 #[.func (.func g) #[] lb] w fun e w' => ∃ (v : Value) (ss : List (List UInt8)), e = .returned v ∧ S ss ∧
   w'.ownsRow w.heap.size 9 1 v ss.length ((ss.mergeSort (fun x y => decide (x ≤ y))).map encStr) ∧ (v = .slice none 0 0 ↔ ss = []) ∧ Below w.heap.size w w' := by
 have h1 : 1 ≤ n := by omega
 refine callsIn_of_wp Tryz.func75 rfl h6 ?_ hro;simp only [Tryz.ntmps75, List.size_toArray, List.length_cons, List.length_nil, Nat.reduceAdd, Nat.reduceSub, Array.replicate_succ, Array.replicate_zero, List.push_toArray, List.append_toArray, List.nil_append, List.cons_append]
 gi_wp2_with (gi_at_call 111; refine (Kx.collect_in F (n - 1) h8 h11 hro (by omega) g lb hFg eg _ N hN hNb _ hseq.bounded).mono ?_; rintro e W ⟨v, ss, rfl, ⟨hS, hlen⟩, hrow, hnil, hb⟩)
 rcases hrow.2 with ⟨rfl, hz⟩ | ⟨gb, cap, cur, rfl, hbase, hgb, r1, r2, r3, r4⟩
 ·-- nothing came: the nil slice is sorted and handed back
  have hss : ss = [] := List.eq_nil_of_length_eq_zero hz;subst hss
  gi_wp2_with (gi_at_call 112; refine (hsort.2 none 0 W).mono ?_; rintro e w' ⟨rfl, rfl⟩)
  go_ret
  exact ⟨.slice none 0 0, [], rfl, hS, by simpa using hrow, by simp, hb⟩
 ·have hH : Holds encStr W gb 0 ss.toArray := holds_of_block hgb (by simpa using r4);have hgl : gb < W.heap.size := (Array.getElem?_eq_some_iff.1 hgb).1;have hsz : ss.length < 4611686018427387904 := by omega
  have cS := hsort.1 gb 0 cap ss W hH hgl hsz
  gi_wp2_with (gi_at_call 112; refine cS.mono ?_; rintro e w' ⟨rfl, nn, os, rfl⟩)
  go_ret
  exact ⟨_, ss, rfl, hS, ownsRow_sorted (by simp) hbase hgb r1 r2 r3, hnil, hb.grown (grownBy_sorted _) hb.size (fun j hj => by cases hj; exact hbase)⟩
end Go.Proofs
end
section
namespace Go.Abs
open Go Go.Proofs Go.RowKit
attribute [local go_sem] Oper.semAt_some
def mZ (n : Nat) : List (List AV) := (vrn n).map fun c => [.val (.int .u8 (c.toNat : Int))]
theorem ya {K : Nat → Nat → Option Value} {W : World} {b : Nat} {v v' : Value} {t : TypeId} {Own : Nat → Prop} (hO : ∀ c, Own c ↔ c = b) (hb : W.heap[b]? = some (.cells #[v] t (0, 0))) (hKb : ∀ o, K b o = none)
  (hk : ∀ c o u, K c o = some u → W.cell? ⟨c, o, none⟩ = some u) : xe Own K W Own K (W.setCell ⟨b, 0, none⟩ v') := by
 have hlt : b < W.heap.size := (Array.getElem?_eq_some_iff.1 hb).1;have hsz : (W.setCell ⟨b, 0, none⟩ v').heap.size = W.heap.size := by simp [World.setCell]
 have hot : ∀ c, c ≠ b → (W.setCell ⟨b, 0, none⟩ v').heap[c]? = W.heap[c]? := fun c hc => Below.heap_setCell _ _ _ _ hc;refine ⟨rfl, rfl, rfl, by rw [hsz]; exact Nat.le_refl _, fun c _ hc => hot c (fun e => hc ((hO c).2 e)), fun c hc => .inl hc, fun _ _ _ h => h, fun _ _ _ _ => rfl, fun c o u hu => ?_, fun c hc => ?_⟩
 ·by_cases e : c = b
  ·subst e; rw [hKb] at hu; cases hu
  ·rw [cell_of_heap (hot c e)]; exact hk c o u hu
 ·rw [(hO c).1 hc, hsz]; exact hlt
theorem L7 : (List.range 256).all (fun n => decide (bits BinOp.or IntKind.u8 (n : Int) 128 = ((n % 128 + 128 : Nat) : Int))) = true := by decide +kernel
theorem Qw {m : Nat} : bits BinOp.or IntKind.u8 ((m : Int) % 256) 128 = ((m % 128 + 128 : Nat) : Int) := by
 have h := of_decide_eq_true (List.all_eq_true.1 L7 (m % 256) (List.mem_range.2 (Nat.mod_lt _ (by omega))));rw [show ((m : Int) % 256) = ((m % 256 : Nat) : Int) by omega, h];congr 1;omega
set_option maxHeartbeats 4000000 in
theorem mz (n : Nat) (hn : n < 18446744073709551616) : GR Tryz.prog 274 [.ptr 0 0] [.cells 33 [.val (.int .u64 (n : Int))]] (mZ n) := by
 refine ⟨fun args w => iB (by kernel_rfl), fun G w lb hW hr l n' J Jx hY hS hK h0 => ?_⟩;simp only [aB, Rep] at hr;obtain ⟨_, _, rfl, ⟨b, hb, rfl⟩, rfl⟩ := hr;obtain ⟨b', vs, e1, e2, e3, e4⟩ := hW.obj 0 _ rfl;rw [hb] at e1; cases e1;simp only [aB, Rep] at e3;obtain ⟨_, _, rfl, rfl, rfl⟩ := e3;have hO : ∀ c, (∃ k, G.at k c) ↔ c = b := fun c => by
  constructor
  ·rintro ⟨k, hk⟩;have h1 : ∃ o, az (bE 0 [aF.cells 33 [.val (.int .u64 (n : Int))]]) k = some o := by
    rcases hk with h4 | ⟨u, t, h4, _⟩ <;> exact hW.dom k _ h4
   obtain ⟨o, ho⟩ := h1;rw [bX] at ho;have : k = 0 := by
    cases k with
    | zero => rfl
    | succ k => simp at ho
   subst this;rcases hk with h4 | ⟨u, t, h4, _⟩
   ·rw [hb] at h4; cases h4; rfl
   ·rw [hb] at h4; cases h4
  ·rintro rfl; exact ⟨0, .inl hb⟩
 obtain ⟨Own, hOwn⟩ : ∃ Own : Nat → Prop, Own = fun c => ∃ k, G.at k c := ⟨_, rfl⟩;rw [← hOwn] at h0;have hO : ∀ c, Own c ↔ c = b := by rw [hOwn]; exact hO
 clear hOwn;have hlen : (mZ n).length = (vrn n).length := by simp [mZ]
 have hat := zp n;have hpos := jD n;rw [show FW none = Fence.wide from rfl] at hY ⊢;refine callsIn_of_wp Tryz.func274 rfl trivial ?_ rfl;simp only [Tryz.ntmps274, List.size_toArray, List.length_cons, List.length_nil, Nat.reduceAdd, Nat.reduceSub, Array.replicate_succ, Array.replicate_zero, List.push_toArray, List.append_toArray, List.nil_append, List.cons_append, Nat.add_zero]
 gi_wp2
 gi_loopw [3] (fun _ wr => ∃ (i : Nat) (K : Nat → Nat → Option Value), i < (vrn n).length ∧ J i Own K wr ∧ (∀ o, K b o = none) ∧ wr.heap[b]? = some (.cells #[.int .u64 ((n / 128 ^ i : Nat) : Int)] 33 (0, 0)))
  (fun _ wr => match wr.cell? ⟨b, 0, none⟩ with | some (.int _ x) => x.toNat | _ => 0)
 case atStart => exact ⟨0, G.K, by omega, h0, e4, by simpa using e2⟩
 case round =>
  obtain ⟨i, K, hi, hJi, hKb, hbx⟩ := hrel;obtain ⟨hcell, hfz⟩ := cU hbx;obtain ⟨a1, a2, a3⟩ := hat i hi;have hmn : n / 128 ^ i ≤ n := Nat.div_le_self _ _;generalize hm : n / 128 ^ i = m at *;have hm64 : (m : Int) < 18446744073709551616 := by omega
  have hm0 : (0 : Int) ≤ m := by omega
  by_cases hlt : i + 1 < (vrn n).length
  ·have h128 : ¬ ((m : Int) < 128) := by have := a3 hlt; omega
   have h128' : (m : Int) ≥ 128 := by omega
   clear hat a2 a3 h0 hW hlen hpos;have hx : ((vrn n)[i].toNat : Int) = (m : Int) % 128 + 128 := by rw [a1, if_pos hlt]; omega
   have hxs : (mZ n)[i]? = some [.val (.int .u8 ((m : Int) % 128 + 128))] := by
    unfold mZ;rw [List.getElem?_map, List.getElem?_eq_getElem hi, ← hx];rfl
   have hval : bits BinOp.or IntKind.u8 ((m : Int) % 256) 128 = (m : Int) % 128 + 128 := by
    rw [Qw]; omega
   obtain ⟨fn, tmps, assign, body, hy, hR⟩ := hY (n' - 1) i _ #[.int .u8 ((m : Int) % 128 + 128)] Own K wr hxs (by simp only [aB, Rep]; exact ⟨_, _, rfl, rfl, rfl⟩) hJi;clear hY a1 hx hxs
   gi_wp2
   refine ⟨fun h => by simp [Fence.wide] at h, hR.mono ?_⟩;rintro e W3 (⟨rfl, K', hJ3, hKK, hO3, hos3, htape3, hout3, hsz3⟩ | ⟨rfl, hJx3⟩)
   ·clear hR hy;have hbx3 := (hO3 b ((hO b).2 rfl)).1.trans hbx;obtain ⟨hcell3, hfz3⟩ := cU hbx3;clear hcell hfz;have hKb3 : ∀ o, K' b o = none := fun o => by rw [(hO3 b ((hO b).2 rfl)).2 o]; exact hKb o
    have hst := ya (v' := .int .u64 ((m : Int) / 128)) hO hbx3 hKb3 (hK (i + 1) Own K' W3 hJ3);have hJ4 := hS (i + 1) Own K' W3 Own K' _ hJ3 hst;have hbx4 := iM (.int .u64 ((m : Int) / 128)) hbx3;have hc4 := (cU hbx4).1;have hd : ((n / 128 ^ (i + 1) : Nat) : Int) = (m : Int) / 128 := by
     rw [Nat.pow_succ, ← Nat.div_div_eq_div_mul, hm]; omega
    have hwr := (cU hbx).1;clear hS hK hst hO3
    gi_wp2
    refine ⟨⟨i + 1, K', hlt, hJ4, hKb3, by rw [hd]; exact hbx4⟩, ?_⟩;rw [hc4, hwr];show ((m : Int) / 128).toNat < (m : Int).toNat;omega
   ·clear hR hy
    gi_wp2
    refine bodyPost_ret (results_none rfl _ _ _) rfl ?_;exact ⟨⟨_, rfl⟩, .inr hJx3⟩
  ·have hfin : i + 1 = (vrn n).length := by omega
   have hm128 : m < 128 := (a2 hfin).1;have h128 : (m : Int) < 128 := by omega
   have h128' : ¬ (m : Int) ≥ 128 := by omega
   have hx : ((vrn n)[i].toNat : Int) = (m : Int) := by rw [a1, if_neg hlt]; omega
   have hxs : (mZ n)[i]? = some [.val (.int .u8 (m : Int))] := by
    unfold mZ;rw [List.getElem?_map, List.getElem?_eq_getElem hi, ← hx];rfl
   have hval : (m : Int) % 256 = (m : Int) := by omega
   obtain ⟨fn, tmps, assign, body, hy, hR⟩ := hY (n' - 1) i _ #[.int .u8 (m : Int)] Own K wr hxs (by simp only [aB, Rep]; exact ⟨_, _, rfl, rfl, rfl⟩) hJi;have hend : (mZ n).length = i + 1 := by omega
   clear hY a1 hx hxs hat a2 a3 h0 hW hlen hpos hS hK
   gi_wp2
   refine ⟨fun h => by simp [Fence.wide] at h, hR.mono ?_⟩;rintro e W3 (⟨rfl, K', hJ3, _⟩ | ⟨rfl, hJx3⟩)
   ·clear hR hy
    gi_wp2
    go_end0
    exact ⟨⟨_, rfl⟩, .inl ⟨Own, K', by rw [hend]; exact hJ3⟩⟩
   ·clear hR hy
    gi_wp2
    go_end0
    exact ⟨⟨_, rfl⟩, .inr hJx3⟩
end Go.Abs
end
section
namespace Go.Abs
open Go Go.Proofs Go.Sort Go.Maps
theorem D2 (m : Nat) : Kx.SortsIn Fence.wide m :=
 ⟨fun blk off cap ss W hH hblk hsz => callsIn_wide.2 (Tryz.slices_Sort_string blk off cap ss W hH hblk hsz),
  fun p cap W => callsIn_wide.2 (Tryz.slices_Sort_string_none p cap W)⟩
end Go.Abs
end
section
namespace Go.Abs
open Go Go.Proofs
section assoc
variable {α : Type}
def jC (e : α → AV) (m : List (B × α)) : List (ByteArray × AV) := m.map fun p => (ofB p.1, e p.2)
def lk : List (B × α) → B → Option α
 | [], _ => none
 | (s, v) :: m, k => if s = k then some v else lk m k
def pt : List (B × α) → B → α → List (B × α)
 | [], k, v => [(k, v)]
 | (s, u) :: m, k, v => if s = k then (k, v) :: m else (s, u) :: pt m k v
def dl : List (B × α) → B → List (B × α)
 | [], _ => []
 | (s, u) :: m, k => if s = k then m else (s, u) :: dl m k
def kys (m : List (B × α)) : List B := m.map (·.1)
theorem iI (e : α → AV) (m : List (B × α)) (k : B) : cF (jC e m) (ofB k) = (lk m k).map e := by
 induction m with
 | nil => rfl
 | cons p m ih =>
  obtain ⟨s, v⟩ := p;show (if ofB s = ofB k then some (e v) else cF (jC e m) (ofB k)) = _;rw [ih];by_cases h : s = k
  ·subst h; simp [lk]
  ·have : ofB s ≠ ofB k := fun x => h (b9 x);simp [lk, h, this]
theorem l7 (e : α → AV) (m : List (B × α)) (k : B) (v : α) : d7 (jC e m) (ofB k) (e v) = jC e (pt m k v) := by
 induction m with
 | nil => rfl
 | cons p m ih =>
  obtain ⟨s, u⟩ := p;show (if ofB s = ofB k then (ofB k, e v) :: jC e m else (ofB s, e u) :: d7 (jC e m) (ofB k) (e v)) = _;rw [ih];by_cases h : s = k
  ·subst h; simp [pt, jC]
  ·have : ofB s ≠ ofB k := fun x => h (b9 x);simp [pt, h, this, jC]
theorem Dg (e : α → AV) (m : List (B × α)) (k : B) : jL (jC e m) (ofB k) = jC e (dl m k) := by
 induction m with
 | nil => rfl
 | cons p m ih =>
  obtain ⟨s, u⟩ := p;show (if ofB s = ofB k then jC e m else (ofB s, e u) :: jL (jC e m) (ofB k)) = _;rw [ih];by_cases h : s = k
  ·subst h; simp [dl, jC]
  ·have : ofB s ≠ ofB k := fun x => h (b9 x);simp [dl, h, this, jC]
theorem Aj {m : List (B × α)} {k : B} {v : α} (h : lk m k = some v) : (k, v) ∈ m := by
 induction m with
 | nil => cases h
 | cons p m ih =>
  obtain ⟨s, u⟩ := p;simp only [lk] at h;split at h
  ·rename_i e; subst e; cases h; simp
  ·exact List.mem_cons_of_mem _ (ih h)
theorem fQ {m : List (B × α)} {k : B} : lk m k = none ↔ k ∉ kys m := by
 induction m with
 | nil => simp [lk, kys]
 | cons p m ih =>
  obtain ⟨s, u⟩ := p;by_cases e : s = k
  ·subst e; simp [lk, kys]
  ·have : k ≠ s := fun x => e x.symm;simp only [lk, e, if_false, ih, kys, List.map_cons, List.mem_cons, this, false_or]
theorem wa {m : List (B × α)} {k : B} (h : k ∈ kys m) : ∃ v, lk m k = some v := by
 cases e : lk m k with
 | none => exact absurd h (fQ.1 e)
 | some v => exact ⟨v, rfl⟩
theorem lT {m : List (B × α)} {k : B} {v : α} (h : lk m k = some v) : k ∈ kys m := List.mem_map_of_mem (f := (·.1)) (Aj h)
theorem jN (m : List (B × α)) (k j : B) (v : α) : lk (pt m k v) j = if k = j then some v else lk m j := by
 induction m with
 | nil => simp [pt, lk]
 | cons p m ih =>
  obtain ⟨s, u⟩ := p;by_cases e : s = k
  ·subst e;simp only [pt, if_true, lk];split <;> rfl
  ·simp only [pt, e, if_false, lk, ih];by_cases e2 : s = j
   ·subst e2; simp [Ne.symm e]
   ·simp [e2]
theorem tb {m : List (B × α)} {k : B} {v : α} (h : k ∈ kys m) : kys (pt m k v) = kys m := by
 induction m with
 | nil => simp [kys] at h
 | cons p m ih =>
  obtain ⟨s, u⟩ := p;by_cases e : s = k
  ·subst e; simp [pt, kys]
  ·have h2 : k ∈ kys m := by
    simp only [kys, List.map_cons, List.mem_cons] at h;exact h.resolve_left (Ne.symm e)
   have := ih h2;unfold kys at this ⊢;simp only [pt, e, if_false, List.map_cons, this]
theorem wh {m : List (B × α)} {k : B} {v : α} (h : k ∉ kys m) : pt m k v = m ++ [(k, v)] := by
 induction m with
 | nil => rfl
 | cons p m ih =>
  obtain ⟨s, u⟩ := p;have h1 : s ≠ k := fun e => h (by simp [kys, e]);have h2 : k ∉ kys m := fun e => h (by unfold kys at e ⊢; simp [e]);simp [pt, h1, ih h2]
theorem qL {m : List (B × α)} {k j : B} {v : α} : j ∈ kys (pt m k v) ↔ j = k ∨ j ∈ kys m := by
 by_cases h : k ∈ kys m
 ·rw [tb h];exact ⟨fun x => .inr x, fun x => x.elim (fun e => e ▸ h) id⟩
 ·rw [wh h]; unfold kys; simp [or_comm]
theorem JO {m : List (B × α)} {k : B} {v : α} (hn : (kys m).Nodup) : (kys (pt m k v)).Nodup := by
 by_cases h : k ∈ kys m
 ·rw [tb h]; exact hn
 ·rw [wh h];unfold kys at *;simp only [List.map_append, List.map_cons, List.map_nil];exact List.nodup_append.2 ⟨hn, by simp, fun a ha b hb => by
   simp only [List.mem_cons, List.not_mem_nil, or_false] at hb;subst hb;exact fun e => h (e ▸ ha)⟩
theorem wH {m : List (B × α)} {k : B} : (dl m k).Sublist m := by
 induction m with
 | nil => simp [dl]
 | cons p m ih =>
  obtain ⟨s, u⟩ := p;simp only [dl];split
  ·exact List.sublist_cons_self _ _
  ·exact ih.cons_cons _
theorem JP {m : List (B × α)} {k : B} (hn : (kys m).Nodup) : (kys (dl m k)).Nodup := (wH.map _).nodup hn
theorem wb {m : List (B × α)} {k : B} (hn : (kys m).Nodup) (j : B) : lk (dl m k) j = if k = j then none else lk m j := by
 induction m with
 | nil => simp [dl, lk]
 | cons p m ih =>
  obtain ⟨s, u⟩ := p;have hn1 : (s :: kys m).Nodup := hn;obtain ⟨h1, h2⟩ := List.nodup_cons.1 hn1;by_cases e : s = k
  ·subst e;simp only [dl, if_true, lk];by_cases e2 : s = j
   ·subst e2; simp [fQ.2 h1]
   ·simp [e2]
  ·simp only [dl, e, if_false, lk, ih h2];by_cases e2 : s = j
   ·subst e2; simp [Ne.symm e]
   ·simp [e2]
theorem Hv (m : List (B × α)) (k : B) (v : α) : (pt m k v).length ≤ m.length + 1 := by
 induction m with
 | nil => simp [pt]
 | cons p m ih =>
  obtain ⟨s, u⟩ := p;simp only [pt];split <;> simp; omega
theorem Im (m : List (B × α)) (k : B) : (dl m k).length ≤ m.length := wH.length_le
theorem JK {m : List (B × α)} {k : B} {v : α} {p : B × α} (h : p ∈ pt m k v) : p = (k, v) ∨ p ∈ m := by
 induction m with
 | nil => simpa [pt] using h
 | cons q m ih =>
  obtain ⟨s, u⟩ := q;simp only [pt] at h;split at h
  ·rcases List.mem_cons.1 h with h | h
   ·exact .inl h
   ·exact .inr (List.mem_cons_of_mem _ h)
  ·rcases List.mem_cons.1 h with h | h
   ·exact .inr (by rw [h]; simp)
   ·exact (ih h).imp id (List.mem_cons_of_mem _)
end assoc
structure Fl where
 b : B
 safe : Nat
def flZ : Fl := ⟨[], 0⟩
abbrev FM := List (B × Fl)
def gF (m : FM) (k : B) : Fl := (lk m k).getD flZ
structure FSt where
 fs : FM
 fail : Int
 fall : Int
 down : Bool
def fs0 : FSt := ⟨[], -1, -1, false⟩
def cnt (a : Int) : Int := if a - 1 < -1 then -1 else a - 1
def FSt.act (s : FSt) (late : Bool) (g : FM → FM) : FSt × Int :=
 if s.fall = 0 then (⟨if late then g s.fs else s.fs, cnt s.fail, cnt s.fall, true⟩, 7)
 else if s.fail = 0 then (⟨s.fs, cnt s.fail, cnt s.fall, s.down⟩, 8)
 else (⟨g s.fs, cnt s.fail, cnt s.fall, s.down⟩, 0)
def ec (name b : B) (m : FM) : FM := pt m name ⟨(gF m name).b ++ b, (gF m name).safe⟩
def oJ (name : B) (size : Nat) (m : FM) : FM := pt m name ⟨(gF m name).b.take size, min (gF m name).safe size⟩
def cR (name : B) (m : FM) : FM := pt m name ⟨(gF m name).b, (gF m name).b.length⟩
def kc (a b : B) (m : FM) : FM := pt (dl m a) b (gF m a)
def FSt.may (s : FSt) (name : B) : Int := if s.down then 7 else if (lk s.fs name).isNone then 6 else 0
def FSt.append (s : FSt) (name b : B) : FSt × Int := if s.down then (s, 7) else s.act true (ec name b)
def FSt.truncate (s : FSt) (name : B) (size : Int) : FSt × Int :=
 if s.may name ≠ 0 then (s, s.may name) else if size < 0 ∨ ((gF s.fs name).b.length : Int) < size then (s, 1) else s.act false (oJ name size.toNat)
def FSt.sync (s : FSt) (name : B) : FSt × Int := if s.may name ≠ 0 then (s, s.may name) else s.act false (cR name)
def FSt.rename (s : FSt) (a b : B) : FSt × Int := if s.may a ≠ 0 then (s, s.may a) else s.act false (kc a b)
def FSt.remove (s : FSt) (name : B) : FSt × Int := if s.may name ≠ 0 then (s, s.may name) else s.act false fun m => dl m name
def eL : List B → List Int → FM → FM
 | [], _, m => m
 | n :: l, keep, m =>
  if (gF m n).safe = (gF m n).b.length then eL l keep m
  else match keep with
   | [] => eL l [] (pt m n ⟨(gF m n).b.take (gF m n).safe, (gF m n).safe⟩)
   | k :: keep => eL l keep (pt m n ⟨(gF m n).b.take ((gF m n).safe + (min (max k 0) ((gF m n).b.length - (gF m n).safe : Int)).toNat), (gF m n).safe + (min (max k 0) ((gF m n).b.length - (gF m n).safe : Int)).toNat⟩)
def FSt.names (s : FSt) : List B := fq (kys s.fs)
def FSt.crash (s : FSt) (keep : List Int) : FSt := ⟨eL s.names keep s.fs, -1, -1, false⟩
structure j9 (m : FM) (nb fb : Nat) : Prop where
 nodup : (kys m).Nodup
 safe : ∀ p ∈ m, p.2.safe ≤ p.2.b.length
 len : m.length ≤ nb
 bytes : ∀ p ∈ m, p.2.b.length ≤ fb
 names : ∀ n ∈ kys m, n.length < 1000000
def okN (a : Int) : Prop := -1 ≤ a ∧ a < 9223372036854775808
structure FOk (s : FSt) (nb fb : Nat) : Prop where
 m : j9 s.fs nb fb
 fail : okN s.fail
 fall : okN s.fall
theorem j9.mono {m : FM} {nb fb nb' fb' : Nat} (h : j9 m nb fb) (h1 : nb ≤ nb') (h2 : fb ≤ fb') : j9 m nb' fb' :=
 ⟨h.nodup, h.safe, Nat.le_trans h.len h1, fun p hp => Nat.le_trans (h.bytes p hp) h2, h.names⟩
theorem j9.get {m : FM} {nb fb : Nat} (h : j9 m nb fb) (k : B) : (gF m k).safe ≤ (gF m k).b.length ∧ (gF m k).b.length ≤ fb := by
 unfold gF
 cases e : lk m k with
 | none => simp [flZ]
 | some v => exact ⟨h.safe _ (Aj e), h.bytes _ (Aj e)⟩
theorem j9.put {m : FM} {nb fb fb' : Nat} (h : j9 m nb fb) {k : B} {v : Fl} (hk : k.length < 1000000) (hs : v.safe ≤ v.b.length) (hb : v.b.length ≤ fb') (hf : fb ≤ fb') : j9 (pt m k v) (nb + 1) fb' := by
 refine ⟨JO h.nodup, fun p hp => ?_, Nat.le_trans (Hv m k v) (Nat.succ_le_succ h.len), fun p hp => ?_, fun n hn => ?_⟩
 ·rcases JK hp with rfl | hp
  ·exact hs
  ·exact h.safe p hp
 ·rcases JK hp with rfl | hp
  ·exact hb
  ·exact Nat.le_trans (h.bytes p hp) hf
 ·rcases qL.1 hn with rfl | hn
  ·exact hk
  ·exact h.names n hn
theorem j9.put_old {m : FM} {nb fb fb' : Nat} (h : j9 m nb fb) {k : B} {v : Fl} (hk : k ∈ kys m) (hs : v.safe ≤ v.b.length) (hb : v.b.length ≤ fb') (hf : fb ≤ fb') : j9 (pt m k v) nb fb' := by
 have h1 := h.put (h.names k hk) hs hb hf;refine ⟨h1.nodup, h1.safe, ?_, h1.bytes, h1.names⟩;have := congrArg List.length (tb (v := v) hk);simp only [kys, List.length_map] at this;rw [this]; exact h.len
theorem j9.del {m : FM} {nb fb : Nat} (h : j9 m nb fb) (k : B) : j9 (dl m k) nb fb :=
 ⟨JP h.nodup, fun p hp => h.safe p (wH.subset hp), Nat.le_trans (Im m k) h.len, fun p hp => h.bytes p (wH.subset hp), fun n hn => h.names n ((wH.map _).subset hn)⟩
theorem jW {a : Int} (h : okN a) : okN (cnt a) := by
 unfold okN cnt at *; split <;> omega
theorem J7 (m : FM) (k j : B) (v : Fl) : gF (pt m k v) j = if k = j then v else gF m j := by
 unfold gF; rw [jN]; split <;> rfl
theorem MO {m : FM} {nb fb : Nat} (h : j9 m nb fb) {name b : B} (hn : name.length < 1000000) : j9 (ec name b m) (nb + 1) (fb + b.length) := by
 have := h.get name;exact h.put hn (by simp; omega) (by simp; omega) (by omega)
theorem MF {m : FM} {nb fb : Nat} (h : j9 m nb fb) {name : B} (hn : name ∈ kys m) {size : Nat} (hs : size ≤ (gF m name).b.length) : j9 (oJ name size m) nb fb := by
 have := h.get name;exact h.put_old hn (by simp; omega) (by simp; omega) (by omega)
theorem Jm {m : FM} {nb fb : Nat} (h : j9 m nb fb) {name : B} (hn : name ∈ kys m) : j9 (cR name m) nb fb := by
 have := h.get name;exact h.put_old hn (by simp) (by simp; omega) (by omega)
theorem xc {s : FSt} {nb fb nb' fb' : Nat} (h : FOk s nb fb) (late : Bool) {g : FM → FM} (hg : j9 (g s.fs) nb' fb') (h1 : nb ≤ nb') (h2 : fb ≤ fb') : FOk (s.act late g).1 nb' fb' := by
 unfold FSt.act;have := h.m.mono h1 h2;split
 ·exact ⟨by cases late <;> assumption, jW h.fail, jW h.fall⟩
 ·split
  ·exact ⟨this, jW h.fail, jW h.fall⟩
  ·exact ⟨hg, jW h.fail, jW h.fall⟩
theorem FOk.mono {s : FSt} {nb fb nb' fb' : Nat} (h : FOk s nb fb) (h1 : nb ≤ nb') (h2 : fb ≤ fb') : FOk s nb' fb' := ⟨h.m.mono h1 h2, h.fail, h.fall⟩
theorem mv {s : FSt} {name : B} (h : ¬ s.may name ≠ 0) : s.down = false ∧ name ∈ kys s.fs := by
 unfold FSt.may at h;split at h
 ·simp at h
 ·rename_i hd;split at h
  ·simp at h
  ·rename_i hl;refine ⟨by simpa using hd, ?_⟩
   cases e : lk s.fs name with
   | none => simp [e] at hl
   | some v => exact lT e
theorem iH {s : FSt} {nb fb : Nat} (h : FOk s nb fb) {name b : B} (hn : name.length < 1000000) : FOk (s.append name b).1 (nb + 1) (fb + b.length) := by
 unfold FSt.append;split
 ·exact h.mono (by omega) (by omega)
 ·exact xc h true (MO h.m hn) (by omega) (by omega)
theorem oP {s : FSt} {nb fb : Nat} (h : FOk s nb fb) {name : B} {size : Int} : FOk (s.truncate name size).1 nb fb := by
 unfold FSt.truncate;split
 ·exact h
 ·rename_i hm;split
  ·exact h
  ·exact xc h false (MF h.m (mv hm).2 (by omega)) (by omega) (by omega)
theorem mn {s : FSt} {nb fb : Nat} (h : FOk s nb fb) {name : B} : FOk (s.sync name).1 nb fb := by
 unfold FSt.sync;split
 ·exact h
 ·rename_i hm;exact xc h false (Jm h.m (mv hm).2) (by omega) (by omega)
theorem lv {s : FSt} {nb fb : Nat} (h : FOk s nb fb) {name : B} : FOk (s.remove name).1 nb fb := by
 unfold FSt.remove;split
 ·exact h
 ·exact xc h false (h.m.del name) (by omega) (by omega)
theorem CX {nb fb : Nat} : ∀ (l : List B) (keep : List Int) (m : FM), l.Nodup → (∀ n ∈ l, n ∈ kys m) → j9 m nb fb →
  j9 (eL l keep m) nb fb ∧ kys (eL l keep m) = kys m ∧
   (∀ n ∈ l, ∃ k, (gF m n).safe ≤ k ∧ k ≤ (gF m n).b.length ∧ gF (eL l keep m) n = ⟨(gF m n).b.take k, k⟩) ∧ ∀ n, n ∉ l → gF (eL l keep m) n = gF m n := by
 intro l
 induction l with
 | nil => intro keep m _ _ h; exact ⟨h, rfl, by simp, fun n _ => rfl⟩
 | cons a l ih =>
  intro keep m hnd hmem h;obtain ⟨ha, hnd⟩ := List.nodup_cons.1 hnd;have hg := h.get a;have ham := hmem a (by simp);have key : ∀ (k : Nat) (keep' : List Int), (gF m a).safe ≤ k → k ≤ (gF m a).b.length →
    j9 (eL l keep' (pt m a ⟨(gF m a).b.take k, k⟩)) nb fb ∧ kys (eL l keep' (pt m a ⟨(gF m a).b.take k, k⟩)) = kys m ∧
    (∀ n ∈ a :: l, ∃ k', (gF m n).safe ≤ k' ∧ k' ≤ (gF m n).b.length ∧ gF (eL l keep' (pt m a ⟨(gF m a).b.take k, k⟩)) n = ⟨(gF m n).b.take k', k'⟩) ∧
    ∀ n, n ∉ a :: l → gF (eL l keep' (pt m a ⟨(gF m a).b.take k, k⟩)) n = gF m n := by
   intro k keep' h1 h2;obtain ⟨i1, i2, i3, i4⟩ := ih keep' (pt m a ⟨(gF m a).b.take k, k⟩) hnd (fun n hn => by rw [tb ham]; exact hmem n (by simp [hn])) (h.put_old ham (by simp; omega) (by simp; omega) (by omega));refine ⟨i1, by rw [i2, tb ham], fun n hn => ?_, fun n hn => ?_⟩
   ·rcases List.mem_cons.1 hn with rfl | hn
    ·exact ⟨k, h1, h2, by rw [i4 n ha, J7, if_pos rfl]⟩
    ·have hne : a ≠ n := fun e => ha (e ▸ hn);obtain ⟨k', e1, e2, e3⟩ := i3 n hn;rw [J7, if_neg hne] at e1 e2 e3;exact ⟨k', e1, e2, e3⟩
   ·have hne : a ≠ n := fun e => hn (by simp [e]);rw [i4 n (fun e => hn (by simp [e])), J7, if_neg hne]
  unfold eL;split
  ·rename_i hs;obtain ⟨i1, i2, i3, i4⟩ := ih keep m hnd (fun n hn => hmem n (by simp [hn])) h;refine ⟨i1, i2, fun n hn => ?_, fun n hn => i4 n fun e => hn (by simp [e])⟩;rcases List.mem_cons.1 hn with rfl | hn
   ·refine ⟨(gF m n).b.length, by omega, Nat.le_refl _, ?_⟩;rw [i4 n ha, List.take_length, ← hs]
   ·exact i3 n hn
  ·cases keep with
   | nil => exact key _ _ (Nat.le_refl _) hg.1
   | cons k keep => exact key _ _ (by omega) (by omega)
theorem dS (s : FSt) : s.names.Perm (kys s.fs) := List.mergeSort_perm _ _
theorem oe {s : FSt} {nb fb : Nat} (h : FOk s nb fb) (keep : List Int) : FOk (s.crash keep) nb fb ∧ kys (s.crash keep).fs = kys s.fs ∧
  ∀ n ∈ kys s.fs, ∃ k, (gF s.fs n).safe ≤ k ∧ k ≤ (gF s.fs n).b.length ∧ gF (s.crash keep).fs n = ⟨(gF s.fs n).b.take k, k⟩ := by
 have hp := dS s;obtain ⟨i1, i2, i3, i4⟩ := CX s.names keep s.fs (hp.nodup_iff.2 h.m.nodup) (fun n hn => hp.mem_iff.1 hn) h.m;have hm1 : okN (-1) := by unfold okN; omega
 exact ⟨⟨i1, hm1, hm1⟩, i2, fun n hn => i3 n (hp.mem_iff.2 hn)⟩
end Go.Abs
end
section
namespace Go.Abs
open Go Go.Proofs Go.Shelf Go.RowKit
def ai (l : B) : List (List AV) := l.map fun c => [.val (.int .u8 c.toNat)]
end Go.Abs
end
section
namespace Go.Abs
open Go Go.Proofs
structure Ac where
 kind : Int
 name : B
 to : B
 body : B
 n : Int
 keep : List Int
def cV (l : List Int) : List (List AV) := l.map fun i => [vi i]
theorem jO (l : List Int) : (cV l).length = l.length := by simp [cV]
def Ac.enc (a : Ac) : List AV := [vi a.kind, vs a.name, vs a.to, .sl none 1 (ai a.body), vi a.n, .sl none 1 (cV a.keep)]
def kM (n : Int) : Int := if n < -1 then -1 else n
theorem uT {n : Int} (h : -9223372036854775808 ≤ n ∧ n < 9223372036854775808) : okN (kM n) := by
 unfold okN kM; split <;> omega
end Go.Abs
end
section
namespace Go.Proofs
open Go.RowKit Go.Maps Go.Sort Go.Shelf
def oC {H : Type} : Value → Option (DataW H × List MemPlace) := fun _ => some (.lit (.bool true), [])
set_option maxRecDepth 100000 in
set_option maxHeartbeats 1000000 in
theorem Fx.keys1N_in {H : Type} (F : Fence) (n : Nat) (h10 : F.fn 113) (hro : F.round = none) (hn : 1 ≤ n) (l Bm b nn : Nat) (D0 : DataW H) (J : List (List UInt8) → World → Prop)
  (hY : ∀ pre x W, J pre W → pre.length < Maps.size D0 → YieldAt F (n - 1) Tryz.prog l #[encStr x] W fun e W' => e = .returned (.bool true) ∧ J (pre ++ [x]) W' ∧ KeepsWalks W W')
  (W : World) (hJ : AbidesFrom W.heap.size J) (hm : W.cell? ⟨Bm, 0, none⟩ = some (.map (some b))) (hown : W.ownsMap Tryz.prog 9 oC b nn D0) (h0 : J [] W) :
  CallsIn F n Tryz.prog 113 #[.func (.yield l) #[] #[], .pointer (some ⟨Bm, 0, none⟩)] W fun e W' => (∃ v, e = .returned v) ∧ ∃ ss : List (List UInt8), ss.Perm (strKeys D0) ∧ J ss W' := by
 refine callsIn_of_wp Tryz.func113 rfl h10 ?_ hro;simp only [Tryz.ntmps113, List.size_toArray, List.length_cons, List.length_nil, Nat.reduceAdd, Nat.reduceSub, Array.replicate_succ, Array.replicate_zero, List.push_toArray, List.append_toArray, List.nil_append, List.cons_append]
 gi_wp2_with (first
  | (gi_at_range; refine wpListIn_range_own _ rfl _ 94 rfl 9 116 Kx.law26 Tryz.underlying94 _ b nn _ rfl hown ?_; intro w0 hrg0 hg0 hs0)
  | gi_in)
 go_frame
 gi_loopw [3] (fun _ wr => ∃ (left : Lit → Bool) (cnt : Nat) (ss : List (List UInt8)), wr.ranges Tryz.prog 9 oC b W.heap.size nn D0 left cnt ∧ ss.length + cnt ≤ Maps.size D0 ∧ Collected D0 left ss ∧ J ss wr)
  (fun _ wr => wr.rangeLeft b W.heap.size)
 case atStart =>
  exact ⟨_, _, [], hrg0, by simp, Collected.start D0, hJ [] W w0 none h0 hg0 (fun r e => by cases e)⟩
 case round =>
  obtain ⟨left, cnt, ss, hrg, hcs, hC, hJs⟩ := hrel
  gi_wp2_with (first
   | (gi_at_next; refine wpListIn_next_ranges _ rfl _ rfl 9 Kx.law26 oC encStr (fun v : Value => v) (fun key kl hk => by obtain ⟨x, hx, _⟩ := Maps.keyOf_str Tryz.underlying9 hk; exact ⟨x, hx⟩) (fun v y hv => ⟨v, rfl⟩) b W.heap.size nn _ _ _ rfl hrg ?_ ?_)
   | gi_in)
  ·-- NOTHING IS LEFT
   intro hc0 hl0
   gi_wp2
   go_end0
   exact ⟨⟨_, rfl⟩, ss, hC.perm hown Kx.law26 Tryz.underlying9 hl0, hJs⟩
  ·-- AN ENTRY HAS COME: yield(k)
   intro x c kl yd yp w2 cnt2 hkey hlk hv hat hrg2 hlt hg2 hs2 hen;obtain ⟨x', ex, rfl, _⟩ := Maps.keyOf_str Tryz.underlying9 hkey;obtain rfl : x = x' := encStr_inj ex;have hJ2 : J ss w2 := hJ ss wr w2 (some W.heap.size) hJs hg2 (fun r e => by cases e; exact ⟨Nat.le_refl _, hrg.iter_walk⟩);obtain ⟨fn, tmps, assign, body, hy, hR⟩ := hY ss x w2 hJ2 (by omega);clear hs2
   gi_wp2
   refine hR.mono ?_;rintro e W3 ⟨rfl, hJ3, hk3⟩
   gi_wp2
   have hrg3 := hrg2.of_walks hk3
   go_roundw
   case rel => exact ⟨_, cnt2, ss ++ [x], hrg3, by simp; omega, hC.step hlk hat, hJ3⟩
   case measure => rw [hrg3.left_eq, hrg.left_eq]; exact hlt
theorem Fx.keys_gives {H : Type} (F : Fence) (n : Nat) (h10 : F.fn 113) (hro : F.round = none) (hn : 1 ≤ n) (Bm b nn : Nat) (D0 : DataW H) (w : World) (hBm : Bm < w.heap.size)
  (hm : w.cell? ⟨Bm, 0, none⟩ = some (.map (some b))) (hown : w.ownsMap Tryz.prog 9 oC b nn D0) :
  SeqGives F n Tryz.prog 113 #[.pointer (some ⟨Bm, 0, none⟩)] encStr (fun ss => ss.Perm (strKeys D0)) (Maps.size D0) w := fun l J W hW hJ hY h0 => by
 have hown' : W.ownsMap Tryz.prog 9 oC b nn D0 := by
  have hbl := hown.lt;obtain ⟨es, clock, hb, Ft, hs, hD⟩ := hown;exact ⟨es, clock, (hW.block b hbl).trans hb, Ft, hs, hD⟩
 exact Fx.keys1N_in F n h10 hro hn l Bm b nn D0 J hY W hJ ((hW.cell (p := ⟨Bm, 0, none⟩) hBm).trans hm) hown' h0
end Go.Proofs
namespace Go.Abs
open Go Go.Proofs Go.Sort Go.Maps
def me (x : Fl) : AV := .agg [.sl none 1 (ai x.b), vi (x.safe : Int)]
theorem yX {G : Gh} : ∀ {m : FM} {ms : List MapEntry}, fD G (jC me m) ms → ms.map (·.key) = (kys m).map encStr
 | [], [], _ => rfl
 | [], _ :: _, h => by simp [jC, fD] at h
 | _ :: _, [], h => by simp [jC, fD] at h
 | a :: m, x :: ms, h => by
  obtain ⟨⟨h1, _⟩, h2, h3⟩ : (x.key = .string (ofB a.1) ∧ _) ∧ Rep G (me a.2) x.val ∧ fD G (jC me m) ms := h;have i1 := yX h3;rw [List.map_cons, i1, h1];rfl
theorem CB (es : List (ByteArray × AV)) {R} (h : R (.fn (.func 113) [] [.ptr 1 0]) [.map es, .cells 94 [.mapv 0]]) :
  ag Tryz.prog 76 [.mapv 0] [.map es] R := by
 refine ab (an := Uy) tab_ok Tryz.func76 ?_;conv=>whnf
 exact h
theorem Kc {H : Type} {G : Gh} {w : World} {b : Nat} {ms : Array MapEntry} {clock : Nat} {m : FM} (hb : w.heap[b]? = some (.map ms clock)) (hr : fD G (jC me m) ms.toList) (hok : kQ ms clock) (hnd : (kys m).Nodup)
  (hl : (kys m).length ≤ maxLen) (hs : ∀ s ∈ (kys m), s.length ≤ maxLen) : ∃ D0 : DataW H, w.ownsMap Tryz.prog 9 oC b (kys m).length D0 ∧ Maps.size D0 = (kys m).length ∧ (strKeys D0).Perm (kys m) := by
 have k1 := yX hr;have hsz : ms.size = (kys m).length := by
  have := congrArg List.length k1;simpa using this
 have hread : ∀ x ∈ ms.toList, ∃ s ∈ (kys m), x.key = encStr s ∧ Go.WideElems.rd Tryz.prog 9 (oC (H := H)) x = some (Lit.string s, DataW.lit (.bool true)) := fun x hx => by
  have hk : x.key ∈ (kys m).map encStr := by rw [← k1]; exact List.mem_map_of_mem hx
  obtain ⟨s, hsl, hsk⟩ := List.mem_map.1 hk;refine ⟨s, hsl, hsk.symm, ?_⟩;have h1 : keyOf Tryz.prog 9 x.key = some (.string s) := by
   rw [← hsk];have := hs s hsl;simp [keyOf, mapKey, Tryz.underlying9, encStr];exact this
  have h2 : oC (H := H) x.val = some (.lit (.bool true), []) := rfl;simp [Go.WideElems.rd, h1, h2]
 have hfit : Go.WideElems.Fit Tryz.prog 9 (oC (H := H)) ms clock := by
  refine ⟨by omega, ⟨hok.2, hok.1, ?_⟩, fun x hx => ?_⟩
  ·rw [k1];refine (List.pairwise_map.2 (hnd.imp fun hne e => hne (encStr_inj e)))
  ·obtain ⟨s, _, _, h⟩ := hread x hx;exact ⟨_, h⟩
 refine ⟨_, ⟨ms, clock, hb, hfit, by omega, rfl⟩, ?_, ?_⟩
 ·simp [Maps.size, length_sorted, hsz]
 ·show (((ms.toList.map _).foldr DataW.insert []).map fun p => strOf p.1).Perm (kys m);refine ((Go.WideShapes.sorted_perm _).map _).trans ?_;rw [List.map_map];have : (ms.toList.map ((fun p : Lit × DataW H => strOf p.1) ∘ Go.WideElems.rg Tryz.prog 9 (oC (H := H)))) = (kys m) := by
   have h1 : ∀ x ∈ ms.toList, encStr (((fun p : Lit × DataW H => strOf p.1) ∘ Go.WideElems.rg Tryz.prog 9 (oC (H := H))) x) = x.key := fun x hx => by
    obtain ⟨s, _, h2, h3⟩ := hread x hx;simp only [Function.comp];rw [Go.WideElems.rg_of h3, h2];rfl
   have h2 : (ms.toList.map ((fun p : Lit × DataW H => strOf p.1) ∘ Go.WideElems.rg Tryz.prog 9 (oC (H := H)))).map encStr = (kys m).map encStr := by
    rw [← k1, List.map_map];exact List.map_congr_left h1
   exact List.map_inj_right (f := encStr) (fun _ _ e => encStr_inj e) |>.1 h2
  rw [this]
theorem xH (m : FM) (hl : (kys m).length < 1000000) (hs : ∀ s ∈ (kys m), s.length < 1000000) (hnd : (kys m).Nodup) {R} (h : R (.sl none 1 (bl (fq (kys m)))) [.cells 94 [.mapv 1], .map (jC me m)]) :
  ag Tryz.prog 75 [.fn (.func 113) [] [.ptr 0 0]] [.cells 94 [.mapv 1], .map (jC me m)] R := by
 have h47 : 1000000 ≤ maxLen := by unfold maxLen; omega
 refine B1 fun G w vals hW hA => ?_;have hI := JX hW;obtain ⟨bm, vs, e1, e2, e3, e4⟩ := hW.obj 0 (.cells 94 [.mapv 1]) rfl;obtain ⟨b, ms, clock, m1, m2, m3, m4, m5⟩ := hW.obj 1 (.map (jC me m)) rfl;simp only [aB, Rep] at hA e3;obtain ⟨_, _, rfl, ⟨vf, us, rfl, rfl, v1, us1, rfl, ⟨b', hb', rfl⟩, rfl⟩, rfl⟩ := hA;obtain ⟨_, _, rfl, ⟨b2, hb2, rfl⟩, rfl⟩ := e3;rw [e1] at hb'; cases hb';rw [m1] at hb2; cases hb2;obtain ⟨D0, hown, hDs, hDk⟩ := Kc (H := Unit) m2 m3 m5 hnd (by omega) (fun s hx => by have := hs s hx; omega);have hbm : bm < w.heap.size := (Array.getElem?_eq_some_iff.1 e2).1;have hcell : w.cell? ⟨bm, 0, none⟩ = some (.map (some b)) := by rw [iv e2 0]; rfl
 have hseq := Fx.keys_gives Fence.wide (6 - 1 - 1 - 1) trivial rfl (by omega) bm b (kys m).length D0 w hbm hcell hown;refine (callsIn_wide.1 (Kx.sorted_in Fence.wide 6 trivial trivial trivial trivial rfl (by omega) (D2 _) _ _ trivial (enters_of Tryz.func113 (by kernel_rfl) rfl) _ _ (by omega) (by omega) w hseq)).mono ?_;rintro e w' ⟨v, ss, rfl, hperm, hrow, hnil, hbl⟩;have hpl : ss.Perm (kys m) := hperm.trans hDk;have hsort : (ss.mergeSort fun x y => decide (x ≤ y)) = fq (kys m) := mergeSort_of_perm hpl;rw [hsort] at hrow;have hlen : ss.length = (fq (kys m)).length := by rw [hpl.length_eq]; simp [fq]
 rw [hlen] at hrow;have hsls := aD (fq (kys m));have hob : ∀ (i : Nat) (o : aF), [aF.cells 94 [.mapv 1], .map (jC me m)][i]? = some o → ∀ m ∈ ck o, m < 2 := by
  intro i o ho m hm
  match i, ho with
  | 0, ho => simp at ho; subst ho; have hm : m = 1 := (by simpa [ck, cL, AV.names] using hm); subst hm; decide
  | 1, ho => simp at ho; subst ho; simp [ck] at hm
 rcases hrow.2 with ⟨rfl, hz⟩ | ⟨g, cap, cur, rfl, hbase, hgb, r1, r2, r3, r4⟩
 ·have hnil : fq (kys m) = [] := List.eq_nil_of_length_eq_zero hz;obtain ⟨hI', hle⟩ := hI.grow (w' := w') (K' := G.K) hbl.os hbl.tape hbl.output hbl.size (fun b hb => hbl.block b hb) (fun _ _ _ => rfl) (fun b o v hb ev => by have := hI.wr.kltb ev; omega);refine ⟨_, _, _, _, rfl, h, ?_, hI', hob, by simp [AV.names]⟩;rw [hnil];simp only [Rep, bl, List.map_nil];exact ⟨⟨none, 0, rfl, Nat.le_refl _, trivial⟩, trivial⟩
 ·have htake : ∀ (j : Nat) (s : B), (fq (kys m))[j]? = some s → cur[j]? = some (encStr s) := fun j s hj => by
   have h1 : (cur.toList.take ((fq (kys m)).length * 1))[j]? = some (encStr s) := by rw [r4]; simp [hj]
   have hjl := (List.getElem?_eq_some_iff.1 hj).1;rw [List.getElem?_take, if_pos (by omega)] at h1;simpa using h1
  obtain ⟨hI', hle⟩ := hI.grow (w' := w') (K' := jb G.K g cur.toList) hbl.os hbl.tape hbl.output hbl.size (fun b hb => hbl.block b hb) (fun b o hb => by
    have : b ≠ g := by omega
    show (if b = g then _ else _) = _;rw [if_neg this]) (fun b o v hb ev => by
    by_cases e : b = g
    ·subst e;simp only [jb, if_true] at ev;rw [iv hgb];simpa using ev
    ·simp only [jb, e, if_false] at ev;have := hI.wr.kltb ev; omega)
  refine ⟨_, _, _, _, rfl, h, ?_, hI', hob, by simp [AV.names]⟩;simp only [Rep];rw [hsls];refine ⟨⟨_, cap, rfl, r1, yr _ _ fun j s hj => ?_⟩, trivial⟩;simp [jb, htake j s hj]
end Go.Abs
end
section
namespace Go.Abs
open Go Go.Proofs Go.RowKit Go.Lib
attribute [local irreducible] aH aE aO firstIdx
theorem aM (l : B) : (ai l).length = l.length := by simp [ai]
theorem fX (l m : B) : ai (l ++ m) = ai l ++ ai m := by simp [ai]
theorem dg : (tab.ti 5).bytes = 1 := rfl
theorem AU {b : B} (h : ai b = []) : b = [] := by
 cases b with
 | nil => rfl
 | cons a l => simp [ai] at h
theorem lj (b : B) (hb : b.length < 100000000) {R} (h : R (.sl none 1 (ai b)) []) : ag Tryz.prog 62 [.sl none 1 (ai b)] [] R := by
 refine ag.res ?_;refine ab (an := Pc) tab_ok Tryz.func62 ?_;have hsl := aM b;conv=>whnf
 intro p hp;refine ae (fun g => ?_) (fun g => ?_)
 ·have e := AU (hp g);subst e;conv=>whnf
  exact cf (cy 1) rfl h
 ·conv=>whnf
  refine ⟨rfl, (by show (0 + (ai b).length) * (1 + 1) ≤ _; omega), ?_⟩;conv=>whnf
  rw [show [] ++ ai b = ai b from rfl];exact bB h
theorem FY : (Tryz.prog.info? 5).map (fun i => (i.zero, i.size, i.bytes)) = some (some (.int .u8 0), 1, 1) := by kernel_rfl
theorem Ic (w : World) : Calls Tryz.prog 162 #[.slice none 0 0, .int .i64 0] w fun e w' => e = .returned (.slice none 0 0) ∧ w' = w := by
 have mixed := rS
 go_enter Tryz.func162, Tryz.ntmps162
 go_wp2
 go_ret
 exact ⟨rfl, rfl⟩
theorem J2 (n : Nat) (h0 : 0 < n) (hn : n ≤ 1000000000) (w : World) : Calls Tryz.prog 162 #[.slice none 0 0, .int .i64 n] w fun e w' =>
  e = .returned (.slice (some ⟨w.heap.size, 0, none⟩) 0 (grownCap w n 0 5)) ∧ ∃ cur, w' = w.drew.alloc (.cells cur 5) ∧ cur.size = grownCap w n 0 5 := by
 obtain ⟨i0, hi, hz0, hz1, hz2⟩ := info_parts FY;have mixed := rS;have h1 : ¬ ((n : Int) < 0) := by omega
 have h2 : wrap64 ((n : Int) - wrap64 (((0 : Nat) : Int) - ((0 : Nat) : Int))) = (n : Int) := by unfold wrap64; omega
 have h4 : (n : Int) > 0 := by omega
 have hold : (Builtin.firstCells i0.size 0 (.slice none 0 0)).run Tryz.prog w.drew = .ok ([] : List Value).toArray w.drew := run_firstCells_none w.drew i0.size 0 0 0;have hrz : ∀ ty, (Builtin.append_ #[77, 3] ty #[.slice none 0 0, .int .i64 (n : Int)]).run Tryz.prog w =
   .ok (.slice (some ⟨w.heap.size, 0, none⟩) n (grownCap w n 0 5)) (w.drew.alloc (.cells (([] : List Value).toArray ++ Builtin.zeroCells (Value.int .u8 0).cells n ++ Builtin.zeroCells (Value.int .u8 0).cells (grownCap w n 0 5 - n)) 5)) := fun ty => by
  have h := Lib.run_append_grow_zeros w 77 3 ty 5 i0 (.int .u8 0) .i64 .i64 Tryz.underlying77 Tryz.underlying3 hi hz0 none 0 0 [] hold n h0 (by omega) (by omega) (by omega)
   (by rw [hz2]; omega) (by rw [Nat.zero_add]; exact growslice_fits (by omega) (by rw [hz2]; omega))
  simpa using h
 have hGn : n ≤ grownCap w n 0 5 := grownCap_ge w _ _ _;obtain ⟨G, hG⟩ : ∃ G, G = grownCap w n 0 5 := ⟨_, rfl⟩;rw [← hG] at hrz hGn ⊢;have hG63 : G ≤ 9223372036854775807 := by
  have := grownCap_le_maxLen w n 0 5 (by unfold maxLen; omega);rw [← hG] at this;unfold maxLen at this;omega
 clear hold hG
 go_enter Tryz.func162, Tryz.ntmps162
 go_wp2_with (at_builtin; refine Lib.wpList_append_run _ rfl _ _ _ _ rfl _ _ rfl rfl _ _ (hrz _) ?_)
 all_goals (go_ret; exact ⟨rfl, _, rfl, by simp [size_zeroCells]; omega⟩)
end Go.Abs
end
section
namespace Go.Abs
open Go Go.Proofs
attribute [local irreducible] aH aE aO firstIdx
theorem lf (n : Nat) {R} (h : R (.fn (.func 274) [] [.ptr 0 0]) [.cells 33 [.val (.int .u64 (n : Int))]]) : ag Tryz.prog 266 [.val (.int .u64 (n : Int))] [] R := by
 refine ab (an := Rd) tab_ok Tryz.func266 ?_;conv=>whnf
 exact h
theorem ql (b : B) (hb : b.length < 100000000) {R} (h1 : b = [] → R (.val (.slice none 0 0)) []) (h : R (.sl (some 0) 1 (ai b)) [.row 5 1 b.length]) : ag Tryz.prog 62 [.sl none 1 (ai b)] [] R := by
 refine ab (an := { Pc with keepRes := true }) tab_ok Tryz.func62 ?_;have hsl := aM b;conv=>whnf
 intro p hp;refine ae (fun g => ?_) (fun g => ?_)
 ·have e := AU (hp g);conv=>whnf
  exact h1 e
 ·conv=>whnf
  refine ⟨rfl, (by show (0 + (ai b).length) * (1 + 1) ≤ _; omega), ?_⟩;conv=>whnf
  rw [show [] ++ ai b = ai b from rfl, hsl, show [].length + b.length = b.length by simp];exact h
theorem mY {n i : Nat} {x : List AV} (h : (mZ n)[i]? = some x) : ∃ c : UInt8, (vrn n)[i]? = some c ∧ x = [.val (.int .u8 (c.toNat : Int))] := by
 unfold mZ at h;rw [List.getElem?_map, Option.map_eq_some_iff] at h;obtain ⟨c, hc, rfl⟩ := h;exact ⟨c, hc, rfl⟩
theorem lu {l : B} {i : Nat} {c : UInt8} (h : l[i]? = some c) : l.take (i + 1) = l.take i ++ [c] := by
 obtain ⟨hi, rfl⟩ := List.getElem?_eq_some_iff.1 h;rw [List.take_succ_eq_append_getElem hi]
def vpS : List AV := [.junk, .junk, .junk, .junk, .junk, .ptr (ak 5) 0, .junk, .junk, .junk, .junk, .junk, .junk, .junk, .junk, .junk, .junk, .junk]
theorem DC (b : B) (n : Nat) (hn : n < 18446744073709551616) (hb : b.length < 10000000) {R} (h : R (.sl (some 0) 1 (ai (b ++ vrn n))) [.row 5 1 (b ++ vrn n).length]) : ag Tryz.prog 245 [.sl none 1 (ai b), .val (.int .u64 (n : Int))] [] R := by
 refine ab (an := { Ny with keepRes := true }) tab_ok Tryz.func245 ?_;have hvl := cv hn;have hpos := jD n;have hlen : ∀ x ∈ mZ n, x.length = 1 := fun x hx => by
  obtain ⟨c, _, rfl⟩ := List.mem_map.1 hx;rfl
 have hvA : (mZ n).length = (vrn n).length := by simp [mZ]
 conv=>whnf
 refine ql b (by omega) (fun hb0 => ?_) ?_
 ·subst hb0;conv=>whnf
  refine lf n ?_;conv=>whnf
  refine .inr ?_;conv=>whnf
  refine ⟨mZ n, mz n hn, hlen, ?_⟩;refine ⟨fun i s => (i = 0 ∧ s = ⟨vpS, [(ak 5, .cells 77 [.val (.slice none 0 0)])]⟩) ∨ (0 < i ∧ ∃ o, o = (vrn n).take i ∧ s = ⟨vpS, [(ak 5, .cells 77 [.sl (some (ak 15)) 1 (ai o)]), (ak 15, .row 5 1 o.length)]⟩), .inl ⟨rfl, rfl⟩, ?_, ?_⟩
  ·rintro i x s hx (⟨rfl, rfl⟩ | ⟨hi, o, ho, rfl⟩)
   ·obtain ⟨c, hc, rfl⟩ := mY hx;conv=>whnf
    refine ⟨(by rw [dg]; decide : 1 * ((tab.ti 5).bytes + 1) ≤ 140737488355328), ?_⟩;conv=>whnf
    exact .inr ⟨by omega, [c], by rw [lu hc]; simp, rfl⟩
   ·obtain ⟨c, hc, rfl⟩ := mY hx;have hol : o.length ≤ 10 := by rw [ho, List.length_take]; omega
    have hbl := aM o;conv=>whnf
    refine ⟨hbl.symm, by rw [hbl, dg]; simp; omega, ?_⟩;conv=>whnf
    refine .inr ⟨by omega, o ++ [c], by rw [ho, lu hc], ?_⟩;rw [fX, List.length_append, ← hbl];rfl
  ·rintro s (⟨h0, rfl⟩ | ⟨hi, o, ho, rfl⟩)
   ·exfalso; omega
   ·rw [hvA, List.take_length] at ho;subst ho;conv=>whnf
    exact h
 ·conv=>whnf
  refine lf n ?_;conv=>whnf
  refine .inr ?_;conv=>whnf
  refine ⟨mZ n, mz n hn, hlen, ?_⟩;refine ⟨fun i s => ∃ o, o = b ++ (vrn n).take i ∧ s = ⟨vpS, [(ak 5, .cells 77 [.sl (some (ax 8 0)) 1 (ai o)]), (ax 8 0, .row 5 1 o.length)]⟩, ⟨b, by simp, rfl⟩, ?_, ?_⟩
  ·rintro i x s hx ⟨o, ho, rfl⟩;obtain ⟨c, hc, rfl⟩ := mY hx;have hol : o.length ≤ b.length + 10 := by rw [ho, List.length_append, List.length_take]; omega
   have hbl := aM o;conv=>whnf
   refine ⟨hbl.symm, by rw [hbl, dg]; simp; omega, ?_⟩;conv=>whnf
   refine ⟨o ++ [c], by rw [ho, lu hc, List.append_assoc], ?_⟩;rw [fX, List.length_append, ← hbl];rfl
  ·rintro s ⟨o, ho, rfl⟩;rw [hvA, List.take_length] at ho;subst ho;conv=>whnf
   exact h
theorem tK (b : B) (n : Nat) (hn : n < 18446744073709551616) (hb : b.length < 10000000) {R} (h : R (.sl none 1 (ai (b ++ vrn n))) []) : ag Tryz.prog 245 [.sl none 1 (ai b), .val (.int .u64 (n : Int))] [] R := by
 refine ab (an := Ny) tab_ok Tryz.func245 ?_;have hvl := cv hn;have hpos := jD n;have hlen : ∀ x ∈ mZ n, x.length = 1 := fun x hx => by
  obtain ⟨c, _, rfl⟩ := List.mem_map.1 hx;rfl
 have hvA : (mZ n).length = (vrn n).length := by simp [mZ]
 conv=>whnf
 refine ql b (by omega) (fun hb0 => ?_) ?_
 ·subst hb0;conv=>whnf
  refine lf n ?_;conv=>whnf
  refine .inr ?_;conv=>whnf
  refine ⟨mZ n, mz n hn, hlen, ?_⟩;refine ⟨fun i s => (i = 0 ∧ s = ⟨vpS, [(ak 5, .cells 77 [.val (.slice none 0 0)])]⟩) ∨ (0 < i ∧ ∃ o, o = (vrn n).take i ∧ s = ⟨vpS, [(ak 5, .cells 77 [.sl (some (ak 15)) 1 (ai o)]), (ak 15, .row 5 1 o.length)]⟩), .inl ⟨rfl, rfl⟩, ?_, ?_⟩
  ·rintro i x s hx (⟨rfl, rfl⟩ | ⟨hi, o, ho, rfl⟩)
   ·obtain ⟨c, hc, rfl⟩ := mY hx;conv=>whnf
    refine ⟨(by rw [dg]; decide : 1 * ((tab.ti 5).bytes + 1) ≤ 140737488355328), ?_⟩;conv=>whnf
    exact .inr ⟨by omega, [c], by rw [lu hc]; simp, rfl⟩
   ·obtain ⟨c, hc, rfl⟩ := mY hx;have hol : o.length ≤ 10 := by rw [ho, List.length_take]; omega
    have hbl := aM o;conv=>whnf
    refine ⟨hbl.symm, by rw [hbl, dg]; simp; omega, ?_⟩;conv=>whnf
    refine .inr ⟨by omega, o ++ [c], by rw [ho, lu hc], ?_⟩;rw [fX, List.length_append, ← hbl];rfl
  ·rintro s (⟨h0, rfl⟩ | ⟨hi, o, ho, rfl⟩)
   ·exfalso; omega
   ·rw [hvA, List.take_length] at ho;subst ho;conv=>whnf
    exact h
 ·conv=>whnf
  refine lf n ?_;conv=>whnf
  refine .inr ?_;conv=>whnf
  refine ⟨mZ n, mz n hn, hlen, ?_⟩;refine ⟨fun i s => ∃ o, o = b ++ (vrn n).take i ∧ s = ⟨vpS, [(ak 5, .cells 77 [.sl (some (ax 8 0)) 1 (ai o)]), (ax 8 0, .row 5 1 o.length)]⟩, ⟨b, by simp, rfl⟩, ?_, ?_⟩
  ·rintro i x s hx ⟨o, ho, rfl⟩;obtain ⟨c, hc, rfl⟩ := mY hx;have hol : o.length ≤ b.length + 10 := by rw [ho, List.length_append, List.length_take]; omega
   have hbl := aM o;conv=>whnf
   refine ⟨hbl.symm, by rw [hbl, dg]; simp; omega, ?_⟩;conv=>whnf
   refine ⟨o ++ [c], by rw [ho, lu hc, List.append_assoc], ?_⟩;rw [fX, List.length_append, ← hbl];rfl
  ·rintro s ⟨o, ho, rfl⟩;rw [hvA, List.take_length] at ho;subst ho;conv=>whnf
   exact h
def ba (s : B) : B := vrn s.length ++ s
theorem Dc (b s : B) (hb : b.length < 1000000) (hs : s.length < 10000000) {R} (h : R (.sl none 1 (ai (b ++ ba s))) []) : ag Tryz.prog 210 [.sl none 1 (ai b), .sl none 1 [[vs s]]] [] R := by
 refine ab (an := RR) tab_ok Tryz.func210 ?_;have hsz := aG s;have hw : IntKind.u64.wrap (((ofB s).size : Nat) : Int) = (s.length : Int) := by
  rw [hsz];show (s.length : Int) % 18446744073709551616 = _;omega
 have hv := cv (n := s.length) (by omega);have hbl := aM (b ++ vrn s.length);have hsl := aM s;conv=>whnf
 refine lj b (by omega) ?_;conv=>whnf
 refine au.step ?_;conv=>whnf
 rw [hw];refine DC b s.length (by omega) (by omega) ?_;conv=>whnf
 have hba : qj (ofB s) = ai s := by simp [qj, ai, ofB]
 rw [hba];refine ⟨hbl.symm, by rw [hbl, hsl, dg, List.length_append]; omega, ?_⟩;conv=>whnf
 refine au.step ?_;conv=>whnf
 rw [show ai (b ++ vrn s.length) ++ ai s = ai (b ++ ba s) by rw [← fX, ba, List.append_assoc]];exact h
theorem wY (b s : B) (hb : b.length < 1000000) (hs : s.length < 10000000) {R} (h : R (.sl none 1 (ai (b ++ ba s))) []) : ag Tryz.prog 161 [.sl none 1 (ai b), vs s] [] R := by
 refine ab (an := Sm) tab_ok Tryz.func161 ?_;conv=>whnf
 refine Dc b s hb hs ?_;conv=>whnf
 exact h
def w4 (n : Nat) : B := [UInt8.ofNat (n % 256), UInt8.ofNat (n / 256 % 256), UInt8.ofNat (n / 65536 % 256), UInt8.ofNat (n / 16777216 % 256)]
theorem dI (n : Nat) : (w4 n).length = 4 := rfl
theorem kC {n : Nat} : IntKind.u8.wrap ((n : Nat) : Int) = (((UInt8.ofNat (n % 256)).toNat : Nat) : Int) := by
 rw [UInt8.toNat_ofNat'];show (n : Int) % 256 = _;omega
theorem EV (n k : Nat) : ((n : Nat) : Int).fdiv (2 ^ k) = ((n / 2 ^ k : Nat) : Int) := by
 rw [Int.fdiv_eq_ediv_of_nonneg _ (Int.le_of_lt (Int.pow_pos (by decide)))]
 push_cast
 rfl
theorem Du (n : Nat) (hn : n < 4294967296) {R} (h : R (.sl none 1 (ai (w4 n))) []) : ag Tryz.prog 201 [.val (.int .u32 (n : Int))] [] R := by
 refine ab (an := RY) tab_ok Tryz.func201 ?_;have e1 : (n : Int).fdiv (2 ^ min (Int.toNat 8) IntKind.u32.bits) = ((n / 256 : Nat) : Int) := EV n 8;have e2 : (n : Int).fdiv (2 ^ min (Int.toNat 16) IntKind.u32.bits) = ((n / 65536 : Nat) : Int) := EV n 16;have e3 : (n : Int).fdiv (2 ^ min (Int.toNat 24) IntKind.u32.bits) = ((n / 16777216 : Nat) : Int) := EV n 24;conv=>whnf
 rw [e1, e2, e3, kC, kC, kC, kC];exact h
theorem LB : (List.range 256).all (fun n => decide (aH .andNot .u8 (n : Int) 128 = ((n % 128 : Nat) : Int))) = true := by decide +kernel
theorem DF {n : Nat} (h : n < 256) : aH .andNot .u8 (n : Int) 128 = ((n % 128 : Nat) : Int) := of_decide_eq_true (List.all_eq_true.1 LB n (List.mem_range.2 h))
theorem Oo {a b : Nat} (ha : a < 2 ^ 64) (hb : b < 2 ^ 64) : aH .or .u64 (a : Int) (b : Int) = ((a ||| b : Nat) : Int) := by
 unfold aH;show IntKind.u64.wrap (((BitVec.ofInt 64 (a : Int) ||| BitVec.ofInt 64 (b : Int)).toNat : Nat) : Int) = _;rw [BitVec.toNat_or];have h1 : (BitVec.ofInt 64 (a : Int)).toNat = a := by rw [BitVec.toNat_ofInt]; omega
 have h2 : (BitVec.ofInt 64 (b : Int)).toNat = b := by rw [BitVec.toNat_ofInt]; omega
 rw [h1, h2];have h3 : a ||| b < 2 ^ 64 := Nat.or_lt_two_pow ha hb
 show ((a ||| b : Nat) : Int) % 18446744073709551616 = _;omega
theorem vor {n x i : Nat} (hn : n < 18446744073709551616) (hi : i < 10) (hx : x < 256) (hd : x % 128 = n / 128 ^ i % 128) :
  aH .or .u64 ((n % 128 ^ i : Nat) : Int) (IntKind.u64.wrap (IntKind.u64.wrap (aH .andNot .u8 (x : Int) 128) * 2 ^ min (IntKind.i64.wrap (7 * (i : Int))).toNat IntKind.u64.bits)) = ((n % 128 ^ (i + 1) : Nat) : Int) := by
 have e7 : IntKind.i64.wrap (7 * (i : Int)) = ((7 * i : Nat) : Int) := by rw [aK (by omega) (by omega)]; omega
 have hp : (128 : Nat) ^ i = 2 ^ (7 * i) := by rw [Nat.pow_mul]
 have hm := Nat.mod_pow_succ (x := n) (b := 128) (k := i);have hle : n % 128 ^ (i + 1) ≤ n := Nat.mod_le _ _;have hlt : n % 128 ^ i ≤ n := Nat.mod_le _ _;have hlo : n % 128 ^ i < 2 ^ (7 * i) := by rw [← hp]; exact Nat.mod_lt _ (Nat.pow_pos (by omega))
 have e8 : IntKind.u64.wrap (((x % 128 : Nat) : Int)) = ((x % 128 : Nat) : Int) := by
  show ((x % 128 : Nat) : Int) % 18446744073709551616 = _;omega
 have hprod : 2 ^ (7 * i) * (x % 128) < 18446744073709551616 := by rw [hd, ← hp]; omega
 have e9 : IntKind.u64.wrap (((x % 128 : Nat) : Int) * 2 ^ (7 * i)) = ((2 ^ (7 * i) * (x % 128) : Nat) : Int) := by
  have : ((x % 128 : Nat) : Int) * 2 ^ (7 * i) = ((2 ^ (7 * i) * (x % 128) : Nat) : Int) := by push_cast; rw [Int.mul_comm]
  rw [this];show ((2 ^ (7 * i) * (x % 128) : Nat) : Int) % 18446744073709551616 = _;omega
 have hmin : min (((7 * i : Nat) : Int)).toNat IntKind.u64.bits = 7 * i := by
  rw [Int.toNat_natCast];show min (7 * i) 64 = 7 * i;omega
 rw [DF hx, e8, e7, hmin, e9, Oo (by omega) (by omega)];congr 1;rw [Nat.or_comm, ← Nat.two_pow_add_eq_or_of_lt hlo, hm, hd, hp];omega
theorem qt (p q : B) (n : Nat) (hn : n < 18446744073709551616) (hl : p.length + q.length < 100000000) {R} (h : R (.tup [.val (.int .u64 (n : Int)), vi ((p.length + (vrn n).length : Nat) : Int), vi 0]) []) :
  ag Tryz.prog 267 [.sl none 1 (ai (p ++ vrn n ++ q)), vi (p.length : Int)] [] R := by
 refine ab (an := Nw) tab_ok Tryz.func267 ?_;have hv := cv hn;have hp := jD n;have hat := zp n;have hbl : (ai (p ++ vrn n ++ q)).length = p.length + (vrn n).length + q.length := by simp [ai]; omega
 conv=>whnf
 refine ae (fun g => ?_) (fun g => ?_)
 ·exfalso;have g := of_decide_eq_true g;rw [hbl] at g;omega
 conv=>whnf
 refine au.ind1 (fun (i : Nat) => [(4, .val (.int .u64 ((n % 128 ^ i : Nat) : Int))), (17, vi i)]) (fun _ => []) (fun i => 10 - i) (fun i => i < (vrn n).length) 0 (by simp [Nat.mod_one]; rfl) (by omega) ?_;rintro i h0 IH;have hb := (vrn n)[i].toNat_lt;obtain ⟨a1, a2, a3⟩ := hat i h0;have e1 : IntKind.i64.wrap ((p.length : Int) + (i : Int)) = ((p.length + i : Nat) : Int) := by rw [aK (by omega) (by omega)]; omega
 have e7 : IntKind.i64.wrap (7 * (i : Int)) = ((7 * i : Nat) : Int) := by rw [aK (by omega) (by omega)]; omega
 have hget : (ai (p ++ vrn n ++ q))[p.length + i]? = some [.val (.int .u8 ((vrn n)[i].toNat : Int))] := by
  unfold ai;rw [List.getElem?_map, List.append_assoc, List.getElem?_append_right (by omega), Nat.add_sub_cancel_left, List.getElem?_append_left h0, List.getElem?_eq_getElem h0];rfl
 conv=>whnf
 refine ae (fun g2 => ?_) (fun g2 => ?_)
 ·conv=>whnf
  refine ae (fun g3 => ?_) (fun g3 => ?_)
  ·exfalso;rw [e1, hbl] at g3;have g3 := of_decide_eq_true g3;omega
  conv=>whnf
  refine ac (decide_eq_true (by rw [e1]; omega)) ?_;rw [e1];refine gN.2 ⟨_, hget, ?_⟩;have hlow := DF hb;generalize hx : (vrn n)[i].toNat = x at a1 hb hlow hget ⊢;have h9 : i = 9 → x ≤ 1 := by
   intro h;subst h;have hl10 : 9 + 1 = (vrn n).length := by omega
   obtain ⟨b1, _⟩ := a2 hl10;rw [if_neg (by omega)] at a1;have : n / 128 ^ 9 ≤ 1 := by
    have : (128 : Nat) ^ 9 = 9223372036854775808 := by decide
    rw [this];omega
   omega
  have h0x : 0 < i → x ≠ 0 := by
   intro h;by_cases hi : i + 1 = (vrn n).length
   ·have := (a2 hi).2 h;have := (a2 hi).1;rw [if_neg (by omega)] at a1;omega
   ·rw [if_pos (by omega)] at a1;omega
  conv=>whnf
  refine ae (fun g4 => ?_) (fun g4 => ?_)
  ·have g4 : i = 9 := by have := beq_iff_eq.1 g4; omega
   conv=>whnf
   refine ae (fun g5 => ?_) (fun g5 => ?_)
   ·exfalso;have g5 := of_decide_eq_true g5;have := h9 g4;omega
   conv=>whnf
   refine ae (fun g6 => ?_) (fun g6 => ?_)
   ·have g6 := of_decide_eq_true g6;conv=>whnf
    refine ae (fun g7 => ?_) (fun g7 => ?_)
    ·exfalso;have g7 := beq_iff_eq.1 g7;have := h0x (by omega);omega
    conv=>whnf
    refine ac (decide_eq_true (by rw [e7]; omega)) ?_;conv=>whnf
    refine ae (fun g8 => ?_) (fun g8 => ?_)
    ·have g8 := of_decide_eq_true g8;have hfin : i + 1 = (vrn n).length := by
      by_cases hh : i + 1 < (vrn n).length
      ·rw [if_pos hh] at a1; omega
      ·omega
     have hnn : n % 128 ^ (i + 1) = n := by
      refine Nat.mod_eq_of_lt ?_;have := (a2 hfin).1;have h2 := (Nat.div_lt_iff_lt_mul (Nat.pow_pos (show 0 < 128 by omega))).1 this;rw [Nat.pow_succ, Nat.mul_comm];exact h2
     conv=>whnf
     rw [vor hn (by omega) hb (by rw [a1]; split <;> omega), hnn, e1, aK (by omega) (by omega), show ((p.length + i : Nat) : Int) + 1 = ((p.length + (vrn n).length : Nat) : Int) by omega];exact h
    ·have g8 := of_decide_eq_false g8;have hfin : i + 1 < (vrn n).length := by
      by_cases hh : i + 1 < (vrn n).length
      ·exact hh
      ·rw [if_neg hh] at a1; omega
     have hnx := IH (i + 1) hfin (by omega);conv=>whnf
     rw [vor hn (by omega) hb (by rw [a1]; split <;> omega), aK (by omega) (by omega), show (i : Int) + 1 = ((i + 1 : Nat) : Int) by omega];exact hnx
   ·conv=>whnf
    refine ac (decide_eq_true (by rw [e7]; omega)) ?_;conv=>whnf
    refine ae (fun g8 => ?_) (fun g8 => ?_)
    ·have g8 := of_decide_eq_true g8;have hfin : i + 1 = (vrn n).length := by
      by_cases hh : i + 1 < (vrn n).length
      ·rw [if_pos hh] at a1; omega
      ·omega
     have hnn : n % 128 ^ (i + 1) = n := by
      refine Nat.mod_eq_of_lt ?_;have := (a2 hfin).1;have h2 := (Nat.div_lt_iff_lt_mul (Nat.pow_pos (show 0 < 128 by omega))).1 this;rw [Nat.pow_succ, Nat.mul_comm];exact h2
     conv=>whnf
     rw [vor hn (by omega) hb (by rw [a1]; split <;> omega), hnn, e1, aK (by omega) (by omega), show ((p.length + i : Nat) : Int) + 1 = ((p.length + (vrn n).length : Nat) : Int) by omega];exact h
    ·have g8 := of_decide_eq_false g8;have hfin : i + 1 < (vrn n).length := by
      by_cases hh : i + 1 < (vrn n).length
      ·exact hh
      ·rw [if_neg hh] at a1; omega
     have hnx := IH (i + 1) hfin (by omega);conv=>whnf
     rw [vor hn (by omega) hb (by rw [a1]; split <;> omega), aK (by omega) (by omega), show (i : Int) + 1 = ((i + 1 : Nat) : Int) by omega];exact hnx
  ·conv=>whnf
   refine ae (fun g6 => ?_) (fun g6 => ?_)
   ·have g6 := of_decide_eq_true g6;conv=>whnf
    refine ae (fun g7 => ?_) (fun g7 => ?_)
    ·exfalso;have g7 := beq_iff_eq.1 g7;have := h0x (by omega);omega
    conv=>whnf
    refine ac (decide_eq_true (by rw [e7]; omega)) ?_;conv=>whnf
    refine ae (fun g8 => ?_) (fun g8 => ?_)
    ·have g8 := of_decide_eq_true g8;have hfin : i + 1 = (vrn n).length := by
      by_cases hh : i + 1 < (vrn n).length
      ·rw [if_pos hh] at a1; omega
      ·omega
     have hnn : n % 128 ^ (i + 1) = n := by
      refine Nat.mod_eq_of_lt ?_;have := (a2 hfin).1;have h2 := (Nat.div_lt_iff_lt_mul (Nat.pow_pos (show 0 < 128 by omega))).1 this;rw [Nat.pow_succ, Nat.mul_comm];exact h2
     conv=>whnf
     rw [vor hn (by omega) hb (by rw [a1]; split <;> omega), hnn, e1, aK (by omega) (by omega), show ((p.length + i : Nat) : Int) + 1 = ((p.length + (vrn n).length : Nat) : Int) by omega];exact h
    ·have g8 := of_decide_eq_false g8;have hfin : i + 1 < (vrn n).length := by
      by_cases hh : i + 1 < (vrn n).length
      ·exact hh
      ·rw [if_neg hh] at a1; omega
     have hnx := IH (i + 1) hfin (by omega);conv=>whnf
     rw [vor hn (by omega) hb (by rw [a1]; split <;> omega), aK (by omega) (by omega), show (i : Int) + 1 = ((i + 1 : Nat) : Int) by omega];exact hnx
   ·conv=>whnf
    refine ac (decide_eq_true (by rw [e7]; omega)) ?_;conv=>whnf
    refine ae (fun g8 => ?_) (fun g8 => ?_)
    ·have g8 := of_decide_eq_true g8;have hfin : i + 1 = (vrn n).length := by
      by_cases hh : i + 1 < (vrn n).length
      ·rw [if_pos hh] at a1; omega
      ·omega
     have hnn : n % 128 ^ (i + 1) = n := by
      refine Nat.mod_eq_of_lt ?_;have := (a2 hfin).1;have h2 := (Nat.div_lt_iff_lt_mul (Nat.pow_pos (show 0 < 128 by omega))).1 this;rw [Nat.pow_succ, Nat.mul_comm];exact h2
     conv=>whnf
     rw [vor hn (by omega) hb (by rw [a1]; split <;> omega), hnn, e1, aK (by omega) (by omega), show ((p.length + i : Nat) : Int) + 1 = ((p.length + (vrn n).length : Nat) : Int) by omega];exact h
    ·have g8 := of_decide_eq_false g8;have hfin : i + 1 < (vrn n).length := by
      by_cases hh : i + 1 < (vrn n).length
      ·exact hh
      ·rw [if_neg hh] at a1; omega
     have hnx := IH (i + 1) hfin (by omega);conv=>whnf
     rw [vor hn (by omega) hb (by rw [a1]; split <;> omega), aK (by omega) (by omega), show (i : Int) + 1 = ((i + 1 : Nat) : Int) by omega];exact hnx
 ·exfalso;have g2 := of_decide_eq_false g2;omega
end Go.Abs
end
section
namespace Go.Abs
open Go Go.Proofs Go.RowKit Go.Lib
attribute [local irreducible] aH aE aO firstIdx
abbrev JQ : AV := .val (.slice none 0 0)
theorem FL (n : Nat) (hn : n ≤ 1000000000) {R} (h0 : n = 0 → R JQ []) (h1 : 0 < n → R (.sl (some 0) 1 []) [.row 5 1 0]) : ag Tryz.prog 162 [JQ, vi n] [] R := by
 refine B1 fun G w vals hW hA => ?_;have hI := JX hW;simp only [aB, Rep] at hA;obtain ⟨_, _, rfl, rfl, _, _, rfl, rfl, rfl⟩ := hA;by_cases hz : n = 0
 ·subst hz;refine (Ic w).mono ?_;rintro e w' ⟨rfl, rfl⟩;exact ⟨_, JQ, [], G, rfl, h0 rfl, by simp only [Rep], hI, (by intro i o ho; cases ho), by simp [AV.names]⟩
 ·refine (J2 n (by omega) hn w).mono ?_;rintro e w' ⟨rfl, cur, rfl, hcs⟩;have hge := grownCap_ge w n 0 5;have hgm := grownCap_le_maxLen w n 0 5 (by unfold maxLen; omega);have hKn : ∀ o, G.K w.heap.size o = none := fun o => by
   cases e : G.K w.heap.size o with
   | none => rfl
   | some v => have := hI.wr.kltb e; omega
  have hhp : (w.drew.alloc (.cells cur 5)).heap[w.heap.size]? = some (.cells cur 5 (0, 0)) := heap_alloc_new w.drew _;obtain ⟨hI', hle⟩ := hI.newObj (w' := w.drew.alloc (.cells cur 5)) (n := 0) (o := .row 5 1 0) (objs' := bE 0 [.row 5 1 0]) (g := .rowv (.slice (some ⟨w.heap.size, 0, none⟩) 0 (grownCap w n 0 5)) 0) (K' := G.K)
   rfl rfl rfl (by simp) (fun b hb => heap_alloc_old w.drew _ hb) (fun _ _ _ => rfl) (fun b o v hb ev => by have := hI.wr.kltb ev; omega) rfl
   (fun m => by rw [bX]; cases m <;> simp [bE, az])
   (by
    refine ⟨_, [], by simp [aN], ⟨by simp, .inr ⟨w.heap.size, _, cur, rfl, Nat.zero_le _, hhp, Nat.zero_le _, hgm, by rw [hcs]; simp, by simp⟩⟩, fun g hg o => ?_⟩;have : g = w.heap.size := by simpa [Value.ownBlock] using hg.symm
    subst this;simpa using hKn o)
   (fun b hb => by
    rcases hb with hb | ⟨u, t, hb, hub⟩
    ·simp [aN] at hb
    ·simp only [aN, if_true, Option.some.injEq, GO.rowv.injEq] at hb;obtain ⟨rfl, rfl⟩ := hb;have : b = w.heap.size := by simpa [Value.ownBlock] using hub.symm
     omega)
  refine ⟨_, .sl (some 0) 1 [], [.row 5 1 0], _, rfl, h1 (by omega), ?_, hI', ?_, ?_⟩
  ·simp only [Rep];exact ⟨⟨_, _, rfl, by simp, trivial⟩, _, 0, by simp [aN], by simp, fun _ => rfl⟩
  ·intro i o ho m hm
   cases i with
   | zero => cases ho; simp [ck] at hm
   | succ i => simp at ho
  ·intro m hm;simp [AV.names] at hm;subst hm; decide
theorem ln (p q : B) (hp : p.length < 100000000) (hq : q.length < 100000000) {R} (h : R (.sl none 1 (ai (p ++ q))) []) : ag Tryz.prog 120 [.sl none 1 [[.sl none 1 (ai p)], [.sl none 1 (ai q)]]] [] R := by
 refine ag.res ?_;refine ab (an := SS) tab_ok Tryz.func120 ?_;have h1 := aM p;have h2 := aM q;conv=>whnf
 have e1 : IntKind.i64.wrap (0 + ((ai p).length : Int)) = (p.length : Int) := by rw [h1, aK (by omega) (by omega)]; omega
 have e2 : IntKind.i64.wrap ((p.length : Int) + ((ai q).length : Int)) = ((p.length + q.length : Nat) : Int) := by rw [h2, aK (by omega) (by omega)]; omega
 refine au.step ?_;conv=>whnf
 refine ae (fun g => ?_) (fun _ => ?_)
 ·rw [e1] at g;have g := of_decide_eq_true g;omega
 rw [e1];conv=>whnf
 refine au.step ?_;conv=>whnf
 refine ae (fun g => ?_) (fun _ => ?_)
 ·rw [e2] at g;have g := of_decide_eq_true g;omega
 rw [e2];conv=>whnf
 refine au.step ?_;conv=>whnf
 refine FL (p.length + q.length) (by omega) (fun hz => ?_) (fun hz => ?_)
 ·have ep : p = [] := List.eq_nil_of_length_eq_zero (by omega);have eq : q = [] := List.eq_nil_of_length_eq_zero (by omega);subst ep eq;conv=>whnf
  refine au.step ?_;conv=>whnf
  refine ⟨by rw [h1, dg]; simp, ?_⟩;conv=>whnf
  refine au.step ?_;conv=>whnf
  refine ⟨rfl, by rw [h1, dg]; simp, ?_⟩;conv=>whnf
  refine au.step ?_;conv=>whnf
  exact bB h
 ·conv=>whnf
  refine au.step ?_;conv=>whnf
  refine ⟨rfl, by rw [h1, dg]; simp; omega, ?_⟩;conv=>whnf
  refine au.step ?_;conv=>whnf
  refine ⟨by simp, by rw [h2, dg]; simp [h1]; omega, ?_⟩;conv=>whnf
  refine au.step ?_;conv=>whnf
  rw [fX] at h;exact bB h
end Go.Abs
end
section
namespace Go.Abs
open Go Go.Proofs
attribute [local irreducible] aH aE aO firstIdx
namespace Crc
abbrev W := BitVec 32
def poly : W := 0xedb88320#32
def s0 (c : W) : W := (c >>> 1) ^^^ (if c.getLsbD 0 then poly else 0#32)
def four (c : W) : W := s0 (s0 (s0 (s0 c)))
def half (c : W) (n : W) : W := (c >>> 4) ^^^ four ((c ^^^ n) &&& 15#32)
def ofByte (x : UInt8) : W := BitVec.ofNat 32 x.toNat
def byte (c : W) (x : UInt8) : W := half (half c (ofByte x)) (ofByte x >>> 4)
def run (c : W) (l : B) : W := l.foldl byte c
def sum (l : B) : W := ~~~ run 0xffffffff#32 l
def bitS (c : W) (b : Bool) : W := (c >>> 1) ^^^ (if c.getLsbD 0 != b then poly else 0#32)
def bits (c : W) (x : UInt8) : Nat → W
 | 0 => c
 | k + 1 => bitS (bits c x k) ((ofByte x).getLsbD k)
theorem run_append (c : W) (l m : B) : run c (l ++ m) = run (run c l) m := List.foldl_append
end Crc
open Crc
def wv (x : Crc.W) : AV := .val (.int .u32 x.toNat)
theorem uJ (x : Crc.W) : BitVec.ofInt IntKind.u32.bits (x.toNat : Int) = x := by
 show BitVec.ofInt 32 (x.toNat : Int) = x;simp
theorem lG {x : Int} (h0 : 0 ≤ x) (h1 : x < 4294967296) : IntKind.u32.wrap x = x := by
 show x % 4294967296 = x;omega
theorem Bg (x y : Crc.W) : aH .xor .u32 (x.toNat : Int) (y.toNat : Int) = ((x ^^^ y).toNat : Int) := by
 simp only [aH];rw [uJ, uJ];exact lG (Int.natCast_nonneg _) (show (((x ^^^ y : BitVec 32).toNat : Nat) : Int) < ((4294967296 : Nat) : Int) from Int.ofNat_lt.2 (x ^^^ y : BitVec 32).isLt)
theorem MY (x y : Crc.W) : aH .and .u32 (x.toNat : Int) (y.toNat : Int) = ((x &&& y).toNat : Int) := by
 simp only [aH];rw [uJ, uJ];exact lG (Int.natCast_nonneg _) (show (((x &&& y : BitVec 32).toNat : Nat) : Int) < ((4294967296 : Nat) : Int) from Int.ofNat_lt.2 (x &&& y : BitVec 32).isLt)
theorem MX (x : Crc.W) (k : Nat) (hk : k ≤ 32) : ((x.toNat : Int)).fdiv (2 ^ min ((k : Int)).toNat IntKind.u32.bits) = ((x >>> k).toNat : Int) := by
 have : min ((k : Int)).toNat IntKind.u32.bits = k := by
  show min ((k : Int)).toNat 32 = k;simp; omega
 rw [this, BitVec.toNat_ushiftRight, Nat.shiftRight_eq_div_pow, Int.fdiv_eq_ediv_of_nonneg _ (by exact Int.le_of_lt (Int.pow_pos (by omega)))];simp
theorem Mf (c : Crc.W) : c &&& 1#32 = if c.getLsbD 0 then 1#32 else 0#32 := by
 apply BitVec.eq_of_getLsbD_eq;intro i hi;rw [BitVec.getLsbD_and]
 cases h : c.getLsbD 0 with
 | true =>
  by_cases e : i = 0
  ·subst e; simp [h]
  ·simp [BitVec.getLsbD_one, e]
 | false =>
  by_cases e : i = 0
  ·subst e; rw [h]; rfl
  ·simp [BitVec.getLsbD_one, e]
theorem LT (c : Crc.W) : aH .xor .u32 ((c.toNat : Int).fdiv (2 ^ min ((1 : Nat) : Int).toNat IntKind.u32.bits)) (IntKind.u32.wrap (3988292384 * aH .and .u32 (c.toNat : Int) 1)) = ((Crc.s0 c).toNat : Int) := by
 rw [MX c 1 (by omega), show (1 : Int) = ((1#32 : Crc.W).toNat : Int) from rfl, MY, Mf];have : IntKind.u32.wrap (3988292384 * ((if c.getLsbD 0 then 1#32 else 0#32 : Crc.W).toNat : Int)) = ((if c.getLsbD 0 then Crc.poly else 0#32 : Crc.W).toNat : Int) := by
  cases c.getLsbD 0 <;> rfl
 rw [this, Bg];rfl
def s0n (c : Crc.W) : Nat → Crc.W
 | 0 => c
 | k + 1 => Crc.s0 (s0n c k)
theorem c8 (c : Crc.W) {X : AV} (hX : X = wv c) {R} (h : R (wv (Crc.four c)) []) : ag Tryz.prog 265 [X] [] R := by
 subst hX;refine ab (an := Re) tab_ok Tryz.func265 ?_;conv=>whnf
 refine au.ind2 (fun (i : Nat) (x : Crc.W) => [(0, wv x), (4, vi i)]) (fun i x => []) (fun i _ => 4 - i) (fun i x => i ≤ 4 ∧ x = s0n c i) 0 c rfl ⟨by omega, rfl⟩ ?_;rintro i x ⟨h0, hx⟩ IH;conv=>whnf
 refine ae (fun hc => ?_) (fun hc => ?_)
 ·have hc : i < 4 := by simp at hc; omega
  conv=>whnf
  have e := LT x;simp only [wv] at IH;rw [al (by omega)];have := IH (i + 1) (Crc.s0 x) ⟨by omega, by rw [hx]; rfl⟩ (by omega);rw [← e] at this;exact this
 ·have hc : i = 4 := by simp at hc; omega
  subst hc;conv=>whnf
  rw [hx];exact h
def Ix : List AV := (List.range 16).map fun i => wv (Crc.four (BitVec.ofNat 32 i))
theorem Am {R} (h : R (.agg Ix) []) : ag Tryz.prog 243 [] [] R := by
 refine ab (an := Rx) tab_ok Tryz.func243 ?_;conv=>whnf
 refine au.step ?_;conv=>whnf
 refine c8 0#32 rfl ?_;conv=>whnf
 refine au.step ?_;conv=>whnf
 refine c8 1#32 rfl ?_;conv=>whnf
 refine au.step ?_;conv=>whnf
 refine c8 2#32 rfl ?_;conv=>whnf
 refine au.step ?_;conv=>whnf
 refine c8 3#32 rfl ?_;conv=>whnf
 refine au.step ?_;conv=>whnf
 refine c8 4#32 rfl ?_;conv=>whnf
 refine au.step ?_;conv=>whnf
 refine c8 5#32 rfl ?_;conv=>whnf
 refine au.step ?_;conv=>whnf
 refine c8 6#32 rfl ?_;conv=>whnf
 refine au.step ?_;conv=>whnf
 refine c8 7#32 rfl ?_;conv=>whnf
 refine au.step ?_;conv=>whnf
 refine c8 8#32 rfl ?_;conv=>whnf
 refine au.step ?_;conv=>whnf
 refine c8 9#32 rfl ?_;conv=>whnf
 refine au.step ?_;conv=>whnf
 refine c8 10#32 rfl ?_;conv=>whnf
 refine au.step ?_;conv=>whnf
 refine c8 11#32 rfl ?_;conv=>whnf
 refine au.step ?_;conv=>whnf
 refine c8 12#32 rfl ?_;conv=>whnf
 refine au.step ?_;conv=>whnf
 refine c8 13#32 rfl ?_;conv=>whnf
 refine au.step ?_;conv=>whnf
 refine c8 14#32 rfl ?_;conv=>whnf
 refine au.step ?_;conv=>whnf
 refine c8 15#32 rfl ?_;conv=>whnf
 refine au.step ?_;conv=>whnf
 exact h
theorem Gv {l : List AV} {n : Nat} {a : AV} {K : AV → Prop} (h : l[n]? = some a) (hk : pn a K) : (match pv l n with | a :: _ => pn a K | [] => False) := by
 rw [jQ];obtain ⟨hl, rfl⟩ := List.getElem?_eq_some_iff.1 h;rw [List.drop_eq_getElem_cons hl];exact hk
theorem GL (i : Crc.W) (h : i.toNat < 16) : Ix[i.toNat]? = some (wv (Crc.four i)) := by
 unfold Ix;rw [List.getElem?_map, List.getElem?_range h];simp
theorem NU (x : UInt8) : IntKind.u32.wrap ((x.toNat : Nat) : Int) = (((Crc.ofByte x).toNat : Nat) : Int) := by
 have := x.toNat_lt;rw [lG (Int.natCast_nonneg _) (by omega)];unfold Crc.ofByte;rw [BitVec.toNat_ofNat, Nat.mod_eq_of_lt (by omega)]
theorem Lw (x : UInt8) : IntKind.u32.wrap (((x.toNat : Nat) : Int).fdiv (2 ^ min (Int.toNat 4) IntKind.u8.bits)) = (((Crc.ofByte x >>> 4).toNat : Nat) : Int) := by
 have hx := x.toNat_lt;have e : ((x.toNat : Nat) : Int).fdiv (2 ^ min (Int.toNat 4) IntKind.u8.bits) = ((x.toNat / 16 : Nat) : Int) := by
  show ((x.toNat : Nat) : Int).fdiv (2 ^ 4) = _;rw [Int.fdiv_eq_ediv_of_nonneg _ (by decide)]; omega
 rw [e, lG (Int.natCast_nonneg _) (by omega), BitVec.toNat_ushiftRight, Nat.shiftRight_eq_div_pow];unfold Crc.ofByte;rw [BitVec.toNat_ofNat, Nat.mod_eq_of_lt (by omega)]
theorem Df (c : Crc.W) : (c &&& 15#32).toNat < 16 := by
 rw [BitVec.toNat_and];exact Nat.lt_of_le_of_lt Nat.and_le_right (by decide)
theorem yQ (c n : Crc.W) : aH .and .u32 (aH .xor .u32 (c.toNat : Int) (n.toNat : Int)) 15 = (((c ^^^ n) &&& 15#32).toNat : Int) := by
 rw [Bg, show (15 : Int) = ((15#32 : Crc.W).toNat : Int) from rfl, MY]
theorem Cm (c n : Crc.W) : aH .xor .u32 ((c.toNat : Int).fdiv (2 ^ min (Int.toNat 4) IntKind.u32.bits)) ((Crc.four ((c ^^^ n) &&& 15#32)).toNat : Int) = ((Crc.half c n).toNat : Int) := by
 have e : (c.toNat : Int).fdiv (2 ^ min (Int.toNat 4) IntKind.u32.bits) = ((c >>> 4).toNat : Int) := MX c 4 (by omega);rw [e, Bg]; rfl
theorem Lv (c : Crc.W) : aH .xor .u32 4294967295 (c.toNat : Int) = ((~~~ c).toNat : Int) := by
 rw [show (4294967295 : Int) = ((0xffffffff#32 : Crc.W).toNat : Int) from rfl, Bg];congr 2
theorem zn (b : B) (hb : b.length < 100000000) {R} (h : R (wv (Crc.sum b)) []) : ag Tryz.prog 202 [.sl none 1 [[.sl none 1 (ai b)]]] [] R := by
 refine ab (an := RX) tab_ok Tryz.func202 ?_;have hsl : (ai b).length = b.length := by simp [ai]
 conv=>whnf
 refine Am ?_;conv=>whnf
 refine au.step ?_;conv=>whnf
 refine au.ind2 (fun (i : Nat) (c : Crc.W) => [(4, wv c), (18, vi i)]) (fun i c => [(ak 3, .cells 326 Ix)]) (fun i _ => b.length - i) (fun i c => i ≤ b.length ∧ c = Crc.run 0xffffffff#32 (b.take i)) 0 0xffffffff#32 rfl ⟨by omega, rfl⟩ ?_;rintro i c ⟨h0, hc0⟩ IH;conv=>whnf
 refine ae (fun hc => ?_) (fun hc => ?_)
 ·have hc := ap hsl hc
  (conv=>whnf); (repeat ((with_reducible refine ac ?_ ?_); exact decide_eq_true (by omega); (conv=>whnf)))
  refine idxNat (by simpa using hc) ?_;have IH' := IH (i + 1) (Crc.byte c b[i]) ⟨by omega, by rw [List.take_succ_eq_append_getElem hc, Crc.run_append, hc0]; rfl⟩ (by omega);clear IH;generalize b[i] = x at IH' ⊢;conv=>whnf
  rw [NU, yQ];have hq := Df (c ^^^ Crc.ofByte x);have hT := GL _ hq;have he := Cm c (Crc.ofByte x);generalize (c ^^^ Crc.ofByte x) &&& 15#32 = q at hq hT he ⊢;refine ac (decide_eq_true (show ((q.toNat : Nat) : Int) < ((16 : Nat) : Int) by omega)) ?_;conv=>whnf
  refine Gv (a := wv (Crc.four q)) (by show Ix[0 + q.toNat * 1]? = _; rw [Nat.zero_add, Nat.mul_one]; exact hT) ?_;conv=>whnf
  rw [he, Lw, yQ];have hq := Df (Crc.half c (Crc.ofByte x) ^^^ (Crc.ofByte x >>> 4));have hT := GL _ hq;have he := Cm (Crc.half c (Crc.ofByte x)) (Crc.ofByte x >>> 4);generalize (Crc.half c (Crc.ofByte x) ^^^ (Crc.ofByte x >>> 4)) &&& 15#32 = q2 at hq hT he ⊢;refine ac (decide_eq_true (show ((q2.toNat : Nat) : Int) < ((16 : Nat) : Int) by omega)) ?_;conv=>whnf
  refine Gv (a := wv (Crc.four q2)) (by show Ix[0 + q2.toNat * 1]? = _; rw [Nat.zero_add, Nat.mul_one]; exact hT) ?_;conv=>whnf
  rw [he, al (by omega)];exact IH'
 ·have hc := aw hsl hc;rw [List.take_of_length_le hc] at hc0;conv=>whnf
  refine au.step ?_;conv=>whnf
  have e : aH .xor .u32 (match IntKind.u32.signed with | true => -1 | false => IntKind.u32.max) (c.toNat : Int) = ((Crc.sum b).toNat : Int) := by
   rw [Crc.sum, ← hc0]; exact Lv c
  refine Eq.mp ?_ h;rw [wv, ← e];rfl
def gL (b : B) : B := b ++ w4 (Crc.sum b).toNat
theorem rD (b : B) (hb : b.length < 10000000) {R} (h : R (.sl none 1 (ai (gL b))) []) : ag Tryz.prog 155 [.sl none 1 (ai b)] [] R := by
 refine ab (an := So) tab_ok Tryz.func155 ?_;have hw := dI (Crc.sum b).toNat;conv=>whnf
 refine zn b (by omega) ?_;conv=>whnf
 refine Du (Crc.sum b).toNat (Crc.sum b).isLt ?_;conv=>whnf
 refine ln b (w4 (Crc.sum b).toNat) (by omega) (by omega) ?_;conv=>whnf
 exact h
def bq (p : B) : B := gL (ba p)
theorem d8 (b p : B) (hb : b.length < 10000000) (h1 : 1 ≤ p.length) (h2 : p.length ≤ 2048) {R} (h : R (.tup [.sl none 1 (ai (b ++ bq p)), vi 0]) []) : ag Tryz.prog 118 [.sl none 1 (ai b), .sl none 1 (ai p)] [] R := by
 refine ab (an := SU) tab_ok Tryz.func118 ?_;have hpl := aM p;have hv := cv (n := p.length) (by omega);have hbp : (ba p).length = (vrn p.length).length + p.length := by simp [ba]
 have hfp : (bq p).length = (ba p).length + 4 := by simp [bq, gL, dI]
 have hst : ∃ ns : List Int, ai p = ns.map (fun n => [AV.val (.int .u8 n)]) ∧ strOfNums ns = ofB p := ⟨p.map fun c => (c.toNat : Int), by simp [ai], fV p⟩;obtain ⟨ns, n1, n2⟩ := hst;conv=>whnf
 refine ae (fun g => ?_) (fun g => ?_)
 ·exfalso;have g := of_decide_eq_true g;rw [hpl] at g;omega
 conv=>whnf
 refine ae (fun g => ?_) (fun g => ?_)
 ·exfalso;have g := of_decide_eq_true g;rw [hpl] at g;omega
 conv=>whnf
 refine ⟨ns, n1, ?_⟩;rw [n2];conv=>whnf
 refine ag.args (leL.cons (cy 1) (leL.refl _)) (wY [] p (by simp) (by omega) ?_);conv=>whnf
 refine rD ([] ++ ba p) (by simp; omega) ?_;conv=>whnf
 refine ln b (gL ([] ++ ba p)) (by omega) (by rw [List.nil_append]; change (bq p).length < _; omega) ?_;conv=>whnf
 exact h
theorem Qa {n i : Nat} (hi : i < 4) : ((w4 n)[i]?).map (·.toNat) = some (n / 256 ^ i % 256) := by
 have h : ∀ m : Nat, (UInt8.ofNat (m % 256)).toNat = m % 256 := fun m => sQ (Nat.mod_lt _ (by omega));have : i = 0 ∨ i = 1 ∨ i = 2 ∨ i = 3 := by omega
 rcases this with rfl | rfl | rfl | rfl <;> simp [w4]
theorem TL {c d : Nat} (hc : c < 16777216) (hd : d < 256) : aH .or .u32 (IntKind.u32.wrap ((c : Int) * 2 ^ min (Int.toNat 8) IntKind.u32.bits)) (IntKind.u32.wrap (d : Int)) = ((256 * c + d : Nat) : Int) := by
 have e1 : IntKind.u32.wrap ((c : Int) * 2 ^ min (Int.toNat 8) IntKind.u32.bits) = ((256 * c : Nat) : Int) := by
  show ((c : Int) * 2 ^ 8) % 4294967296 = _;omega
 have e2 : IntKind.u32.wrap (d : Int) = (d : Int) := by
  show (d : Int) % 4294967296 = _;omega
 rw [e1, e2];unfold aH;show IntKind.u32.wrap (((BitVec.ofInt 32 ((256 * c : Nat) : Int) ||| BitVec.ofInt 32 (d : Int)).toNat : Nat) : Int) = _;rw [BitVec.toNat_or];have h1 : (BitVec.ofInt 32 ((256 * c : Nat) : Int)).toNat = 256 * c := by rw [BitVec.toNat_ofInt]; omega
 have h2 : (BitVec.ofInt 32 (d : Int)).toNat = d := by rw [BitVec.toNat_ofInt]; omega
 have h3 := Nat.two_pow_add_eq_or_of_lt (i := 8) (b := d) (by omega) c;rw [h1, h2, show 256 * c = 2 ^ 8 * c from rfl, ← h3];show ((2 ^ 8 * c + d : Nat) : Int) % 4294967296 = _;omega
theorem C7 (p q : B) (n : Nat) (hn : n < 4294967296) (hl : p.length + q.length < 100000000) {R} (h : R (.tup [.val (.int .u32 (n : Int)), .val (.bool true)]) []) : ag Tryz.prog 211 [.sl none 1 (ai (p ++ w4 n ++ q)), vi (p.length : Int)] [] R := by
 refine ab (an := RQ) tab_ok Tryz.func211 ?_;have hbl : (ai (p ++ w4 n ++ q)).length = p.length + 4 + q.length := by simp [ai, dI]; omega
 have ew : IntKind.i64.wrap (((ai (p ++ w4 n ++ q)).length : Int) - (p.length : Int)) = ((4 + q.length : Nat) : Int) := by rw [hbl, aK (by omega) (by omega)]; omega
 conv=>whnf
 refine ae (fun g => ?_) (fun g => ?_)
 ·exfalso;have g := of_decide_eq_true g;rw [hbl] at g;omega
 conv=>whnf
 refine ae (fun g => ?_) (fun g => ?_)
 ·exfalso;have g := of_decide_eq_true g;rw [ew] at g;omega
 conv=>whnf
 refine au.ind1 (fun (j : Nat) => [(6, .val (.int .u32 ((n / 256 ^ j : Nat) : Int))), (7, vi ((j : Int) - 1))]) (fun _ => []) (fun j => j) (fun j => j ≤ 4) 4 (by rw [show n / 256 ^ 4 = 0 from Nat.div_eq_of_lt (by omega)]; rfl) (by omega) ?_;rintro j h0 IH;conv=>whnf
 refine ae (fun g2 => ?_) (fun g2 => ?_)
 ·have g2 := of_decide_eq_true g2;obtain ⟨k, rfl⟩ : ∃ k, j = k + 1 := ⟨j - 1, by omega⟩;have hnx := IH k (by omega) (by omega);have ek : ((k + 1 : Nat) : Int) - 1 = (k : Int) := by omega
  have e1 : IntKind.i64.wrap ((p.length : Int) + (((k + 1 : Nat) : Int) - 1)) = ((p.length + k : Nat) : Int) := by rw [ek, aK (by omega) (by omega)]; omega
  have e2 : IntKind.i64.wrap (((k + 1 : Nat) : Int) - 1 - 1) = (k : Int) - 1 := by rw [ek, aK (by omega) (by omega)]
  obtain ⟨c, hc, hcn⟩ := Option.map_eq_some_iff.1 (Qa (n := n) (i := k) (by omega));have hget : (ai (p ++ w4 n ++ q))[p.length + k]? = some [.val (.int .u8 ((n / 256 ^ k % 256 : Nat) : Int))] := by
   unfold ai;rw [List.getElem?_map, List.append_assoc, List.getElem?_append_right (by omega), Nat.add_sub_cancel_left, List.getElem?_append_left (by rw [dI]; omega), hc, ← hcn];rfl
  have hd1 : n / 256 ^ (k + 1) = n / 256 ^ k / 256 := by rw [Nat.pow_succ, Nat.div_div_eq_div_mul]
  have hle : n / 256 ^ k ≤ n := Nat.div_le_self _ _;have hsum : 256 * (n / 256 ^ (k + 1)) + n / 256 ^ k % 256 = n / 256 ^ k := by rw [hd1]; omega
  have hor := TL (c := n / 256 ^ (k + 1)) (d := n / 256 ^ k % 256) (by rw [hd1]; omega) (Nat.mod_lt _ (by omega));rw [hsum] at hor;conv=>whnf
  refine ac (decide_eq_true (by rw [e1]; omega)) ?_;rw [e1];refine gN.2 ⟨_, hget, ?_⟩;conv=>whnf
  rw [hor, e2];exact hnx
 ·have g2 := of_decide_eq_false g2;have hj : j = 0 := by omega
  subst hj;rw [Nat.pow_zero, Nat.div_one];conv=>whnf
  exact h
theorem mh (p q : B) (hl : p.length + q.length < 9000000) {R} (h : R (.val (.bool true)) []) : ag Tryz.prog 163 [.sl none 1 (ai (gL p ++ q)), vi (p.length : Int)] [] R := by
 refine ab (an := Sl) tab_ok Tryz.func163 ?_;have hw := dI (Crc.sum p).toNat;have hbl : (ai (gL p ++ q)).length = p.length + 4 + q.length := by simp [ai, gL, dI]; omega
 conv=>whnf
 refine C7 p q (Crc.sum p).toNat (Crc.sum p).isLt (by omega) ?_;conv=>whnf
 refine ac (decide_eq_true (by omega)) ?_;conv=>whnf
 have et : List.take p.length (ai (gL p ++ q)) = ai p := by
  rw [gL, List.append_assoc, fX, List.take_append_of_le_length (by rw [aM]; exact Nat.le_refl _)];exact List.take_of_length_le (by rw [aM]; exact Nat.le_refl _)
 refine (show ag Tryz.prog 202 [.sl none 1 [[.sl none 1 (List.take p.length (ai (gL p ++ q)))]]] [] _ from ?_);rw [et];refine zn p (by omega) ?_;have hb : ((((Crc.sum p).toNat : Nat) : Int) == (((Crc.sum p).toNat : Nat) : Int)) = true := beq_self_eq_true _;conv=>whnf
 rw [hb];exact h
theorem gV (p : B) : ∃ ns : List Int, ai p = ns.map (fun n => [AV.val (.int .u8 n)]) ∧ strOfNums ns = ofB p := ⟨p.map fun c => (c.toNat : Int), by simp [ai], fV p⟩
theorem q9 (p q s : B) (most : Nat) (hs : s.length ≤ most) (hm : most < 10000000) (hl : p.length + q.length < 50000000) {R} (h : R (.tup [vs s, vi ((p.length + (ba s).length : Nat) : Int), vi 0]) []) :
  ag Tryz.prog 246 [.sl none 1 (ai (p ++ ba s ++ q)), vi (p.length : Int), vi (most : Int)] [] R := by
 refine ab (an := Nx) tab_ok Tryz.func246 ?_;have eb : p ++ ba s ++ q = p ++ vrn s.length ++ (s ++ q) := by simp [ba]
 have hv := cv (n := s.length) (by omega);have hbs : (ba s).length = (vrn s.length).length + s.length := by simp [ba]
 rw [eb];have hbl : (ai (p ++ vrn s.length ++ (s ++ q))).length = p.length + (vrn s.length).length + s.length + q.length := by simp [ai]; omega
 have em : IntKind.u64.wrap (if (most : Int) < 0 then 0 else (most : Int)) = (most : Int) := by
  rw [if_neg (by omega)];show (most : Int) % 18446744073709551616 = _;omega
 have el : IntKind.u64.wrap (IntKind.i64.wrap (((ai (p ++ vrn s.length ++ (s ++ q))).length : Int) - ((p.length + (vrn s.length).length : Nat) : Int))) = ((s.length + q.length : Nat) : Int) := by
  rw [hbl, aK (by omega) (by omega)];show _ % 18446744073709551616 = _;omega
 have en : IntKind.i64.wrap (((p.length + (vrn s.length).length : Nat) : Int) + IntKind.i64.wrap (s.length : Int)) = ((p.length + (ba s).length : Nat) : Int) := by
  rw [aK (x := (s.length : Int)) (by omega) (by omega), aK (by omega) (by omega), hbs];omega
 obtain ⟨ns, n1, n2⟩ := gV s;conv=>whnf
 refine qt p (s ++ q) s.length (by omega) (by simp; omega) ?_;conv=>whnf
 refine ae (fun g => ?_) (fun g => ?_)
 ·exfalso;rw [em] at g;have g := of_decide_eq_true g;omega
 conv=>whnf
 refine ae (fun g => ?_) (fun g => ?_)
 ·exfalso;rw [el] at g;have g := of_decide_eq_true g;omega
 conv=>whnf
 refine ac (decide_eq_true (by rw [en, hbs]; omega)) ?_;conv=>whnf
 refine ac (decide_eq_true (by rw [en, hbl, hbs]; omega)) ?_;conv=>whnf
 have et : List.drop (((p.length + (vrn s.length).length : Nat) : Int)).toNat (List.take (((p.length + (ba s).length : Nat) : Int)).toNat (ai (p ++ vrn s.length ++ (s ++ q)))) = ai s := by
  rw [Int.toNat_natCast, Int.toNat_natCast, fX (p ++ vrn s.length) (s ++ q), List.take_append, List.drop_append];have h1 : (ai (p ++ vrn s.length)).length = p.length + (vrn s.length).length := by simp [ai]
  have h2 : (ai s).length = s.length := aM s;rw [List.take_of_length_le (by rw [h1, hbs]; omega), List.drop_of_length_le (by rw [h1]; exact Nat.le_refl _), h1, hbs];rw [show p.length + ((vrn s.length).length + s.length) - (p.length + (vrn s.length).length) = s.length by omega, Nat.sub_self, List.drop_zero, List.nil_append];rw [fX s q, List.take_append_of_le_length (by rw [h2]; exact Nat.le_refl _)];exact List.take_of_length_le (by rw [h2]; exact Nat.le_refl _)
 refine ⟨ns, by rw [en, et]; exact n1, ?_⟩;rw [n2, en];conv=>whnf
 exact h
theorem EW (p q s : B) (h1 : 1 ≤ s.length) (h2 : s.length ≤ 2048) (hl : p.length + q.length < 4000000) {R} (h : R (.tup [.sl none 1 (ai s), vi ((p.length + (bq s).length : Nat) : Int), vi 0]) []) :
  ag Tryz.prog 213 [.sl none 1 (ai (p ++ bq s ++ q)), vi (p.length : Int)] [] R := by
 refine ab (an := K1) tab_ok Tryz.func213 ?_;have hv := cv (n := s.length) (by omega);have hbs : (ba s).length = (vrn s.length).length + s.length := by simp [ba]
 have hfs : (bq s).length = (ba s).length + 4 := by simp [bq, gL, dI]
 have eb : p ++ bq s ++ q = p ++ ba s ++ (w4 (Crc.sum (ba s)).toNat ++ q) := by simp [bq, gL]
 have hbl : (ai (p ++ bq s ++ q)).length = p.length + (ba s).length + 4 + q.length := by rw [aM]; simp [hfs]; omega
 have hne : decide (ofB s = ofB []) = false := decide_eq_false (fun e => by have := b9 e; rw [this] at h1; simp at h1);have e1 : IntKind.i64.wrap (((ai (p ++ bq s ++ q)).length : Int) - ((p.length + (ba s).length : Nat) : Int)) = ((4 + q.length : Nat) : Int) := by rw [hbl, aK (by omega) (by omega)]; omega
 have e2 : IntKind.i64.wrap (((p.length + (ba s).length : Nat) : Int) - (p.length : Int)) = (((ba s).length : Nat) : Int) := by rw [aK (by omega) (by omega)]; omega
 have e3 : IntKind.i64.wrap (((p.length + (ba s).length : Nat) : Int) + 4) = ((p.length + (bq s).length : Nat) : Int) := by rw [hfs, aK (by omega) (by omega)]; omega
 conv=>whnf
 refine ae (fun g => ?_) (fun g => ?_)
 ·exfalso;have g := beq_iff_eq.1 g;rw [hbl] at g;omega
 conv=>whnf
 refine (show ag Tryz.prog 246 [.sl none 1 (ai (p ++ bq s ++ q)), vi (p.length : Int), vi ((2048 : Nat) : Int)] [] _ from ?_);rw [eb];refine q9 p (w4 (Crc.sum (ba s)).toNat ++ q) s 2048 h2 (by omega) (by simp [dI]; omega) ?_;rw [← eb];conv=>whnf
 refine am hne ?_;conv=>whnf
 refine ae (fun g => ?_) (fun g => ?_)
 ·exfalso;rw [e1] at g;have g := of_decide_eq_true g;omega
 conv=>whnf
 refine ac (decide_eq_true (by rw [hbl]; omega)) ?_;conv=>whnf
 refine ac (decide_eq_true (by omega)) ?_;conv=>whnf
 have et : List.drop p.length (List.take (ai (p ++ bq s ++ q)).length (ai (p ++ bq s ++ q))) = ai (gL (ba s) ++ q) := by
  rw [List.take_length, List.append_assoc, fX, List.drop_append_of_le_length (by rw [aM]; exact Nat.le_refl _), List.drop_of_length_le (by rw [aM]; exact Nat.le_refl _)];rfl
 refine (show ag Tryz.prog 163 [.sl none 1 (List.drop p.length (List.take (ai (p ++ bq s ++ q)).length (ai (p ++ bq s ++ q)))), vi (IntKind.i64.wrap (((p.length + (ba s).length : Nat) : Int) - (p.length : Int)))] [] _ from ?_);rw [et, e2];refine mh (ba s) q (by omega) ?_;have hdat : (ofB s).data.toList = s := jZ s;conv=>whnf
 rw [hdat, e3];exact h
theorem xI (b : B) (hb : b.length < 10000000) {R} (h : R (.tup [.val (.slice none 0 0), vi 0, vi 6]) []) : ag Tryz.prog 213 [.sl none 1 (ai b), vi (b.length : Int)] [] R := by
 refine ab (an := K1) tab_ok Tryz.func213 ?_;have hbl := aM b;have he : (((b.length : Nat) : Int) == (((ai b).length : Nat) : Int)) = true := by rw [hbl]; exact beq_self_eq_true _
 conv=>whnf
 refine aI he ?_;conv=>whnf
 exact h
end Go.Abs
end
section
namespace Go.Abs
open Go Go.Proofs Go.RowKit
attribute [local go_sem] Oper.semAt_some
def ay (l : List B) : B := (l.map bq).flatten
def fw : Nat → List B → List Nat
 | _, [] => []
 | o, p :: l => (o + (bq p).length) :: fw (o + (bq p).length) l
def nZ (o : Nat) (l : List B) : List (List AV) := (l.zip (fw o l)).map fun q => [.sl none 1 (ai q.1), vi (q.2 : Int)]
theorem eX : ∀ (l : List B) (o : Nat), (fw o l).length = l.length := by
 intro l
 induction l with
 | nil => intro o; rfl
 | cons p l ih => intro o; simp [fw, ih]
theorem pm (o : Nat) (l : List B) : (nZ o l).length = l.length := by simp [nZ, eX]
theorem pu : ∀ (l : List B) (o i : Nat) (h : i < l.length), (fw o l)[i]? = some (o + (ay (l.take (i + 1))).length) := by
 intro l
 induction l with
 | nil => intro o i h; simp at h
 | cons p l ih =>
  intro o i h
  cases i with
  | zero => simp [fw, ay]
  | succ i =>
   simp only [fw, List.getElem?_cons_succ];rw [ih _ i (by simpa using h)];simp [ay];omega
theorem wt {o i : Nat} {l : List B} (h : i < l.length) : (nZ o l)[i]? = some [.sl none 1 (ai l[i]), vi ((o + (ay (l.take (i + 1))).length : Nat) : Int)] := by
 have hz : (l.zip (fw o l))[i]? = some (l[i], o + (ay (l.take (i + 1))).length) := List.getElem?_zip_eq_some.2 ⟨List.getElem?_eq_getElem h, pu l o i h⟩;unfold nZ;rw [List.getElem?_map, hz];rfl
theorem mU {l : List B} {i : Nat} (h : i < l.length) : ay l = ay (l.take i) ++ bq l[i] ++ ay (l.drop (i + 1)) := by
 have e : l.take i ++ (l[i] :: l.drop (i + 1)) = l := by rw [← List.drop_eq_getElem_cons h, List.take_append_drop]
 have e2 : ay (l.take i ++ (l[i] :: l.drop (i + 1))) = ay (l.take i) ++ bq l[i] ++ ay (l.drop (i + 1)) := by
  unfold ay;rw [List.map_append, List.map_cons, List.flatten_append, List.flatten_cons, List.append_assoc]
 rw [e] at e2;exact e2
theorem dF (l : List B) (p : B) : ay (l ++ [p]) = ay l ++ bq p := by
 unfold ay;rw [List.map_append, List.flatten_append];simp
theorem sb {l : List B} {i : Nat} (h : i < l.length) : (ay (l.take (i + 1))).length = (ay (l.take i)).length + (bq l[i]).length := by
 rw [List.take_succ_eq_append_getElem h, dF, List.length_append]
theorem ag.calm {P : Program} {f : FuncId} {args : List AV} {R : AV → List aF → Prop} (h : ag P f args [] R) {K : Nat → Nat → Option Value} {W : World} {vals : List Value} (hk : ∀ b o v, K b o = some v → W.cell? ⟨b, o, none⟩ = some v) (hg : rl K)
  (hv : aB ⟨K, fun _ => none⟩ args vals) {Own : Nat → Prop} (hO : ∀ b, Own b → b < W.heap.size) {A : Array Value} (hA : A = vals.toArray) (m : Nat) :
  CallsIn Fence.wide m P f A W fun e W' => ∃ (v : Value) (r : AV) (os' : List aF) (G' : Gh), e = .returned v ∧ R r os' ∧ Rep G' r v ∧ (∀ b o u, G'.K b o = some u → W'.cell? ⟨b, o, none⟩ = some u) ∧ xe Own K W Own G'.K W' ∧ ∀ b, b < W.heap.size → W'.heap[b]? = W.heap[b]? ∧ ∀ o, G'.K b o = K b o := by
 have hW : WR ⟨K, fun _ => none⟩ (bE 0 []) W := ⟨hk, fun n o e => (by cases e), fun n g e => (by cases e), fun n m b h1 h2 => (by rcases h1 with h1 | ⟨_, _, h1, _⟩ <;> cases h1), hg⟩;subst hA;refine (callsIn_wide.2 (h.run ⟨K, fun _ => none⟩ W vals hW hv)).mono ?_;rintro e W' ⟨v, r, os', G', rfl, hR, hRep, hWR, hle, hext, _, _, _⟩;have hnT : ∀ b, ¬ ∃ n, (⟨K, fun _ => none⟩ : Gh).at n b := fun b ⟨n, hn⟩ => by rcases hn with hn | ⟨_, _, hn, _⟩ <;> cases hn
 have hb : ∀ b, b < W.heap.size → W'.heap[b]? = W.heap[b]? ∧ ∀ o, G'.K b o = K b o := fun b hb => ⟨hext.block b hb (hnT b), fun o => hext.knew b o hb (hnT b)⟩;exact ⟨v, r, os', G', rfl, hR, hRep, hWR.know, ⟨hext.os, hext.tape, hext.output, hext.size, fun b h1 _ => (hb b h1).1, fun b h1 => .inl h1, hle.K, fun b o h1 _ => (hb b h1).2 o, hWR.know, fun b h1 => Nat.lt_of_lt_of_le (hO b h1) hext.size⟩, hb⟩
end Go.Abs
end
section
namespace Go.Abs
open Go Go.Proofs Dig
theorem Jj {l : List B} {s x : B} : x ∈ cQ l s ↔ x ∈ l ∨ x = s := by
 unfold cQ;split
 ·rename_i h;exact ⟨.inl, fun h1 => h1.elim id fun e => e ▸ h⟩
 ·simp
theorem DN {l : List B} (h : l.Nodup) (s : B) : (cQ l s).Nodup := by
 unfold cQ;split
 ·exact h
 ·rename_i h1;rw [List.nodup_append];exact ⟨h, by simp, fun a ha b hb => by simp at hb; subst hb; exact fun e => h1 (e ▸ ha)⟩
theorem xa : ∀ (m t : List B) {x : B}, x ∈ m.foldl cQ t ↔ x ∈ t ∨ x ∈ m := by
 intro m
 induction m with
 | nil => intro t x; simp
 | cons a m ih => intro t x; rw [List.foldl_cons, ih, Jj]; simp [or_assoc]
theorem sH : ∀ (m t : List B), t.Nodup → (m.foldl cQ t).Nodup := by
 intro m
 induction m with
 | nil => intro t h; exact h
 | cons a m ih => intro t h; exact ih _ (DN h a)
def cI : List B → List B → List B
 | _, [] => []
 | t, s :: l => if s ∈ t then cI t l else s :: cI (t ++ [s]) l
theorem Di : ∀ (m t : List B), m.foldl cQ t = t ++ cI t m := by
 intro m
 induction m with
 | nil => intro t; simp [cI]
 | cons a m ih =>
  intro t;rw [List.foldl_cons, ih, cI];unfold cQ;by_cases h : a ∈ t
  ·rw [if_pos h, if_pos h]
  ·rw [if_neg h, if_neg h]; simp
theorem kI : ∀ (m t : List B), (cI t m).foldl cQ t = m.foldl cQ t := by
 intro m
 induction m with
 | nil => intro t; rfl
 | cons a m ih =>
  intro t;rw [cI, List.foldl_cons];by_cases h : a ∈ t
  ·rw [if_pos h, ih, dQ h]
  ·rw [if_neg h, List.foldl_cons, dz h, ih]
theorem HK : ∀ (m t : List B), (t ++ m).Nodup → cI t m = m := by
 intro m
 induction m with
 | nil => intro t h; rfl
 | cons a m ih =>
  intro t h;have h1 : a ∉ t := fun e => by
   rw [List.nodup_append] at h;exact h.2.2 a e a (by simp) rfl
  rw [cI, if_neg h1, ih (t ++ [a]) (by rw [List.append_assoc]; exact h)]
theorem Ha {l : List B} (h : l.Nodup) : m6 l = l := by
 unfold m6;rw [Di, HK l [] (by simpa using h)];rfl
theorem ia {l : List B} {x : B} : x ∈ m6 l ↔ x ∈ l := by unfold m6; rw [xa]; simp
theorem vX : ∀ (m t : List B), ∀ x ∈ cI t m, x ∈ m := by
 intro m
 induction m with
 | nil => intro t x h; exact h
 | cons a m ih =>
  intro t x h;rw [cI] at h;split at h
  ·exact List.mem_cons_of_mem _ (ih _ _ h)
  ·rcases List.mem_cons.1 h with h | h
   ·rw [h]; exact List.mem_cons_self
   ·exact List.mem_cons_of_mem _ (ih _ _ h)
theorem lQ : ∀ (m t : List B), (cI t m).length ≤ m.length := by
 intro m
 induction m with
 | nil => intro t; exact Nat.le_refl _
 | cons a m ih =>
  intro t;rw [cI];split
  ·have := ih t; simp; omega
  ·have := ih (t ++ [a]); simp; omega
def da (v : Int) (t : List B) (s : B) : B := if v = 1 then ba s else vrn (t.idxOf s)
def eY (t : List B) (d : Dp) : Nat := 2 * t.idxOf d.name + (if d.order then 1 else 0)
def mg (v : Int) (t : List B) (d : Dp) : B := (if v < 3 then da v t d.name else vrn (eY t d)) ++ vrn d.hash.toNat
def bZ (v : Int) (t : List B) (l : List Dp) : B := (l.map (mg v t)).flatten
def kY (t : List B) (s : B) : B := vrn (if s = [] then 0 else t.idxOf s + 1)
def mf (v : Int) (t : List B) (r : Rc) : B := vrn r.out.toNat ++ ((if 2 ≤ v then vrn r.wen.toNat else []) ++ (if 3 ≤ v then kY t r.tag else []))
def bS (v : Int) (t : List B) (r : Rc) : B :=
 if r.kind = 2 then 2 :: da v t r.target
 else 1 :: (da v t r.target ++ vrn r.rule.toNat ++ vrn r.deps.length ++ bZ v t r.deps ++ mf v t r)
def bK (r : Rc) : List B := r.target :: (r.deps.map (·.name) ++ (if r.tag = [] then [] else [r.tag]))
def bg (r : Rc) : List B := m6 (bK r)
def bz (v : Int) (t : List B) (r : Rc) : List B := if v = 1 then t else (bg r).foldl cQ t
def bu (s : B) : B := 0 :: s
def fY (v : Int) (t : List B) (r : Rc) : List B := if v = 1 then [] else (cI t (bg r)).map bu
def bw (v : Int) (t : List B) (r : Rc) : List B := fY v t r ++ [bS v (bz v t r) r]
def aW (v : Int) : List B → List Rc → List B
 | _, [] => []
 | t, r :: l => bw v t r ++ aW v (bz v t r) l
def lI (v : Int) (t : List B) (l : List Rc) : List B := l.foldl (bz v) t
def iX (v : Int) : B := [84, 80, 72, UInt8.ofNat v.toNat]
def dL (v : Int) : B := gL (iX v)
def aC (v : Int) (l : List Rc) : B := dL v ++ ay (aW v [] l)
theorem eR (v : Int) : ∀ (l m : List Rc) (t : List B), aW v t (l ++ m) = aW v t l ++ aW v (lI v t l) m := by
 intro l
 induction l with
 | nil => intro m t; rfl
 | cons a l ih => intro m t; simp only [List.cons_append, aW, ih, List.append_assoc]; rfl
theorem dG (l m : List B) : ay (l ++ m) = ay l ++ ay m := by
 unfold ay;rw [List.map_append, List.flatten_append]
theorem nC (t : List B) (r : Rc) : bz 1 t r = t := by simp [bz]
theorem fK {v : Int} (h : v ≠ 1) (t : List B) (r : Rc) : bz v t r = (bg r).foldl cQ t := by simp [bz, h]
theorem Fz (v : Int) {t : List B} (h : t.Nodup) (r : Rc) : (bz v t r).Nodup := by
 unfold bz;split
 ·exact h
 ·exact sH _ _ h
theorem DP (v : Int) : ∀ (l : List Rc) {t : List B}, t.Nodup → (lI v t l).Nodup := by
 intro l
 induction l with
 | nil => intro t h; exact h
 | cons a l ih => intro t h; exact ih (Fz v h a)
theorem vb : ∀ (l : List Rc) (t : List B), lI 1 t l = t := by
 intro l
 induction l with
 | nil => intro t; rfl
 | cons a l ih => intro t; show lI 1 (bz 1 t a) l = t; rw [nC, ih]
theorem pQ (r : Rc) : bg r ≠ [] := by
 intro e;have : r.target ∈ bg r := ia.2 (by simp [bK]);rw [e] at this
 cases this
theorem co {v : Int} (h : v ≠ 1) (t : List B) (r : Rc) {x : B} (hx : x ∈ bK r) : x ∈ bz v t r := by
 rw [fK h, xa];exact .inr (ia.2 hx)
theorem lm {v : Int} (h : v ≠ 1) (t : List B) (r : Rc) : bz v t r ≠ [] := by
 intro e;have := co h t r (x := r.target) (by simp [bK]);rw [e] at this
 cases this
theorem Bq (l : List B) (s : B) : (cQ l s).length ≤ l.length + 1 := by
 unfold cQ;split <;> simp
theorem re : ∀ (m t : List B), (m.foldl cQ t).length ≤ t.length + m.length := by
 intro m
 induction m with
 | nil => intro t; simp
 | cons a m ih => intro t; have := ih (cQ t a); have := Bq t a; simp only [List.foldl_cons, List.length_cons]; omega
theorem qv (r : Rc) : (bK r).length ≤ r.deps.length + 2 := by
 unfold bK;split <;> simp
theorem dw (r : Rc) : (bg r).length ≤ r.deps.length + 2 := by
 have h1 := re (bK r) [];have h2 := qv r;unfold bg m6;simp only [List.length_nil] at h1;omega
theorem fB (v : Int) (t : List B) (r : Rc) : (bz v t r).length ≤ t.length + r.deps.length + 2 := by
 unfold bz;split
 ·omega
 ·have h1 := re (bg r) t;have h2 := dw r;omega
structure kW (v : Int) (r : Rc) : Prop where
 lo : 1 ≤ v
 hi : v ≤ 3
 t1 : 1 ≤ r.target.length
 t2 : r.target.length ≤ 64
 deps : r.deps.length ≤ 16
 tag : r.tag.length ≤ 64
 names : ∀ d ∈ r.deps, 1 ≤ d.name.length ∧ d.name.length ≤ 64
 kind : r.kind = 1 ∨ r = qf r
 wen : v = 1 → r.wen = 0
 tag3 : v < 3 → r.tag = []
 order : v < 3 → ∀ d ∈ r.deps, d.order = false
theorem Iu (v : Int) : ∀ (l : List Dp) (seen : List B), dO v l seen = true → ∀ d ∈ l, (1 ≤ d.name.length ∧ d.name.length ≤ 64) ∧ (v < 3 → d.order = false) := by
 intro l
 induction l with
 | nil => intro seen h d hd; cases hd
 | cons a l ih =>
  intro seen h d hd;simp only [dO, dj, Bool.and_eq_true, decide_eq_true_eq, Bool.not_eq_true', Bool.and_eq_false_iff, decide_eq_false_iff_not] at h;rcases List.mem_cons.1 hd with rfl | hd
  ·exact ⟨h.1, fun hv => h.2.2.1.elim id fun e => absurd hv e⟩
  ·exact ih _ h.2.2.2 d hd
theorem aQ {v : Int} {r : Rc} (h : aR v r = true) : kW v r := by
 unfold aR at h;split at h
 ·cases h
 ·rename_i h0;simp only [Bool.or_eq_true, decide_eq_true_eq, Bool.not_eq_true', not_or, dj, Bool.and_eq_false_iff, decide_eq_false_iff_not] at h0;obtain ⟨⟨h1, h2⟩, h3⟩ := h0;have hv1 : 1 ≤ v := by omega
  have hv2 : v ≤ 3 := by omega
  have ht1 : 1 ≤ r.target.length := by
   exact Classical.not_not.1 h3.1
  have ht2 : r.target.length ≤ 64 := by
   exact Classical.not_not.1 h3.2
  split at h
  ·rename_i hk;simp only [Bool.and_eq_true, Bool.not_eq_true', decide_eq_true_eq, pz, dU, Bool.or_eq_false_iff, Bool.and_eq_false_iff, decide_eq_false_iff_not] at h;obtain ⟨⟨e1, e2⟩, e3, e4, e5⟩ := h;have hd := Iu v _ _ e4;refine ⟨hv1, hv2, ht1, ht2, e5, e3, fun d hd' => (hd d hd').1, .inl hk, fun hv => ?_, fun hv => ?_, fun hv d hd' => (hd d hd').2 hv⟩
   ·refine Classical.byContradiction fun e => e1.elim (fun e' => e' (by omega)) fun e' => e' e
   ·refine Classical.byContradiction fun e => e2.elim (fun e' => e' hv) fun e' => e' e
  ·split at h
   ·have hg := of_decide_eq_true h;have q1 : r.deps = [] := by rw [hg]; rfl
    have q2 : r.tag = [] := by rw [hg]; rfl
    have q3 : r.wen = 0 := by rw [hg]; rfl
    exact ⟨hv1, hv2, ht1, ht2, (by rw [q1]; simp), (by rw [q2]; simp), (by rw [q1]; simp), .inr hg, fun _ => q3, fun _ => q2, (by rw [q1]; simp)⟩
   ·cases h
theorem fM {v : Int} {r : Rc} (h : kW v r) : ∀ s ∈ bK r, 1 ≤ s.length ∧ s.length ≤ 64 := by
 intro s hs;unfold bK at hs;rcases List.mem_cons.1 hs with rfl | hs
 ·exact ⟨h.t1, h.t2⟩
 rcases List.mem_append.1 hs with hs | hs
 ·obtain ⟨d, hd, rfl⟩ := List.mem_map.1 hs;exact h.names d hd
 ·split at hs
  ·cases hs
  ·rename_i e;rw [List.mem_singleton.1 hs];refine ⟨?_, h.tag⟩
   cases ht : r.tag with
   | nil => exact absurd ht e
   | cons a l => simp
theorem mi {n : Nat} (h : n < 128) : (vrn n).length = 1 := by rw [eu h]; rfl
theorem tz {s : B} (h : s.length ≤ 64) : (ba s).length ≤ 65 := by
 unfold ba;rw [List.length_append, mi (by omega)];omega
theorem f9 {v : Int} {t : List B} {s : B} (h : s.length ≤ 64) (ht : t.length < 1000000) : (da v t s).length ≤ 65 := by
 unfold da;split
 ·exact tz h
 ·have h1 := List.idxOf_le_length (a := s) (l := t);have := cv (n := t.idxOf s) (by omega);omega
theorem dp (x : U) : (vrn x.toNat).length ≤ 10 := cv (by have := x.isLt; omega)
theorem Kw {v : Int} {t : List B} {d : Dp} (h : d.name.length ≤ 64) (ht : t.length < 1000000) : (mg v t d).length ≤ 75 := by
 unfold mg;have h1 := dp d.hash;have h3 := List.idxOf_le_length (a := d.name) (l := t);have h4 : (vrn (eY t d)).length ≤ 10 := cv (by unfold eY; split <;> omega);rw [List.length_append];split
 ·have h2 := f9 (v := v) h ht;omega
 ·omega
theorem y3 {v : Int} {t : List B} (ht : t.length < 1000000) : ∀ {l : List Dp}, (∀ d ∈ l, d.name.length ≤ 64) → (bZ v t l).length ≤ 75 * l.length := by
 intro l
 induction l with
 | nil => intro h; simp [bZ]
 | cons a l ih =>
  intro h;have h1 := Kw (v := v) (t := t) (h a List.mem_cons_self) ht;have h2 := ih fun d hd => h d (List.mem_cons_of_mem _ hd);unfold bZ at h2 ⊢;rw [List.map_cons, List.flatten_cons, List.length_append, List.length_cons];omega
theorem Kn {v : Int} {t : List B} {r : Rc} (ht : t.length < 1000000) : (mf v t r).length ≤ 30 := by
 unfold mf;have h1 := dp r.out;have h2 := dp r.wen;have h3 : (kY t r.tag).length ≤ 10 := by
  unfold kY;have h3 := List.idxOf_le_length (a := r.tag) (l := t);exact cv (by split <;> omega)
 rw [List.length_append, List.length_append];split <;> split <;> simp <;> omega
theorem gh {v : Int} {t : List B} {r : Rc} (h : kW v r) (ht : t.length < 1000000) : 1 ≤ (bS v t r).length ∧ (bS v t r).length ≤ 1400 := by
 unfold bS;have h1 := f9 (v := v) (t := t) h.t2 ht;have h2 := dp r.rule;have h3 : (vrn r.deps.length).length ≤ 10 := cv (by have := h.deps; omega);have h4 := y3 (v := v) (t := t) (l := r.deps) ht fun d hd => (h.names d hd).2;have h5 := Kn (v := v) (t := t) (r := r) ht;have h6 := h.deps;split
 ·simp; omega
 ·simp only [List.length_cons, List.length_append]; omega
theorem iD {v : Int} {t : List B} {r : Rc} (h : kW v r) (ht : t.length < 900000) : ∀ p ∈ bw v t r, 1 ≤ p.length ∧ p.length ≤ 2048 := by
 intro p hp;unfold bw at hp;rcases List.mem_append.1 hp with hp | hp
 ·unfold fY at hp;split at hp
  ·cases hp
  ·obtain ⟨s, hs, rfl⟩ := List.mem_map.1 hp;have := fM h s (ia.1 (vX _ _ s hs));simp [bu]; omega
 ·rw [List.mem_singleton.1 hp];have h1 := fB v t r;have h2 := h.deps;have := gh (t := bz v t r) h (by omega);omega
theorem lU {p : B} (h : p.length ≤ 2048) : (bq p).length ≤ p.length + 14 := by
 unfold bq gL ba;have := cv (n := p.length) (by omega);simp only [List.length_append, dI];omega
theorem mD : ∀ {l : List B} {k : Nat}, (∀ p ∈ l, p.length ≤ k) → k ≤ 2048 → (ay l).length ≤ l.length * (k + 14) := by
 intro l
 induction l with
 | nil => intro k h hk; simp [ay]
 | cons a l ih =>
  intro k h hk;have h1 := h a List.mem_cons_self;have h2 := lU (p := a) (by omega);have h3 := ih (k := k) (fun p hp => h p (List.mem_cons_of_mem _ hp)) hk;unfold ay at h3 ⊢;rw [List.map_cons, List.flatten_cons, List.length_append, List.length_cons, Nat.succ_mul];omega
theorem dK {v : Int} {t : List B} {r : Rc} (h : kW v r) (ht : t.length < 900000) : (ay (bw v t r)).length ≤ 3000 := by
 have h1 := fB v t r;have h2 := h.deps;have h3 := gh (t := bz v t r) h (by omega);have h4 := lU (p := bS v (bz v t r) r) (by omega);have h5 : (ay (fY v t r)).length ≤ 18 * (65 + 14) := by
  have e1 : (fY v t r).length ≤ 18 := by
   unfold fY;split
   ·simp
   ·have := lQ (bg r) t;have := dw r;rw [List.length_map]; omega
  have e2 : ∀ p ∈ fY v t r, p.length ≤ 65 := by
   intro p hp;unfold fY at hp;split at hp
   ·cases hp
   ·obtain ⟨s, hs, rfl⟩ := List.mem_map.1 hp;have := fM h s (ia.1 (vX _ _ s hs));simp [bu]; omega
  exact Nat.le_trans (mD e2 (by omega)) (Nat.mul_le_mul_right _ e1)
 unfold bw;rw [dF, List.length_append];omega
theorem lH {v : Int} : ∀ {l : List Rc} {t : List B}, (∀ r ∈ l, kW v r) → (lI v t l).length ≤ t.length + 18 * l.length := by
 intro l
 induction l with
 | nil => intro t h; simp [lI]
 | cons a l ih =>
  intro t h;have h1 := ih (t := bz v t a) fun r hr => h r (List.mem_cons_of_mem _ hr);have h2 := fB v t a;have h3 := (h a List.mem_cons_self).deps;unfold lI at h1 ⊢;rw [List.foldl_cons, List.length_cons];omega
theorem jG {v : Int} : ∀ {l : List Rc} {t : List B}, (∀ r ∈ l, kW v r) → t.length + 18 * l.length < 900000 → (ay (aW v t l)).length ≤ 3000 * l.length := by
 intro l
 induction l with
 | nil => intro t h ht; simp [aW, ay]
 | cons a l ih =>
  intro t h ht;have h1 := fB v t a;have h2 := (h a List.mem_cons_self).deps;rw [List.length_cons] at ht;have h3 := ih (t := bz v t a) (fun r hr => h r (List.mem_cons_of_mem _ hr)) (by omega);have h4 := dK (t := t) (h a List.mem_cons_self) (by omega);rw [aW, dG, List.length_append, List.length_cons];omega
theorem nS {v : Int} : ∀ {l : List Rc} {t : List B}, (∀ r ∈ l, kW v r) → t.length + 18 * l.length < 900000 → ∀ p ∈ aW v t l, 1 ≤ p.length ∧ p.length ≤ 2048 := by
 intro l
 induction l with
 | nil => intro t h ht p hp; cases hp
 | cons a l ih =>
  intro t h ht p hp;have h1 := fB v t a;have h2 := (h a List.mem_cons_self).deps;rw [List.length_cons] at ht;rw [aW] at hp;rcases List.mem_append.1 hp with hp | hp
  ·exact iD (h a List.mem_cons_self) (by omega) p hp
  ·exact ih (t := bz v t a) (fun r hr => h r (List.mem_cons_of_mem _ hr)) (by omega) p hp
end Go.Abs
end
section
namespace Go.Abs
open Go Go.Proofs Dig
attribute [local irreducible] aH aE aO firstIdx
theorem Cd {s : B} : ∀ {l : List B} (i : Nat), s ∈ l → cF (gu l i) (ofB s) = some (vi ((i + l.idxOf s : Nat) : Int)) := by
 intro l
 induction l with
 | nil => intro i h; cases h
 | cons a l ih =>
  intro i h;simp only [gu, cF];by_cases e : a = s
  ·subst e; rw [if_pos rfl, List.idxOf_cons_self]; rfl
  ·have hx : (a :: l).idxOf s = l.idxOf s + 1 := by
    rw [List.idxOf_cons, show (a == s) = false from beq_eq_false_iff_ne.2 e];rfl
   rw [if_neg (fun e' => e (b9 e')), ih (i + 1) ((List.mem_cons.1 h).elim (fun x => absurd x.symm e) id), hx];congr 3;omega
theorem oS (l : List B) (s : B) (hs : s ∈ l) (hl : l.length < 1000000) {R} (h : R (.tup [.val (.int .u64 ((l.idxOf s : Nat) : Int)), .val (.bool true)]) [bN 1 2 l, bM l, bL l]) :
  ag Tryz.prog 244 [.ptr 0 0, vs s] [bN 1 2 l, bM l, bL l] R := by
 refine ab (an := Rw) tab_ok Tryz.func244 ?_;have hj := Cd 0 hs;rw [Nat.zero_add] at hj;have hi := List.idxOf_le_length (a := s) (l := l);have ew : IntKind.u64.wrap ((l.idxOf s : Nat) : Int) = ((l.idxOf s : Nat) : Int) := by
  show ((l.idxOf s : Nat) : Int) % 18446744073709551616 = _;omega
 conv=>whnf
 rw [hj];conv=>whnf
 rw [ew];exact h
theorem oR (l : List B) (i : Nat) (hi : i < l.length) (hl : l.length < 1000000) {R} (h : R (.tup [vs l[i], .val (.bool true)]) [bN 1 2 l, bM l, bL l]) :
  ag Tryz.prog 204 [.ptr 0 0, .val (.int .u64 (i : Int))] [bN 1 2 l, bM l, bL l] R := by
 refine ab (an := RV) tab_ok Tryz.func204 ?_;have hsl := aD l;have ew : IntKind.u64.wrap (((bl l).length : Nat) : Int) = ((l.length : Nat) : Int) := by
  rw [hsl];show ((l.length : Nat) : Int) % 18446744073709551616 = _;omega
 conv=>whnf
 refine am (by rw [ew]; exact decide_eq_false (by omega)) ?_
 (conv=>whnf); (repeat ((with_reducible refine ac ?_ ?_); exact decide_eq_true (by omega); (conv=>whnf)))
 refine idxNat (by simpa using hi) ?_;conv=>whnf
 exact h
theorem iy {R} (h : R (.ptr 1 0) [dq, dq]) : ag Tryz.prog 214 [.ptr 0 0] [dq] R := by
 refine ab (an := NB) tab_ok Tryz.func214 ?_;conv=>whnf
 refine oy ?_;conv=>whnf
 exact h
theorem jo (l : List B) (h0 : l ≠ []) (hn : l.Nodup) (hl : l.length < 100000) {R} (h : R (.ptr 3 0) [bN 1 2 l, bM l, bL l, bN 4 5 l, bM l, bL l]) :
  ag Tryz.prog 214 [.ptr 0 0] [bN 1 2 l, bM l, bL l] R := by
 refine ab (an := NB) tab_ok Tryz.func214 ?_;have hs := Ha hn;obtain ⟨a, m, rfl⟩ := List.exists_cons_of_ne_nil h0;conv=>whnf
 refine lE a m (by simp at hl; omega) fun q hq => ?_;rw [hs] at hq;subst hq;conv=>whnf
 exact h
theorem tN (r : Rc) (i : Nat) (hi : i < r.deps.length) : (r.target :: (r.deps.take i).map (·.name)) ++ [r.deps[i].name] = r.target :: (r.deps.take (i + 1)).map (·.name) := by
 rw [List.take_succ_eq_append_getElem hi, List.map_append];rfl
theorem x7 {l : List B} {i : Nat} (hi : i < l.length) : bl (l.take i) ++ [[vs l[i]]] = bl (l.take (i + 1)) := by
 rw [List.take_succ_eq_append_getElem hi, dA];rfl
theorem lc (r : Rc) (hd : r.deps.length < 50000) {R} (h : R (.sl none 1 (bl (bg r))) []) : ag Tryz.prog 158 [.agg r.enc] [] R := by
 refine ab (an := Sn) tab_ok Tryz.func158 ?_;have hsl := bF r.deps;have hml := dw r;have hN : bg r = m6 (bK r) := rfl;generalize bg r = m at h hml hN;conv=>whnf
 refine au.ind1 (fun (i : Nat) => [(3, .sl (some (ak 13)) 1 (bl (r.target :: (r.deps.take i).map (·.name)))), (17, vi i)]) (fun i => [(ak 13, .row 9 1 (i + 1))]) (fun i => r.deps.length - i) (fun i => i ≤ r.deps.length) 0 rfl (by omega) ?_;rintro i h0 IH;have hnl : (bl (r.target :: (r.deps.take i).map (·.name))).length = i + 1 := by rw [aD]; simp; omega
 conv=>whnf
 refine ae (fun hc => ?_) (fun hc => ?_)
 ·have hc := ap hsl hc;have IH := IH (i + 1) hc (by omega);have e1 : bl (r.target :: (r.deps.take i).map (·.name)) ++ [[vs r.deps[i].name]] = bl (r.target :: (r.deps.take (i + 1)).map (·.name)) := by rw [← tN r i hc, dA]; rfl
  rw [← e1] at IH
  (conv=>whnf); (repeat ((with_reducible refine ac ?_ ?_); exact decide_eq_true (by omega); (conv=>whnf)))
  refine idxNat (by simpa using hc) ?_;generalize r.deps[i] = d at IH e1 ⊢;conv=>whnf
  refine ⟨hnl.symm, by rw [hnl, cm]; simp; omega, ?_⟩;conv=>whnf
  rw [al (by omega), hnl];exact IH
 ·have hc := aw hsl hc;have e : i = r.deps.length := by omega
  subst e;rw [List.take_length] at hnl ⊢;have hdl : (r.deps.map (·.name)).length = r.deps.length := by simp
  conv=>whnf
  refine ae (fun g => ?_) (fun g => ?_)
  ·have g : r.tag ≠ [] := by
    have g : (!decide (ofB r.tag = ofB [])) = true := g;intro e;rw [e] at g;simp at g
   have hT : bK r = r.target :: (r.deps.map (·.name) ++ [r.tag]) := by simp [bK, g]
   have e1 : bl (r.target :: r.deps.map (·.name)) ++ [[vs r.tag]] = bl (r.target :: (r.deps.map (·.name) ++ [r.tag])) := by
    rw [← List.cons_append, dA]; rfl
   conv=>whnf
   refine ⟨hnl.symm, by rw [hnl, cm]; simp; omega, ?_⟩;conv=>whnf
   refine (show ag Tryz.prog 116 [.sl none 1 (bl (r.target :: r.deps.map (·.name)) ++ [[vs r.tag]])] [] _ from ?_);rw [e1];refine lE r.target _ (by simp; omega) fun q hq => ?_;rw [← hT, ← hN] at hq;rw [hq];clear hq;conv=>whnf
   refine uX m ?_;conv=>whnf
   have hml2 := aD m;refine au.ind1 (fun (i : Nat) => [(7, .sl (some (ak 7)) 1 (bl (m.take i))), (39, vi i)]) (fun i => [(ak 7, .row 9 1 i), (ax 36 0, bN (ax 36 1) (ax 36 2) m), (ax 36 1, bM m), (ax 36 2, bL m)]) (fun i => m.length - i) (fun i => i ≤ m.length) 0 rfl (by omega) ?_;rintro i h0 IH;have htl : (bl (m.take i)).length = i := by rw [aD, List.length_take]; omega
   conv=>whnf
   refine ae (fun hc => ?_) (fun hc => ?_)
   ·have hc := gP hc;have ew : IntKind.u64.wrap (i : Int) = (i : Int) := by
     show (i : Int) % 18446744073709551616 = _;omega
    have IH := IH (i + 1) hc (by omega);rw [← x7 hc] at IH;conv=>whnf
    rw [ew];refine oR m i hc (by omega) ?_;conv=>whnf
    refine ⟨htl.symm, by rw [htl, cm]; simp; omega, ?_⟩;conv=>whnf
    rw [al (by omega), htl];exact IH
   ·have hc := gT hc;have e : i = m.length := by omega
    subst e;rw [List.take_length];conv=>whnf
    exact h
  ·have g : r.tag = [] := by
    have g : (!decide (ofB r.tag = ofB [])) = false := g;have g : ofB r.tag = ofB [] := by simpa using g
    exact b9 g
   have hT : bK r = r.target :: r.deps.map (·.name) := by simp [bK, g]
   conv=>whnf
   refine lE r.target _ (by omega) fun q hq => ?_;rw [← hT, ← hN] at hq;rw [hq];clear hq;conv=>whnf
   refine uX m ?_;conv=>whnf
   have hml2 := aD m;refine au.ind1 (fun (i : Nat) => [(7, .sl (some (ak 7)) 1 (bl (m.take i))), (39, vi i)]) (fun i => [(ak 7, .row 9 1 i), (ax 36 0, bN (ax 36 1) (ax 36 2) m), (ax 36 1, bM m), (ax 36 2, bL m)]) (fun i => m.length - i) (fun i => i ≤ m.length) 0 rfl (by omega) ?_;rintro i h0 IH;have htl : (bl (m.take i)).length = i := by rw [aD, List.length_take]; omega
   conv=>whnf
   refine ae (fun hc => ?_) (fun hc => ?_)
   ·have hc := gP hc;have ew : IntKind.u64.wrap (i : Int) = (i : Int) := by
     show (i : Int) % 18446744073709551616 = _;omega
    have IH := IH (i + 1) hc (by omega);rw [← x7 hc] at IH;conv=>whnf
    rw [ew];refine oR m i hc (by omega) ?_;conv=>whnf
    refine ⟨htl.symm, by rw [htl, cm]; simp; omega, ?_⟩;conv=>whnf
    rw [al (by omega), htl];exact IH
   ·have hc := gT hc;have e : i = m.length := by omega
    subst e;rw [List.take_length];conv=>whnf
    exact h
def wO (b : B) (t : AV) : aF := .cells 228 [.sl none 1 (ai b), t]
abbrev un (n : Nat) : AV := .val (.int .u64 (n : Int))
theorem rR (b : B) (n : Nat) (hn : n < 18446744073709551616) (hb : b.length < 10000000) {R} (h : R (.tup []) [wO (b ++ vrn n) (.ptr 1 0), dq]) :
  ag Tryz.prog 207 [.ptr 0 0, un n] [wO b (.ptr 1 0), dq] R := by
 refine ab (an := NC) tab_ok Tryz.func207 ?_;conv=>whnf
 refine tK b n hn hb ?_;conv=>whnf
 exact h
theorem fu (b : B) (l : List B) (n : Nat) (hn : n < 18446744073709551616) (hb : b.length < 10000000) {R} (h : R (.tup []) [wO (b ++ vrn n) (.ptr 1 0), bN 2 3 l, bM l, bL l]) :
  ag Tryz.prog 207 [.ptr 0 0, un n] [wO b (.ptr 1 0), bN 2 3 l, bM l, bL l] R := by
 refine ab (an := NC) tab_ok Tryz.func207 ?_;conv=>whnf
 refine tK b n hn hb ?_;conv=>whnf
 exact h
theorem Fk (b s : B) (hb : b.length < 1000000) (hs : s.length < 10000000) {R} (h : R (.tup []) [wO (b ++ ba s) (.ptr 1 0), dq]) :
  ag Tryz.prog 206 [.ptr 0 0, vs s] [wO b (.ptr 1 0), dq] R := by
 refine ab (an := RT) tab_ok Tryz.func206 ?_;conv=>whnf
 refine wY b s hb hs ?_;conv=>whnf
 exact h
theorem rY (b : B) (l : List B) (s : B) (hs : s ∈ l) (hl : l.length < 1000000) (hb : b.length < 10000000) {R} (h : R (.tup []) [wO (b ++ vrn (l.idxOf s)) (.ptr 1 0), bN 2 3 l, bM l, bL l]) :
  ag Tryz.prog 205 [.ptr 0 0, vs s] [wO b (.ptr 1 0), bN 2 3 l, bM l, bL l] R := by
 refine ab (an := RU) tab_ok Tryz.func205 ?_;have hi := List.idxOf_le_length (a := s) (l := l);conv=>whnf
 refine oS l s hs hl ?_;conv=>whnf
 refine fu b l (l.idxOf s) (by omega) hb ?_;conv=>whnf
 exact h
theorem Qh (b : B) (l : List B) (s : B) (hs : s ≠ [] → s ∈ l) (hl : l.length < 1000000) (hb : b.length < 10000000) {R} (h : R (.tup []) [wO (b ++ kY l s) (.ptr 1 0), bN 2 3 l, bM l, bL l]) :
  ag Tryz.prog 209 [.ptr 0 0, vs s] [wO b (.ptr 1 0), bN 2 3 l, bM l, bL l] R := by
 refine ab (an := RS) tab_ok Tryz.func209 ?_;have hi := List.idxOf_le_length (a := s) (l := l);conv=>whnf
 refine ae (fun g => ?_) (fun g => ?_)
 ·have g : s = [] := by
   have g : ofB s = ofB [] := of_decide_eq_true g;exact b9 g
  rw [show kY l s = vrn 0 by simp [kY, g]] at h;conv=>whnf
  refine fu b l 0 (by omega) hb ?_;conv=>whnf
  exact h
 ·have g : s ≠ [] := by
   have g : ¬ ofB s = ofB [] := of_decide_eq_false g;exact fun e => g (by rw [e])
  rw [show kY l s = vrn (l.idxOf s + 1) by simp [kY, g]] at h;have ew : IntKind.u64.wrap (((l.idxOf s : Nat) : Int) + 1) = ((l.idxOf s + 1 : Nat) : Int) := by
   show (((l.idxOf s : Nat) : Int) + 1) % 18446744073709551616 = _;omega
  conv=>whnf
  refine oS l s (hs g) hl ?_;conv=>whnf
  rw [ew];refine fu b l (l.idxOf s + 1) (by omega) hb ?_;conv=>whnf
  exact h
theorem QN (b : B) (d : Dp) (hb : b.length < 1000000) (hs : d.name.length < 10000000) {R} (h : R (.tup []) [wO (b ++ ba d.name) (.ptr 1 0), dq]) :
  ag Tryz.prog 208 [.ptr 0 0, vi 1, .agg d.enc, .fn (.func 206) [.ptr 0 0] []] [wO b (.ptr 1 0), dq] R := by
 refine ab (an := K2) tab_ok Tryz.func208 ?_;conv=>whnf
 refine Fk b d.name hb hs ?_;conv=>whnf
 exact h
theorem QM (b : B) (l : List B) (d : Dp) (hs : d.name ∈ l) (hl : l.length < 1000000) (hb : b.length < 1000000) {R} (h : R (.tup []) [wO (b ++ vrn (l.idxOf d.name)) (.ptr 1 0), bN 2 3 l, bM l, bL l]) :
  ag Tryz.prog 208 [.ptr 0 0, vi 2, .agg d.enc, .fn (.func 205) [.ptr 0 0] []] [wO b (.ptr 1 0), bN 2 3 l, bM l, bL l] R := by
 refine ab (an := K2) tab_ok Tryz.func208 ?_;conv=>whnf
 refine rY b l d.name hs hl (by omega) ?_;conv=>whnf
 exact h
theorem QL (b : B) (l : List B) (d : Dp) (hs : d.name ∈ l) (hl : l.length < 1000000) (hb : b.length < 1000000) {R} (h : R (.tup []) [wO (b ++ vrn (eY l d)) (.ptr 1 0), bN 2 3 l, bM l, bL l]) :
  ag Tryz.prog 208 [.ptr 0 0, vi 3, .agg d.enc, .fn (.func 205) [.ptr 0 0] []] [wO b (.ptr 1 0), bN 2 3 l, bM l, bL l] R := by
 refine ab (an := K2) tab_ok Tryz.func208 ?_;have hi := List.idxOf_le_length (a := d.name) (l := l);have ew : IntKind.u64.wrap (((l.idxOf d.name : Nat) : Int) * 2) = ((2 * l.idxOf d.name : Nat) : Int) := by
  show (((l.idxOf d.name : Nat) : Int) * 2) % 18446744073709551616 = _;omega
 have ew2 : IntKind.u64.wrap (((2 * l.idxOf d.name : Nat) : Int) + 1) = ((2 * l.idxOf d.name + 1 : Nat) : Int) := by
  show (((2 * l.idxOf d.name : Nat) : Int) + 1) % 18446744073709551616 = _;omega
 conv=>whnf
 refine oS l d.name hs hl ?_;conv=>whnf
 rw [ew];refine ae (fun g => ?_) (fun g => ?_)
 ·rw [show eY l d = 2 * l.idxOf d.name + 1 by simp [eY, g]] at h;conv=>whnf
  rw [ew2];refine fu b l (2 * l.idxOf d.name + 1) (by omega) (by omega) ?_;conv=>whnf
  exact h
 ·rw [show eY l d = 2 * l.idxOf d.name by simp [eY, g]] at h;conv=>whnf
  refine fu b l (2 * l.idxOf d.name) (by omega) (by omega) ?_;conv=>whnf
  exact h
def wN (t : AV) : aF := .cells 228 [.val (.slice none 0 0), t]
theorem fy {v : Int} {t : List B} {l : List Dp} {i : Nat} (hi : i < l.length) : bZ v t (l.take (i + 1)) = bZ v t (l.take i) ++ mg v t l[i] := by
 unfold bZ;rw [List.take_succ_eq_append_getElem hi, List.map_append, List.flatten_append];simp
theorem gH {v : Int} {t : List B} {r : Rc} (hm : kW v r) (ht : t.length < 1000000) (i : Nat) : (bZ v t (r.deps.take i)).length ≤ 1200 := by
 have h1 := y3 (v := v) (t := t) (l := r.deps.take i) ht fun d hd => (hm.names d (List.mem_of_mem_take hd)).2;have h2 := hm.deps;rw [List.length_take] at h1;omega
def dx (v : Int) (t : List B) (r : Rc) : B := 1 :: (da v t r.target ++ vrn r.rule.toNat ++ vrn r.deps.length)
theorem gC {v : Int} {t : List B} {r : Rc} (hm : kW v r) (ht : t.length < 1000000) : (dx v t r).length ≤ 90 := by
 unfold dx;have h1 := f9 (v := v) (t := t) hm.t2 ht;have h2 := dp r.rule;have h3 : (vrn r.deps.length).length ≤ 10 := cv (by have := hm.deps; omega);simp only [List.length_cons, List.length_append];omega
theorem fe {v : Int} {t : List B} {r : Rc} (hk : r.kind = 1) : bS v t r = dx v t r ++ bZ v t r.deps ++ mf v t r := by
 unfold bS dx;rw [if_neg (by rw [hk]; decide)];simp
theorem gA {v : Int} {t : List B} {r : Rc} (hk : r.kind = 2) : bS v t r = 2 :: da v t r.target := by
 unfold bS;rw [if_pos hk]
theorem pS {r : Rc} (h : r.deps.length ≤ 16) : IntKind.u64.wrap (((dV r.deps).length : Nat) : Int) = ((r.deps.length : Nat) : Int) := by
 rw [bF];show ((r.deps.length : Nat) : Int) % 18446744073709551616 = _;omega
theorem gB {r : Rc} (h : r = qf r) : r.kind = 2 := by rw [h]; rfl
theorem Oy (r : Rc) (hm : kW 1 r) {R} (h : R (.sl none 1 (ai (bS 1 [] r))) [wO (bS 1 [] r) (.ptr 1 0), dq]) :
  ag Tryz.prog 160 [.ptr 0 0, vi 1, .agg r.enc] [wN (.ptr 1 0), dq] R := by
 have hk := hm.kind.imp id gB;have ht : ([] : List B).length < 1000000 := by simp
 have hF := gC (v := 1) (t := []) hm ht;have hD := gH (v := 1) (t := []) hm ht;have hsl := bF r.deps;have hlu := pS hm.deps;have hd16 := hm.deps;have hbl := tz hm.t2;have h2 := dp r.rule;have ho := dp r.out;have htx : da 1 [] r.target = ba r.target := by simp [da]
 have hnm := hm.names;have ht2 := hm.t2;refine ab (an := K5) tab_ok Tryz.func160 ?_;rcases hk with hk | hk
 ·have e1 := fe (v := 1) (t := []) hk;have eF : dx 1 [] r = [1] ++ ba r.target ++ vrn r.rule.toNat ++ vrn r.deps.length := by unfold dx; rw [htx]; simp
  have eE : mf 1 [] r = vrn r.out.toNat := by simp [mf]
  rw [e1, eE] at h;obtain ⟨k, tg, ru, ds, ou, we, ta⟩ := r;dsimp only at hk hF hD hsl hlu hd16 hbl h2 ho hnm ht2 h htx eF;subst hk;conv=>whnf
  refine Fk [1] tg (by simp) (by omega) ?_;conv=>whnf
  refine rR ([1] ++ ba tg) ru.toNat ru.isLt (by simp; omega) ?_;conv=>whnf
  rw [hlu];refine rR ([1] ++ ba tg ++ vrn ru.toNat) ds.length (by omega) (by simp at h2 ⊢; omega) ?_;rw [← eF];generalize dx 1 [] (Rc.mk 1 tg ru ds ou we ta) = F at h hF eF ⊢;conv=>whnf
  refine au.ind2 (fun (i : Nat) (b : B) => [(47, vi i)]) (fun i b => [(0, wO b (.ptr 1 0)), (1, dq)]) (fun i _ => ds.length - i) (fun i b => i ≤ ds.length ∧ b = F ++ bZ 1 [] (ds.take i)) 0 F rfl ⟨by omega, by simp [bZ]⟩ ?_;rintro i X ⟨h0, hX⟩ IH;have hDi : X.length ≤ 1300 := by have := hD i; rw [hX, List.length_append]; omega
  conv=>whnf
  refine ae (fun hc => ?_) (fun hc => ?_)
  ·have hc := ap hsl hc;have hn := hnm ds[i] (List.getElem_mem hc);have eS : X ++ ba ds[i].name ++ vrn ds[i].hash.toNat = F ++ bZ 1 [] (ds.take (i + 1)) := by
    rw [fy hc, hX];simp [mg, da]
   have IH := IH (i + 1) _ ⟨hc, eS⟩ (by omega);have hbl2 := tz hn.2
   (conv=>whnf); (repeat ((with_reducible refine ac ?_ ?_); exact decide_eq_true (by omega); (conv=>whnf)))
   refine idxNat (by simpa using hc) ?_;generalize ds[i] = d at IH hn hbl2 eS ⊢;clear hX eS;conv=>whnf
   refine QN X d (by omega) (by omega) ?_;conv=>whnf
   refine rR (X ++ ba d.name) d.hash.toNat d.hash.isLt (by rw [List.length_append]; omega) ?_;conv=>whnf
   rw [al (by omega)];exact IH
  ·have hc := aw hsl hc;have e : i = ds.length := by omega
   subst e;rw [List.take_length] at hX;rw [← hX] at h;clear hX;conv=>whnf
   refine rR X ou.toNat ou.isLt (by omega) ?_;conv=>whnf
   exact h
 ·have e1 := gA (v := 1) (t := []) hk;rw [e1, htx] at h;obtain ⟨k, tg, ru, ds, ou, we, ta⟩ := r;dsimp only at hk hbl ht2 h;subst hk;conv=>whnf
  refine Fk [2] tg (by simp) (by omega) ?_;conv=>whnf
  exact h
theorem JW (r : Rc) (l : List B) (hm : kW 2 r) (hl : l.length < 100000) (ht : r.target ∈ l) (hds : ∀ d ∈ r.deps, d.name ∈ l) (htg : r.tag ≠ [] → r.tag ∈ l) {R} (h : R (.sl none 1 (ai (bS 2 l r))) [wO (bS 2 l r) (.ptr 1 0), bN 2 3 l, bM l, bL l]) :
  ag Tryz.prog 160 [.ptr 0 0, vi 2, .agg r.enc] [wN (.ptr 1 0), bN 2 3 l, bM l, bL l] R := by
 have hk := hm.kind.imp id gB;have hF := gC (v := 2) (t := l) hm (by omega);have hD := gH (v := 2) (t := l) hm (by omega);have hsl := bF r.deps;have hlu := pS hm.deps;have hd16 := hm.deps;have hbl : (vrn (l.idxOf r.target)).length ≤ 10 := cv (by have := List.idxOf_le_length (a := r.target) (l := l); omega);have h2 := dp r.rule;have ho := dp r.out;have hw := dp r.wen;have htx : da 2 l r.target = vrn (l.idxOf r.target) := by simp [da]
 have hnm := hm.names;have ht2 := hm.t2;refine ab (an := K5) tab_ok Tryz.func160 ?_;rcases hk with hk | hk
 ·have e1 := fe (v := 2) (t := l) hk;have eF : dx 2 l r = [1] ++ vrn (l.idxOf r.target) ++ vrn r.rule.toNat ++ vrn r.deps.length := by unfold dx; rw [htx]; simp
  have eE : mf 2 l r = vrn r.out.toNat ++ vrn r.wen.toNat := by simp [mf]
  rw [e1, eE] at h;obtain ⟨k, tg, ru, ds, ou, we, ta⟩ := r;dsimp only at hk hF hD hsl hlu hd16 hbl h2 ho hw hnm ht2 h htx eF ht hds htg;subst hk;conv=>whnf
  refine rY [1] l tg ht (by omega) (by simp) ?_;conv=>whnf
  refine fu ([1] ++ vrn (l.idxOf tg)) l ru.toNat ru.isLt (by simp; omega) ?_;conv=>whnf
  rw [hlu];refine fu ([1] ++ vrn (l.idxOf tg) ++ vrn ru.toNat) l ds.length (by omega) (by simp at h2 ⊢; omega) ?_;rw [← eF];generalize dx 2 l (Rc.mk 1 tg ru ds ou we ta) = F at h hF eF ⊢;conv=>whnf
  refine au.ind2 (fun (i : Nat) (b : B) => [(47, vi i)]) (fun i b => [(0, wO b (.ptr 1 0)), (1, bN 2 3 l), (2, bM l), (3, bL l)]) (fun i _ => ds.length - i) (fun i b => i ≤ ds.length ∧ b = F ++ bZ 2 l (ds.take i)) 0 F rfl ⟨by omega, by simp [bZ]⟩ ?_;rintro i X ⟨h0, hX⟩ IH;have hDi : X.length ≤ 1300 := by have := hD i; rw [hX, List.length_append]; omega
  conv=>whnf
  refine ae (fun hc => ?_) (fun hc => ?_)
  ·have hc := ap hsl hc;have hn := hnm ds[i] (List.getElem_mem hc);have hin := hds ds[i] (List.getElem_mem hc);have hdl : (vrn (l.idxOf ds[i].name)).length ≤ 10 := cv (by have := List.idxOf_le_length (a := ds[i].name) (l := l); omega);have eS : X ++ vrn (l.idxOf ds[i].name) ++ vrn ds[i].hash.toNat = F ++ bZ 2 l (ds.take (i + 1)) := by
    rw [fy hc, hX];simp [mg, da]
   have IH := IH (i + 1) _ ⟨hc, eS⟩ (by omega)
   (conv=>whnf); (repeat ((with_reducible refine ac ?_ ?_); exact decide_eq_true (by omega); (conv=>whnf)))
   refine idxNat (by simpa using hc) ?_;generalize ds[i] = d at IH hn hin hdl eS ⊢;clear hX eS;conv=>whnf
   refine QM X l d hin (by omega) (by omega) ?_;conv=>whnf
   refine fu (X ++ vrn (l.idxOf d.name)) l d.hash.toNat d.hash.isLt (by rw [List.length_append]; omega) ?_;conv=>whnf
   rw [al (by omega)];exact IH
  ·have hc := aw hsl hc;have e : i = ds.length := by omega
   subst e;rw [List.take_length] at hX;rw [← hX] at h;clear hX;simp only [← List.append_assoc] at h;conv=>whnf
   refine fu X l ou.toNat ou.isLt (by omega) ?_;conv=>whnf
   refine fu (X ++ vrn ou.toNat) l we.toNat we.isLt (by rw [List.length_append]; omega) ?_;conv=>whnf
   exact h
 ·have e1 := gA (v := 2) (t := l) hk;rw [e1, htx] at h;obtain ⟨k, tg, ru, ds, ou, we, ta⟩ := r;dsimp only at hk hbl ht2 h ht;subst hk;conv=>whnf
  refine rY [2] l tg ht (by omega) (by simp) ?_;conv=>whnf
  exact h
theorem JV (r : Rc) (l : List B) (hm : kW 3 r) (hl : l.length < 100000) (ht : r.target ∈ l) (hds : ∀ d ∈ r.deps, d.name ∈ l) (htg : r.tag ≠ [] → r.tag ∈ l) {R} (h : R (.sl none 1 (ai (bS 3 l r))) [wO (bS 3 l r) (.ptr 1 0), bN 2 3 l, bM l, bL l]) :
  ag Tryz.prog 160 [.ptr 0 0, vi 3, .agg r.enc] [wN (.ptr 1 0), bN 2 3 l, bM l, bL l] R := by
 have hk := hm.kind.imp id gB;have hF := gC (v := 3) (t := l) hm (by omega);have hD := gH (v := 3) (t := l) hm (by omega);have hsl := bF r.deps;have hlu := pS hm.deps;have hd16 := hm.deps;have hbl : (vrn (l.idxOf r.target)).length ≤ 10 := cv (by have := List.idxOf_le_length (a := r.target) (l := l); omega);have h2 := dp r.rule;have ho := dp r.out;have hw := dp r.wen;have htx : da 3 l r.target = vrn (l.idxOf r.target) := by simp [da]
 have hnm := hm.names;have ht2 := hm.t2;refine ab (an := K5) tab_ok Tryz.func160 ?_;rcases hk with hk | hk
 ·have e1 := fe (v := 3) (t := l) hk;have eF : dx 3 l r = [1] ++ vrn (l.idxOf r.target) ++ vrn r.rule.toNat ++ vrn r.deps.length := by unfold dx; rw [htx]; simp
  have eE : mf 3 l r = vrn r.out.toNat ++ vrn r.wen.toNat ++ kY l r.tag := by simp [mf]
  rw [e1, eE] at h;obtain ⟨k, tg, ru, ds, ou, we, ta⟩ := r;dsimp only at hk hF hD hsl hlu hd16 hbl h2 ho hw hnm ht2 h htx eF ht hds htg;subst hk;conv=>whnf
  refine rY [1] l tg ht (by omega) (by simp) ?_;conv=>whnf
  refine fu ([1] ++ vrn (l.idxOf tg)) l ru.toNat ru.isLt (by simp; omega) ?_;conv=>whnf
  rw [hlu];refine fu ([1] ++ vrn (l.idxOf tg) ++ vrn ru.toNat) l ds.length (by omega) (by simp at h2 ⊢; omega) ?_;rw [← eF];generalize dx 3 l (Rc.mk 1 tg ru ds ou we ta) = F at h hF eF ⊢;conv=>whnf
  refine au.ind2 (fun (i : Nat) (b : B) => [(47, vi i)]) (fun i b => [(0, wO b (.ptr 1 0)), (1, bN 2 3 l), (2, bM l), (3, bL l)]) (fun i _ => ds.length - i) (fun i b => i ≤ ds.length ∧ b = F ++ bZ 3 l (ds.take i)) 0 F rfl ⟨by omega, by simp [bZ]⟩ ?_;rintro i X ⟨h0, hX⟩ IH;have hDi : X.length ≤ 1300 := by have := hD i; rw [hX, List.length_append]; omega
  conv=>whnf
  refine ae (fun hc => ?_) (fun hc => ?_)
  ·have hc := ap hsl hc;have hn := hnm ds[i] (List.getElem_mem hc);have hin := hds ds[i] (List.getElem_mem hc);have hdl : (vrn (eY l ds[i])).length ≤ 10 := cv (by have := List.idxOf_le_length (a := ds[i].name) (l := l); unfold eY; split <;> omega);have eS : X ++ vrn (eY l ds[i]) ++ vrn ds[i].hash.toNat = F ++ bZ 3 l (ds.take (i + 1)) := by
    rw [fy hc, hX];simp [mg, da]
   have IH := IH (i + 1) _ ⟨hc, eS⟩ (by omega)
   (conv=>whnf); (repeat ((with_reducible refine ac ?_ ?_); exact decide_eq_true (by omega); (conv=>whnf)))
   refine idxNat (by simpa using hc) ?_;generalize ds[i] = d at IH hn hin hdl eS ⊢;clear hX eS;conv=>whnf
   refine QL X l d hin (by omega) (by omega) ?_;conv=>whnf
   refine fu (X ++ vrn (eY l d)) l d.hash.toNat d.hash.isLt (by rw [List.length_append]; omega) ?_;conv=>whnf
   rw [al (by omega)];exact IH
  ·have hc := aw hsl hc;have e : i = ds.length := by omega
   subst e;rw [List.take_length] at hX;rw [← hX] at h;clear hX;simp only [← List.append_assoc] at h;conv=>whnf
   refine fu X l ou.toNat ou.isLt (by omega) ?_;conv=>whnf
   refine fu (X ++ vrn ou.toNat) l we.toNat we.isLt (by rw [List.length_append]; omega) ?_;conv=>whnf
   refine Qh (X ++ vrn ou.toNat ++ vrn we.toNat) l ta htg (by omega) (by rw [List.length_append, List.length_append]; omega) ?_;conv=>whnf
   exact h
 ·have e1 := gA (v := 3) (t := l) hk;rw [e1, htx] at h;obtain ⟨k, tg, ru, ds, ou, we, ta⟩ := r;dsimp only at hk hbl ht2 h ht;subst hk;conv=>whnf
  refine rY [2] l tg ht (by omega) (by simp) ?_;conv=>whnf
  exact h
def ce (l : List B) : List (List AV) := l.map fun p => [.sl none 1 (ai p)]
theorem aP (l : List B) : (ce l).length = l.length := by simp [ce]
theorem b8 (l m : List B) : ce (l ++ m) = ce l ++ ce m := by simp [ce]
theorem cC : (tab.ti 77).bytes = 24 := rfl
theorem pW (s : B) : [[AV.val (.int .u8 0)]] ++ ai s = ai (bu s) := rfl
theorem ky (s : B) : qj (ofB s) = ai s := by
 unfold qj ai;rw [show (ofB s).data.toList = s from jZ s]
theorem F2 {R} (h : R (.val (.bool true)) []) : ag Tryz.prog 157 [vi 1] [] R := by
 refine ab (an := K7) tab_ok Tryz.func157 ?_;conv=>whnf
 exact h
theorem tR {R} (h : R (.val (.bool true)) []) : ag Tryz.prog 157 [vi 2] [] R := by
 refine ab (an := K7) tab_ok Tryz.func157 ?_;conv=>whnf
 exact h
theorem tQ {R} (h : R (.val (.bool true)) []) : ag Tryz.prog 157 [vi 3] [] R := by
 refine ab (an := K7) tab_ok Tryz.func157 ?_;conv=>whnf
 exact h
theorem zI (r : Rc) (hm : aR 1 r = true) {R} (h : R (.tup [.sl none 1 (ce (bw 1 [] r)), vi 0]) [dq]) : ag Tryz.prog 117 [vi 1, .ptr 0 0, .agg r.enc] [dq] R := by
 have hM := aQ hm;have e : bw 1 [] r = [bS 1 [] r] := by simp [bw, fY, bz]
 rw [e] at h;have hd := hM.deps;refine ab (an := qo) tab_ok Tryz.func117 ?_;conv=>whnf
 refine F2 ?_;conv=>whnf
 refine eG 1 r (by omega) fun p hp => ?_;rw [hm] at hp;subst hp;conv=>whnf
 refine Oy r hM ?_;conv=>whnf
 refine ⟨(by rw [cC]; decide : 1 * ((tab.ti 77).bytes + 1) ≤ 140737488355328), ?_⟩;conv=>whnf
 exact h
theorem Og (r : Rc) (hd : r.deps.length < 100000) (hm : aR 1 r = false) {R} (h : R (.tup [.val (.slice none 0 0), vi 1]) [dq]) : ag Tryz.prog 117 [vi 1, .ptr 0 0, .agg r.enc] [dq] R := by
 refine ab (an := qo) tab_ok Tryz.func117 ?_;conv=>whnf
 refine F2 ?_;conv=>whnf
 refine eG 1 r hd fun p hp => ?_;rw [hm] at hp;subst hp;conv=>whnf
 exact h
theorem Of (r : Rc) (hd : r.deps.length < 100000) (hm : aR 2 r = false) {R} (h : R (.tup [.val (.slice none 0 0), vi 1]) [dq]) : ag Tryz.prog 117 [vi 2, .ptr 0 0, .agg r.enc] [dq] R := by
 refine ab (an := qo) tab_ok Tryz.func117 ?_;conv=>whnf
 refine tR ?_;conv=>whnf
 refine eG 2 r hd fun p hp => ?_;rw [hm] at hp;subst hp;conv=>whnf
 exact h
theorem Od (r : Rc) (hd : r.deps.length < 100000) (hm : aR 3 r = false) {R} (h : R (.tup [.val (.slice none 0 0), vi 1]) [dq]) : ag Tryz.prog 117 [vi 3, .ptr 0 0, .agg r.enc] [dq] R := by
 refine ab (an := qo) tab_ok Tryz.func117 ?_;conv=>whnf
 refine tQ ?_;conv=>whnf
 refine eG 3 r hd fun p hp => ?_;rw [hm] at hp;subst hp;conv=>whnf
 exact h
theorem Oe (r : Rc) (l : List B) (hd : r.deps.length < 100000) (hm : aR 2 r = false) {R} (h : R (.tup [.val (.slice none 0 0), vi 1]) [bN 1 2 l, bM l, bL l]) : ag Tryz.prog 117 [vi 2, .ptr 0 0, .agg r.enc] [bN 1 2 l, bM l, bL l] R := by
 refine ab (an := qo) tab_ok Tryz.func117 ?_;conv=>whnf
 refine tR ?_;conv=>whnf
 refine eG 2 r hd fun p hp => ?_;rw [hm] at hp;subst hp;conv=>whnf
 exact h
theorem Oc (r : Rc) (l : List B) (hd : r.deps.length < 100000) (hm : aR 3 r = false) {R} (h : R (.tup [.val (.slice none 0 0), vi 1]) [bN 1 2 l, bM l, bL l]) : ag Tryz.prog 117 [vi 3, .ptr 0 0, .agg r.enc] [bN 1 2 l, bM l, bL l] R := by
 refine ab (an := qo) tab_ok Tryz.func117 ?_;conv=>whnf
 refine tQ ?_;conv=>whnf
 refine eG 3 r hd fun p hp => ?_;rw [hm] at hp;subst hp;conv=>whnf
 exact h
theorem F6 (r : Rc) (l : List B) (hl : l.length < 90000) (hm : aR 2 r = true) {R} (h : R (.tup [.sl none 1 (ce (bw 2 l r)), vi 0]) [bN 1 2 (bz 2 l r), bM (bz 2 l r), bL (bz 2 l r)]) : ag Tryz.prog 117 [vi 2, .ptr 0 0, .agg r.enc] [bN 1 2 l, bM l, bL l] R := by
 have hM := aQ hm;have hd := hM.deps;have hml := dw r;have hT1 := co (v := 2) (by decide) l r (x := r.target) (by simp [bK]);have hT2 : ∀ d ∈ r.deps, d.name ∈ bz 2 l r := fun d hd => co (by decide) l r (List.mem_cons_of_mem _ (List.mem_append_left _ (List.mem_map_of_mem hd)));have hT3 : r.tag ≠ [] → r.tag ∈ bz 2 l r := fun e => co (by decide) l r (by simp [bK, e]);have hTl := fB 2 l r;have eA : bz 2 l r = (bg r).foldl cQ l := fK (by decide) l r;have eP : bw 2 l r = (cI l (bg r)).map bu ++ [bS 2 (bz 2 l r) r] := by simp [bw, fY]
 rw [eP] at h;have hne := pQ r;have h64 : ∀ s ∈ bg r, s.length ≤ 64 := fun s hs => (fM hM s (ia.1 hs)).2;generalize hmr : bg r = m at h hml eA eP hne h64;generalize bz 2 l r = T at h hT1 hT2 hT3 hTl eA eP;refine ab (an := qo) tab_ok Tryz.func117 ?_;have hsl := aD m;conv=>whnf
 refine tR ?_;conv=>whnf
 refine eG 2 r (by omega) fun p hp => ?_;rw [hm] at hp;subst hp;conv=>whnf
 refine lc r (by omega) ?_;rw [hmr];conv=>whnf
 refine au.ind3 (fun (i : Nat) (t o : List B) => [(8, .sl (some (ak 8)) 1 (ce o)), (30, vi i)]) (fun i t o => [(0, bN 1 2 t), (1, bM t), (2, bL t), (ak 8, .row 77 1 o.length)]) (fun i _ _ => m.length - i) (fun i t o => i ≤ m.length ∧ 0 ≤ i ∧ o ++ (cI t (m.drop i)).map bu = (cI l m).map bu ∧ (m.drop i).foldl cQ t = m.foldl cQ l ∧ o.length ≤ i ∧ t.length ≤ l.length + i) 0 l [] rfl ⟨by omega, by omega, by simp, by simp, by simp, by omega⟩ ?_;rintro i t o ⟨h0, hi1, ho1, ho2, hl1, hl2⟩ IH;have hol : o.length ≤ 60 := by omega
 have hrl := aP o;conv=>whnf
 refine ae (fun hc => ?_) (fun hc => ?_)
 ·have hc := ap hsl hc;have IH0 := IH (i + 1);clear IH;rw [List.drop_eq_getElem_cons hc] at ho1 ho2;rw [cI] at ho1;rw [List.foldl_cons] at ho2
  (conv=>whnf); (repeat ((with_reducible refine ac ?_ ?_); exact decide_eq_true (by omega); (conv=>whnf)))
  refine idxNat (by simpa using hc) ?_;have h64s := h64 m[i] (List.getElem_mem hc);generalize m[i] = s at ho1 ho2 h64s ⊢;have eB := ky s;have hsl2 := aM s;by_cases hs : s ∈ t
  ·have IH := IH0 t o ⟨by omega, by omega, by rw [if_pos hs] at ho1; exact ho1, by rw [dQ hs] at ho2; exact ho2, by omega, by omega⟩ (by omega);conv=>whnf
   refine j8 t s hs fun j => ?_;conv=>whnf
   rw [al (by omega)];exact IH
  ·have IH := IH0 (t ++ [s]) (o ++ [bu s]) ⟨by omega, by omega, by rw [if_neg hs] at ho1; rw [← ho1]; simp, by rw [dz hs] at ho2; exact ho2, by simp; omega, by simp; omega⟩ (by omega);rw [b8] at IH;conv=>whnf
   refine gZ t s (by omega) hs fun j => ?_;conv=>whnf
   refine ⟨rfl, by rw [dg]; rw [eB]; simp only [List.length_append, hsl2, List.length_cons, List.length_nil]; omega, ?_⟩;rw [eB, pW];conv=>whnf
   refine ⟨hrl.symm, by rw [hrl, cC]; simp; omega, ?_⟩;conv=>whnf
   rw [al (by omega), hrl];rw [show (o ++ [bu s]).length = o.length + 1 by simp] at IH;exact IH
 ·have hc := aw hsl hc;have e : i = m.length := by omega
  subst e;rw [List.drop_length] at ho1 ho2;rw [show cI t [] = [] from rfl, List.map_nil, List.append_nil] at ho1;rw [List.foldl_nil] at ho2;rw [← eA] at ho2;subst ho2;rw [← ho1, b8] at h;conv=>whnf
  refine JW r t hM (by omega) hT1 hT2 hT3 ?_;conv=>whnf
  refine ⟨hrl.symm, by rw [hrl, cC]; simp; omega, ?_⟩;conv=>whnf
  exact h
theorem F7 (r : Rc) (hm : aR 2 r = true) {R} (h : R (.tup [.sl none 1 (ce (bw 2 [] r)), vi 0]) [bN 1 2 (bz 2 [] r), bM (bz 2 [] r), bL (bz 2 [] r)]) : ag Tryz.prog 117 [vi 2, .ptr 0 0, .agg r.enc] [dq] R := by
 have hM := aQ hm;have hd := hM.deps;have hml := dw r;have hT1 := co (v := 2) (by decide) [] r (x := r.target) (by simp [bK]);have hT2 : ∀ d ∈ r.deps, d.name ∈ bz 2 [] r := fun d hd => co (by decide) [] r (List.mem_cons_of_mem _ (List.mem_append_left _ (List.mem_map_of_mem hd)));have hT3 : r.tag ≠ [] → r.tag ∈ bz 2 [] r := fun e => co (by decide) [] r (by simp [bK, e]);have hTl := fB 2 [] r;have eA : bz 2 [] r = (bg r).foldl cQ [] := fK (by decide) [] r;have eP : bw 2 [] r = (cI [] (bg r)).map bu ++ [bS 2 (bz 2 [] r) r] := by simp [bw, fY]
 rw [eP] at h;have hne := pQ r;have h64 : ∀ s ∈ bg r, s.length ≤ 64 := fun s hs => (fM hM s (ia.1 hs)).2;generalize hmr : bg r = m at h hml eA eP hne h64;generalize bz 2 [] r = T at h hT1 hT2 hT3 hTl eA eP;refine ab (an := qo) tab_ok Tryz.func117 ?_;have hsl := aD m;conv=>whnf
 refine tR ?_;conv=>whnf
 refine eG 2 r (by omega) fun p hp => ?_;rw [hm] at hp;subst hp;conv=>whnf
 refine lc r (by omega) ?_;rw [hmr];conv=>whnf
 obtain ⟨a, n, rfl⟩ := List.exists_cons_of_ne_nil hne;refine au.step ?_;conv=>whnf
 refine aI (by rw [hsl]; simp <;> omega) ?_;conv=>whnf
 refine ri a ?_;have eB := ky a;have hsl2 := aM a;have ha64 := h64 a List.mem_cons_self;conv=>whnf
 refine ⟨rfl, by rw [dg]; rw [eB]; simp only [List.length_append, hsl2, List.length_cons, List.length_nil]; omega, ?_⟩;rw [eB, pW];conv=>whnf
 refine ⟨rfl, by rw [cC]; simp, ?_⟩;conv=>whnf
 refine au.ind3 (fun (i : Nat) (t o : List B) => [(8, .sl (some (ak 8)) 1 (ce o)), (30, vi i)]) (fun i t o => [(0, bN (ax 37 0) (ax 37 1) t), (ak 8, .row 77 1 o.length), (ax 37 0, bM t), (ax 37 1, bL t)]) (fun i _ _ => (a :: n).length - i) (fun i t o => i ≤ (a :: n).length ∧ 1 ≤ i ∧ o ++ (cI t ((a :: n).drop i)).map bu = (cI [] (a :: n)).map bu ∧ ((a :: n).drop i).foldl cQ t = (a :: n).foldl cQ [] ∧ o.length ≤ i ∧ t.length ≤ i) 1 [a] [bu a] rfl ⟨by simp, by omega, by simp [cI], by simp [cQ], by simp, by simp⟩ ?_;rintro i t o ⟨h0, hi1, ho1, ho2, hl1, hl2⟩ IH;have hol : o.length ≤ 60 := by omega
 have hrl := aP o;conv=>whnf
 refine ae (fun hc => ?_) (fun hc => ?_)
 ·have hc := ap hsl hc;have IH0 := IH (i + 1);clear IH;rw [List.drop_eq_getElem_cons hc] at ho1 ho2;rw [cI] at ho1;rw [List.foldl_cons] at ho2
  (conv=>whnf); (repeat ((with_reducible refine ac ?_ ?_); exact decide_eq_true (by omega); (conv=>whnf)))
  refine idxNat (by simpa using hc) ?_;have h64s := h64 (a :: n)[i] (List.getElem_mem hc);generalize (a :: n)[i] = s at ho1 ho2 h64s ⊢;have eB := ky s;have hsl2 := aM s;by_cases hs : s ∈ t
  ·have IH := IH0 t o ⟨by omega, by omega, by rw [if_pos hs] at ho1; exact ho1, by rw [dQ hs] at ho2; exact ho2, by omega, by omega⟩ (by omega);conv=>whnf
   refine j8 t s hs fun j => ?_;conv=>whnf
   rw [al (by omega)];exact IH
  ·have IH := IH0 (t ++ [s]) (o ++ [bu s]) ⟨by omega, by omega, by rw [if_neg hs] at ho1; rw [← ho1]; simp, by rw [dz hs] at ho2; exact ho2, by simp; omega, by simp; omega⟩ (by omega);rw [b8] at IH;conv=>whnf
   refine gZ t s (by omega) hs fun j => ?_;conv=>whnf
   refine ⟨rfl, by rw [dg]; rw [eB]; simp only [List.length_append, hsl2, List.length_cons, List.length_nil]; omega, ?_⟩;rw [eB, pW];conv=>whnf
   refine ⟨hrl.symm, by rw [hrl, cC]; simp; omega, ?_⟩;conv=>whnf
   rw [al (by omega), hrl];rw [show (o ++ [bu s]).length = o.length + 1 by simp] at IH;exact IH
 ·have hc := aw hsl hc;have e : i = (a :: n).length := by omega
  subst e;rw [List.drop_length] at ho1 ho2;rw [show cI t [] = [] from rfl, List.map_nil, List.append_nil] at ho1;rw [List.foldl_nil] at ho2;rw [← eA] at ho2;subst ho2;rw [← ho1, b8] at h;conv=>whnf
  refine JW r t hM (by omega) hT1 hT2 hT3 ?_;conv=>whnf
  refine ⟨hrl.symm, by rw [hrl, cC]; simp; omega, ?_⟩;conv=>whnf
  exact h
theorem F4 (r : Rc) (l : List B) (hl : l.length < 90000) (hm : aR 3 r = true) {R} (h : R (.tup [.sl none 1 (ce (bw 3 l r)), vi 0]) [bN 1 2 (bz 3 l r), bM (bz 3 l r), bL (bz 3 l r)]) : ag Tryz.prog 117 [vi 3, .ptr 0 0, .agg r.enc] [bN 1 2 l, bM l, bL l] R := by
 have hM := aQ hm;have hd := hM.deps;have hml := dw r;have hT1 := co (v := 3) (by decide) l r (x := r.target) (by simp [bK]);have hT2 : ∀ d ∈ r.deps, d.name ∈ bz 3 l r := fun d hd => co (by decide) l r (List.mem_cons_of_mem _ (List.mem_append_left _ (List.mem_map_of_mem hd)));have hT3 : r.tag ≠ [] → r.tag ∈ bz 3 l r := fun e => co (by decide) l r (by simp [bK, e]);have hTl := fB 3 l r;have eA : bz 3 l r = (bg r).foldl cQ l := fK (by decide) l r;have eP : bw 3 l r = (cI l (bg r)).map bu ++ [bS 3 (bz 3 l r) r] := by simp [bw, fY]
 rw [eP] at h;have hne := pQ r;have h64 : ∀ s ∈ bg r, s.length ≤ 64 := fun s hs => (fM hM s (ia.1 hs)).2;generalize hmr : bg r = m at h hml eA eP hne h64;generalize bz 3 l r = T at h hT1 hT2 hT3 hTl eA eP;refine ab (an := qo) tab_ok Tryz.func117 ?_;have hsl := aD m;conv=>whnf
 refine tQ ?_;conv=>whnf
 refine eG 3 r (by omega) fun p hp => ?_;rw [hm] at hp;subst hp;conv=>whnf
 refine lc r (by omega) ?_;rw [hmr];conv=>whnf
 refine au.ind3 (fun (i : Nat) (t o : List B) => [(8, .sl (some (ak 8)) 1 (ce o)), (30, vi i)]) (fun i t o => [(0, bN 1 2 t), (1, bM t), (2, bL t), (ak 8, .row 77 1 o.length)]) (fun i _ _ => m.length - i) (fun i t o => i ≤ m.length ∧ 0 ≤ i ∧ o ++ (cI t (m.drop i)).map bu = (cI l m).map bu ∧ (m.drop i).foldl cQ t = m.foldl cQ l ∧ o.length ≤ i ∧ t.length ≤ l.length + i) 0 l [] rfl ⟨by omega, by omega, by simp, by simp, by simp, by omega⟩ ?_;rintro i t o ⟨h0, hi1, ho1, ho2, hl1, hl2⟩ IH;have hol : o.length ≤ 60 := by omega
 have hrl := aP o;conv=>whnf
 refine ae (fun hc => ?_) (fun hc => ?_)
 ·have hc := ap hsl hc;have IH0 := IH (i + 1);clear IH;rw [List.drop_eq_getElem_cons hc] at ho1 ho2;rw [cI] at ho1;rw [List.foldl_cons] at ho2
  (conv=>whnf); (repeat ((with_reducible refine ac ?_ ?_); exact decide_eq_true (by omega); (conv=>whnf)))
  refine idxNat (by simpa using hc) ?_;have h64s := h64 m[i] (List.getElem_mem hc);generalize m[i] = s at ho1 ho2 h64s ⊢;have eB := ky s;have hsl2 := aM s;by_cases hs : s ∈ t
  ·have IH := IH0 t o ⟨by omega, by omega, by rw [if_pos hs] at ho1; exact ho1, by rw [dQ hs] at ho2; exact ho2, by omega, by omega⟩ (by omega);conv=>whnf
   refine j8 t s hs fun j => ?_;conv=>whnf
   rw [al (by omega)];exact IH
  ·have IH := IH0 (t ++ [s]) (o ++ [bu s]) ⟨by omega, by omega, by rw [if_neg hs] at ho1; rw [← ho1]; simp, by rw [dz hs] at ho2; exact ho2, by simp; omega, by simp; omega⟩ (by omega);rw [b8] at IH;conv=>whnf
   refine gZ t s (by omega) hs fun j => ?_;conv=>whnf
   refine ⟨rfl, by rw [dg]; rw [eB]; simp only [List.length_append, hsl2, List.length_cons, List.length_nil]; omega, ?_⟩;rw [eB, pW];conv=>whnf
   refine ⟨hrl.symm, by rw [hrl, cC]; simp; omega, ?_⟩;conv=>whnf
   rw [al (by omega), hrl];rw [show (o ++ [bu s]).length = o.length + 1 by simp] at IH;exact IH
 ·have hc := aw hsl hc;have e : i = m.length := by omega
  subst e;rw [List.drop_length] at ho1 ho2;rw [show cI t [] = [] from rfl, List.map_nil, List.append_nil] at ho1;rw [List.foldl_nil] at ho2;rw [← eA] at ho2;subst ho2;rw [← ho1, b8] at h;conv=>whnf
  refine JV r t hM (by omega) hT1 hT2 hT3 ?_;conv=>whnf
  refine ⟨hrl.symm, by rw [hrl, cC]; simp; omega, ?_⟩;conv=>whnf
  exact h
theorem F5 (r : Rc) (hm : aR 3 r = true) {R} (h : R (.tup [.sl none 1 (ce (bw 3 [] r)), vi 0]) [bN 1 2 (bz 3 [] r), bM (bz 3 [] r), bL (bz 3 [] r)]) : ag Tryz.prog 117 [vi 3, .ptr 0 0, .agg r.enc] [dq] R := by
 have hM := aQ hm;have hd := hM.deps;have hml := dw r;have hT1 := co (v := 3) (by decide) [] r (x := r.target) (by simp [bK]);have hT2 : ∀ d ∈ r.deps, d.name ∈ bz 3 [] r := fun d hd => co (by decide) [] r (List.mem_cons_of_mem _ (List.mem_append_left _ (List.mem_map_of_mem hd)));have hT3 : r.tag ≠ [] → r.tag ∈ bz 3 [] r := fun e => co (by decide) [] r (by simp [bK, e]);have hTl := fB 3 [] r;have eA : bz 3 [] r = (bg r).foldl cQ [] := fK (by decide) [] r;have eP : bw 3 [] r = (cI [] (bg r)).map bu ++ [bS 3 (bz 3 [] r) r] := by simp [bw, fY]
 rw [eP] at h;have hne := pQ r;have h64 : ∀ s ∈ bg r, s.length ≤ 64 := fun s hs => (fM hM s (ia.1 hs)).2;generalize hmr : bg r = m at h hml eA eP hne h64;generalize bz 3 [] r = T at h hT1 hT2 hT3 hTl eA eP;refine ab (an := qo) tab_ok Tryz.func117 ?_;have hsl := aD m;conv=>whnf
 refine tQ ?_;conv=>whnf
 refine eG 3 r (by omega) fun p hp => ?_;rw [hm] at hp;subst hp;conv=>whnf
 refine lc r (by omega) ?_;rw [hmr];conv=>whnf
 obtain ⟨a, n, rfl⟩ := List.exists_cons_of_ne_nil hne;refine au.step ?_;conv=>whnf
 refine aI (by rw [hsl]; simp <;> omega) ?_;conv=>whnf
 refine ri a ?_;have eB := ky a;have hsl2 := aM a;have ha64 := h64 a List.mem_cons_self;conv=>whnf
 refine ⟨rfl, by rw [dg]; rw [eB]; simp only [List.length_append, hsl2, List.length_cons, List.length_nil]; omega, ?_⟩;rw [eB, pW];conv=>whnf
 refine ⟨rfl, by rw [cC]; simp, ?_⟩;conv=>whnf
 refine au.ind3 (fun (i : Nat) (t o : List B) => [(8, .sl (some (ak 8)) 1 (ce o)), (30, vi i)]) (fun i t o => [(0, bN (ax 37 0) (ax 37 1) t), (ak 8, .row 77 1 o.length), (ax 37 0, bM t), (ax 37 1, bL t)]) (fun i _ _ => (a :: n).length - i) (fun i t o => i ≤ (a :: n).length ∧ 1 ≤ i ∧ o ++ (cI t ((a :: n).drop i)).map bu = (cI [] (a :: n)).map bu ∧ ((a :: n).drop i).foldl cQ t = (a :: n).foldl cQ [] ∧ o.length ≤ i ∧ t.length ≤ i) 1 [a] [bu a] rfl ⟨by simp, by omega, by simp [cI], by simp [cQ], by simp, by simp⟩ ?_;rintro i t o ⟨h0, hi1, ho1, ho2, hl1, hl2⟩ IH;have hol : o.length ≤ 60 := by omega
 have hrl := aP o;conv=>whnf
 refine ae (fun hc => ?_) (fun hc => ?_)
 ·have hc := ap hsl hc;have IH0 := IH (i + 1);clear IH;rw [List.drop_eq_getElem_cons hc] at ho1 ho2;rw [cI] at ho1;rw [List.foldl_cons] at ho2
  (conv=>whnf); (repeat ((with_reducible refine ac ?_ ?_); exact decide_eq_true (by omega); (conv=>whnf)))
  refine idxNat (by simpa using hc) ?_;have h64s := h64 (a :: n)[i] (List.getElem_mem hc);generalize (a :: n)[i] = s at ho1 ho2 h64s ⊢;have eB := ky s;have hsl2 := aM s;by_cases hs : s ∈ t
  ·have IH := IH0 t o ⟨by omega, by omega, by rw [if_pos hs] at ho1; exact ho1, by rw [dQ hs] at ho2; exact ho2, by omega, by omega⟩ (by omega);conv=>whnf
   refine j8 t s hs fun j => ?_;conv=>whnf
   rw [al (by omega)];exact IH
  ·have IH := IH0 (t ++ [s]) (o ++ [bu s]) ⟨by omega, by omega, by rw [if_neg hs] at ho1; rw [← ho1]; simp, by rw [dz hs] at ho2; exact ho2, by simp; omega, by simp; omega⟩ (by omega);rw [b8] at IH;conv=>whnf
   refine gZ t s (by omega) hs fun j => ?_;conv=>whnf
   refine ⟨rfl, by rw [dg]; rw [eB]; simp only [List.length_append, hsl2, List.length_cons, List.length_nil]; omega, ?_⟩;rw [eB, pW];conv=>whnf
   refine ⟨hrl.symm, by rw [hrl, cC]; simp; omega, ?_⟩;conv=>whnf
   rw [al (by omega), hrl];rw [show (o ++ [bu s]).length = o.length + 1 by simp] at IH;exact IH
 ·have hc := aw hsl hc;have e : i = (a :: n).length := by omega
  subst e;rw [List.drop_length] at ho1 ho2;rw [show cI t [] = [] from rfl, List.map_nil, List.append_nil] at ho1;rw [List.foldl_nil] at ho2;rw [← eA] at ho2;subst ho2;rw [← ho1, b8] at h;conv=>whnf
  refine JV r t hM (by omega) hT1 hT2 hT3 ?_;conv=>whnf
  refine ⟨hrl.symm, by rw [hrl, cC]; simp; omega, ?_⟩;conv=>whnf
  exact h
theorem ne1 {v : Int} (hv : v = 2 ∨ v = 3) : v ≠ 1 := by omega
theorem Ob {v : Int} (hv : v = 2 ∨ v = 3) (r : Rc) (hd : r.deps.length < 100000) (hm : aR v r = false) {R} (h : R (.tup [.val (.slice none 0 0), vi 1]) [dq]) : ag Tryz.prog 117 [vi v, .ptr 0 0, .agg r.enc] [dq] R := by
 rcases hv with rfl | rfl
 ·exact Of r hd hm h
 ·exact Od r hd hm h
theorem Oa {v : Int} (hv : v = 2 ∨ v = 3) (r : Rc) (l : List B) (hd : r.deps.length < 100000) (hm : aR v r = false) {R} (h : R (.tup [.val (.slice none 0 0), vi 1]) [bN 1 2 l, bM l, bL l]) : ag Tryz.prog 117 [vi v, .ptr 0 0, .agg r.enc] [bN 1 2 l, bM l, bL l] R := by
 rcases hv with rfl | rfl
 ·exact Oe r l hd hm h
 ·exact Oc r l hd hm h
theorem zG {v : Int} (hv : v = 2 ∨ v = 3) (r : Rc) (l : List B) (hl : l.length < 90000) (hm : aR v r = true) {R} (h : R (.tup [.sl none 1 (ce (bw v l r)), vi 0]) [bN 1 2 (bz v l r), bM (bz v l r), bL (bz v l r)]) : ag Tryz.prog 117 [vi v, .ptr 0 0, .agg r.enc] [bN 1 2 l, bM l, bL l] R := by
 rcases hv with rfl | rfl
 ·exact F6 r l hl hm h
 ·exact F4 r l hl hm h
theorem zH {v : Int} (hv : v = 2 ∨ v = 3) (r : Rc) (hm : aR v r = true) {R} (h : R (.tup [.sl none 1 (ce (bw v [] r)), vi 0]) [bN 1 2 (bz v [] r), bM (bz v [] r), bL (bz v [] r)]) : ag Tryz.prog 117 [vi v, .ptr 0 0, .agg r.enc] [dq] R := by
 rcases hv with rfl | rfl
 ·exact F7 r hm h
 ·exact F5 r hm h
def cO (b : B) (at_ : Nat) : aF := .cells 332 [.sl none 1 (ai b), vi (at_ : Int), vi 0]
theorem lY (b : B) (hb : b.length < 1000000) {R} (h : R (.ptr 0 0) [cO b 0]) : ag Tryz.prog 215 [.sl none 1 (ai b), vi 0] [] R := by
 refine ab (an := RP) tab_ok Tryz.func215 ?_;have hbl := aM b;conv=>whnf
 refine lj b (by omega) ?_;conv=>whnf
 exact h
theorem L8 (p q : B) (n : Nat) (hn : n < 18446744073709551616) (hl : p.length + q.length < 10000000) {R} (h : R (un n) [cO (p ++ vrn n ++ q) (p.length + (vrn n).length)]) :
  ag Tryz.prog 271 [.ptr 0 0, .fn (.func 267) [] []] [cO (p ++ vrn n ++ q) p.length] R := by
 refine ab (an := Q7) tab_ok Tryz.func271 ?_;conv=>whnf
 refine qt p q n hn (by omega) ?_;conv=>whnf
 exact h
theorem A7 (p q : B) (n : Nat) (hn : n < 18446744073709551616) (hl : p.length + q.length < 10000000) {R} (h : R (un n) [cO (p ++ vrn n ++ q) (p.length + (vrn n).length)]) :
  ag Tryz.prog 250 [.ptr 0 0] [cO (p ++ vrn n ++ q) p.length] R := by
 refine ab (an := Rs) tab_ok Tryz.func250 ?_;conv=>whnf
 refine L8 p q n hn hl ?_;conv=>whnf
 exact h
theorem QR (c : UInt8) (q : B) {R} (h : R (.tup [.val (.int .u8 (c.toNat : Int)), vi 1, vi 0]) []) (hq : q.length < 1000000) :
  ag Tryz.prog 270 [.sl none 1 (ai (c :: q)), vi 0] [] R := by
 refine ab (an := Q8) tab_ok Tryz.func270 ?_;have hbl := aM (c :: q);conv=>whnf
 exact h
theorem xf (c : UInt8) (q : B) (hq : q.length < 1000000) {R} (h : R (.val (.int .u8 (c.toNat : Int))) [cO (c :: q) 1]) :
  ag Tryz.prog 249 [.ptr 0 0] [cO (c :: q) 0] R := by
 refine ab (an := Rt) tab_ok Tryz.func249 ?_;conv=>whnf
 refine ab (an := Ra) tab_ok Tryz.func269 ?_;conv=>whnf
 refine QR c q ?_ hq;conv=>whnf
 exact h
theorem Qg (p q s : B) (hs : s.length ≤ 64) (hl : p.length + q.length < 10000000) {R} (h : R (.tup [vs s, vi ((p.length + (ba s).length : Nat) : Int), vi 0]) []) :
  ag Tryz.prog 276 [.sl none 1 (ai (p ++ ba s ++ q)), vi (p.length : Int), .cptr [vi 64] 0] [] R := by
 refine ab (an := Q4) tab_ok Tryz.func276 ?_;conv=>whnf
 refine (show ag Tryz.prog 246 [.sl none 1 (ai (p ++ ba s ++ q)), vi (p.length : Int), vi ((64 : Nat) : Int)] [] _ from ?_);refine q9 p q s 64 hs (by omega) (by omega) ?_;conv=>whnf
 exact h
theorem C6 (p q s : B) (hs : s.length ≤ 64) (hl : p.length + q.length < 10000000) {R} (h : R (vs s) [cO (p ++ ba s ++ q) (p.length + (ba s).length)]) :
  ag Tryz.prog 268 [.ptr 0 0, vi 64] [cO (p ++ ba s ++ q) p.length] R := by
 refine ab (an := Rb) tab_ok Tryz.func268 ?_;conv=>whnf
 refine ab (an := Q5) tab_ok Tryz.func275 ?_;conv=>whnf
 refine Qg p q s hs hl ?_;conv=>whnf
 exact h
theorem lF (b : B) (n : Nat) {R} (h : R (vi 0) [cO b n]) : ag Tryz.prog 251 [.ptr 0 0] [cO b n] R := by
 refine ab (an := Rr) tab_ok Tryz.func251 ?_;conv=>whnf
 exact h
end Go.Abs
end
