/- The engine, B5. -/
import Derived.Test.YtnjeogcgfoabhaaGreatE0B4
set_option linter.unusedVariables false
set_option linter.unusedSimpArgs false
namespace Go.Abs
open Go
section
variable {P : Program} {T : Tab} {an : Ann} {E : dQ} {st : St} {G : Gh} {a : Act} {w : World} {o : Oper} {k : St → Prop} {next : Act → World → Prop} {Q : Exit → Act → World → Prop}
def hZ (K : Nat → Nat → Option Value) (u' : Value) (ys : List Value) : Nat → Nat → Option Value := fun b o => if some b = u'.ownBlock then ys[o]? else K b o
theorem la {n b X : Nat} (h : n * (b + 1) ≤ X) : n * b ≤ X ∧ n ≤ X := by
 rw [Nat.mul_succ] at h;omega
theorem rB {K : Nat → Nat → Option Value} {u' : Value} {ys : List Value} {w' : World} {size top : Nat} {e : TypeId} (h : w'.ownsRow 0 e size u' top ys) {b o : Nat} {v : Value} (hb : some b = u'.ownBlock) (hv : ys[o]? = some v) : w'.cell? ⟨b, o, none⟩ = some v := by
 have := h.cells (g := b) hb.symm o v hv;rwa [cU, aaS] at this
theorem Gd {G' : Gh} {n : Nm} {e : TypeId} {size top : Nat} {u' : Value} {ys : List Value} {w' : World} {l : List (List AV)} (hown : w'.ownsRow 0 e size u' top ys) (htop : l.length = top) (hob : G'.ob n = some (.rowv u' top))
  (hK : ∀ g, u'.ownBlock = some g → ∀ o, G'.K g o = ys[o]?) (hl : aB G' l.flatten ys) (hok : ∀ e' ∈ l, e'.length = size ∧ bP e' = true) : Rep G' (.sl (some n) size l) u' := by
 simp only [Rep];refine ⟨?_, u', top, hob, by omega, fun _ => rfl⟩;rcases hown.2 with ⟨rfl, h0⟩ | ⟨g, cap, cur, rfl, _, _, hc, _⟩
 ·have : l = [] := aau (by omega);subst this;exact ⟨none, 0, rfl, by simp, by simp [d7]⟩
 ·refine ⟨_, cap, by rw [htop], by omega, d7.of_flat hl hok fun j v hj => ?_⟩;rw [hK g rfl];simpa using hj
theorem wX {t tx ty e : TypeId} {ie : TypeInfo} {z : Value} (hd : P.underlying t = some (.slice e)) (hie : P.info? e = some ie) (hz1 : ie.zero = some z) (hz3 : z.cells.size = ie.size) (hz4 : 0 < ie.size)
  {n : Nm} {l m : List (List AV)} {sv xv : Value} {news : List Value} (hI : Inv E st G a w) (hs : Rep G (.sl (some n) ie.size l) sv) (ho : ax st.objs n = some (.row e ie.size l.length))
  (hok : ∀ e' ∈ m, e'.length = ie.size ∧ bP e' = true) (n1 : aB G m.flatten news) (n2 : news.length = m.length * ie.size) (n3 : ∀ v ∈ news, v.oneCell' = true)
  (hap : tB P w t tx ty e ie.size ie.bytes m.length news xv) (hby : (l.length + m.length) * ie.bytes ≤ 140737488355328) (hlen : l.length + m.length ≤ 140737488355328)
  {objs' : List (Nm × aE)} (g2 : ∀ q, ax objs' q = if q = n then some (.row e ie.size (l.length + m.length)) else ax st.objs q) : ∃ u' w' G', (Builtin.append_ #[t, tx] ty #[sv, xv]).run P w = .ok u' w' ∧ Inv E ⟨st.slots, objs'⟩ G' a w' ∧ Rep G' (.sl (some n) ie.size (l ++ m)) u' := by
 simp only [Rep] at hs;obtain ⟨⟨A', c', hsv, hc', hE'⟩, u0, top0, e1, e2, e3⟩ := hs;obtain ⟨u, xs, o1, o2, o3⟩ := hI.wr.obj _ _ ho;rw [o1] at e1;injection e1 with e1
 injection e1 with e1 e1'
 subst e1 e1';have hu : sv = u := e3 rfl;have hokl : ∀ e' ∈ l, e'.length = ie.size ∧ bP e' = true := fun e' he' => by
  obtain ⟨i, hi⟩ := List.mem_iff_getElem?.1 he';obtain ⟨_, _, _, h1, h2, _⟩ := hE'.get hi;exact ⟨h1, h2⟩
 have hxs : aB G l.flatten xs := by
  obtain ⟨vs, v1, v2, _, v4⟩ := hE'.flat;by_cases hl0 : l = []
  ·subst hl0;have : xs = [] := aau (by rw [o2.1]; simp);subst this;simp [aB]
  ·obtain ⟨b, o', hA', hkv⟩ := v4 hl0;subst hA';have hub : u.ownBlock = some b := by rw [← hu, hsv]; rfl
   have ho0 : o' = 0 := by
    rcases o2.2 with ⟨hn, _⟩ | ⟨g, cap, cur, hg, _⟩
    ·rw [hu, hn] at hsv; cases hsv
    ·rw [hu, hg] at hsv; cases hsv; rfl
   subst ho0;have : xs = vs := by
    apply List.ext_getElem?;intro j;rcases aaN j vs.length with hj | hj
    ·have h1 := hkv j vs[j] (aad hj);rw [o3 b hub] at h1;rw [aad hj];simpa using h1
    ·rw [aaP hj, aaP (by rw [o2.1, ← v2]; exact hj)]
   rw [this]; exact v1
 obtain ⟨u', w', hr, hown', hg, hat, hm0⟩ := hap u l.length xs o2 hby hlen;have hatn : ∀ b, G.at n b ↔ u.ownBlock = some b := fun b => by
  constructor
  ·rintro (h1 | ⟨u1, t1, h1, h2⟩)
   ·rw [o1] at h1; cases h1
   ·rw [o1] at h1; cases h1; exact h2
  ·intro h1; exact .inr ⟨u, _, o1, h1⟩
 have hK1 : ∀ b o, b < w.heap.size → ¬ G.at n b → hZ G.K u' (xs ++ news) b o = G.K b o := by
  intro b o hb hnat;have : some b ≠ u'.ownBlock := by
   intro e;rcases hat with h1 | ⟨h1, _⟩
   ·rw [h1] at e; exact hnat ((hatn b).2 e.symm)
   ·rw [h1] at e; injection e with e; omega
  simp [hZ, this]
 have hle : G.le ⟨hZ G.K u' (xs ++ news), aN G.ob n (.rowv u' (l.length + m.length))⟩ := by
  refine ⟨fun b o v ev => ?_, fun m' b e => ?_, fun m' u1 t1 e => ?_⟩
  ·show hZ _ _ _ _ _ = _;by_cases hb : some b = u'.ownBlock
   ·simp only [hZ, hb, abq];rcases hat with h1 | ⟨h1, _⟩
    ·rw [h1] at hb;rw [o3 b hb.symm] at ev;rw [aaM (List.getElem?_eq_some_iff.1 ev).1]; exact ev
    ·rw [h1] at hb; injection hb with hb
     have := hI.wr.kltb ev; omega
   ·simp only [hZ, hb, aaW]; exact ev
  ·by_cases hmn : m' = n
   ·subst hmn; rw [o1] at e; cases e
   ·simp [aN, hmn, e]
  ·by_cases hmn : m' = n
   ·subst hmn;rw [o1] at e
    cases e;refine ⟨u', l.length + m.length, by simp [aN], ?_⟩;by_cases hm' : m.length = 0
    ·exact .inr ⟨hm0 hm', by omega⟩
    ·exact .inl (by omega)
   ·exact ⟨u1, t1, by simp [aN, hmn, e], .inr ⟨rfl, rfl⟩⟩
 have hI' := hI.setObj (w' := w') (n := n) (o' := .row e ie.size (l.length + m.length)) (objs' := objs') (g := .rowv u' (l.length + m.length)) (K' := hZ G.K u' (xs ++ news)) ho hg.os hg.tape hg.output hg.size
  (fun b hb hnat => hg.block b hb (fun e => hnat ((hatn b).2 e.symm))) hK1 hle
  (fun b o v hb ev => by
   by_cases hbu : some b = u'.ownBlock
   ·simp only [hZ, hbu, abq] at ev;exact rB (K := G.K) hown' hbu ev
   ·simp only [hZ, hbu, aaW] at ev;have hlt := hI.wr.kltb ev;rcases hb with hb | hb
    ·omega
    ·rcases hat with h1 | ⟨h1, hgn⟩
     ·rw [h1] at hbu;exact absurd ((hatn b).1 hb).symm hbu
     ·rw [cell_of_heap (hgn.block b hlt (by simp))];exact hI.wr.know b o v ev)
  g2
  ⟨u', xs ++ news, by simp [aN], hown', fun g hg o => by simp [hZ, hg]⟩
  (fun b hb => by
   have := gD hb;rcases hat with h1 | ⟨h1, _⟩
   ·rw [h1] at this; exact .inr ((hatn b).2 this)
   ·rw [h1] at this; injection this with this; exact .inl (by omega))
 refine ⟨u', w', _, by rw [hu]; exact hr, hI', ?_⟩;exact Gd hown' (by simp) (by simp [aN]) (fun g hg o => by simp [hZ, hg]) (by rw [abL]; exact (aB.mono hle _ _ hxs).append (aB.mono hle _ _ n1)) (fun e' he' => by
  simp only [aaJ] at he';rcases he' with he' | he'
  ·exact hokl e' he'
  ·exact hok e' he')
theorem lZ (hT : cd P T) {t tx ty : TypeId} {d : Nat} {s : Operand} {own : Option Nm} {sz : Nat} {m : List (List AV)} {xv : Value} {K : AV → List (Nm × aE) → Prop} (hI : Inv E st G a w) (h : i9 T st.objs d t (evA st.slots s) (.sl own sz m) K)
  (hsrc : ∀ (e : TypeId) (ie : TypeInfo) (z : Value), P.underlying t = some (.slice e) → P.info? e = some ie → sz = ie.size → ie.zero = some z → z.cells.size = ie.size → 0 < ie.size →
   ∃ news, aB G m.flatten news ∧ news.length = m.length * ie.size ∧ (∀ v ∈ news, v.oneCell' = true) ∧ (∀ e' ∈ m, e'.length = ie.size ∧ bP e' = true) ∧ tB P w t tx ty e ie.size ie.bytes m.length news xv) : ∃ u' w' v objs' G', (Builtin.append_ #[t, tx] ty #[a.eval s, xv]).run P w = .ok u' w' ∧ K v objs' ∧ Inv E ⟨st.slots, objs'⟩ G' a w' ∧ Rep G' v u' := by
 have hs := hI.eval s;unfold i9 at h;split at h
 ·rename_i e hde;obtain ⟨inf, dd, hinf, hd, htd⟩ := cB hT hde (by simp);obtain rfl := dc htd;split at h
  ·exact h.elim
  ·rename_i hoke;obtain ⟨ie, de, hie, hue, hse, hbe, _, _, hze⟩ := bN hT hoke;simp only at h;split at h
   ·exact h.elim
   ·rename_i hsz;simp only [aaq] at hsz;obtain ⟨hsz, hzok⟩ := hsz;obtain ⟨iz, z, hiz, hz1, hz2, hz3, hz4, hz5⟩ := fP hT hoke hzok;rw [hie] at hiz
    cases hiz;have hsz : sz = ie.size := by rw [← hse]; exact aah hsz
    subst hsz;obtain ⟨news, n1, n2, n3, hok, hap⟩ := hsrc e ie z hd hie rfl hz1 hz3 hz4;split at h
    ·-- an owned row
     rename_i n sz' l hse';split at h
     ·exact h.elim
     ·rename_i hsz';have hsz' : sz' = ie.size := by rw [← hse]; exact aah hsz'
      subst hsz';split at h
      ·rename_i te sr top ho;split at h
       ·exact h.elim
       ·rename_i hte;simp only [aaq] at hte;obtain rfl := aah hte.1;have hsr : sr = ie.size := by rw [← hse]; exact aah hte.2
        subst hsr;obtain ⟨htop, hby, h⟩ := h;subst htop;obtain ⟨objs', g1, g2⟩ := cu h;rw [hse'] at hs;obtain ⟨hby, hlen⟩ := la hby;obtain ⟨u', w', G', hr, hI', hR⟩ := wX (ty := ty) (objs' := objs') hd hie hz1 hz3 hz4 hI hs ho hok n1 n2 n3 hap (by rw [← hbe]; exact hby) hlen (by rw [hse] at g2; exact g2);exact ⟨u', w', _, objs', G', hr, by rw [hse] at g1; exact g1, hI', hR⟩
      ·exact h.elim
    ·-- nil
     rename_i hse';obtain ⟨hby, h⟩ := h;obtain ⟨objs', g1, g2, g3⟩ := dK h;rw [hse'] at hs;simp only [Rep] at hs;obtain ⟨hby, hlen⟩ := la hby;have hlen : 0 + m.length ≤ 140737488355328 := by omega
     obtain ⟨u', w', hr, hown', hg, hat, hm0⟩ := hap (.slice none 0 0) 0 [] (World.ownsRow_nil w 0 e ie.size) (by rw [← hbe, aaS]; exact hby) hlen;have hub : u'.ownBlock = none ∨ u'.ownBlock = some w.heap.size := by
      rcases hat with h1 | ⟨h1, _⟩
      ·exact .inl h1
      ·exact .inr h1
     simp only [aam, aaS] at hown';have hI' := hI.newObj (w' := w') (n := al d) (o := .row e ie.size m.length) (objs' := objs') (g := .rowv u' m.length) (K' := hZ G.K u' news) hg.os hg.tape hg.output hg.size
      (fun b hb => hg.block b hb (by simp [Value.ownBlock])) (fun b o hb => by
       have : some b ≠ u'.ownBlock := by
        intro e;rcases hub with h1 | h1
        ·rw [h1] at e; cases e
        ·rw [h1] at e; injection e with e; omega
       simp [hZ, this]) (fun b o v hb ev => by
       by_cases hbu : some b = u'.ownBlock
       ·simp only [hZ, hbu, abq] at ev;exact rB (K := G.K) hown' hbu ev
       ·simp only [hZ, hbu, aaW] at ev;have := hI.wr.kltb ev;omega) g2 (by rw [hse] at g3; exact g3)
      ⟨u', news, by simp [aN], hown', fun g hg o => by simp [hZ, hg]⟩
      (fun b hb => by
       have := gD hb;rcases hub with h1 | h1
       ·rw [h1] at this; cases this
       ·rw [h1] at this; injection this with this; omega)
     refine ⟨u', w', _, objs', _, by rw [hs]; exact hr, by rw [hse] at g1; exact g1, hI'.1, ?_⟩;exact Gd hown' rfl (by simp [aN]) (fun g hg o => by simp [hZ, hg]) (aB.mono hI'.2 _ _ n1) hok
    ·exact h.elim
 ·exact h.elim
theorem pY (hT : cd P T) {t t2 ty : TypeId} {e2 : TypeId} (h2 : P.underlying t2 = some (.slice e2)) {d : Nat} {s x : Operand} {K : AV → List (Nm × aE) → Prop} (hI : Inv E st G a w) (h : i9 T st.objs d t (evA st.slots s) (evA st.slots x) K) : ∃ u' w' v objs' G', (Builtin.append_ #[t, t2] ty #[a.eval s, a.eval x]).run P w = .ok u' w' ∧ K v objs' ∧ Inv E ⟨st.slots, objs'⟩ G' a w' ∧ Rep G' v u' := by
 have hx := hI.eval x;have hcase : ∃ own sz m, evA st.slots x = .sl own sz m := by
  unfold i9 at h;split at h
  ·split at h
   ·exact h.elim
   ·split at h
    ·rename_i own sz m hxe; exact ⟨_, _, _, hxe⟩
    ·exact h.elim
  ·exact h.elim
 obtain ⟨own, sz, m, hxe⟩ := hcase;rw [hxe] at h hx;simp only [Rep] at hx;obtain ⟨⟨A, c, hxv, hc, hE⟩, _⟩ := hx;rw [hxv];refine lZ hT hI h fun e ie z hd hie hsz hz1 hz3 hz4 => ?_;subst hsz;obtain ⟨news, n1, n2, n3, n4⟩ := hE.flat;refine ⟨news, n1, n2, n3, fun e' he' => ?_, xQ hd h2 (sB hd hie hz1 hz3 hz4 n2 (fun hm => ?_) n3)⟩
 ·obtain ⟨i, hi⟩ := List.mem_iff_getElem?.1 he';obtain ⟨_, _, _, h1, h2, _⟩ := hE.get hi;exact ⟨h1, h2⟩
 ·obtain ⟨b, o', hA, h5⟩ := n4 (by intro e; rw [e] at hm; exact hm rfl);exact ⟨b, o', hA, fun j v hj => hI.wr.know _ _ _ (by simpa using h5 j v hj)⟩
theorem zx (hT : cd P T) {t ty : TypeId} {d : Nat} {s x : Operand} {K : AV → List (Nm × aE) → Prop} (hI : Inv E st G a w) (h : i9 T st.objs d t (evA st.slots s) (evA st.slots x) K) : ∃ u' w' v objs' G', (Builtin.append_ #[t, t] ty #[a.eval s, a.eval x]).run P w = .ok u' w' ∧ K v objs' ∧ Inv E ⟨st.slots, objs'⟩ G' a w' ∧ Rep G' v u' := by
 have hd : ∃ e, dOf T t = .slice e := by
  unfold i9 at h;split at h
  ·rename_i e hde; exact ⟨e, hde⟩
  ·exact h.elim
 obtain ⟨e, hde⟩ := hd;obtain ⟨_, dd, _, hd, htd⟩ := cB hT hde (by simp);obtain rfl := dc htd;exact pY hT hd hI h
theorem xe (hT : cd P T) {t t2 ty : TypeId} {d : Nat} {s x : Operand} {K : AV → List (Nm × aE) → Prop} (hI : Inv E st G a w) (h : mW T st.objs d t t2 (evA st.slots s) (evA st.slots x) K) : ∃ u' w' v objs' G', (Builtin.append_ #[t, t2] ty #[a.eval s, a.eval x]).run P w = .ok u' w' ∧ K v objs' ∧ Inv E ⟨st.slots, objs'⟩ G' a w' ∧ Rep G' v u' := by
 have hx := hI.eval x;unfold mW at h;split at h
 ·rename_i hd2;split at h
  ·rename_i e hde;split at h
   ·rename_i hdu;split at h
    ·rename_i b hxe;rw [hxe] at hx;simp only [Rep] at hx;rw [hx];obtain ⟨_, d2, _, hu2, htd2⟩ := cB hT hd2 (by simp);obtain rfl := dP htd2;refine lZ hT hI h fun e' ie z hd hie hsz hz1 hz3 hz4 => ?_;have hlen : (qg b).length = b.size := by simp [qg]
     have hfl : ∀ (l : List UInt8), aB G ((l.map fun c => [AV.val (.int .u8 c.toNat)]).flatten) (l.map fun c => Value.int .u8 c.toNat) := by
      intro l
      induction l with
      | nil => simp [aB]
      | cons c l ih =>
       simp only [aaF, aa2, aav, aam, aB, Rep];exact ⟨_, _, rfl, rfl, ih⟩
     refine ⟨Lib.strCells b, hfl _, by rw [hlen, ← hsz, Nat.mul_one]; exact Lib.strCells_length b, Lib.strCells_oneCell b, fun e'' he => ?_, ?_⟩
     ·unfold qg at he;obtain ⟨c, _, rfl⟩ := List.mem_map.1 he;exact ⟨by simpa using hsz, rfl⟩
     ·rw [hlen];exact xP hd hu2 hie hz1 hz3 hsz.symm b
    ·exact h.elim
   ·exact h.elim
  ·exact h.elim
 ·rename_i e2 hd2;obtain ⟨_, d2, _, hu2, htd2⟩ := cB hT hd2 (by simp);obtain rfl := dc htd2;split at h
  ·rename_i own sz m hxe;rw [← hxe] at h;exact pY hT hu2 hI h
  ·exact h.elim
 ·exact h.elim
theorem r8 {α : Type} {size : Nat} : ∀ {l : List (List α)} (k : Nat), (∀ e ∈ l, e.length = size) → (l.take k).flatten = l.flatten.take (k * size) := by
 intro l
 induction l with
 | nil => intro k _; simp
 | cons x l ih =>
  intro k hl
  cases k with
  | zero => simp
  | succ k =>
   have hx : x.length = size := hl x (by simp);rw [abA, aa2, aa2, ih k (fun e he => hl e (by simp [he])), Nat.succ_mul, show k * size + size = x.length + k * size by omega, abf]
theorem Aq {α : Type} {size : Nat} : ∀ {l : List (List α)} (k : Nat), (∀ e ∈ l, e.length = size) → (l.drop k).flatten = l.flatten.drop (k * size) := by
 intro l
 induction l with
 | nil => intro k _; simp
 | cons x l ih =>
  intro k hl
  cases k with
  | zero => simp
  | succ k =>
   have hx : x.length = size := hl x (by simp);rw [List.drop_succ_cons, aa2, ih k (fun e he => hl e (by simp [he])), Nat.succ_mul, show k * size + size = x.length + k * size by omega, List.drop_length_add_append]
theorem p9 {e : TypeId} {size L len : Nat} {u v : Value} {xs : List Value} (h : w.ownsRow 0 e size u L xs) (hv : Dy u size 0 len v) (hle : len ≤ L) : w.ownsRow 0 e size v len (xs.take (len * size)) ∧ v.ownBlock = u.ownBlock := by
 obtain ⟨A, L', c, A', hu, h1, h2, hve, hA, _⟩ := hv;obtain rfl := hA rfl;have hxl : len * size ≤ xs.length := by rw [h.1]; exact abI _ hle
 have hlen : (xs.take (len * size)).length = len * size := by rw [aan]; omega
 rcases h.2 with ⟨hn, h0⟩ | ⟨g, cap, cur, hs, hbase, hgb, r1, r2, r3, r4⟩
 ·rw [hn] at hu;injection hu with q1 q2 q3
  subst q1 q2 q3;have : len = 0 := by omega
  subst this;exact ⟨⟨hlen, .inl ⟨by rw [hve], rfl⟩⟩, by rw [hve, hn]⟩
 ·rw [hs] at hu;injection hu with q1 q2 q3
  subst q1 q2 q3;refine ⟨⟨hlen, .inr ⟨g, cap, cur, by rw [hve]; rfl, hbase, hgb, by omega, r2, r3, ?_⟩⟩, by rw [hve, hs]; rfl⟩;rw [← r4, List.take_take, Nat.min_eq_left (abI _ hle)]
theorem LA {G' : Gh} {n : Nm} {e : TypeId} {size top ver : Nat} {u' : Value} {ys : List Value} {w' : World} (hown : w'.ownsRow 0 e size u' top ys) (hob : G'.ob n = some (.rowv u' ver)) : Rep G' (.slv n size ver 0 top) u' := by
 simp only [Rep];rcases hown.2 with ⟨rfl, rfl⟩ | ⟨g, cap, cur, rfl, _, _, hc, _⟩
 ·exact ⟨⟨none, 0, rfl, fun h => absurd rfl h, aar _⟩, _, ver, hob, aar _, fun _ => ⟨none, 0, 0, none, rfl, aar _, aar _, rfl, fun _ => rfl, fun h => absurd rfl h⟩⟩
 ·exact ⟨⟨_, cap, rfl, fun _ => ⟨g, 0, rfl⟩, hc⟩, _, ver, hob, aar _, fun _ => ⟨_, top, cap, _, rfl, by omega, hc, rfl, fun _ => rfl, fun _ => ⟨g, rfl, by simp⟩⟩⟩
set_option maxHeartbeats 1000000 in
theorem xd (hT : cd P T) {t ty : TypeId} {s x : Operand} {K : AV → List (Nm × aE) → Prop} (hI : Inv E st G a w) (h : mR T st.objs t (evA st.slots s) (evA st.slots x) K) : ∃ u' w' v objs' G', (Builtin.append_ #[t, t] ty #[a.eval s, a.eval x]).run P w = .ok u' w' ∧ K v objs' ∧ Inv E ⟨st.slots, objs'⟩ G' a w' ∧ Rep G' v u' := by
 have hs := hI.eval s;have hx := hI.eval x;unfold mR at h;split at h
 ·rename_i e hde;obtain ⟨inf, dd, hinf, hd, htd⟩ := cB hT hde (by simp);obtain rfl := dc htd;split at h
  ·exact h.elim
  ·rename_i hoke;obtain ⟨ie, de, hie, hue, hse, hbe, _, _, hze⟩ := bN hT hoke;split at h
   ·rename_i own sz m hxe;rw [hxe] at hx;simp only [Rep] at hx;obtain ⟨⟨A, c, hxv, hc, hE⟩, _⟩ := hx;split at h
    ·exact h.elim
    ·rename_i hsz;simp only [aaq] at hsz;obtain ⟨hsz, hzok⟩ := hsz;obtain ⟨iz, z, hiz, hz1, hz2, hz3, hz4, hz5⟩ := fP hT hoke hzok;rw [hie] at hiz
     cases hiz;have hsz : sz = ie.size := by rw [← hse]; exact aah hsz
     subst hsz;obtain ⟨news, n1, n2, n3, n4⟩ := hE.flat;have hok : ∀ e' ∈ m, e'.length = ie.size ∧ bP e' = true := fun e' he' => by
      obtain ⟨i, hi⟩ := List.mem_iff_getElem?.1 he';obtain ⟨_, _, _, h1, h2, _⟩ := hE.get hi;exact ⟨h1, h2⟩
     have hnews : m.length ≠ 0 → ∃ b o, A = some ⟨b, o, none⟩ ∧ ∀ (j : Nat) v, news[j]? = some v → w.cell? ⟨b, o + j, none⟩ = some v := by
      intro hm;obtain ⟨b, o', hA, h5⟩ := n4 (by intro e; rw [e] at hm; exact hm rfl);exact ⟨b, o', hA, fun j v hj => hI.wr.know _ _ _ (by simpa using h5 j v hj)⟩
     split at h
     ·rename_i n sz' ver off len hse';split at h
      ·exact h.elim
      ·rename_i hsz';have hsz' : sz' = ie.size := by rw [← hse]; exact aah hsz'
       subst hsz';split at h
       ·rename_i te sr l ver' ho;split at h
        ·exact h.elim
        ·rename_i hte;simp only [aaq] at hte;obtain rfl := aah hte.1;have hsr : sr = ie.size := by rw [← hse]; exact aah hte.2
         subst hsr;obtain ⟨⟨hver, hoff, hlenl⟩, hby, hK⟩ := h;obtain ⟨objs', g1, g2⟩ := cu hK;rw [hse'] at hs;simp only [Rep] at hs;obtain ⟨_, u0, top0, e1, e2, e3⟩ := hs;obtain ⟨u, xs, o1, o2, o3, o4, o5⟩ := hI.wr.obj _ _ ho;rw [o1] at e1;injection e1 with e1
         injection e1 with e1 e1'
         subst e1 e1';subst hoff;obtain ⟨htr, hblk⟩ := p9 o2 (e3 hver) hlenl;obtain ⟨hby, hlen2⟩ := la hby;obtain ⟨u', w', hr, hown', hg, hat, hm0⟩ := l6 (w := w) (ty := ty) hd hie hz1 hz3 hz4 htr n2 hnews n3 (by rw [← hbe]; exact hby) hlen2 (c := c);rw [hblk] at hg hat;have hatn : ∀ b, G.at n b ↔ u.ownBlock = some b := fun b => by
          constructor
          ·rintro (h1 | ⟨u1, t1, h1, h2⟩)
           ·rw [o1] at h1; cases h1
           ·rw [o1] at h1; cases h1; exact h2
          ·intro h1; exact .inr ⟨u, _, o1, h1⟩
         have hKn : ∀ b, G.at n b → ∀ o, G.K b o = none := fun b hb => o5 b ((hatn b).1 hb);have hle : G.le ⟨G.K, aN G.ob n (.rowv u' (ver' + 1))⟩ := by
          refine ⟨fun b o v ev => ev, fun m' b e => ?_, fun m' u1 t1 e => ?_⟩
          ·by_cases hmn : m' = n
           ·subst hmn; rw [o1] at e; cases e
           ·simp [aN, hmn, e]
          ·by_cases hmn : m' = n
           ·subst hmn;rw [o1] at e
            cases e;exact ⟨u', ver' + 1, by simp [aN], .inl (by omega)⟩
           ·exact ⟨u1, t1, by simp [aN, hmn, e], .inr ⟨rfl, rfl⟩⟩
         have hlt : (l.take len).length = len := by rw [aan]; omega
         have hI' := hI.setObj (w' := w') (n := n) (o' := .vec te ie.size (l.take len ++ m) (ver' + 1)) (objs' := objs') (g := .rowv u' (ver' + 1)) (K' := G.K) ho hg.os hg.tape hg.output hg.size
          (fun b hb hnat => hg.block b hb (fun e => hnat ((hatn b).2 e.symm))) (fun _ _ _ _ => rfl) hle
          (fun b o v hb ev => by
           rcases hb with hb | hb
           ·have := hI.wr.kltb ev; omega
           ·rw [hKn b hb] at ev; cases ev)
          (by rw [hse] at g2; exact g2)
          ⟨u', xs.take (len * ie.size) ++ news, by simp [aN], by rw [aac, hlt]; exact hown', by
           rw [abL, r8 len (fun e he => (o4 e he).1)];exact ((aB.mono hle _ _ o3).take _).append (aB.mono hle _ _ n1), (fun e' he' => by
           simp only [aaJ] at he';rcases he' with he' | he'
           ·exact o4 e' (aaU he')
           ·exact hok e' he'), (fun g hg o => by
           rcases hat with h1 | ⟨h1, _⟩
           ·rw [h1] at hg; exact o5 g hg o
           ·rw [h1] at hg; injection hg with hg
            subst hg;show G.K _ _ = none
            cases ev : G.K w.heap.size o with
            | none => rfl
            | some v => have := hI.wr.kltb ev; omega)⟩
          (fun b hb => by
           have := gD hb;rcases hat with h1 | ⟨h1, _⟩
           ·rw [h1] at this; exact .inr ((hatn b).2 this)
           ·rw [h1] at this; injection this with this; exact .inl (by omega))
         refine ⟨u', w', _, objs', _, by rw [hxv]; exact hr, by rw [hse] at g1; exact g1, hI', ?_⟩;exact LA hown' (by simp [aN])
       ·exact h.elim
     ·exact h.elim
   ·rename_i n2 sz ver off len hxe;rw [hxe] at hx;simp only [Rep] at hx;obtain ⟨⟨A, c, hxv, _, _⟩, u0, top0, e1, e2, e3⟩ := hx;split at h
    ·exact h.elim
    ·rename_i hsz;simp only [aaq] at hsz;obtain ⟨hsz, hzok⟩ := hsz;obtain ⟨iz, z, hiz, hz1, hz2, hz3, hz4, hz5⟩ := fP hT hoke hzok;rw [hie] at hiz
     cases hiz;have hsz : sz = ie.size := by rw [← hse]; exact aah hsz
     subst hsz;split at h
     ·rename_i te2 sr2 l2 ver' ho2;split at h
      ·exact h.elim
      ·rename_i hte2;simp only [aaq] at hte2;obtain rfl := aah hte2.1;have hsr : sr2 = ie.size := by rw [← hse]; exact aah hte2.2
       subst hsr;obtain ⟨u, xs, o1, o2, o3, o4, o5⟩ := hI.wr.obj _ _ ho2;rw [o1] at e1;injection e1 with e1
       injection e1 with e1 e1'
       subst e1 e1';split at h
       ·rename_i n sz' l hse';split at h
        ·exact h.elim
        ·rename_i hsz';have hsz' : sz' = ie.size := by rw [← hse]; exact aah hsz'
         subst hsz';split at h
         ·rename_i te sr top ho;split at h
          ·exact h.elim
          ·rename_i hte;simp only [aaq] at hte;obtain rfl := aah hte.1;have hsr : sr = ie.size := by rw [← hse]; exact aah hte.2
           subst hsr;obtain ⟨⟨hver, htop⟩, hby, hK⟩ := h;subst htop;obtain ⟨objs', g1, g2⟩ := cu hK;obtain ⟨hby, hlen2⟩ := la hby;rw [hse'] at hs;obtain ⟨A0, L, c0, A', hu, hL, hLc, hv, hA0, hgg⟩ := e3 hver;have hLl : L = l2.length := by
            rcases o2.2 with ⟨hn, h0⟩ | ⟨g, cap, cur, hn, _⟩
            ·rw [hn] at hu; injection hu with _ q2 _; omega
            ·rw [hn] at hu; injection hu with _ q2 _; omega
           rw [hxv] at hv;injection hv with hv1 hv2 hv3
           have hml : ((l2.drop off).take len).length = len := by simp; omega
           have q2 : ((xs.drop (off * ie.size)).take (len * ie.size)).length = ((l2.drop off).take len).length * ie.size := by rw [aan, abk, o2.1, hml, ← Nat.sub_mul, Nat.min_eq_left (abI _ (by omega))]
           have q3 : ∀ v ∈ (xs.drop (off * ie.size)).take (len * ie.size), v.oneCell' = true := fun v hv => (o3.one fun q hq => by
             obtain ⟨e', he', hq⟩ := List.mem_flatten.1 hq;exact jJ (fJ.1 (o4 e' he').2 q hq)) v (abT (aaU hv))
           obtain ⟨u', w', G', hr, hI', hR⟩ := wX (ty := ty) (m := (l2.drop off).take len) (news := (xs.drop (off * ie.size)).take (len * ie.size)) (objs' := objs') hd hie hz1 hz3 hz4 hI hs ho
            (fun e' he' => o4 e' (abT (aaU he')))
            (by rw [r8 len (fun e he => (o4 e (abT he)).1), Aq off (fun e he => (o4 e he).1)]; exact (o3.drop _).take _)
            q2 q3
            (sB (A := A) (c := c0 - off) hd hie hz1 hz3 hz4 q2 (fun hm => by
             obtain ⟨g, hA1, hA2⟩ := hgg (by omega);refine ⟨g, off * ie.size, by rw [hv1]; exact hA2, fun j v hj => ?_⟩;have hj2 := (List.getElem?_eq_some_iff.1 hj).1;rw [abb (by rw [aan] at hj2; omega), abd] at hj;have := o2.cells (g := g) (by rw [hu, hA1]; rfl) (off * ie.size + j) v hj;rwa [cU, aaS] at this) q3)
            (by rw [hml, ← hbe]; exact hby) (by rw [hml]; exact hlen2) (by rw [hml]; rw [hse] at g2; exact g2)
           have hr2 : (Builtin.append_ #[t, t] ty #[a.eval s, .slice A len (c0 - off)]).run P w = .ok u' w' := by rw [hml] at hr; exact hr
           exact ⟨u', w', _, objs', G', by rw [hxv, hv3]; exact hr2, by rw [hse] at g1; exact g1, hI', hR⟩
         ·exact h.elim
       ·exact h.elim
     ·exact h.elim
   ·exact h.elim
 ·exact h.elim
end
end Go.Abs
