/- The engine, BW. -/
import Derived.Test.YtnjeogcgfoabhaaGreatE0BO
set_option linter.unusedVariables false
set_option linter.unusedSimpArgs false
namespace Go.Abs
open Go
section
variable {P : Program} {T : Tab} {an : Ann} {E : dQ} {st : St} {G : Gh} {a : Act} {w : World} {o : Oper} {k : St → Prop} {next : Act → World → Prop} {Q : Exit → Act → World → Prop}
theorem vc (hT : cd P T) {t te : TypeId} {e : TypeId} (hde : dOf T t = .slice e) {own : Option Nm} {sz : Nat} {l : List (List AV)} {x y : Value} (hx : Rep G (.sl own sz l) x) (hy : y = .slice none 0 0) : ∃ b : Bool, (b = true → l = []) ∧ (∀ xo yo, (do eqGuard .eql t xo yo x y; Go.binOp .eql t x y).run P w = .ok (.bool b) w) ∧ (∀ xo yo, (do eqGuard .neq t xo yo x y; Go.binOp .neq t x y).run P w = .ok (.bool (!b)) w) := by
 obtain ⟨inf, d, hinf, hd, htd⟩ := cB hT hde (by simp);obtain rfl := dc htd;simp only [Rep] at hx;obtain ⟨⟨A, c, rfl, hc, hE⟩, _⟩ := hx;subst hy;have key : ∀ (x y : Value) (c : Bool), (∀ n, (Op.equalIn (n + 1) t x y).run P w = .ok c w) → (Op.equal t x y).run P w = .ok c w := fun x y c h => h 9999
 cases A with
 | none =>
  have := key (.slice none l.length c) (.slice none 0 0) true (fun n => by simp [Op.equalIn, run_underlying hd]);refine ⟨true, fun _ => ?_, ?_, ?_⟩
  ·cases l with
   | nil => rfl
   | cons e l =>
    obtain ⟨_, _, h1, _⟩ := hE.get (i := 0) (e := e) (by simp)
    cases h1
  all_goals intro xo yo; simp [eqGuard, Go.binOp, this]
 | some ad =>
  have := key (.slice (some ad) l.length c) (.slice none 0 0) false (fun n => by simp [Op.equalIn, run_underlying hd]);refine ⟨false, fun e => (by cases e), ?_, ?_⟩
  all_goals intro xo yo; simp [eqGuard, Go.binOp, this]
theorem rY {p : Option Nat} {k : St → Prop} (hI : Inv E st G a w) (h : nT p st.slots st.objs k) : ∃ st' G', Inv E st' G' a w ∧ k st' := by
 cases p with
 | none => exact ⟨st, G, hI, h⟩
 | some p =>
  simp only [nT] at h;split at h
  ·rename_i n off hs;split at h
   ·rename_i h0;obtain rfl : off = 0 := aah h0;split at h
    ·rename_i t c ho;rw [co] at h;obtain ⟨hok, h⟩ := az h;obtain ⟨objs', h1, h3⟩ := cu h;rw [gm] at h1;obtain ⟨b, vs, e1, e2, e3, e4⟩ := hI.obj_cells ho;have hlt : b < w.heap.size := (Array.getElem?_eq_some_iff.1 e2).1;have hat : ∀ b', G.at n b' → b' = b := by
      rintro b' (hb | ⟨u, t', hb, _⟩)
      ·rw [e1] at hb; cases hb; rfl
      ·rw [e1] at hb; cases hb
     have hle : G.le ⟨iZ G.K b vs, aN G.ob n (.blk b)⟩ := by
      refine ⟨fun b' o v e => ?_, fun m b' e => ?_, fun m u t' e => ⟨u, t', ?_, .inr ⟨rfl, rfl⟩⟩⟩
      ·show iZ G.K b vs b' o = some v;by_cases hb : b' = b
       ·subst hb; rw [e4] at e; cases e
       ·simp [iZ, hb, e]
      ·by_cases hm : m = n
       ·subst hm; rw [e1] at e; cases e; simp [aN]
       ·simp [aN, hm, e]
      ·by_cases hm : m = n
       ·subst hm; rw [e1] at e; cases e
       ·simp [aN, hm, e]
     have hI1 := hI.setObj (w' := w) (n := n) (o := .cells t c) (o' := .dead) (objs' := objs') (g := .blk b) (K' := iZ G.K b vs) ho rfl rfl rfl (aar _) (fun _ _ _ => rfl)
      (fun b' o _ hn => by
       have hb : b' ≠ b := fun e => hn (by subst e; exact .inl e1);simp [iZ, hb]) hle
      (fun b' o v _ e => by
       have e : iZ G.K b vs b' o = some v := e;by_cases hb : b' = b
       ·subst hb;rw [iq e2];simpa [iZ] using e
       ·simp only [iZ, hb, aaW] at e;exact hI.wr.know _ _ _ e) h3
      ⟨⟨.blk b, by simp [aN]⟩, fun b' hb => by
       rcases hb with hb | ⟨u, t', hb, hb'⟩
       ·simp [aN] at hb; omega
       ·simp [aN] at hb⟩
      (fun b' hb => by
       rcases hb with hb | ⟨u, t', hb, hb'⟩
       ·simp [aN] at hb; subst hb; exact .inr (.inl e1)
       ·simp [aN] at hb)
     refine ⟨⟨jb st.slots p (.cptr (c.map AV.strip) 0), objs'⟩, ⟨iZ G.K b vs, aN G.ob n (.blk b)⟩, ⟨?_, hI1.defers, hI1.wr, hI1.le, hI1.ext, hI1.newb⟩, h1⟩;have hltp : p < st.slots.length := by
      rcases aaN p st.slots.length with h | h
      ·exact h
      ·rw [eo, aas, aaP h] at hs; simp at hs
     have hsl : aB G st.slots a.tmps.toList := hI.slots;obtain ⟨v, g1, g2⟩ := hsl.get (aad hltp);have he : st.slots[p] = .ptr n 0 := by
      rw [eo, aas, aad hltp] at hs;exact hs
     rw [he] at g2;simp only [Rep] at g2;obtain ⟨b', hb', rfl⟩ := g2;rw [e1] at hb'
     cases hb';have hset : a.tmps.toList.set p (.pointer (some ⟨b, 0, none⟩)) = a.tmps.toList := by
      obtain ⟨h5, h6⟩ := List.getElem?_eq_some_iff.1 g1;rw [← h6, abE]
     show aB _ (jb st.slots p _) a.tmps.toList;rw [← hset];refine aB.set hI1.slots p ?_;simp only [Rep];exact ⟨b, 0, rfl, fv.of_vals (aB.mono hle _ _ e3.strip) fun j v hj => by simpa [iZ] using hj, hok⟩
    ·exact h.elim
   ·exact h.elim
  ·exact h.elim
theorem xA {p : Option Nat} {k : St → Prop} (hI : Inv E st G a w) (h : nh p st k) : ∃ st' G', Inv E st' G' a w ∧ k st' := by
 cases p with
 | none => exact ⟨st, G, hI, h⟩
 | some p =>
  simp only [nh] at h;split at h
  ·rename_i n size ver off len hs;split at h
   ·rename_i te sz l ver' ho;obtain ⟨hsz, hq⟩ := az h;clear h;obtain rfl := aah hsz;obtain ⟨⟨rfl, rfl, rfl⟩, h⟩ := hq;obtain ⟨objs', h1, h3⟩ := cu h;rw [gm] at h1;obtain ⟨u, xs, o1, o2, o3, o4, o5⟩ := hI.wr.obj _ _ ho;have hatn : ∀ b, G.at n b ↔ u.ownBlock = some b := fun b => by
     constructor
     ·rintro (h1 | ⟨u1, t1, h1, h2⟩)
      ·rw [o1] at h1; cases h1
      ·rw [o1] at h1; cases h1; exact h2
     ·intro h1; exact .inr ⟨u, _, o1, h1⟩
    have heq : aN G.ob n (.rowv u ver) = G.ob := by
     funext m;by_cases hm : m = n
     ·subst hm; simp only [aN, abq]; exact o1.symm
     ·simp [aN, hm]
    have hK0 : ∀ b o v, G.K b o = some v → hZ G.K u xs b o = some v := fun b o v e => by
     by_cases hb : some b = u.ownBlock
     ·rw [o5 b hb.symm o] at e; cases e
     ·simp [hZ, hb, e]
    have hle : G.le ⟨hZ G.K u xs, aN G.ob n (.rowv u ver)⟩ := by
     rw [heq];exact ⟨hK0, fun _ _ e => e, fun m u t e => ⟨u, t, e, .inr ⟨rfl, rfl⟩⟩⟩
    have hI1 := hI.setObj (w' := w) (n := n) (o := .vec te sz l ver) (o' := .dead) (objs' := objs') (g := .rowv u ver) (K' := hZ G.K u xs) ho rfl rfl rfl (aar _) (fun _ _ _ => rfl)
     (fun b o _ hnb => by
      have : some b ≠ u.ownBlock := fun e => hnb ((hatn b).2 e.symm);simp [hZ, this]) hle
     (fun b o v _ e => by
      by_cases hb : some b = u.ownBlock
      ·simp only [hZ, hb, abq] at e;exact rB (K := G.K) o2 hb e
      ·simp only [hZ, hb, aaW] at e;exact hI.wr.know _ _ _ e) h3
     (by
      rw [heq];refine ⟨⟨_, o1⟩, fun b hb => ?_⟩;rcases hb with hb | ⟨u', t', hb, hb'⟩
      ·rw [o1] at hb; cases hb
      ·rw [o1] at hb; cases hb;exact (o2.lt b hb').2)
     (fun b hb => by rw [heq] at hb; exact .inr hb)
    rw [heq] at hI1 hle;refine ⟨⟨jb st.slots p (.sl none sz l), objs'⟩, ⟨hZ G.K u xs, G.ob⟩, ⟨?_, hI1.defers, hI1.wr, hI1.le, hI1.ext, hI1.newb⟩, h1⟩;have hltp : p < st.slots.length := by
     rcases aaN p st.slots.length with h | h
     ·exact h
     ·rw [eo, aas, aaP h] at hs; simp at hs
    have hsl : aB G st.slots a.tmps.toList := hI.slots;obtain ⟨v, g1, g2⟩ := hsl.get (aad hltp);have he : st.slots[p] = .slv n sz ver 0 l.length := by
     rw [eo, aas, aad hltp] at hs;exact hs
    rw [he] at g2;simp only [Rep] at g2;obtain ⟨⟨A, c, rfl, _, hlc⟩, u', top, e1, e2, e3⟩ := g2;rw [o1] at e1;injection e1 with e1
    injection e1 with e1 e1'
    subst e1 e1';obtain ⟨A0, L, c0, A', hu, hL, hLc, hv, hA0, hgg⟩ := e3 rfl;have hset : a.tmps.toList.set p (.slice A l.length c) = a.tmps.toList := by
     obtain ⟨h5, h6⟩ := List.getElem?_eq_some_iff.1 g1;rw [← h6, abE]
    show aB _ (jb st.slots p _) a.tmps.toList;rw [← hset];refine aB.set hI1.slots p ?_;simp only [Rep];refine ⟨⟨A, c, rfl, hlc, ?_⟩, trivial⟩;by_cases hl0 : l = []
    ·subst hl0; simp [d7]
    ·obtain ⟨g, hg1, hg2⟩ := hgg (fun e => hl0 (aau e));injection hv with hv1 hv2 hv3
     rw [hv1, hg2, Nat.zero_mul];refine d7.of_flat (aB.mono hle _ _ o3) o4 fun j v hj => ?_;have : some g = u.ownBlock := by rw [hu, hg1]; rfl
     simp only [hZ, this, abq];simpa using hj
   ·exact h.elim
  ·rename_i n size hs;split at h
   ·rename_i te sz top ho;obtain ⟨hsz, hq⟩ := az h;clear h;simp only [aaq] at hsz;obtain rfl := aah hsz.1;obtain rfl := aah hsz.2;obtain ⟨objs', h1, h3⟩ := cu hq;rw [gm] at h1;obtain ⟨u, xs, o1, o2, o3⟩ := hI.wr.obj _ _ ho;have hx0 : xs = [] := aau (by rw [o2.1]; simp);subst hx0;have heq : aN G.ob n (.rowv u 0) = G.ob := by
     funext m;by_cases hm : m = n
     ·subst hm; simp only [aN, abq]; exact o1.symm
     ·simp [aN, hm]
    have hI1 := hI.setObj (w' := w) (n := n) (o := .row te sz 0) (o' := .vec te sz [] 0) (objs' := objs') (g := .rowv u 0) (K' := G.K) ho rfl rfl rfl (aar _) (fun _ _ _ => rfl)
     (fun _ _ _ _ => rfl) (by rw [heq]; exact Gh.le.refl G) (fun b o v _ e => hI.wr.know _ _ _ e) h3
     (by
      rw [heq];exact ⟨u, [], o1, o2, by simp [aB], by simp, fun g hg o => by rw [o3 g hg o]; rfl⟩)
     (fun b hb => by rw [heq] at hb; exact .inr hb)
    rw [heq] at hI1;refine ⟨⟨jb st.slots p (.slv n sz 0 0 0), objs'⟩, G, ⟨?_, hI1.defers, hI1.wr, hI1.le, hI1.ext, hI1.newb⟩, h1⟩;have hltp : p < st.slots.length := by
     rcases aaN p st.slots.length with h | h
     ·exact h
     ·rw [eo, aas, aaP h] at hs; simp at hs
    have hsl : aB G st.slots a.tmps.toList := hI.slots;obtain ⟨v, g1, g2⟩ := hsl.get (aad hltp);have he : st.slots[p] = .sl (some n) sz [] := by
     rw [eo, aas, aad hltp] at hs;exact hs
    rw [he] at g2;simp only [Rep] at g2;obtain ⟨⟨A, c, rfl, hlc, _⟩, u', top, e1, e2, e3⟩ := g2;rw [o1] at e1;injection e1 with e1
    injection e1 with e1 e1'
    subst e1 e1';have hu := e3 rfl;have hset : a.tmps.toList.set p (.slice A 0 c) = a.tmps.toList := by
     obtain ⟨h5, h6⟩ := List.getElem?_eq_some_iff.1 g1;have h6 : a.tmps.toList[p] = .slice A 0 c := h6;rw [← h6, abE]
    show aB _ (jb st.slots p _) a.tmps.toList;rw [← hset];refine aB.set hI1.slots p ?_;simp only [Rep];exact ⟨⟨A, c, rfl, fun h => absurd rfl h, aby _⟩, u, 0, o1, aar _, fun _ => ⟨A, 0, c, A, hu.symm, aar _, aby _, rfl, fun _ => rfl, fun h => absurd rfl h⟩⟩
   ·exact h.elim
  ·exact rY hI h
  ·exact ⟨st, G, hI, h⟩
  ·exact h.elim
theorem Gf {G' : Gh} {n : Nm} {e : TypeId} {top ver : Nat} {u' : Value} {ys : List Value} {w' : World} (hown : w'.ownsRow 0 e 1 u' top ys) (hob : G'.ob n = some (.rowv u' ver)) : Rep G' (.slv n 0 ver 0 top) u' := by
 simp only [Rep];rcases hown.2 with ⟨rfl, rfl⟩ | ⟨g, cap, cur, rfl, _, _, hc, _⟩
 ·exact ⟨⟨none, 0, rfl, fun h => absurd rfl h, aar _⟩, _, ver, hob, aar _, fun _ => ⟨none, 0, 0, none, rfl, aar _, aar _, rfl, fun _ => rfl, fun h => absurd rfl h⟩⟩
 ·exact ⟨⟨_, cap, rfl, fun _ => ⟨g, 0, rfl⟩, hc⟩, _, ver, hob, aar _, fun _ => ⟨_, top, cap, _, rfl, by omega, hc, rfl, fun _ => rfl, fun _ => ⟨g, rfl, by simp⟩⟩⟩
set_option maxHeartbeats 1000000 in
theorem DX (hT : cd P T) {t ty : TypeId} {d : Nat} {s x : Operand} {K : AV → List (Nm × aE) → Prop} (hI : Inv E st G a w) (h : Kl T st.objs d t (evA st.slots s) (evA st.slots x) K) : ∃ u' w' v objs' G', (Builtin.append_ #[t, t] ty #[a.eval s, a.eval x]).run P w = .ok u' w' ∧ K v objs' ∧ Inv E ⟨st.slots, objs'⟩ G' a w' ∧ Rep G' v u' := by
 have hs := hI.eval s;have hx := hI.eval x;unfold Kl at h;split at h
 ·rename_i e hde;obtain ⟨inf, dd, hinf, hd, htd⟩ := cB hT hde (by simp);obtain rfl := dc htd;obtain ⟨hoke, h⟩ := bz h;obtain ⟨ie, de, hie, hue, hse, hbe, _, _, hze⟩ := bN hT hoke;obtain ⟨hsz, h⟩ := az h;simp only [aaq] at hsz;obtain ⟨hsz, hzok⟩ := hsz;obtain ⟨iz, z, hiz, hz1, hz2, hz3, hz4, hz5⟩ := fP hT hoke hzok;rw [hie] at hiz
  cases hiz;have hsz1 : ie.size = 1 := by rw [← hse]; exact aah hsz
  split at h
  ·rename_i nx ox lx cx hxe;rw [hxe] at hx;simp only [Rep] at hx;obtain ⟨bx, hbx, hxv⟩ := hx;split at h
   ·rename_i tx l hox;obtain ⟨b', vs, e1, e2, e3, e4⟩ := hI.obj_cells hox;rw [hbx] at e1
    cases e1;rw [mT, jE] at h;obtain ⟨hlx, h⟩ := h;obtain ⟨hcel, h⟩ := az h;have hnw : aB G ((l.drop ox).take lx) ((vs.drop ox).take lx) := (e3.drop ox).take lx;have hml : ((l.drop ox).take lx).length = lx := by rw [aan]; omega
    generalize hmd : (l.drop ox).take lx = m at h hcel hnw hml;generalize hnd : (vs.drop ox).take lx = news at hnw;have n2 : news.length = m.length * ie.size := by rw [hsz1, Nat.mul_one, hnw.length]
    have n3 := hnw.one (lN.1 hcel);have hcells : ∀ (j : Nat) v, news[j]? = some v → w.cell? ⟨bx, ox + j, none⟩ = some v := fun j v hj => by
     rw [iq e2];rw [← hnd] at hj;have hj2 := (List.getElem?_eq_some_iff.1 hj).1;rw [abb (by simp at hj2; omega), abd] at hj;exact hj
    have hnews : m.length ≠ 0 → ∃ b o, (some (⟨bx, ox, none⟩ : Addr)) = some ⟨b, o, none⟩ ∧ ∀ (j : Nat) v, news[j]? = some v → w.cell? ⟨b, o + j, none⟩ = some v := fun _ => ⟨bx, ox, rfl, hcells⟩;rw [← hml] at hxv;split at h
    ·-- nil
     rename_i hse';obtain ⟨hby, h⟩ := h;obtain ⟨objs', g1, g2, g3⟩ := dK h;rw [hse'] at hs;simp only [Rep] at hs;obtain ⟨hby, hlen⟩ := la hby;obtain ⟨u', w', hr, hown', hg, hat, hm0⟩ := l6 (w := w) (ty := ty) hd hie hz1 hz3 hz4 (World.ownsRow_nil w 0 e ie.size) n2 hnews n3 (by rw [← hbe, aaS, hml]; exact hby) (by omega) (c := cx);have hub : u'.ownBlock = none ∨ u'.ownBlock = some w.heap.size := by
      rcases hat with h1 | ⟨h1, _⟩
      ·exact .inl h1
      ·exact .inr h1
     simp only [aam, aaS] at hown';rw [hsz1] at hown';obtain ⟨hI', hle⟩ := hI.newObj (w' := w') (n := al d) (o := .fns e m 0) (objs' := objs') (g := .rowv u' 0) (K' := G.K) hg.os hg.tape hg.output hg.size
      (fun b hb => hg.block b hb (by simp [Value.ownBlock])) (fun b o hb => rfl) (fun b o v hb ev => by have := hI.wr.kltb ev; omega) g2 g3
      ⟨u', news, by simp [aN], hown', by
       refine aB.mono (G := G) (G' := ⟨G.K, aN G.ob (al d) (.rowv u' 0)⟩) ⟨fun _ _ _ h => h, fun m' b h => ?_, fun m' u1 t1 h => ?_⟩ _ _ hnw
       ·have : m' ≠ al d := fun e => by rw [e, hI.no_ob g2] at h; cases h
        simp [aN, this, h]
       ·have : m' ≠ al d := fun e => by rw [e, hI.no_ob g2] at h; cases h
        exact ⟨u1, t1, by simp [aN, this, h], .inr ⟨rfl, rfl⟩⟩, fun g hg o => by
       rcases hub with h1 | h1
       ·rw [h1] at hg; cases hg
       ·rw [h1] at hg; injection hg with hg
        subst hg;show G.K _ _ = none
        cases ev : G.K w.heap.size o with
        | none => rfl
        | some v => have := hI.wr.kltb ev; omega⟩
      (fun b hb => by
       have := gD hb;rcases hub with h1 | h1
       ·rw [h1] at this; cases this
       ·rw [h1] at this; injection this with this; omega)
     refine ⟨u', w', _, objs', _, by rw [hs, hxv]; exact hr, g1, hI', ?_⟩;rw [← hml];exact Gf hown' (by simp [aN])
    ·rename_i n sz ver off len hse';split at h
     ·rename_i te l2 ver' ho;obtain ⟨hte, hq⟩ := az h;clear h;simp only [aaq] at hte;obtain ⟨hte, hz0, hoff⟩ := hte;have hte := aah hte;have hz0 := aah hz0;have hoff := aah hoff;subst hte hz0 hoff;obtain ⟨⟨hver, hlenl⟩, hby, hK⟩ := hq;rw [co] at hK;obtain ⟨objs', g1, g2⟩ := cu hK;rw [hse'] at hs;simp only [Rep] at hs;obtain ⟨_, u0, top0, q1, q2, q3⟩ := hs;obtain ⟨u, xs, o1, o2, o3, o5⟩ := hI.wr.obj _ _ ho;rw [o1] at q1;injection q1 with q1
      injection q1 with q1 q1'
      subst q1 q1';have hvw := q3 hver;have hvw1 : Dy u 1 0 len (a.eval s) := by
       obtain ⟨A0, L, c0, A', h1, h2, h3, h4, h5, h6⟩ := hvw;exact ⟨A0, L, c0, A', h1, h2, h3, h4, h5, fun h => by obtain ⟨g, a1, a2⟩ := h6 h; exact ⟨g, a1, by simpa using a2⟩⟩
      obtain ⟨htr, hblk⟩ := p9 o2 hvw1 (by omega);have htr2 : xs.take (len * 1) = xs := by
       rw [Nat.mul_one];exact aae (by have := o2.1; omega)
      rw [htr2] at htr;obtain ⟨hby, hlen2⟩ := la hby;rw [← hsz1] at htr;obtain ⟨u', w', hr, hown', hg, hat, hm0⟩ := l6 (w := w) (ty := ty) hd hie hz1 hz3 hz4 htr n2 hnews n3 (by rw [← hbe, hml]; exact hby) (by rw [hml]; exact hlen2) (c := cx);rw [hsz1] at hown';rw [hblk] at hg hat;have hatn : ∀ b, G.at n b ↔ u.ownBlock = some b := fun b => by
       constructor
       ·rintro (h1 | ⟨u1, t1, h1, h2⟩)
        ·rw [o1] at h1; cases h1
        ·rw [o1] at h1; cases h1; exact h2
       ·intro h1; exact .inr ⟨u, _, o1, h1⟩
      have hKn : ∀ b, G.at n b → ∀ o, G.K b o = none := fun b hb => o5 b ((hatn b).1 hb);have hle : G.le ⟨G.K, aN G.ob n (.rowv u' (ver' + 1))⟩ := by
       refine ⟨fun b o v ev => ev, fun m' b e => ?_, fun m' u1 t1 e => ?_⟩
       ·by_cases hmn : m' = n
        ·subst hmn; rw [o1] at e; cases e
        ·simp [aN, hmn, e]
       ·by_cases hmn : m' = n
        ·subst hmn;rw [o1] at e
         cases e;exact ⟨u', ver' + 1, by simp [aN], .inl (by omega)⟩
        ·exact ⟨u1, t1, by simp [aN, hmn, e], .inr ⟨rfl, rfl⟩⟩
      have hI' := hI.setObj (w' := w') (n := n) (o' := .fns te (l2 ++ m) (ver' + 1)) (objs' := objs') (g := .rowv u' (ver' + 1)) (K' := G.K) ho hg.os hg.tape hg.output hg.size
       (fun b hb hnat => hg.block b hb (fun e => hnat ((hatn b).2 e.symm))) (fun _ _ _ _ => rfl) hle
       (fun b o v hb ev => by
        rcases hb with hb | hb
        ·have := hI.wr.kltb ev; omega
        ·rw [hKn b hb] at ev; cases ev)
       g2
       ⟨u', xs ++ news, by simp [aN], by rw [aac, ← hlenl]; exact hown', (aB.mono hle _ _ o3).append (aB.mono hle _ _ hnw), (fun g hg o => by
        rcases hat with h1 | ⟨h1, _⟩
        ·rw [h1] at hg; exact o5 g hg o
        ·rw [h1] at hg; injection hg with hg
         subst hg;show G.K _ _ = none
         cases ev : G.K w.heap.size o with
         | none => rfl
         | some v => have := hI.wr.kltb ev; omega)⟩
       (fun b hb => by
        have := gD hb;rcases hat with h1 | ⟨h1, _⟩
        ·rw [h1] at this; exact .inr ((hatn b).2 this)
        ·rw [h1] at this; injection this with this; exact .inl (by omega))
      refine ⟨u', w', _, objs', _, by rw [hxv]; exact hr, g1, hI', ?_⟩;rw [← hml];exact Gf hown' (by simp [aN])
     ·exact h.elim
    ·exact h.elim
   ·exact h.elim
  ·exact h.elim
 ·exact h.elim
theorem zu (hT : cd P T) {t : TypeId} {x i : Operand} (hop : o.op = .indexAddr t x i) (hI : Inv E st G a w) (h : Ar T t (evA st.slots x) (evA st.slots i) fun v => put st o.dst v k) (hn : fy E k next) : o.wp P a w next Q := by
 have hx := hI.eval x;have hi := hI.eval i;unfold Ar at h;obtain ⟨hok, h⟩ := bz h;obtain ⟨inf, d, hinf, hd, _, _, htd, _, _⟩ := bN hT hok;split at h
 ·rename_i e hde;rw [htd] at hde;obtain rfl := dc hde;obtain ⟨hoke, h⟩ := bz h;obtain ⟨inf', d', hinf', hd', hs', _⟩ := bN hT hoke;obtain ⟨hsz, h⟩ := az h;have hsz1 : inf'.size = 1 := by rw [← hs']; exact aah hsz
  split at h
  ·rename_i kk n he;rw [he] at hi;simp only [Rep] at hi;split at h
   ·rename_i m sz ver off len hxe;obtain ⟨hzz, hq⟩ := az h;clear h;simp only [aaq] at hzz;have hz1 := aah hzz.1;have hz2 := aah hzz.2;subst hz1 hz2;obtain ⟨h0, hq1⟩ := az hq;obtain ⟨h1, hq2⟩ := az hq1;clear hq hq1;have h0 : 0 ≤ n := by simpa using h0
    have h1 : n < (len : Int) := by simpa using h1
    rw [hxe] at hx;simp only [Rep] at hx;obtain ⟨⟨A, c, hxv, hA, _⟩, u, top, e1, e2, e3⟩ := hx;obtain ⟨b, o', rfl⟩ := hA (by omega);refine ba (x := .pointer (some ⟨b, o' + n.toNat, none⟩)) hI ?_ ?_ hq2 hn
    ·simp [execOp, hop, hxv, hi, Instr.indexAt, asIntOf, run_underlying hd, h0, h1, sizeOf, typeInfo, hinf', cU, hsz1]
    ·simp only [Rep];refine ⟨⟨_, rfl⟩, u, top, e1, e2, fun e => ?_⟩;obtain ⟨A0, L, c0, A', hu, _, _, hv, _, hg⟩ := e3 e;obtain ⟨g, rfl, rfl⟩ := hg (by omega);rw [hxv] at hv;injection hv with hv
     injection hv with hv
     injection hv with hv1 hv2
     refine ⟨g, by rw [hu]; rfl, ?_⟩;rw [hv1, hv2]
     try simp
   ·exact h.elim
  ·exact h.elim
 ·exact h.elim
theorem Bx (hT : cd P T) {t : TypeId} {p : Operand} (hop : o.op = .load t p) (hI : Inv E st G a w) (h : EO T st.objs t (evA st.slots p) fun v => put st o.dst v k) (hn : fy E k next) : o.wp P a w next Q := by
 have hp := hI.eval p;unfold EO at h;split at h
 ·rename_i n size ver i off he;rw [he] at hp;simp only [Rep] at hp;obtain ⟨_, u, top, e1, e2, e3⟩ := hp;split at h
  ·rename_i te l ver' ho;obtain ⟨hzz, hq⟩ := az h;clear h;simp only [aaq] at hzz;have hz1 := aah hzz.1;have hz2 := aah hzz.2;subst hz1 hz2;obtain ⟨hvv, hq2⟩ := hq;subst hvv;obtain ⟨u', xs, f1, f2, f3, f5⟩ := hI.wr.obj _ _ ho;rw [e1] at f1;injection f1 with f1
   injection f1 with f1 f1'
   subst f1 f1';obtain ⟨g, hg, hpe⟩ := e3 rfl;rw [jE] at hq2;obtain ⟨v, x, h3, h4, h5⟩ := kw (w := w) hT hq2 (f3.drop off) g (0 * 0 + off) (fun j v hj => by
    rw [abd] at hj;have := f2.cells hg (off + j) v hj;rw [cU, aaS] at this;rw [Nat.zero_mul, aaS];exact this)
   refine ba hI ?_ h4 h3 hn;rw [Nat.zero_mul, aaS] at hpe h5;simp [execOp, hop, hpe, Instr.loadAt, Instr.sureAddr, h5]
  ·exact h.elim
 ·exact h.elim
theorem Aw (hI : Inv E st G a w) {K : List AV → Prop} : ∀ {ps : List (Nat × Operand)} {n : Nat} {done : List Value} {zs : List Value}, done.length = n * 1 → ps.length ≤ zs.length → Ax (evA st.slots) ps n K →
   ∃ l vs, Instr.fill (fun i => some (i * 1, 1)) (done ++ zs).toArray (ps.map fun (i, x) => (i, a.eval x)) = some (done ++ vs ++ zs.drop ps.length).toArray ∧ aB G l vs ∧ l.length = ps.length ∧ K l := by
 intro ps
 induction ps generalizing K with
 | nil => intro n done zs hd hz h; exact ⟨[], [], by simp [Instr.fill], by simp [aB], rfl, h⟩
 | cons p ps ih =>
  obtain ⟨i, x⟩ := p;intro n done zs hd hz h;unfold Ax at h;split at h
  ·exact h.elim
  ·rename_i hin;obtain rfl := aah hin;rw [iY] at h;split at h
   ·exact h.elim
   ·rename_i hok;have hnj : evA st.slots x ≠ .junk := by
     intro e;rw [e] at hok;simp [dT] at hok
    have hcl : (evA st.slots x).cells = [evA st.slots x] := by
     cases hv : evA st.slots x with
     | val v => rw [hv] at hok; cases v <;> simp_all [dT, AV.cells, Value.cells]
     | _ => rw [hv] at hok; simp_all [dT, AV.cells]
    have hx := (hI.eval x).cells hnj;rw [hcl] at hx;have hxl := hx.length;have hvs : (a.eval x).cells.size = 1 := by rw [← abM, hxl]; rfl
    simp only [aag] at hz;obtain ⟨l, vs, h1, h2, h4, h5⟩ := ih (n := i + 1) (done := done ++ (a.eval x).cells.toList) (zs := zs.drop 1) (by simp [hd, hvs]) (by simp; omega) h;refine ⟨_, (a.eval x).cells.toList ++ vs, ?_, hx.append h2, ?_, h5⟩
    ·simp only [aaF];rw [pS (off := i * 1) rfl hvs (by simp [hd]; omega)];simp only [abt];rw [← hd, List.take_left];rw [List.drop_append];simp only [Nat.add_sub_cancel_left, aay (show done.length ≤ done.length + 1 by omega), aam];rw [h1];simp [Nat.add_comm]
    ·simp [h4]
theorem zw (hT : cd P T) {t : TypeId} {len d : Nat} {ps : Array (Nat × Operand)} {K : AV → List (Nm × aE) → Prop} (hI : Inv E st G a w) (h : As T st.objs d t len ps.toList (evA st.slots) K) : ∃ u' w' v objs' G', (Instr.buildSlice t len (ps.map fun (i, x) => (i, a.eval x))).run P w = .ok u' w' ∧ K v objs' ∧ Inv E ⟨st.slots, objs'⟩ G' a w' ∧ Rep G' v u' := by
 unfold As at h;split at h
 ·rename_i e hde;obtain ⟨inf, dd, hinf, hd, htd⟩ := cB hT hde (by simp);obtain rfl := dc htd;obtain ⟨hoke, h⟩ := bz h;obtain ⟨inf', d', hinf', hd', hs', _, _, _, hz'⟩ := bN hT hoke;obtain ⟨hz, h⟩ := az h;simp only [aaq] at hz;obtain ⟨hz, hsz⟩ := hz;obtain ⟨iz, z, hiz, hz1, hz2, hz3, hz4, hz5⟩ := fP hT hoke hz;rw [hinf'] at hiz
  cases hiz;have hs1 : inf'.size = 1 := by rw [← hs']; exact aah hsz
  obtain ⟨hlen, h⟩ := az h;simp only [aaq] at hlen;have hlen1 : ps.size = len := by have := aah hlen.1; simpa using this
  have hlen2 : len ≤ 16777216 := Nat.le_of_ble_eq_true hlen.2;have hzl : (((Array.range (len * inf'.size)).map (z.cells[· % z.cells.size]!)).toList).length = len := by simp [hs1]
  obtain ⟨l, vs, h1, h2, h4, h5⟩ := Aw hI (n := 0) (done := []) (zs := ((Array.range (len * inf'.size)).map (z.cells[· % z.cells.size]!)).toList) (by simp) (by rw [hzl, ← hlen1]; simp) h;have hll : l.length = len := by rw [h4, ← hlen1]; simp
  have hfill : Instr.fill (fun i => some (i * inf'.size, inf'.size)) ((Array.range (len * inf'.size)).map (z.cells[· % z.cells.size]!)) (ps.map fun (i, x) => (i, a.eval x)).toList = some vs.toArray := by
   have e0 : (List.drop ps.toList.length ((Array.range (len * inf'.size)).map (z.cells[· % z.cells.size]!)).toList) = [] := by
    apply aay;rw [hzl]; simp [hlen1]
   rw [e0] at h1;simp only [aam, aaR, Array.toArray_toList] at h1;rw [← h1];simp [hs1]
  have hb := oy (P := P) (w := w) (ps := ps.map fun (i, x) => (i, a.eval x)) hd hinf' hz1 (by rw [hs1]; omega) hfill;obtain ⟨objs', g1, g2, g3⟩ := dK h5;have hno := hI.no_ob g2;have hI' := hI.newObj (w' := w.alloc (.cells vs.toArray e)) (n := al d) (o := .cells e l) (objs' := objs') (g := .blk w.heap.size) (K' := G.K) rfl rfl rfl (by simp)
   (fun b hb => heap_alloc_old w _ hb) (fun _ _ _ => rfl) (fun b o v hb ev => by have := hI.wr.kltb ev; omega) g2 g3 (o9 hno h2 hI.knone)
   (fun b hb => by have := kT hb; omega)
  refine ⟨_, _, _, _, _, hb, g1, hI'.1, ?_⟩;simp only [Rep];exact ⟨w.heap.size, by simp [aN], by rw [hll]⟩
 ·exact h.elim
theorem HC (hT : cd P T) (hI : Inv E st G a w) (h : oe P T an o st k) (hn : fy E k next) : o.wp P a w next Q := by
 unfold oe at h;split at h
 ·cases hop : o.op with
  | convert s d x =>
   simp only [hop, gT] at h;obtain ⟨hok, h⟩ := bz h;obtain ⟨hok', h⟩ := bz h;obtain ⟨inf, ds, hinf, hd, _, _, htd, _, _⟩ := bN hT hok;obtain ⟨inf', dd, hinf', hd', _, _, htd', _, _⟩ := bN hT hok';have hx := hI.eval x;split at h
   ·rename_i n off len cap hde hxe;rw [hxe] at hx;simp only [Rep] at hx;obtain ⟨b, hb, hxv⟩ := hx;rw [htd'] at hde;obtain rfl := dP hde;split at h
    ·rename_i e hse;rw [htd] at hse;obtain rfl := dc hse;split at h
     ·rename_i hee;obtain ⟨ie, de, hie, hue, hte⟩ := cB hT hee (by simp);obtain rfl := mN hte;split at h
      ·rename_i t' l ho;obtain ⟨bs, hbs, hlen, h⟩ := h;obtain ⟨b', vs, e1, e2, e3, e4⟩ := hI.obj_cells ho;rw [hb] at e1
       cases e1;refine ba (x := .string (strOfNums bs)) hI ?_ (by simp only [Rep]) h hn;simp only [execOp, hop, hxv, Sem.run_bind];have hvs : aB G (bs.map fun b => AV.val (.int .u8 b)) ((vs.drop off).take len) := by
        rw [← hbs];exact (e3.drop off).take len
       have hvs' := og (fun b => Value.int .u8 b) hvs;subst hlen;rw [run_convert_bytes_arg (P := P) w s e hd hue b off bs.length cap bs rfl (fun i hi => by
        rw [iq e2];have h1 : ((vs.drop off).take bs.length)[i]? = some (.int .u8 (bs.getD i 0)) := by
         rw [hvs'];simp [aad hi, aas]
        rw [abb hi, abd] at h1;simpa using h1) d hd']
       rfl
      ·exact h.elim
     ·exact h.elim
    ·exact h.elim
   ·rename_i e own sz l hde hxe;split at h
    ·rename_i n;split at h
     ·rename_i hee;split at h
      ·rename_i t' rsz top ho;split at h
       ·exact h.elim
       ·rename_i x0 l0;obtain ⟨hsd, hq⟩ := az h;obtain ⟨htop, hq⟩ := az hq;clear h;have hsd : s = d := by simpa using hsd
        subst hsd;have htop : top = (x0 :: l0).length := by simpa using htop
        rw [htd'] at hde;obtain rfl := dc hde;obtain ⟨ie, de, hie, hue, hte⟩ := cB hT hee (by simp);obtain rfl := mN hte;rw [hxe] at hx;simp only [Rep] at hx;obtain ⟨⟨A, c, hxv, hc, hE⟩, u, top', q1, q2, q3⟩ := hx;obtain ⟨u', xs, r1, r2, r3⟩ := hI.wr.obj n _ ho;rw [r1] at q1
        cases q1;have hxu := q3 htop.symm;rcases r2.2 with ⟨_, hz⟩ | ⟨g, cap, cur, hu, _, hg, hnc, hcm, hcs, htake⟩
        ·rw [hz] at htop; cases htop
        subst hu;rw [hxu] at hxv;have hsh : w.shape? g = some (t', cur.size) := by simp [World.shape?, hg]
        have hrun : (convert s s (.slice (some ⟨g, 0, none⟩) top cap)).run P w = .ok (.slice (some ⟨g, 0, none⟩) top cap) (w.freeze ⟨g, cur.size, none⟩ 1) := by
         simp [convert, run_underlying hd', run_underlying hue, markStringish, hsh]
        obtain ⟨objs', hk', hobjs⟩ := cu hq;have hsame : aN G.ob n (.rowv (.slice (some ⟨g, 0, none⟩) top cap) top) = G.ob := by
         funext m;unfold aN;split
         ·rename_i e; subst e; exact r1.symm
         ·rfl
        have hat : G.at n g := .inr ⟨_, _, r1, rfl⟩;have hfsz : (w.freeze ⟨g, cur.size, none⟩ 1).heap.size = w.heap.size := by unfold World.freeze; split <;> simp
        have hfo : ∀ b, b ≠ g → (w.freeze ⟨g, cur.size, none⟩ 1).heap[b]? = w.heap[b]? := fun b hb => by
         unfold World.freeze;split
         ·rfl
         ·simp [Array.getElem?_modify, Ne.symm hb]
        have hfs : ∃ fz, (w.freeze ⟨g, cur.size, none⟩ 1).heap[g]? = some (.cells cur t' fz) := by
         unfold World.freeze;split
         ·exact ⟨_, hg⟩
         ·exact ⟨_, by simp [Array.getElem?_modify, hg]; rfl⟩
        obtain ⟨fz, hfz⟩ := hfs;have hI' := hI.setObj (w' := w.freeze ⟨g, cur.size, none⟩ 1) (n := n) (o := .row t' rsz top) (o' := .dead) (objs' := objs') (g := .rowv (.slice (some ⟨g, 0, none⟩) top cap) top) (K' := G.K) ho
         (by unfold World.freeze; split <;> rfl) (by unfold World.freeze; split <;> rfl) (by unfold World.freeze; split <;> rfl) (by rw [hfsz]; exact aar _)
         (fun b hb hn => hfo b (fun e => hn (by subst e; exact hat))) (fun _ _ _ _ => rfl) (by rw [hsame]; exact Gh.le.refl _)
         (fun b o v hb ev => by
          rcases hb with hb | hb
          ·have := hI.wr.kltb ev; omega
          ·have hbg : b = g := by
            rcases hb with hb | ⟨_, _, hb, hb'⟩
            ·rw [r1] at hb; cases hb
            ·rw [r1] at hb; cases hb; simpa [Value.ownBlock] using hb'.symm
           subst hbg;have := hI.wr.know _ _ _ ev;rw [iq hg] at this;simp only [World.cell?, hfz];simpa using this)
         hobjs
         (by
          rw [hsame];refine ⟨⟨_, r1⟩, fun b hb => ?_⟩;rcases hb with hb | ⟨_, _, hb, hb'⟩
          ·rw [r1] at hb; cases hb
          ·rw [r1] at hb; cases hb;have : g = b := by simpa [Value.ownBlock] using hb'
           subst this;rw [hfsz];exact (Array.getElem?_eq_some_iff.1 hg).1)
         (fun b hb => .inr (by rw [hsame] at hb; exact hb))
        rw [hsame] at hI';refine cQ (x := .slice (some ⟨g, 0, none⟩) top cap) hI' ?_ ?_ hk' hn
        ·simp only [execOp, hop, hxu, Sem.run_bind, hrun, Result.andThen_ok, Sem.run_pure]
        ·simp only [Rep];exact ⟨⟨A, c, hxv, hc, hE⟩, trivial⟩
      ·exact h.elim
     ·exact h.elim
    ·exact h.elim
   ·exact h.elim
  | binOp op t x y yt =>
   simp only [hop, gT] at h;have hx := hI.eval x;have hy := hI.eval y;split at h
   ·rename_i e hde;split at h
    ·rename_i own sz l hxe hye;rw [hxe] at hx;rw [hye] at hy;simp only [Rep] at hy;obtain ⟨b, h1, h2, h3⟩ := vc (P := P) (w := w) (te := t) hT hde hx hy;split at h
     ·refine ba (x := .bool b) hI ?_ (by simp only [Rep]) (h b h1) hn;have h2 := h2 x y;simp only [execOp, hop];rw [Sem.run_bind, h2];rfl
     ·refine ba (x := .bool (!b)) hI ?_ (by simp only [Rep]) (h b h1) hn;have h3 := h3 x y;simp only [execOp, hop];rw [Sem.run_bind, h3];rfl
     ·exact h.elim
    ·exact h.elim
   ·exact h.elim
  | call c =>
   simp only [hop, gT] at h;split at h
   ·rename_i f hcal;have hf := hI.eval f;split at h
    ·rename_i g first cap hfe
     rw [hfe] at hf;simp only [Rep] at hf;obtain ⟨vs, us, hfv, hl1, hl2⟩ := hf;rw [co] at h;have hargs := (hl1.append (rL hI c.args.toList (Ep an o.dst))).append hl2;obtain ⟨v, r, h1, h2, h3⟩ := h.run G w _ hI.wr.know hargs;refine ba hI ?_ h3 h2 hn;have harr : vs.toArray ++ Array.map a.eval c.args ++ us.toArray = (vs ++ c.args.toList.map a.eval ++ us).toArray := by simp [← abO]
     simp only [execOp, hop, resolve, hcal, Deferred.ofValue, hfv, invoke, Sem.run_bind, Sem.run_pure, Result.andThen_ok, harr, h1]
    ·exact h.elim
   ·rename_i b hcal;split at h
    ·rename_i s x t t2 d ha ht hdst;obtain ⟨htt, hq⟩ := az h;clear h;have htt := aah htt;subst htt;have ha := Db ha;have ht := NX ht;obtain ⟨u', w', v, objs', G', hr, hK, hI', hRep⟩ := DX (ty := o.type) hT hI hq;refine cQ hI' ?_ hRep hK hn;simp [execOp, hop, resolve, hcal, ha, ht, invoke, builtin, hr]
    ·exact h.elim
   ·exact h.elim
  | indexAddr t x i =>
   simp only [hop, gT] at h;exact zu hT hop hI h hn
  | load t p =>
   simp only [hop, gT] at h;exact Bx hT hop hI h hn
  | buildSlice t len ps =>
   simp only [hop, gT] at h;split at h
   ·rename_i d hd;obtain ⟨u', w', v, objs', G', hr, hK, hI', hRep⟩ := zw hT hI h;refine cQ hI' ?_ hRep hK hn;simp [execOp, hop, hr]
   ·exact h.elim
  | range t x =>
   simp only [hop, gT] at h;split at h
   ·rename_i d hd;exact Bv hT hop hd hI h hn
   ·exact h.elim
  | next it s =>
   simp only [hop, gT] at h;split at h
   ·exact h.elim
   ·exact DV hop hI h hn
  | entry it =>
   simp only [hop, gT] at h;exact Bz hop hI h hn
  | lookup t m x ok =>
   simp only [hop, gT] at h;have hm := hI.eval m;have hx := hI.eval x;split at h
   ·rename_i kt e hde;obtain ⟨inf, d, hinf, hd, htd⟩ := cB hT hde (by simp);obtain rfl := q9 htd;split at h
    ·rename_i hdk;obtain ⟨infk, dk, hinfk, hdkk, htdk⟩ := cB hT hdk (by simp);obtain rfl := dP htdk;obtain ⟨hoke, h⟩ := bz h;split at h
     ·rename_i s hme hxe;rw [hme] at hm;rw [hxe] at hx;simp only [Rep] at hm hx;obtain ⟨z, zv, h, hzr, hzrun⟩ := tC (w := w) hT hoke h;have hr : (Instr.lookup t (.map none) (.string s) ok).run P w = .ok (if ok then .tuple #[zv, .bool false] else zv) w := by
       have hf := ji (P := P) (w := w) (ms := []) (r := none) hdkk (s := s) rfl;simp only [Instr.lookup, Sem.run_bind, run_underlying hd, Result.andThen_ok, Sem.run_pure, iw hdkk];simp [hf, hzrun]
      split at h
      ·refine ba (x := .tuple #[zv, .bool false]) hI ?_ ?_ h hn
       ·simp [execOp, hop, hm, hx, hr]
       ·simp only [Rep];exact ⟨[zv, .bool false], by simp, by simp only [aB]; exact ⟨_, _, rfl, hzr G, _, _, rfl, by simp only [Rep], rfl⟩⟩
      ·refine ba (x := zv) hI ?_ (hzr G) h hn;simp [execOp, hop, hm, hx, hr]
     ·exact h.elim
    ·exact h.elim
   ·exact h.elim
  | _ => simp [hop, gT] at h
 ·refine vM hT hI h fun st' G' a' w' hI' hk => ?_;obtain ⟨st2, G2, hI2, hk2⟩ := rY hI' hk;exact hn st2 G2 a' w' hI2 hk2
theorem HD (hT : cd P T) (hI : Inv E st G a w) (h : tv P T an o st k) (hn : fy E k next) : o.wp P a w next Q := by
 obtain ⟨st', G', hI', h'⟩ := xA hI h;exact HC hT hI' h' hn
theorem Ec {vec : List Nat} : ∀ {l : List (Nat × TypeId)} {st : St} {G : Gh} {k : St → Prop}, Inv E st G a w → vl T vec l st k → ∃ st' G', Inv E st' G' a w ∧ k st' := by
 intro l
 induction l with
 | nil => intro st G k hI h; exact ⟨st, G, hI, h⟩
 | cons p l ih =>
  obtain ⟨d, e⟩ := p;intro st G k hI h;obtain ⟨s, ob⟩ := st;unfold vl at h;simp only at h;split at h
  ·rename_i hs;split at h
   ·obtain ⟨ob', h1, h2, h3⟩ := dK h;rw [gm] at h1;obtain ⟨hI1, hle⟩ := hI.newObj (w' := w) (n := al d) (o := .vec e (T.ti e).size [] 0) (objs' := ob') (g := .rowv (.slice none 0 0) 0) (K' := G.K) rfl rfl rfl (aar _)
     (fun b hb => rfl) (fun _ _ _ => rfl) (fun b o v hb e => by have := hI.wr.kltb e; omega) h2 h3
     ⟨.slice none 0 0, [], by simp [aN], World.ownsRow_nil _ _ _ _, by simp [aB], by simp, fun g hg => by cases hg⟩
     (fun b hb => by
      rcases hb with hb | ⟨u, t', hb, hb'⟩
      ·simp [aN] at hb
      ·simp [aN] at hb;obtain ⟨rfl, _⟩ := hb
       cases hb')
    refine ih (st := ⟨jb s d (.slv (al d) (T.ti e).size 0 0 0), ob'⟩) (G := ⟨G.K, aN G.ob (al d) (.rowv (.slice none 0 0) 0)⟩) ?_ h1;refine ⟨?_, hI1.defers, hI1.wr, hI1.le, hI1.ext, hI1.newb⟩;have hlt : d < s.length := by
     rcases aaN d s.length with h | h
     ·exact h
     ·rw [eo, aas, aaP h] at hs; simp at hs
    have hsl : aB G s a.tmps.toList := hI.slots;obtain ⟨v, g1, g2⟩ := hsl.get (aad hlt);have he : s[d] = .val (.slice none 0 0) := by
     rw [eo, aas, aad hlt] at hs;exact hs
    rw [he] at g2;simp only [Rep] at g2;subst g2;have hset : a.tmps.toList.set d (.slice none 0 0) = a.tmps.toList := by
     obtain ⟨h5, h6⟩ := List.getElem?_eq_some_iff.1 g1;rw [← h6, abE]
    show aB _ (jb s d _) a.tmps.toList;rw [← hset];refine aB.set hI1.slots d ?_;simp only [Rep];exact ⟨⟨none, 0, rfl, fun h => absurd rfl h, aar _⟩, .slice none 0 0, 0, by simp [aN], by simp, fun _ => ⟨none, 0, 0, none, rfl, by simp, by simp, rfl, fun _ => rfl, fun h => absurd rfl h⟩⟩
   obtain ⟨ob', h1, h2, h3⟩ := dK h;rw [gm] at h1;obtain ⟨hI1, hle⟩ := hI.newObj (w' := w) (n := al d) (o := .row e (T.ti e).size 0) (objs' := ob') (g := .rowv (.slice none 0 0) 0) (K' := G.K) rfl rfl rfl (aar _)
    (fun b hb => rfl) (fun _ _ _ => rfl) (fun b o v hb e => by have := hI.wr.kltb e; omega) h2 h3
    ⟨.slice none 0 0, [], by simp [aN], World.ownsRow_nil _ _ _ _, fun g hg => by cases hg⟩
    (fun b hb => by
     rcases hb with hb | ⟨u, t', hb, hb'⟩
     ·simp [aN] at hb
     ·simp [aN] at hb;obtain ⟨rfl, _⟩ := hb
      cases hb')
   refine ih (st := ⟨jb s d (.sl (some (al d)) (T.ti e).size []), ob'⟩) (G := ⟨G.K, aN G.ob (al d) (.rowv (.slice none 0 0) 0)⟩) ?_ h1;refine ⟨?_, hI1.defers, hI1.wr, hI1.le, hI1.ext, hI1.newb⟩;have hlt : d < s.length := by
    rcases aaN d s.length with h | h
    ·exact h
    ·rw [eo, aas, aaP h] at hs; simp at hs
   have hsl : aB G s a.tmps.toList := hI.slots;obtain ⟨v, g1, g2⟩ := hsl.get (aad hlt);have he : s[d] = .val (.slice none 0 0) := by
    rw [eo, aas, aad hlt] at hs;exact hs
   rw [he] at g2;simp only [Rep] at g2;subst g2;have hset : a.tmps.toList.set d (.slice none 0 0) = a.tmps.toList := by
    obtain ⟨h5, h6⟩ := List.getElem?_eq_some_iff.1 g1;rw [← h6, abE]
   show aB _ (jb s d _) a.tmps.toList;rw [← hset];refine aB.set hI1.slots d ?_;simp only [Rep];exact ⟨⟨none, 0, rfl, by simp, by simp [d7]⟩, .slice none 0 0, 0, by simp [aN], by simp, fun _ => rfl⟩
  ·exact ih hI h
end
end Go.Abs
