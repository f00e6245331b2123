/- The engine, BQ. -/
import Derived.Test.YtnjeogcgfoabhaaGreatE0BP
set_option linter.unusedVariables false
set_option linter.unusedSimpArgs false
namespace Go.Abs
open Go
section
variable {P : Program} {T : Tab} {an : Ann}
theorem ES (ev : Operand → AV) (fs : List (Nat × TypeId)) : ∀ (ps : List (Nat × Operand)) (l : List AV), Det fun K => aR.buildK T ev fs ps l K := by
 intro ps
 induction ps with
 | nil => intro l; exact show Det fun K => K l from aU l
 | cons p ps ih =>
  obtain ⟨i, x⟩ := p;intro l;unfold aR.buildK
  cases fs[i]? with
  | none => exact aj
  | some q =>
   obtain ⟨off, t⟩ := q;exact cF fun ti => aW (gy _) fun c => a8 (aW (rY _ _ _) fun l' => ih l')
theorem xr (ev : Operand → AV) (size : Nat) : ∀ (ps : List (Nat × Operand)) (l : List AV), Det fun K => aR.buildArrK ev size ps l K := by
 intro ps
 induction ps with
 | nil => intro l; exact show Det fun K => K l from aU l
 | cons p ps ih =>
  obtain ⟨i, x⟩ := p;intro l;exact show Det fun K => d8 (ev x).cells fun c => bU (r8 c size) (sA l (i * size) c fun l' => aR.buildArrK ev size ps l' K) from
   aW (gy _) fun c => a8 (aW (rY _ _ _) fun l' => ih l')
theorem gz (ev : Operand → AV) (x : Option Operand) (d : Nat) : Det fun K => aR.boundK ev x d K := by
 unfold aR.boundK
 cases x with
 | none => exact aU _
 | some x =>
  simp only;generalize ev x = A
  cases A <;> try exact aj
  rename_i v
  cases v <;> try exact aj
  exact aU _
theorem qH (ev : Operand → AV) (size : Nat) : ∀ (ps : List (Nat × Operand)) (n : Nat), Det fun K => nR ev size ps n K := by
 intro ps
 induction ps with
 | nil => intro l; exact show Det fun K => K [] from aU _
 | cons p ps ih =>
  obtain ⟨i, x⟩ := p;intro n;refine show Det fun K => (match Nat.beq i n with
   | false => False
   | true => d8 ((ev x).cells.map AV.strip) fun c => match Nat.beq c.length size with
    | false => False
    | true => match bS c with
     | false => False
     | true => nR ev size ps (n + 1) fun l => K (c :: l)) from ?_
  cases Nat.beq i n
  ·exact aj
  ·dsimp only;refine aW (gy _) fun c => ?_
   cases Nat.beq c.length size
   ·exact aj
   ·dsimp only
    cases bS c
    ·exact aj
    ·dsimp only;exact aW (ih (n + 1)) fun l => aU _
theorem xf : ∀ {l m : List Int}, (l.map fun b => [AV.val (.int .u8 b)]) = (m.map fun b => [AV.val (.int .u8 b)]) → l = m := by
 intro l
 induction l with
 | nil => intro m h; cases m with
  | nil => rfl
  | cons _ _ => simp at h
 | cons a l ih => intro m h; cases m with
  | nil => simp at h
  | cons b m =>
   simp only [List.map_cons, List.cons.injEq, AV.val.injEq, Value.int.injEq, true_and, and_true] at h;rw [h.1, ih h.2]
theorem tX {α : Type} {l : List (List AV)} {H : List Int → α} : Det fun K : α → Prop => ∃ bs : List Int, (l = bs.map fun b => [.val (.int .u8 b)]) ∧ K (H bs) := by
 rintro K ⟨bs, rfl, h⟩;refine ⟨H bs, fun K' => ⟨?_, fun h => ⟨bs, rfl, h⟩⟩⟩;rintro ⟨cs, e, h⟩;rw [xf e]; exact h
theorem ph (objs : List (Nm × aF)) (d : Nat) (t : TypeId) (s x : AV) : Det fun K : AV × List (Nm × aF) → Prop => ja T objs d t s x fun v o => K (v, o) := by
 unfold ja
 cases dOf T t <;> try exact aj
 rename_i e;simp only
 cases (T.ti e).ok
 ·exact aj
 ·simp only
  cases x <;> try exact aj
  rename_i own sz m;simp only
  cases (Nat.beq sz (T.ti e).size && jb (T.ti e))
  ·exact aj
  ·simp only
   cases s <;> try exact aj
   ·rename_i v
    cases v <;> try exact aj
    rename_i a len cap
    cases a <;> try exact aj
    cases len <;> try exact aj
    cases cap <;> try exact aj
    try dsimp only
    exact jM (aW (ii _ _ _) fun objs => aU _)
   ·rename_i own' sz' l
    cases own' <;> try exact aj
    rename_i n;simp only
    cases Nat.beq sz' (T.ti e).size
    ·exact aj
    ·simp only
     cases az objs n with
     | none => exact aj
     | some ob =>
      cases ob <;> try exact aj
      rename_i te sr top;simp only
      cases (Nat.beq te e && Nat.beq sr (T.ti e).size)
      ·exact aj
      ·try dsimp only
       exact jM (jM (aW (gj _ _ _) fun objs => aU _))
theorem Aq (objs : List (Nm × aF)) (t : TypeId) (s x : AV) : Det fun K : AV × List (Nm × aF) → Prop => mQ T objs t s x fun v o => K (v, o) := by
 unfold mQ
 cases dOf T t <;> try exact aj
 rename_i e;simp only
 cases (T.ti e).ok
 ·exact aj
 ·simp only
  cases x <;> try exact aj
  ·rename_i own sz m;simp only
   cases (Nat.beq sz (T.ti e).size && jb (T.ti e))
   ·exact aj
   ·simp only
    cases s <;> try exact aj
    rename_i n sz' ver off len;simp only
    cases Nat.beq sz' (T.ti e).size
    ·exact aj
    ·simp only
     cases az objs n with
     | none => exact aj
     | some ob =>
      cases ob <;> try exact aj
      rename_i te sr l ver';simp only
      cases (Nat.beq te e && Nat.beq sr (T.ti e).size)
      ·exact aj
      ·try dsimp only
       exact jM (jM (aW (gj _ _ _) fun objs => aU _))
  ·rename_i n2 sz ver off len;simp only
   cases (Nat.beq sz (T.ti e).size && jb (T.ti e))
   ·exact aj
   ·simp only
    cases az objs n2 with
    | none => exact aj
    | some ob2 =>
     cases ob2 <;> try exact aj
     rename_i te2 sr2 l2 ver';simp only
     cases (Nat.beq te2 e && Nat.beq sr2 (T.ti e).size)
     ·exact aj
     ·simp only
      cases s <;> try exact aj
      rename_i own' sz' l
      cases own' <;> try exact aj
      rename_i n;simp only
      cases Nat.beq sz' (T.ti e).size
      ·exact aj
      ·simp only
       cases az objs n with
       | none => exact aj
       | some ob =>
        cases ob <;> try exact aj
        rename_i te sr top;simp only
        cases (Nat.beq te e && Nat.beq sr (T.ti e).size)
        ·exact aj
        ·try dsimp only
         exact jM (jM (aW (gj _ _ _) fun objs => aU _))
theorem Ar (objs : List (Nm × aF)) (d : Nat) (t t2 : TypeId) (s x : AV) : Det fun K : AV × List (Nm × aF) → Prop => mV T objs d t t2 s x fun v o => K (v, o) := by
 unfold mV
 cases dOf T t2 <;> try exact aj
 case slice e2 =>
  simp only
  cases x <;> try exact aj
  exact ph _ _ _ _ _
 simp only
 cases dOf T t <;> try exact aj
 rename_i e;simp only
 cases dOf T e <;> try exact aj
 rename_i ik
 cases ik <;> try exact aj
 simp only
 cases x <;> try exact aj
 rename_i v
 cases v <;> try exact aj
 exact ph _ _ _ _ _
theorem CC (b : Builtin) (xs : List Operand) (ts : List TypeId) (dst : Option Tmp) (ev : Operand → AV) (objs : List (Nm × aF)) : Det fun K : AV × List (Nm × aF) → Prop => (match b, xs, ts with
   | .len, [x], [t] => bU (pY (dOf T t) (ev x)) (match xg (ev x) objs with
    | some n => K (.val (.int .i64 n), objs)
    | none => False)
   | .append, [s, x], [t, t2] => (match Nat.beq t t2, dst with
    | true, some d => (match Oh (ev s) (ev x) with
     | true => mQ T objs t (ev s) (ev x) fun v objs => K (v, objs)
     | false => ja T objs d t (ev s) (ev x) fun v objs => K (v, objs))
    | false, some d => mV T objs d t t2 (ev s) (ev x) fun v objs => K (v, objs)
    | _, _ => False)
   | .delete, [m, x], [t, _] => (match dOf T t with
    | .map kt e => (match dOf T kt with
     | .string => (match ev m, ev x with
      | .mapv n, .val (.string s) => (match az objs n with
       | some (.map es) => dB objs n (.map (jC es s)) fun objs => K (.junk, objs)
       | _ => False)
      | _, _ => False)
     | _ => False)
    | _ => False)
   | .min, [x, y], [_, _] => (match ev x, ev y with
    | .val (.int ka x), .val (.int kb y) => bU (zX ka kb) (K (.val (.int ka (if y < x then y else x)), objs))
    | _, _ => False)
   | .max, [x, y], [_, _] => (match ev x, ev y with
    | .val (.int ka x), .val (.int kb y) => bU (zX ka kb) (K (.val (.int ka (if x < y then y else x)), objs))
    | _, _ => False)
   | _, _, _ => False) := by
 cases b <;> try exact aj
 case append =>
  rcases xs with _ | ⟨s, _ | ⟨x, _ | ⟨z, xs⟩⟩⟩ <;> try exact aj
  rcases ts with _ | ⟨t, _ | ⟨t2, _ | ⟨z, ts⟩⟩⟩ <;> try exact aj
  simp only
  cases Nat.beq t t2
  ·cases dst <;> try exact aj
   exact Ar _ _ _ _ _ _
  ·cases dst <;> try exact aj
   simp only
   cases Oh (ev s) (ev x)
   ·exact ph _ _ _ _ _
   ·exact Aq _ _ _ _
 case delete =>
  rcases xs with _ | ⟨m, _ | ⟨x, _ | ⟨z, xs⟩⟩⟩ <;> try exact aj
  rcases ts with _ | ⟨t, _ | ⟨t2, _ | ⟨z, ts⟩⟩⟩ <;> try exact aj
  simp only
  cases dOf T t <;> try exact aj
  rename_i kt e;simp only
  cases dOf T kt <;> try exact aj
  simp only;generalize ev m = A;generalize ev x = B
  cases A <;> try exact aj
  rename_i n
  cases B <;> try exact aj
  rename_i w
  cases w <;> try exact aj
  simp only
  cases az objs n with
  | none => exact aj
  | some ob =>
   cases ob <;> try exact aj
   exact aW (gj _ _ _) fun objs => aU _
 case len =>
  rcases xs with _ | ⟨x, _ | ⟨z, xs⟩⟩ <;> try exact aj
  rcases ts with _ | ⟨t, _ | ⟨z, ts⟩⟩ <;> try exact aj
  simp only;refine a8 ?_
  cases xg (ev x) objs <;> first | exact aj | exact aU _
 case max =>
  rcases xs with _ | ⟨x, _ | ⟨y, _ | ⟨z, xs⟩⟩⟩ <;> try exact aj
  rcases ts with _ | ⟨t, _ | ⟨t2, _ | ⟨z, ts⟩⟩⟩ <;> try exact aj
  simp only;generalize ev x = A;generalize ev y = B
  cases A <;> try exact aj
  rename_i v
  cases v <;> try exact aj
  cases B <;> try exact aj
  rename_i v
  cases v <;> try exact aj
  exact a8 (aU _)
 case min =>
  rcases xs with _ | ⟨x, _ | ⟨y, _ | ⟨z, xs⟩⟩⟩ <;> try exact aj
  rcases ts with _ | ⟨t, _ | ⟨t2, _ | ⟨z, ts⟩⟩⟩ <;> try exact aj
  simp only;generalize ev x = A;generalize ev y = B
  cases A <;> try exact aj
  rename_i v
  cases v <;> try exact aj
  cases B <;> try exact aj
  rename_i v
  cases v <;> try exact aj
  exact a8 (aU _)
def m8 : Op → Bool
 | .call c => (match c.callee with | .value _ => true | _ => false)
 | _ => false
theorem yL {op : Op} (hc : m8 op = false) (dst : Option Tmp) (ev : Operand → AV) (objs : List (Nm × aF)) : Det fun K : AV × List (Nm × aF) → Prop => aR P T an op dst ev objs fun v o => K (v, o) := by
 cases op with
 | move x => exact aU _
 | assign x => exact aU _
 | pick c a b =>
  simp only [aR];generalize ev c = A
  cases A <;> try exact aj
  rename_i v
  cases v <;> try exact aj
  try dsimp only
  exact Oz (aU _) (aU _)
 | binOp op t x y yt => simp only [aR]; exact aW (J9 _ _ _ _) fun v => aU _
 | unOp op t x => simp only [aR]; exact aW (Mc _ _) fun v => aU _
 | load t p =>
  simp only [aR];generalize ev p = A
  cases A <;> try exact aj
  ·try dsimp only
   exact aW (nj _ _) fun v => aU _
  ·rename_i n off;simp only
   cases az objs n with
   | none => exact aj
   | some ob =>
    cases ob <;> try exact aj
    try dsimp only
    exact aW (nj _ _) fun v => aU _
  ·rename_i n size ver i off;simp only
   cases az objs n with
   | none => exact aj
   | some ob =>
    cases ob <;> try exact aj
    try dsimp only
    exact a8 (jM (aW (rZ _ _) fun e => aW (nj _ _) fun v => aU _))
 | store t p x =>
  simp only [aR];generalize ev p = A
  cases A <;> try exact aj
  ·rename_i n off;simp only
   cases az objs n with
   | none => exact aj
   | some ob =>
    cases ob <;> try exact aj
    try dsimp only
    exact cF fun ti => aW (gy _) fun c => a8 (a8 (aW (rY _ _ _) fun l' => aW (gj _ _ _) fun objs => aU _))
  ·rename_i n size ver i off;simp only
   cases az objs n with
   | none => exact aj
   | some ob =>
    cases ob <;> try exact aj
    try dsimp only
    exact cF fun ti => aW (gy _) fun c => a8 (a8 (jM (aW (rZ _ _) fun e => aW (rY _ _ _) fun e' => aW (gj _ _ _) fun objs => aU _)))
 | fieldAddr t p f =>
  simp only [aR]
  cases ni T t f with
  | none => exact aj
  | some q =>
   obtain ⟨fo, ft⟩ := q
   try dsimp only
   refine cF fun _ => cF fun fi => a8 ?_;generalize ev p = A
   cases A <;> first | exact aj | exact aU _
 | field t x f =>
  simp only [aR]
  cases ni T t f with
  | none => exact aj
  | some q =>
   obtain ⟨fo, ft⟩ := q;simp only;generalize ev x = A
   cases A <;> try exact aj
   try dsimp only
   exact cF fun _ => aW (nj _ _) fun v => aU _
 | indexAddr t x i =>
  simp only [aR]
  try dsimp only
  refine cF fun ti => ?_;generalize ev i = I
  cases I <;> try exact aj
  rename_i v
  cases v <;> try exact aj
  rename_i ik i;simp only
  cases ti.d <;> try exact aj
  ·rename_i e
   try dsimp only
   refine cF fun ei => a8 ?_;generalize ev x = A
   cases A <;> try exact aj
   ·try dsimp only
    exact a8 (a8 (aW (rZ _ _) fun c => aU _))
   ·try dsimp only
    exact a8 (a8 (aU _))
   ·try dsimp only
    exact a8 (a8 (a8 (aU _)))
  ·rename_i m e
   try dsimp only
   refine cF fun ei => a8 (a8 (a8 ?_));generalize ev x = A
   cases A <;> first | exact aj | exact aU _
 | index t x i =>
  simp only [aR]
  try dsimp only
  refine cF fun ti => ?_;generalize ev i = I
  cases I <;> try exact aj
  rename_i v
  cases v <;> try exact aj
  rename_i ik i;simp only
  cases ti.d <;> try exact aj
  ·simp only;generalize ev x = A
   cases A <;> try exact aj
   rename_i v
   cases v <;> try exact aj
   try dsimp only
   exact a8 (a8 (aU _))
  ·rename_i m e;simp only;generalize ev x = A
   cases A <;> try exact aj
   try dsimp only
   exact a8 (a8 (cF fun ei => aW (nj _ _) fun v => aU _))
 | extract x i =>
  simp only [aR];generalize ev x = A
  cases A <;> try exact aj
  try dsimp only
  exact aW (rZ _ _) fun v => aU _
 | build t ps =>
  simp only [aR]
  try dsimp only
  refine cF fun ti => ?_
  cases ti.d <;> try exact aj
  ·try dsimp only
   exact a8 (cF fun ei => aW (xr _ _ _ _) fun l => aU _)
  ·try dsimp only
   exact a8 (aW (ES _ _ _ _) fun l => aU _)
 | buildSlice t len ps =>
  simp only [aR]
  try dsimp only
  refine cF fun ti => ?_
  cases ti.d <;> try exact aj
  rename_i e
  try dsimp only
  refine cF fun ei => a8 (a8 (aW (qH _ _ _ _) fun l => ?_))
  cases dst with
  | none => exact aj
  | some d =>
   simp only
   cases ia an.own d
   ·simp only
    cases ia an.chg d
    ·exact aU _
    ·try dsimp only
     exact aW (ii _ _ _) fun objs => aU _
   ·try dsimp only
    exact aW (ii _ _ _) fun objs => aU _
 | alloc t =>
  simp only [aR]
  try dsimp only
  refine cF fun ti => ?_
  cases dst with
  | none => exact aj
  | some d => exact a8 (aW (ii _ _ _) fun objs => aU _)
 | box t x =>
  simp only [aR]
  cases dst with
  | none => exact aj
  | some d =>
   simp only
   cases ia an.cst d
   ·try dsimp only
    exact aW (gy _) fun c => a8 (aW (ii _ _ _) fun objs => aU _)
   ·try dsimp only
    exact aW (gy _) fun c => a8 (aU _)
 | nilCheck x =>
  simp only [aR];generalize ev x = A
  cases A <;> first | exact aj | exact aU _
 | makeFunc f a b => simp only [aR]; exact aW (gy _) fun a => aW (gy _) fun b => aU _
 | makeMap t r =>
  cases r with
  | some _ => exact aj
  | none =>
   simp only [aR]
   cases dst with
   | none => exact aj
   | some d => (simp only; exact aW (ii _ _ _) fun objs => aU _)
 | slice t x lo hi mx =>
  cases mx with
  | some mx =>
   cases hi with
   | none => exact aj
   | some hi =>
    simp only [aR]
    try dsimp only
    refine cF fun ti => ?_;generalize ev x = A
    cases A <;> try exact aj
    simp only
    cases ti.d <;> try exact aj
    try dsimp only
    exact cF fun ei => a8 (aW (gz _ _ _) fun l => aW (gz _ _ _) fun h => aW (gz _ _ _) fun m => a8 (a8 (a8 (a8 (aU _)))))
  | none =>
   simp only [aR]
   try dsimp only
   refine cF fun ti => ?_;generalize ev x = A
   cases A <;> try exact aj
   ·rename_i v
    cases v <;> try exact aj
    simp only
    cases ti.d <;> try exact aj
    try dsimp only
    exact aW (gz _ _ _) fun l => aW (gz _ _ _) fun h => a8 (a8 (a8 (aU _)))
   ·simp only
    cases ti.d <;> try exact aj
    try dsimp only
    exact cF fun ei => a8 (aW (gz _ _ _) fun l => aW (gz _ _ _) fun h => a8 (a8 (a8 (aU _))))
   ·simp only
    cases ti.d <;> try exact aj
    try dsimp only
    refine cF fun _ => ?_
    cases lo <;> cases hi <;> first | exact aj | exact aU _
   ·simp only
    cases ti.d <;> try exact aj
    try dsimp only
    exact cF fun ei => a8 (aW (gz _ _ _) fun l => aW (gz _ _ _) fun h => a8 (a8 (a8 (aU _))))
 | convert src dt x =>
  simp only [aR]
  try dsimp only
  refine cF fun si => cF fun di => ?_;generalize ev x = A
  cases di.d <;> try exact aj
  ·cases A <;> try exact aj
   ·rename_i v
    cases v <;> try exact aj
    simp only
    cases si.d <;> first | exact aj | exact aU _
   ·simp only
    cases si.d <;> try exact aj
    rename_i e;simp only
    cases dOf T e <;> try exact aj
    rename_i k
    cases k <;> try exact aj
    exact tX
   ·rename_i n sz ver off len;simp only
    cases si.d <;> try exact aj
    rename_i e;simp only
    cases dOf T e <;> try exact aj
    rename_i k
    cases k <;> try exact aj
    simp only
    cases az objs n with
    | none => exact aj
    | some y => cases y <;> first | exact aj | exact a8 (jM tX)
  ·cases A <;> try exact aj
   rename_i v
   cases v <;> try exact aj
   simp only
   cases si.d <;> first | exact aj | exact aU _
  ·rename_i e
   cases A <;> try exact aj
   rename_i v
   cases v <;> try exact aj
   simp only
   cases dOf T e <;> try exact aj
   rename_i k
   cases k <;> first | exact aj | exact aU _
 | lookup t m x ok =>
  simp only [aR]
  cases dOf T t <;> try exact aj
  rename_i kt e;simp only
  cases dOf T kt <;> try exact aj
  try dsimp only
  refine cF fun ei => ?_;generalize ev m = A;generalize ev x = B
  cases A <;> try exact aj
  rename_i n
  cases B <;> try exact aj
  rename_i v
  cases v <;> try exact aj
  simp only
  cases az objs n with
  | none => exact aj
  | some ob =>
   cases ob <;> try exact aj
   try dsimp only
   refine aW (HQ _) fun z => ?_
   cases ok <;> exact aU _
 | mapUpdate t m x v =>
  simp only [aR]
  cases dOf T t <;> try exact aj
  rename_i kt e;simp only
  cases dOf T kt <;> try exact aj
  simp only;generalize ev m = A;generalize ev x = B
  cases A <;> try exact aj
  rename_i n
  cases B <;> try exact aj
  rename_i w
  cases w <;> try exact aj
  simp only
  cases az objs n with
  | none => exact aj
  | some ob =>
   cases ob <;> try exact aj
   try dsimp only
   exact aW (sX _) fun v => a8 (aW (gj _ _ _) fun objs => aU _)
 | call c =>
  simp only [aR]
  cases hcal : c.callee with
  | value f => simp [m8, hcal] at hc
  | invoke _ _ => exact aj
  | builtin b => exact CC b _ _ _ _ _
 | makeInterface t x =>
  simp only [aR]
  cases dOf T t <;> first | exact aj | (simp only; exact aW (sX _) fun v => aU _)
 | _ => exact aj
end
end Go.Abs
