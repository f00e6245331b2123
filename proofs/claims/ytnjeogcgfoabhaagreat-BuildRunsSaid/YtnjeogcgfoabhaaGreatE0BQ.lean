/- The engine, BQ. -/
import Derived.Test.YtnjeogcgfoabhaaGreatE0BP
set_option linter.unusedVariables false
set_option linter.unusedSimpArgs false
namespace Go.Abs
open Go
section
variable {P : Program} {T : Tab} {an : Ann}
theorem E7 (ev : Operand → AV) (fs : List (Nat × TypeId)) : ∀ (ps : List (Nat × Operand)) (l : List AV), Det fun K => aQ.buildK T ev fs ps l K := by
 intro ps
 induction ps with
 | nil => intro l; exact show Det fun K => K l from aU l
 | cons p ps ih =>
  obtain ⟨i, x⟩ := p;intro l;unfold aQ.buildK
  cases fs[i]? with
  | none => exact aj
  | some q =>
   obtain ⟨off, t⟩ := q;exact cE fun ti => aX (gz _) fun c => aZ (aX (sj _ _ _) fun l' => ih l')
theorem xF (ev : Operand → AV) (size : Nat) : ∀ (ps : List (Nat × Operand)) (l : List AV), Det fun K => aQ.buildArrK ev size ps l K := by
 intro ps
 induction ps with
 | nil => intro l; exact show Det fun K => K l from aU l
 | cons p ps ih =>
  obtain ⟨i, x⟩ := p;intro l;exact show Det fun K => dY (ev x).cells fun c => bQ (sq c size) (sK l (i * size) c fun l' => aQ.buildArrK ev size ps l' K) from
   aX (gz _) fun c => aZ (aX (sj _ _ _) fun l' => ih l')
theorem gA (ev : Operand → AV) (x : Option Operand) (d : Nat) : Det fun K => aQ.boundK ev x d K := by
 unfold aQ.boundK
 cases x with
 | none => exact aU _
 | some x =>
  simp only;generalize ev x = A
  cases A <;> try exact aj
  rename_i v
  cases v <;> try exact aj
  exact aU _
theorem qS (ev : Operand → AV) (size : Nat) : ∀ (ps : List (Nat × Operand)) (n : Nat), Det fun K => nX ev size ps n K := by
 intro ps
 induction ps with
 | nil => intro l; exact show Det fun K => K [] from aU _
 | cons p ps ih =>
  obtain ⟨i, x⟩ := p;intro n;refine show Det fun K => (match Nat.beq i n with
   | false => False
   | true => dY ((ev x).cells.map AV.strip) fun c => match Nat.beq c.length size with
    | false => False
    | true => match bP c with
     | false => False
     | true => nX ev size ps (n + 1) fun l => K (c :: l)) from ?_
  cases Nat.beq i n
  ·exact aj
  ·dsimp only;refine aX (gz _) fun c => ?_
   cases Nat.beq c.length size
   ·exact aj
   ·dsimp only
    cases bP c
    ·exact aj
    ·dsimp only;exact aX (ih (n + 1)) fun l => aU _
theorem xu : ∀ {l m : List Int}, (l.map fun b => [AV.val (.int .u8 b)]) = (m.map fun b => [AV.val (.int .u8 b)]) → l = m := by
 intro l
 induction l with
 | nil => intro m h; cases m with
  | nil => rfl
  | cons _ _ => simp at h
 | cons a l ih => intro m h; cases m with
  | nil => simp at h
  | cons b m =>
   simp only [aaF, List.cons.injEq, AV.val.injEq, Value.int.injEq, true_and, and_true] at h;rw [h.1, ih h.2]
theorem uf {α : Type} {l : List (List AV)} {H : List Int → α} : Det fun K : α → Prop => ∃ bs : List Int, (l = bs.map fun b => [.val (.int .u8 b)]) ∧ K (H bs) := by
 rintro K ⟨bs, rfl, h⟩;refine ⟨H bs, fun K' => ⟨?_, fun h => ⟨bs, rfl, h⟩⟩⟩;rintro ⟨cs, e, h⟩;rw [xu e]; exact h
theorem pu (objs : List (Nm × aE)) (d : Nat) (t : TypeId) (s x : AV) : Det fun K : AV × List (Nm × aE) → Prop => i9 T objs d t s x fun v o => K (v, o) := by
 unfold i9
 cases dOf T t <;> try exact aj
 rename_i e;simp only
 cases (T.ti e).ok
 ·exact aj
 ·simp only
  cases x <;> try exact aj
  rename_i own sz m;simp only
  cases (Nat.beq sz (T.ti e).size && ja (T.ti e))
  ·exact aj
  ·simp only
   cases s <;> try exact aj
   ·rename_i v
    cases v <;> try exact aj
    rename_i a len cap
    cases a <;> try exact aj
    cases len <;> try exact aj
    cases cap <;> try exact aj
    try dsimp only
    exact jG (aX (ip _ _ _) fun objs => aU _)
   ·rename_i own' sz' l
    cases own' <;> try exact aj
    rename_i n;simp only
    cases Nat.beq sz' (T.ti e).size
    ·exact aj
    ·simp only
     cases ax objs n with
     | none => exact aj
     | some ob =>
      cases ob <;> try exact aj
      rename_i te sr top;simp only
      cases (Nat.beq te e && Nat.beq sr (T.ti e).size)
      ·exact aj
      ·try dsimp only
       exact jG (jG (aX (gh _ _ _) fun objs => aU _))
theorem AB (objs : List (Nm × aE)) (t : TypeId) (s x : AV) : Det fun K : AV × List (Nm × aE) → Prop => mR T objs t s x fun v o => K (v, o) := by
 unfold mR
 cases dOf T t <;> try exact aj
 rename_i e;simp only
 cases (T.ti e).ok
 ·exact aj
 ·simp only
  cases x <;> try exact aj
  ·rename_i own sz m;simp only
   cases (Nat.beq sz (T.ti e).size && ja (T.ti e))
   ·exact aj
   ·simp only
    cases s <;> try exact aj
    rename_i n sz' ver off len;simp only
    cases Nat.beq sz' (T.ti e).size
    ·exact aj
    ·simp only
     cases ax objs n with
     | none => exact aj
     | some ob =>
      cases ob <;> try exact aj
      rename_i te sr l ver';simp only
      cases (Nat.beq te e && Nat.beq sr (T.ti e).size)
      ·exact aj
      ·try dsimp only
       exact jG (jG (aX (gh _ _ _) fun objs => aU _))
  ·rename_i n2 sz ver off len;simp only
   cases (Nat.beq sz (T.ti e).size && ja (T.ti e))
   ·exact aj
   ·simp only
    cases ax objs n2 with
    | none => exact aj
    | some ob2 =>
     cases ob2 <;> try exact aj
     rename_i te2 sr2 l2 ver';simp only
     cases (Nat.beq te2 e && Nat.beq sr2 (T.ti e).size)
     ·exact aj
     ·simp only
      cases s <;> try exact aj
      rename_i own' sz' l
      cases own' <;> try exact aj
      rename_i n;simp only
      cases Nat.beq sz' (T.ti e).size
      ·exact aj
      ·simp only
       cases ax objs n with
       | none => exact aj
       | some ob =>
        cases ob <;> try exact aj
        rename_i te sr top;simp only
        cases (Nat.beq te e && Nat.beq sr (T.ti e).size)
        ·exact aj
        ·try dsimp only
         exact jG (jG (aX (gh _ _ _) fun objs => aU _))
theorem AC (objs : List (Nm × aE)) (d : Nat) (t t2 : TypeId) (s x : AV) : Det fun K : AV × List (Nm × aE) → Prop => mW T objs d t t2 s x fun v o => K (v, o) := by
 unfold mW
 cases dOf T t2 <;> try exact aj
 case slice e2 =>
  simp only
  cases x <;> try exact aj
  exact pu _ _ _ _ _
 simp only
 cases dOf T t <;> try exact aj
 rename_i e;simp only
 cases dOf T e <;> try exact aj
 rename_i ik
 cases ik <;> try exact aj
 simp only
 cases x <;> try exact aj
 rename_i v
 cases v <;> try exact aj
 exact pu _ _ _ _ _
theorem CR (b : Builtin) (xs : List Operand) (ts : List TypeId) (dst : Option Tmp) (ev : Operand → AV) (objs : List (Nm × aE)) : Det fun K : AV × List (Nm × aE) → Prop => (match b, xs, ts with
   | .len, [x], [t] => bQ (qb (dOf T t) (ev x)) (match xw (ev x) objs with
    | some n => K (.val (.int .i64 n), objs)
    | none => False)
   | .append, [s, x], [t, t2] => (match Nat.beq t t2, dst with
    | true, some d => (match OD (ev s) (ev x) with
     | true => mR T objs t (ev s) (ev x) fun v objs => K (v, objs)
     | false => i9 T objs d t (ev s) (ev x) fun v objs => K (v, objs))
    | false, some d => mW T objs d t t2 (ev s) (ev x) fun v objs => K (v, objs)
    | _, _ => False)
   | .delete, [m, x], [t, _] => (match dOf T t with
    | .map kt e => (match dOf T kt with
     | .string => (match ev m, ev x with
      | .mapv n, .val (.string s) => (match ax objs n with
       | some (.map es) => dx objs n (.map (jA es s)) fun objs => K (.junk, objs)
       | _ => False)
      | _, _ => False)
     | _ => False)
    | _ => False)
   | .min, [x, y], [_, _] => (match ev x, ev y with
    | .val (.int ka x), .val (.int kb y) => bQ (Ah ka kb) (K (.val (.int ka (if y < x then y else x)), objs))
    | _, _ => False)
   | .max, [x, y], [_, _] => (match ev x, ev y with
    | .val (.int ka x), .val (.int kb y) => bQ (Ah ka kb) (K (.val (.int ka (if x < y then y else x)), objs))
    | _, _ => False)
   | _, _, _ => False) := by
 cases b <;> try exact aj
 case append =>
  rcases xs with _ | ⟨s, _ | ⟨x, _ | ⟨z, xs⟩⟩⟩ <;> try exact aj
  rcases ts with _ | ⟨t, _ | ⟨t2, _ | ⟨z, ts⟩⟩⟩ <;> try exact aj
  simp only
  cases Nat.beq t t2
  ·cases dst <;> try exact aj
   exact AC _ _ _ _ _ _
  ·cases dst <;> try exact aj
   simp only
   cases OD (ev s) (ev x)
   ·exact pu _ _ _ _ _
   ·exact AB _ _ _ _
 case delete =>
  rcases xs with _ | ⟨m, _ | ⟨x, _ | ⟨z, xs⟩⟩⟩ <;> try exact aj
  rcases ts with _ | ⟨t, _ | ⟨t2, _ | ⟨z, ts⟩⟩⟩ <;> try exact aj
  simp only
  cases dOf T t <;> try exact aj
  rename_i kt e;simp only
  cases dOf T kt <;> try exact aj
  simp only;generalize ev m = A;generalize ev x = B
  cases A <;> try exact aj
  rename_i n
  cases B <;> try exact aj
  rename_i w
  cases w <;> try exact aj
  simp only
  cases ax objs n with
  | none => exact aj
  | some ob =>
   cases ob <;> try exact aj
   exact aX (gh _ _ _) fun objs => aU _
 case len =>
  rcases xs with _ | ⟨x, _ | ⟨z, xs⟩⟩ <;> try exact aj
  rcases ts with _ | ⟨t, _ | ⟨z, ts⟩⟩ <;> try exact aj
  simp only;refine aZ ?_
  cases xw (ev x) objs <;> first | exact aj | exact aU _
 case max =>
  rcases xs with _ | ⟨x, _ | ⟨y, _ | ⟨z, xs⟩⟩⟩ <;> try exact aj
  rcases ts with _ | ⟨t, _ | ⟨t2, _ | ⟨z, ts⟩⟩⟩ <;> try exact aj
  simp only;generalize ev x = A;generalize ev y = B
  cases A <;> try exact aj
  rename_i v
  cases v <;> try exact aj
  cases B <;> try exact aj
  rename_i v
  cases v <;> try exact aj
  exact aZ (aU _)
 case min =>
  rcases xs with _ | ⟨x, _ | ⟨y, _ | ⟨z, xs⟩⟩⟩ <;> try exact aj
  rcases ts with _ | ⟨t, _ | ⟨t2, _ | ⟨z, ts⟩⟩⟩ <;> try exact aj
  simp only;generalize ev x = A;generalize ev y = B
  cases A <;> try exact aj
  rename_i v
  cases v <;> try exact aj
  cases B <;> try exact aj
  rename_i v
  cases v <;> try exact aj
  exact aZ (aU _)
def m9 : Op → Bool
 | .call c => (match c.callee with | .value _ => true | _ => false)
 | _ => false
theorem yV {op : Op} (hc : m9 op = false) (dst : Option Tmp) (ev : Operand → AV) (objs : List (Nm × aE)) : Det fun K : AV × List (Nm × aE) → Prop => aQ P T an op dst ev objs fun v o => K (v, o) := by
 cases op with
 | move x => exact aU _
 | assign x => exact aU _
 | pick c a b =>
  simp only [aQ];generalize ev c = A
  cases A <;> try exact aj
  rename_i v
  cases v <;> try exact aj
  try dsimp only
  exact OT (aU _) (aU _)
 | binOp op t x y yt => simp only [aQ]; exact aX (Kv _ _ _ _) fun v => aU _
 | unOp op t x => simp only [aQ]; exact aX (Mw _ _) fun v => aU _
 | load t p =>
  simp only [aQ];generalize ev p = A
  cases A <;> try exact aj
  ·try dsimp only
   exact aX (nl _ _) fun v => aU _
  ·rename_i n off;simp only
   cases ax objs n with
   | none => exact aj
   | some ob =>
    cases ob <;> try exact aj
    try dsimp only
    exact aX (nl _ _) fun v => aU _
  ·rename_i n size ver i off;simp only
   cases ax objs n with
   | none => exact aj
   | some ob =>
    cases ob <;> try exact aj
    try dsimp only
    exact aZ (jG (aX (sm _ _) fun e => aX (nl _ _) fun v => aU _))
 | store t p x =>
  simp only [aQ];generalize ev p = A
  cases A <;> try exact aj
  ·rename_i n off;simp only
   cases ax objs n with
   | none => exact aj
   | some ob =>
    cases ob <;> try exact aj
    try dsimp only
    exact cE fun ti => aX (gz _) fun c => aZ (aZ (aX (sj _ _ _) fun l' => aX (gh _ _ _) fun objs => aU _))
  ·rename_i n size ver i off;simp only
   cases ax objs n with
   | none => exact aj
   | some ob =>
    cases ob <;> try exact aj
    try dsimp only
    exact cE fun ti => aX (gz _) fun c => aZ (aZ (jG (aX (sm _ _) fun e => aX (sj _ _ _) fun e' => aX (gh _ _ _) fun objs => aU _)))
 | fieldAddr t p f =>
  simp only [aQ]
  cases nj T t f with
  | none => exact aj
  | some q =>
   obtain ⟨fo, ft⟩ := q
   try dsimp only
   refine cE fun _ => cE fun fi => aZ ?_;generalize ev p = A
   cases A <;> first | exact aj | exact aU _
 | field t x f =>
  simp only [aQ]
  cases nj T t f with
  | none => exact aj
  | some q =>
   obtain ⟨fo, ft⟩ := q;simp only;generalize ev x = A
   cases A <;> try exact aj
   try dsimp only
   exact cE fun _ => aX (nl _ _) fun v => aU _
 | indexAddr t x i =>
  simp only [aQ]
  try dsimp only
  refine cE fun ti => ?_;generalize ev i = I
  cases I <;> try exact aj
  rename_i v
  cases v <;> try exact aj
  rename_i ik i;simp only
  cases ti.d <;> try exact aj
  ·rename_i e
   try dsimp only
   refine cE fun ei => aZ ?_;generalize ev x = A
   cases A <;> try exact aj
   ·try dsimp only
    exact aZ (aZ (aX (sm _ _) fun c => aU _))
   ·try dsimp only
    exact aZ (aZ (aU _))
   ·try dsimp only
    exact aZ (aZ (aZ (aU _)))
  ·rename_i m e
   try dsimp only
   refine cE fun ei => aZ (aZ (aZ ?_));generalize ev x = A
   cases A <;> first | exact aj | exact aU _
 | index t x i =>
  simp only [aQ]
  try dsimp only
  refine cE fun ti => ?_;generalize ev i = I
  cases I <;> try exact aj
  rename_i v
  cases v <;> try exact aj
  rename_i ik i;simp only
  cases ti.d <;> try exact aj
  ·simp only;generalize ev x = A
   cases A <;> try exact aj
   rename_i v
   cases v <;> try exact aj
   try dsimp only
   exact aZ (aZ (aU _))
  ·rename_i m e;simp only;generalize ev x = A
   cases A <;> try exact aj
   try dsimp only
   exact aZ (aZ (cE fun ei => aX (nl _ _) fun v => aU _))
 | extract x i =>
  simp only [aQ];generalize ev x = A
  cases A <;> try exact aj
  try dsimp only
  exact aX (sm _ _) fun v => aU _
 | build t ps =>
  simp only [aQ]
  try dsimp only
  refine cE fun ti => ?_
  cases ti.d <;> try exact aj
  ·try dsimp only
   exact aZ (cE fun ei => aX (xF _ _ _ _) fun l => aU _)
  ·try dsimp only
   exact aZ (aX (E7 _ _ _ _) fun l => aU _)
 | buildSlice t len ps =>
  simp only [aQ]
  try dsimp only
  refine cE fun ti => ?_
  cases ti.d <;> try exact aj
  rename_i e
  try dsimp only
  refine cE fun ei => aZ (aZ (aX (qS _ _ _ _) fun l => ?_))
  cases dst with
  | none => exact aj
  | some d =>
   simp only
   cases ig an.own d
   ·simp only
    cases ig an.chg d
    ·exact aU _
    ·try dsimp only
     exact aX (ip _ _ _) fun objs => aU _
   ·try dsimp only
    exact aX (ip _ _ _) fun objs => aU _
 | alloc t =>
  simp only [aQ]
  try dsimp only
  refine cE fun ti => ?_
  cases dst with
  | none => exact aj
  | some d => exact aZ (aX (ip _ _ _) fun objs => aU _)
 | box t x =>
  simp only [aQ]
  cases dst with
  | none => exact aj
  | some d =>
   simp only
   cases ig an.cst d
   ·try dsimp only
    exact aX (gz _) fun c => aZ (aX (ip _ _ _) fun objs => aU _)
   ·try dsimp only
    exact aX (gz _) fun c => aZ (aU _)
 | nilCheck x =>
  simp only [aQ];generalize ev x = A
  cases A <;> first | exact aj | exact aU _
 | makeFunc f a b => simp only [aQ]; exact aX (gz _) fun a => aX (gz _) fun b => aU _
 | makeMap t r =>
  cases r with
  | some _ => exact aj
  | none =>
   simp only [aQ]
   cases dst with
   | none => exact aj
   | some d => (simp only; exact aX (ip _ _ _) fun objs => aU _)
 | slice t x lo hi mx =>
  cases mx with
  | some mx =>
   cases hi with
   | none => exact aj
   | some hi =>
    simp only [aQ]
    try dsimp only
    refine cE fun ti => ?_;generalize ev x = A
    cases A <;> try exact aj
    simp only
    cases ti.d <;> try exact aj
    try dsimp only
    exact cE fun ei => aZ (aX (gA _ _ _) fun l => aX (gA _ _ _) fun h => aX (gA _ _ _) fun m => aZ (aZ (aZ (aZ (aU _)))))
  | none =>
   simp only [aQ]
   try dsimp only
   refine cE fun ti => ?_;generalize ev x = A
   cases A <;> try exact aj
   ·rename_i v
    cases v <;> try exact aj
    simp only
    cases ti.d <;> try exact aj
    try dsimp only
    exact aX (gA _ _ _) fun l => aX (gA _ _ _) fun h => aZ (aZ (aZ (aU _)))
   ·simp only
    cases ti.d <;> try exact aj
    try dsimp only
    exact cE fun ei => aZ (aX (gA _ _ _) fun l => aX (gA _ _ _) fun h => aZ (aZ (aZ (aU _))))
   ·simp only
    cases ti.d <;> try exact aj
    try dsimp only
    refine cE fun _ => ?_
    cases lo <;> cases hi <;> first | exact aj | exact aU _
   ·simp only
    cases ti.d <;> try exact aj
    try dsimp only
    exact cE fun ei => aZ (aX (gA _ _ _) fun l => aX (gA _ _ _) fun h => aZ (aZ (aZ (aU _))))
 | convert src dt x =>
  simp only [aQ]
  try dsimp only
  refine cE fun si => cE fun di => ?_;generalize ev x = A
  cases di.d <;> try exact aj
  ·cases A <;> try exact aj
   ·rename_i v
    cases v <;> try exact aj
    simp only
    cases si.d <;> first | exact aj | exact aU _
   ·simp only
    cases si.d <;> try exact aj
    rename_i e;simp only
    cases dOf T e <;> try exact aj
    rename_i k
    cases k <;> try exact aj
    exact uf
   ·rename_i n sz ver off len;simp only
    cases si.d <;> try exact aj
    rename_i e;simp only
    cases dOf T e <;> try exact aj
    rename_i k
    cases k <;> try exact aj
    simp only
    cases ax objs n with
    | none => exact aj
    | some y => cases y <;> first | exact aj | exact aZ (jG uf)
  ·cases A <;> try exact aj
   rename_i v
   cases v <;> try exact aj
   simp only
   cases si.d <;> first | exact aj | exact aU _
  ·rename_i e
   cases A <;> try exact aj
   rename_i v
   cases v <;> try exact aj
   simp only
   cases dOf T e <;> try exact aj
   rename_i k
   cases k <;> first | exact aj | exact aU _
 | lookup t m x ok =>
  simp only [aQ]
  cases dOf T t <;> try exact aj
  rename_i kt e;simp only
  cases dOf T kt <;> try exact aj
  try dsimp only
  refine cE fun ei => ?_;generalize ev m = A;generalize ev x = B
  cases A <;> try exact aj
  rename_i n
  cases B <;> try exact aj
  rename_i v
  cases v <;> try exact aj
  simp only
  cases ax objs n with
  | none => exact aj
  | some ob =>
   cases ob <;> try exact aj
   try dsimp only
   refine aX (Io _) fun z => ?_
   cases ok <;> exact aU _
 | mapUpdate t m x v =>
  simp only [aQ]
  cases dOf T t <;> try exact aj
  rename_i kt e;simp only
  cases dOf T kt <;> try exact aj
  simp only;generalize ev m = A;generalize ev x = B
  cases A <;> try exact aj
  rename_i n
  cases B <;> try exact aj
  rename_i w
  cases w <;> try exact aj
  simp only
  cases ax objs n with
  | none => exact aj
  | some ob =>
   cases ob <;> try exact aj
   try dsimp only
   exact aX (th _) fun v => aZ (aX (gh _ _ _) fun objs => aU _)
 | call c =>
  simp only [aQ]
  cases hcal : c.callee with
  | value f => simp [m9, hcal] at hc
  | invoke _ _ => exact aj
  | builtin b => exact CR b _ _ _ _ _
 | makeInterface t x =>
  simp only [aQ]
  cases dOf T t <;> first | exact aj | (simp only; exact aX (th _) fun v => aU _)
 | _ => exact aj
end
end Go.Abs
