/- The engine, part 18c: every operation: it hangs on its operands; it has one outcome, if it is no call. -/
import Derived.Test.YtpkocgpcdddleaaGreatBP
set_option linter.unusedVariables false
set_option linter.unusedSimpArgs false
namespace Go.Abs
open Go

section
variable {P : Program} {T : Tab} {an : Ann}

theorem det_buildK (ev : Operand → AV) (fs : List (Nat × TypeId)) : ∀ (ps : List (Nat × Operand)) (l : List AV), Det fun K => genOp.buildK T ev fs ps l K := by
 intro ps
 induction ps with
 | nil => intro l; exact show Det fun K => K l from det_ret l
 | cons p ps ih =>
  obtain ⟨i, x⟩ := p
  intro l
  unfold genOp.buildK
  cases fs[i]? with
  | none => exact det_false
  | some q =>
   obtain ⟨off, t⟩ := q
   exact det_tyOk fun ti => det_bind (det_forceL _) fun c => det_must (det_bind (det_updK _ _ _) fun l' => ih l')
theorem det_buildArrK (ev : Operand → AV) (size : Nat) : ∀ (ps : List (Nat × Operand)) (l : List AV), Det fun K => genOp.buildArrK ev size ps l K := by
 intro ps
 induction ps with
 | nil => intro l; exact show Det fun K => K l from det_ret l
 | cons p ps ih =>
  obtain ⟨i, x⟩ := p
  intro l
  exact show Det fun K => forceL (ev x).cells fun c => must (cellsOk c size) (updK l (i * size) c fun l' => genOp.buildArrK ev size ps l' K) from
   det_bind (det_forceL _) fun c => det_must (det_bind (det_updK _ _ _) fun l' => ih l')
theorem det_boundK (ev : Operand → AV) (x : Option Operand) (d : Nat) : Det fun K => genOp.boundK ev x d K := by
 unfold genOp.boundK
 cases x with
 | none => exact det_ret _
 | some x =>
  simp only
  generalize ev x = A
  cases A <;> try exact det_false
  rename_i v
  cases v <;> try exact det_false
  exact det_ret _
theorem det_elemsK (ev : Operand → AV) (size : Nat) : ∀ (ps : List (Nat × Operand)) (n : Nat), Det fun K => elemsK ev size ps n K := by
 intro ps
 induction ps with
 | nil => intro l; exact show Det fun K => K [] from det_ret _
 | cons p ps ih =>
  obtain ⟨i, x⟩ := p
  intro n
  refine show Det fun K => (match Nat.beq i n with
   | false => False
   | true => forceL ((ev x).cells.map AV.strip) fun c => match Nat.beq c.length size with
    | false => False
    | true => match okCells c with
     | false => False
     | true => elemsK ev size ps (n + 1) fun l => K (c :: l)) from ?_
  cases Nat.beq i n
  ·exact det_false
  ·dsimp only
   refine det_bind (det_forceL _) fun c => ?_
   cases Nat.beq c.length size
   ·exact det_false
   ·dsimp only
    cases okCells c
    ·exact det_false
    ·dsimp only
     exact det_bind (ih (n + 1)) fun l => det_ret _

theorem map_inj_bytes : ∀ {l m : List Int}, (l.map fun b => [AV.val (.int .u8 b)]) = (m.map fun b => [AV.val (.int .u8 b)]) → l = m := by
 intro l
 induction l with
 | nil => intro m h; cases m with
  | nil => rfl
  | cons _ _ => simp at h
 | cons a l ih => intro m h; cases m with
  | nil => simp at h
  | cons b m =>
   simp only [List.map_cons, List.cons.injEq, AV.val.injEq, Value.int.injEq, true_and, and_true] at h
   rw [h.1, ih h.2]

theorem det_exBytes {α : Type} {l : List (List AV)} {H : List Int → α} : Det fun K : α → Prop => ∃ bs : List Int, (l = bs.map fun b => [.val (.int .u8 b)]) ∧ K (H bs) := by
 rintro K ⟨bs, rfl, h⟩
 refine ⟨H bs, fun K' => ⟨?_, fun h => ⟨bs, rfl, h⟩⟩⟩
 rintro ⟨cs, e, h⟩
 rw [map_inj_bytes e]; exact h

theorem det_appendK (objs : List (Nm × AObj)) (d : Nat) (t : TypeId) (s x : AV) : Det fun K : AV × List (Nm × AObj) → Prop => appendK T objs d t s x fun v o => K (v, o) := by
 unfold appendK
 cases dOf T t <;> try exact det_false
 rename_i e
 simp only
 cases (T.ti e).ok
 ·exact det_false
 ·simp only
  cases x <;> try exact det_false
  rename_i own sz m
  simp only
  cases (Nat.beq sz (T.ti e).size && zeroOk (T.ti e))
  ·exact det_false
  ·simp only
   cases s <;> try exact det_false
   ·rename_i v
    cases v <;> try exact det_false
    rename_i a len cap
    cases a <;> try exact det_false
    cases len <;> try exact det_false
    cases cap <;> try exact det_false
    try dsimp only
    exact det_and (det_bind (det_objInsK _ _ _) fun objs => det_ret _)
   ·rename_i own' sz' l
    cases own' <;> try exact det_false
    rename_i n
    simp only
    cases Nat.beq sz' (T.ti e).size
    ·exact det_false
    ·simp only
     cases objGet objs n with
     | none => exact det_false
     | some ob =>
      cases ob <;> try exact det_false
      rename_i te sr top
      simp only
      cases (Nat.beq te e && Nat.beq sr (T.ti e).size)
      ·exact det_false
      ·try dsimp only
       exact det_and (det_and (det_bind (det_objSetK _ _ _) fun objs => det_ret _))

theorem det_vappendK (objs : List (Nm × AObj)) (t : TypeId) (s x : AV) : Det fun K : AV × List (Nm × AObj) → Prop => vappendK T objs t s x fun v o => K (v, o) := by
 unfold vappendK
 cases dOf T t <;> try exact det_false
 rename_i e
 simp only
 cases (T.ti e).ok
 ·exact det_false
 ·simp only
  cases x <;> try exact det_false
  ·rename_i own sz m
   simp only
   cases (Nat.beq sz (T.ti e).size && zeroOk (T.ti e))
   ·exact det_false
   ·simp only
    cases s <;> try exact det_false
    rename_i n sz' ver off len
    simp only
    cases Nat.beq sz' (T.ti e).size
    ·exact det_false
    ·simp only
     cases objGet objs n with
     | none => exact det_false
     | some ob =>
      cases ob <;> try exact det_false
      rename_i te sr l ver'
      simp only
      cases (Nat.beq te e && Nat.beq sr (T.ti e).size)
      ·exact det_false
      ·try dsimp only
       exact det_and (det_and (det_bind (det_objSetK _ _ _) fun objs => det_ret _))
  ·rename_i n2 sz ver off len
   simp only
   cases (Nat.beq sz (T.ti e).size && zeroOk (T.ti e))
   ·exact det_false
   ·simp only
    cases objGet objs n2 with
    | none => exact det_false
    | some ob2 =>
     cases ob2 <;> try exact det_false
     rename_i te2 sr2 l2 ver'
     simp only
     cases (Nat.beq te2 e && Nat.beq sr2 (T.ti e).size)
     ·exact det_false
     ·simp only
      cases s <;> try exact det_false
      rename_i own' sz' l
      cases own' <;> try exact det_false
      rename_i n
      simp only
      cases Nat.beq sz' (T.ti e).size
      ·exact det_false
      ·simp only
       cases objGet objs n with
       | none => exact det_false
       | some ob =>
        cases ob <;> try exact det_false
        rename_i te sr top
        simp only
        cases (Nat.beq te e && Nat.beq sr (T.ti e).size)
        ·exact det_false
        ·try dsimp only
         exact det_and (det_and (det_bind (det_objSetK _ _ _) fun objs => det_ret _))

theorem det_sappendK (objs : List (Nm × AObj)) (d : Nat) (t t2 : TypeId) (s x : AV) : Det fun K : AV × List (Nm × AObj) → Prop => sappendK T objs d t t2 s x fun v o => K (v, o) := by
 unfold sappendK
 cases dOf T t2 <;> try exact det_false
 case slice e2 =>
  simp only
  cases x <;> try exact det_false
  exact det_appendK _ _ _ _ _
 simp only
 cases dOf T t <;> try exact det_false
 rename_i e
 simp only
 cases dOf T e <;> try exact det_false
 rename_i ik
 cases ik <;> try exact det_false
 simp only
 cases x <;> try exact det_false
 rename_i v
 cases v <;> try exact det_false
 exact det_appendK _ _ _ _ _

theorem det_builtin (b : Builtin) (xs : List Operand) (ts : List TypeId) (dst : Option Tmp) (ev : Operand → AV) (objs : List (Nm × AObj)) : Det fun K : AV × List (Nm × AObj) → Prop => (match b, xs, ts with
   | .len, [x], [t] => must (lenTy (dOf T t) (ev x)) (match lenA (ev x) objs with
    | some n => K (.val (.int .i64 n), objs)
    | none => False)
   | .append, [s, x], [t, t2] => (match Nat.beq t t2, dst with
    | true, some d => (match hasV (ev s) (ev x) with
     | true => vappendK T objs t (ev s) (ev x) fun v objs => K (v, objs)
     | false => appendK T objs d t (ev s) (ev x) fun v objs => K (v, objs))
    | false, some d => sappendK T objs d t t2 (ev s) (ev x) fun v objs => K (v, objs)
    | _, _ => False)
   | .delete, [m, x], [t, _] => (match dOf T t with
    | .map kt e => (match dOf T kt with
     | .string => (match ev m, ev x with
      | .mapv n, .val (.string s) => (match objGet objs n with
       | some (.map es) => objSetK objs n (.map (mapDel es s)) fun objs => K (.junk, objs)
       | _ => False)
      | _, _ => False)
     | _ => False)
    | _ => False)
   | .min, [x, y], [_, _] => (match ev x, ev y with
    | .val (.int ka x), .val (.int kb y) => must (ikEq ka kb) (K (.val (.int ka (if y < x then y else x)), objs))
    | _, _ => False)
   | .max, [x, y], [_, _] => (match ev x, ev y with
    | .val (.int ka x), .val (.int kb y) => must (ikEq ka kb) (K (.val (.int ka (if x < y then y else x)), objs))
    | _, _ => False)
   | _, _, _ => False) := by
 cases b <;> try exact det_false
 case append =>
  rcases xs with _ | ⟨s, _ | ⟨x, _ | ⟨z, xs⟩⟩⟩ <;> try exact det_false
  rcases ts with _ | ⟨t, _ | ⟨t2, _ | ⟨z, ts⟩⟩⟩ <;> try exact det_false
  simp only
  cases Nat.beq t t2
  ·cases dst <;> try exact det_false
   exact det_sappendK _ _ _ _ _ _
  ·cases dst <;> try exact det_false
   simp only
   cases hasV (ev s) (ev x)
   ·exact det_appendK _ _ _ _ _
   ·exact det_vappendK _ _ _ _
 case delete =>
  rcases xs with _ | ⟨m, _ | ⟨x, _ | ⟨z, xs⟩⟩⟩ <;> try exact det_false
  rcases ts with _ | ⟨t, _ | ⟨t2, _ | ⟨z, ts⟩⟩⟩ <;> try exact det_false
  simp only
  cases dOf T t <;> try exact det_false
  rename_i kt e
  simp only
  cases dOf T kt <;> try exact det_false
  simp only
  generalize ev m = A
  generalize ev x = B
  cases A <;> try exact det_false
  rename_i n
  cases B <;> try exact det_false
  rename_i w
  cases w <;> try exact det_false
  simp only
  cases objGet objs n with
  | none => exact det_false
  | some ob =>
   cases ob <;> try exact det_false
   exact det_bind (det_objSetK _ _ _) fun objs => det_ret _
 case len =>
  rcases xs with _ | ⟨x, _ | ⟨z, xs⟩⟩ <;> try exact det_false
  rcases ts with _ | ⟨t, _ | ⟨z, ts⟩⟩ <;> try exact det_false
  simp only
  refine det_must ?_
  cases lenA (ev x) objs <;> first | exact det_false | exact det_ret _
 case max =>
  rcases xs with _ | ⟨x, _ | ⟨y, _ | ⟨z, xs⟩⟩⟩ <;> try exact det_false
  rcases ts with _ | ⟨t, _ | ⟨t2, _ | ⟨z, ts⟩⟩⟩ <;> try exact det_false
  simp only
  generalize ev x = A
  generalize ev y = B
  cases A <;> try exact det_false
  rename_i v
  cases v <;> try exact det_false
  cases B <;> try exact det_false
  rename_i v
  cases v <;> try exact det_false
  exact det_must (det_ret _)
 case min =>
  rcases xs with _ | ⟨x, _ | ⟨y, _ | ⟨z, xs⟩⟩⟩ <;> try exact det_false
  rcases ts with _ | ⟨t, _ | ⟨t2, _ | ⟨z, ts⟩⟩⟩ <;> try exact det_false
  simp only
  generalize ev x = A
  generalize ev y = B
  cases A <;> try exact det_false
  rename_i v
  cases v <;> try exact det_false
  cases B <;> try exact det_false
  rename_i v
  cases v <;> try exact det_false
  exact det_must (det_ret _)

def isCallOp : Op → Bool
 | .call c => (match c.callee with | .value _ => true | _ => false)
 | _ => false

theorem det_genOp {op : Op} (hc : isCallOp op = false) (dst : Option Tmp) (ev : Operand → AV) (objs : List (Nm × AObj)) : Det fun K : AV × List (Nm × AObj) → Prop => genOp P T an op dst ev objs fun v o => K (v, o) := by
 cases op with
 | move x => exact det_ret _
 | assign x => exact det_ret _
 | pick c a b =>
  simp only [genOp]
  generalize ev c = A
  cases A <;> try exact det_false
  rename_i v
  cases v <;> try exact det_false
  try dsimp only
  exact det_br (det_ret _) (det_ret _)
 | binOp op t x y yt => simp only [genOp]; exact det_bind (det_abin _ _ _ _) fun v => det_ret _
 | unOp op t x => simp only [genOp]; exact det_bind (det_aun _ _) fun v => det_ret _
 | load t p =>
  simp only [genOp]
  generalize ev p = A
  cases A <;> try exact det_false
  ·try dsimp only
   exact det_bind (det_aload _ _) fun v => det_ret _
  ·rename_i n off
   simp only
   cases objGet objs n with
   | none => exact det_false
   | some ob =>
    cases ob <;> try exact det_false
    try dsimp only
    exact det_bind (det_aload _ _) fun v => det_ret _
  ·rename_i n size ver i off
   simp only
   cases objGet objs n with
   | none => exact det_false
   | some ob =>
    cases ob <;> try exact det_false
    try dsimp only
    exact det_must (det_and (det_bind (det_idxK _ _) fun e => det_bind (det_aload _ _) fun v => det_ret _))
 | store t p x =>
  simp only [genOp]
  generalize ev p = A
  cases A <;> try exact det_false
  ·rename_i n off
   simp only
   cases objGet objs n with
   | none => exact det_false
   | some ob =>
    cases ob <;> try exact det_false
    try dsimp only
    exact det_tyOk fun ti => det_bind (det_forceL _) fun c => det_must (det_must (det_bind (det_updK _ _ _) fun l' => det_bind (det_objSetK _ _ _) fun objs => det_ret _))
  ·rename_i n size ver i off
   simp only
   cases objGet objs n with
   | none => exact det_false
   | some ob =>
    cases ob <;> try exact det_false
    try dsimp only
    exact det_tyOk fun ti => det_bind (det_forceL _) fun c => det_must (det_must (det_and (det_bind (det_idxK _ _) fun e => det_bind (det_updK _ _ _) fun e' => det_bind (det_objSetK _ _ _) fun objs => det_ret _)))
 | fieldAddr t p f =>
  simp only [genOp]
  cases fieldOff T t f with
  | none => exact det_false
  | some q =>
   obtain ⟨fo, ft⟩ := q
   try dsimp only
   refine det_tyOk fun _ => det_tyOk fun fi => det_must ?_
   generalize ev p = A
   cases A <;> first | exact det_false | exact det_ret _
 | field t x f =>
  simp only [genOp]
  cases fieldOff T t f with
  | none => exact det_false
  | some q =>
   obtain ⟨fo, ft⟩ := q
   simp only
   generalize ev x = A
   cases A <;> try exact det_false
   try dsimp only
   exact det_tyOk fun _ => det_bind (det_aload _ _) fun v => det_ret _
 | indexAddr t x i =>
  simp only [genOp]
  try dsimp only
  refine det_tyOk fun ti => ?_
  generalize ev i = I
  cases I <;> try exact det_false
  rename_i v
  cases v <;> try exact det_false
  rename_i ik i
  simp only
  cases ti.d <;> try exact det_false
  ·rename_i e
   try dsimp only
   refine det_tyOk fun ei => det_must ?_
   generalize ev x = A
   cases A <;> try exact det_false
   ·try dsimp only
    exact det_must (det_must (det_bind (det_idxK _ _) fun c => det_ret _))
   ·try dsimp only
    exact det_must (det_must (det_ret _))
   ·try dsimp only
    exact det_must (det_must (det_must (det_ret _)))
  ·rename_i m e
   try dsimp only
   refine det_tyOk fun ei => det_must (det_must (det_must ?_))
   generalize ev x = A
   cases A <;> first | exact det_false | exact det_ret _
 | index t x i =>
  simp only [genOp]
  try dsimp only
  refine det_tyOk fun ti => ?_
  generalize ev i = I
  cases I <;> try exact det_false
  rename_i v
  cases v <;> try exact det_false
  rename_i ik i
  simp only
  cases ti.d <;> try exact det_false
  ·simp only
   generalize ev x = A
   cases A <;> try exact det_false
   rename_i v
   cases v <;> try exact det_false
   try dsimp only
   exact det_must (det_must (det_ret _))
  ·rename_i m e
   simp only
   generalize ev x = A
   cases A <;> try exact det_false
   try dsimp only
   exact det_must (det_must (det_tyOk fun ei => det_bind (det_aload _ _) fun v => det_ret _))
 | extract x i =>
  simp only [genOp]
  generalize ev x = A
  cases A <;> try exact det_false
  try dsimp only
  exact det_bind (det_idxK _ _) fun v => det_ret _
 | build t ps =>
  simp only [genOp]
  try dsimp only
  refine det_tyOk fun ti => ?_
  cases ti.d <;> try exact det_false
  ·try dsimp only
   exact det_must (det_tyOk fun ei => det_bind (det_buildArrK _ _ _ _) fun l => det_ret _)
  ·try dsimp only
   exact det_must (det_bind (det_buildK _ _ _ _) fun l => det_ret _)
 | buildSlice t len ps =>
  simp only [genOp]
  try dsimp only
  refine det_tyOk fun ti => ?_
  cases ti.d <;> try exact det_false
  rename_i e
  try dsimp only
  refine det_tyOk fun ei => det_must (det_must (det_bind (det_elemsK _ _ _ _) fun l => ?_))
  cases dst with
  | none => exact det_false
  | some d =>
   simp only
   cases memN an.own d
   ·simp only
    cases memN an.chg d
    ·exact det_ret _
    ·try dsimp only
     exact det_bind (det_objInsK _ _ _) fun objs => det_ret _
   ·try dsimp only
    exact det_bind (det_objInsK _ _ _) fun objs => det_ret _
 | alloc t =>
  simp only [genOp]
  try dsimp only
  refine det_tyOk fun ti => ?_
  cases dst with
  | none => exact det_false
  | some d => exact det_must (det_bind (det_objInsK _ _ _) fun objs => det_ret _)
 | box t x =>
  simp only [genOp]
  cases dst with
  | none => exact det_false
  | some d =>
   simp only
   cases memN an.cst d
   ·try dsimp only
    exact det_bind (det_forceL _) fun c => det_must (det_bind (det_objInsK _ _ _) fun objs => det_ret _)
   ·try dsimp only
    exact det_bind (det_forceL _) fun c => det_must (det_ret _)
 | nilCheck x =>
  simp only [genOp]
  generalize ev x = A
  cases A <;> first | exact det_false | exact det_ret _
 | makeFunc f a b => simp only [genOp]; exact det_bind (det_forceL _) fun a => det_bind (det_forceL _) fun b => det_ret _
 | makeMap t r =>
  cases r with
  | some _ => exact det_false
  | none =>
   simp only [genOp]
   cases dst with
   | none => exact det_false
   | some d => (simp only; exact det_bind (det_objInsK _ _ _) fun objs => det_ret _)
 | slice t x lo hi mx =>
  cases mx with
  | some mx =>
   cases hi with
   | none => exact det_false
   | some hi =>
    simp only [genOp]
    try dsimp only
    refine det_tyOk fun ti => ?_
    generalize ev x = A
    cases A <;> try exact det_false
    simp only
    cases ti.d <;> try exact det_false
    try dsimp only
    exact det_tyOk fun ei => det_must (det_bind (det_boundK _ _ _) fun l => det_bind (det_boundK _ _ _) fun h => det_bind (det_boundK _ _ _) fun m => det_must (det_must (det_must (det_must (det_ret _)))))
  | none =>
   simp only [genOp]
   try dsimp only
   refine det_tyOk fun ti => ?_
   generalize ev x = A
   cases A <;> try exact det_false
   ·rename_i v
    cases v <;> try exact det_false
    simp only
    cases ti.d <;> try exact det_false
    try dsimp only
    exact det_bind (det_boundK _ _ _) fun l => det_bind (det_boundK _ _ _) fun h => det_must (det_must (det_must (det_ret _)))
   ·simp only
    cases ti.d <;> try exact det_false
    try dsimp only
    exact det_tyOk fun ei => det_must (det_bind (det_boundK _ _ _) fun l => det_bind (det_boundK _ _ _) fun h => det_must (det_must (det_must (det_ret _))))
   ·simp only
    cases ti.d <;> try exact det_false
    try dsimp only
    refine det_tyOk fun _ => ?_
    cases lo <;> cases hi <;> first | exact det_false | exact det_ret _
   ·simp only
    cases ti.d <;> try exact det_false
    try dsimp only
    exact det_tyOk fun ei => det_must (det_bind (det_boundK _ _ _) fun l => det_bind (det_boundK _ _ _) fun h => det_must (det_must (det_must (det_ret _))))
 | convert src dt x =>
  simp only [genOp]
  try dsimp only
  refine det_tyOk fun si => det_tyOk fun di => ?_
  generalize ev x = A
  cases di.d <;> try exact det_false
  ·cases A <;> try exact det_false
   ·rename_i v
    cases v <;> try exact det_false
    simp only
    cases si.d <;> first | exact det_false | exact det_ret _
   ·simp only
    cases si.d <;> try exact det_false
    rename_i e
    simp only
    cases dOf T e <;> try exact det_false
    rename_i k
    cases k <;> try exact det_false
    exact det_exBytes
   ·rename_i n sz ver off len
    simp only
    cases si.d <;> try exact det_false
    rename_i e
    simp only
    cases dOf T e <;> try exact det_false
    rename_i k
    cases k <;> try exact det_false
    simp only
    cases objGet objs n with
    | none => exact det_false
    | some y => cases y <;> first | exact det_false | exact det_must (det_and det_exBytes)
  ·cases A <;> try exact det_false
   rename_i v
   cases v <;> try exact det_false
   simp only
   cases si.d <;> first | exact det_false | exact det_ret _
  ·rename_i e
   cases A <;> try exact det_false
   rename_i v
   cases v <;> try exact det_false
   simp only
   cases dOf T e <;> try exact det_false
   rename_i k
   cases k <;> first | exact det_false | exact det_ret _
 | lookup t m x ok =>
  simp only [genOp]
  cases dOf T t <;> try exact det_false
  rename_i kt e
  simp only
  cases dOf T kt <;> try exact det_false
  try dsimp only
  refine det_tyOk fun ei => ?_
  generalize ev m = A
  generalize ev x = B
  cases A <;> try exact det_false
  rename_i n
  cases B <;> try exact det_false
  rename_i v
  cases v <;> try exact det_false
  simp only
  cases objGet objs n with
  | none => exact det_false
  | some ob =>
   cases ob <;> try exact det_false
   try dsimp only
   refine det_bind (det_zeroA _) fun z => ?_
   cases ok <;> exact det_ret _
 | mapUpdate t m x v =>
  simp only [genOp]
  cases dOf T t <;> try exact det_false
  rename_i kt e
  simp only
  cases dOf T kt <;> try exact det_false
  simp only
  generalize ev m = A
  generalize ev x = B
  cases A <;> try exact det_false
  rename_i n
  cases B <;> try exact det_false
  rename_i w
  cases w <;> try exact det_false
  simp only
  cases objGet objs n with
  | none => exact det_false
  | some ob =>
   cases ob <;> try exact det_false
   try dsimp only
   exact det_bind (det_force _) fun v => det_must (det_bind (det_objSetK _ _ _) fun objs => det_ret _)
 | call c =>
  simp only [genOp]
  cases hcal : c.callee with
  | value f => simp [isCallOp, hcal] at hc
  | invoke _ _ => exact det_false
  | builtin b => exact det_builtin b _ _ _ _ _
 | makeInterface t x =>
  simp only [genOp]
  cases dOf T t <;> first | exact det_false | (simp only; exact det_bind (det_force _) fun v => det_ret _)
 | _ => exact det_false
end
end Go.Abs
