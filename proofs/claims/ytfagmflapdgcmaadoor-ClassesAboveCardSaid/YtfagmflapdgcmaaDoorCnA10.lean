/- Code as it is reasoned about: what must hold ahead of it, step by step. -/
import Derived.Test.YtfagmflapdgcmaaDoorCnA9
namespace Go.Cn
set_option linter.unusedVariables false
set_option linter.unusedSimpArgs false

/-- Operations, each with what is wanted of it. -/
inductive MOp where
  | p (o : POp)
  | alloc (E : TypeId) (zs : List Value)
  /-- a new variable and its first value, that stays -/
  | ini (one : Bool) (E : TypeId) (zs : List Value) (x : Operand)
  /-- a new variable that stays as it is -/
  | zer (E : TypeId) (zs : List Value)
  | box (fz : Bool) (E : TypeId) (x : Operand)
  | bsl (E : TypeId) (z0 : List Value) (n : Nat) (parts : List (Nat × Nat × Operand))
  | mkmap
  | st1 (a x : Operand)
  | stN (n : Nat) (a x : Operand)
  /-- the last store -/
  | fz1 (t : Tmp) (x : Operand)
  | fzN (n : Nat) (t : Tmp) (x : Operand)
  | mapupd (str : Bool) (m k x : Operand)
  | delete (str : Bool) (m k : Operand)
  | call (f : FuncId) (args : List Operand)
  | callv (x : Operand) (args : List Operand)
  | oth (o : COp)

structure MStep where
  dst : Option Tmp
  guard : Option (Tmp × Bool)
  op : MOp

def isIni : MOp → Bool
  | .ini _ _ _ _ => true
  | _ => false
def MOp.toC (d : Option Tmp) (g : Option (Tmp × Bool)) : MOp → CStep
  | .p o => ⟨d, g, .p o⟩
  | .alloc E zs => ⟨d, g, .a (.alloc E zs)⟩
  | .ini _ E zs x => ⟨d, g, .a (.alloc E zs)⟩
  | .zer E zs => ⟨d, g, .a (.alloc E zs)⟩
  | .box _ E x => ⟨d, g, .a (.box E x)⟩
  | .bsl E z0 n parts => ⟨d, g, .a (.bsl E z0 n parts)⟩
  | .mkmap => ⟨d, g, .a .mkmap⟩
  | .st1 a x => ⟨d, g, .e (.st1 a x)⟩
  | .stN n a x => ⟨d, g, .e (.stN n a x)⟩
  | .fz1 t x => ⟨d, g, .e (.st1 (.tmp t) x)⟩
  | .fzN n t x => ⟨d, g, .e (.stN n (.tmp t) x)⟩
  | .mapupd str m k x => ⟨d, g, .e (.mapupd str m k x)⟩
  | .delete str m k => ⟨d, g, .e (.delete str m k)⟩
  | .call f args => ⟨d, g, .e (.call f args)⟩
  | .callv x args => ⟨d, g, .e (.callv x args)⟩
  | .oth o => ⟨d, g, o⟩
def MStep.toC1 (s : MStep) : CStep := s.op.toC s.dst s.guard
def iniSt (d : Option Tmp) (g : Option (Tmp × Bool)) : MOp → List CStep
  | .ini one E zs x => [⟨none, g, .e (bif one then .st1 (.tmp (d.getD 0)) x else .stN zs.length (.tmp (d.getD 0)) x)⟩]
  | _ => []
def MStep.toC (s : MStep) : List CStep := s.toC1 :: iniSt s.dst s.guard s.op
def toL : List MStep → List CStep
  | [] => []
  | s :: l => s.toC ++ toL l

/-- 'ag': the readings that are made again -/
structure MStage where
  e : MStep
  ag : List Again
  seg : List MStep

inductive MCode where
  | skip
  | region (ops : List MStep)
  | dregion (seg : List MStep) (stages : List MStage)
  | seq (a b : MCode)
  | cond (c : Operand) (thn els : MCode)
  | block (id : Nat) (body : MCode)
  | loop (body : MCode)
  | exit (id : Nat)
  | ret
  | rfun (f : Operand) (ps : List Tmp) (as body : MCode)
  | raw (c : CCode)

def stgC : List MStage → List Stage
  | [] => []
  | s :: l => ⟨s.e.toC1, s.ag, toL s.seg⟩ :: stgC l
def MCode.toC : MCode → CCode
  | .skip => .skip
  | .region ops => .region (toL ops)
  | .dregion seg stages => .dregion (toL seg) (stgC stages)
  | .seq a b => .seq a.toC b.toC
  | .cond c a b => .cond c a.toC b.toC
  | .block id b => .block id b.toC
  | .loop b => .loop b.toC
  | .exit id => .exit id
  | .ret => .ret
  | .rfun f ps a b => .rfun f ps a.toC b.toC
  | .raw c => c

-- what must hold ---------------------------------------------------------------------------------------
abbrev AQ := AFr → AH → Prop

def onS {α : Type} (x : Option α) (Q : α → Prop) : Prop := ∃ a, x = some a ∧ Q a
/-- for whatever block is new -/
def AllNew (K : Nat → Prop) (h : AH) (P : Nat → Prop) : Prop := ∀ b, h.objs b = none → ¬ K b → P b

def kV (Q : AQ) (fr : AFr) (d : Option Tmp) (a : AV) (h : AH) : Prop := Q (setA fr d a) h
def kP (Q : AQ) (fr : AFr) (d : Option Tmp) (h : AH) (a : AV) : Prop := Q (setA fr d a) h
def kNew (Q : AQ) (fr : AFr) (d : Option Tmp) (h : AH) (mk : Nat → AV) (o : AO) (b : Nat) : Prop := Q (setA fr d (mk b)) (h.set b o)
def kBsl (Q : AQ) (fr : AFr) (d : Option Tmp) (h : AH) (E : TypeId) (sz n : Nat) (cs : List AV) : Prop := Q (setA fr d (.lst E (chunkA sz n cs) .no)) h
def kPut (Q : AQ) (fr : AFr) (d : Option Tmp) (h : AH) (b : Nat) (E : TypeId) (cs : List AV) : Prop := Q (setA fr d .any) (h.set b (.cells cs E))
def kFz (Q : AQ) (fr : AFr) (d : Option Tmp) (h : AH) (t : Tmp) (b : Nat) (E : TypeId) (cs : List AV) : Prop := cs ≠ [] ∧ Q (upd (setA fr d .any) t (.rptr cs)) (h.del b)
def kMap (Q : AQ) (fr : AFr) (d : Option Tmp) (h : AH) (b : Nat) (es : List (AV × AV)) : Prop := Q (setA fr d .any) (h.set b (.map es))

def stO (K : Nat → Prop) (b off : Nat) (v : AV) (n : Nat) (k : TypeId → List AV → Prop) (o : AO) : Prop :=
  ∃ cs E, o = .cells cs E ∧ (¬ K b ∧ isAny v = false ∧ (cellsA v).length = n ∧ (cellsA v).all oneA = true) ∧ onS (putA cs off (cellsA v)) (k E)
def stP (K : Nat → Prop) (h : AH) (v : AV) (n : Nat) (k : Nat → TypeId → List AV → Prop) (p : AV) : Prop := ∃ b off, p = .ptr b off ∧ onS (h.objs b) (stO K b off v n (k b))
def fzP (K : Nat → Prop) (h : AH) (v : AV) (n : Nat) (k : Nat → TypeId → List AV → Prop) (p : AV) : Prop := ∃ b, p = .ptr b 0 ∧ onS (h.objs b) (stO K b 0 v n (k b))
def muO (K : Nat → Prop) (b : Nat) (str : Bool) (k v : AV) (kk : List (AV × AV) → Prop) (o : AO) : Prop := ∃ es, o = .map es ∧ (¬ K b ∧ isKeyA str k = true) ∧ onS (mputA k v es) kk
def mdO (K : Nat → Prop) (b : Nat) (str : Bool) (k : AV) (kk : List (AV × AV) → Prop) (o : AO) : Prop := ∃ es, o = .map es ∧ (¬ K b ∧ isKeyA str k = true) ∧ onS (mdelA k es) kk
def muP (K : Nat → Prop) (h : AH) (str : Bool) (k v : AV) (kk : Nat → List (AV × AV) → Prop) (m : AV) : Prop := ∃ b, m = .map b ∧ onS (h.objs b) (muO K b str k v (kk b))
def mdP (K : Nat → Prop) (h : AH) (str : Bool) (k : AV) (kk : Nat → List (AV × AV) → Prop) (m : AV) : Prop := ∃ b, m = .map b ∧ onS (h.objs b) (mdO K b str k (kk b))
def cvP (T : Nat → Option CFun) (K : Nat → Prop) (h : AH) (args : List AV) (Q : AV → AH → Prop) (x : AV) : Prop :=
  (∃ f a b, x = .func f a b ∧ ACall T K (.func f) (a ++ args ++ b) h Q) ∨ ∃ c, x = .yield c ∧ ACall T K (.yield c) args h Q

def wpO (T : Nat → Option CFun) (K : Nat → Prop) (d : Option Tmp) (op : MOp) (fr : AFr) (h : AH) (Q : AQ) : Prop :=
  match op with
  | .p o => onS (pevA o (evA fr) h) (kP Q fr d h)
  | .alloc E zs => AllNew K h (kNew Q fr d h (fun b => .ptr b 0) (.cells (zs.map ofC1) E))
  | .ini one E zs x => ((one = true → zs.length = 1) ∧ d.isSome = true ∧ notT d x = true ∧ isAny (evA fr x) = false ∧ (cellsA (evA fr x)).length = zs.length ∧ zs ≠ [] ∧ (cellsA (evA fr x)).all oneA = true) ∧ kP Q fr d h (.rptr (cellsA (evA fr x)))
  | .zer E zs => zs ≠ [] ∧ kP Q fr d h (.rptr (zs.map ofC1))
  | .box fz E x => (isAny (evA fr x) = false ∧ cellsA (evA fr x) ≠ []) ∧ bif fz then kP Q fr d h (.rptr (cellsA (evA fr x))) else AllNew K h (kNew Q fr d h (fun b => .ptr b 0) (.cells (cellsA (evA fr x)) E))
  | .bsl E z0 n parts => (0 < n ∧ 0 < z0.length ∧ n ≤ big) ∧ onS (fillA ((zerosL z0 n).map ofC1) (parts.map fun (o, s, x) => (o, s, evA fr x))) (kBsl Q fr d h E z0.length n)
  | .mkmap => AllNew K h (kNew Q fr d h (fun b => .map b) (.map []))
  | .st1 a x => stP K h (evA fr x) 1 (kPut Q fr d h) (evA fr a)
  | .stN n a x => stP K h (evA fr x) n (kPut Q fr d h) (evA fr a)
  | .fz1 t x => d = none ∧ fzP K h (evA fr x) 1 (kFz Q fr d h t) (fr t)
  | .fzN n t x => d = none ∧ fzP K h (evA fr x) n (kFz Q fr d h t) (fr t)
  | .mapupd str m k x => muP K h str (evA fr k) (evA fr x) (kMap Q fr d h) (evA fr m)
  | .delete str m k => mdP K h str (evA fr k) (kMap Q fr d h) (evA fr m)
  | .call f args => ACall T K (.func f) (args.map (evA fr)) h (kV Q fr d)
  | .callv x args => cvP T K h (args.map (evA fr)) (kV Q fr d) (evA fr x)
  | .oth o => WO T K o fr h (kV Q fr d)

/-- a guard: 'a' is what its temporary has, 'b' what is wanted -/
def wpG (T : Nat → Option CFun) (K : Nat → Prop) (d : Option Tmp) (op : MOp) (fr : AFr) (h : AH) (Q : AQ) (b : Bool) (a : AV) : Prop :=
  isIni op = false ∧ ((∃ c, a = .bool c ∧ bif c == b then wpO T K d op fr h Q else Q (setA fr d (.tuple [])) h) ∨ (a = .tuple [] ∧ Q (setA fr d (.tuple [])) h))

def wpS (T : Nat → Option CFun) (K : Nat → Prop) (s : MStep) (fr : AFr) (h : AH) (Q : AQ) : Prop :=
  match s.guard with
  | none => wpO T K s.dst s.op fr h Q
  | some (t, b) => wpG T K s.dst s.op fr h Q b (fr t)

def wpL (T : Nat → Option CFun) (K : Nat → Prop) : List MStep → AFr → AH → AQ → Prop
  | [], fr, h, Q => Q fr h
  | s :: l, fr, h, Q => wpS T K s fr h fun fr h => wpL T K l fr h Q
def kL (T : Nat → Option CFun) (K : Nat → Prop) (l : List MStep) (Q : AQ) (fr : AFr) (h : AH) : Prop := wpL T K l fr h Q

def depG (fr : AFr) (a : Again) : Option (List Nat) :=
  match a.g with
  | none => depA a.o (evA fr)
  | some (t, b) => match fr t with
    | .bool c => bif c == b then depA a.o (evA fr) else some []
    | .tuple [] => some []
    | _ => depA a.o (evA fr)
def depL (fr : AFr) : List Again → Option (List Nat)
  | [] => some []
  | a :: l => match depG fr a, depL fr l with
    | some x, some y => some (x ++ y)
    | _, _ => none
def KU (K : Nat → Prop) (ds : List Nat) (b : Nat) : Prop := K b ∨ b ∈ ds
theorem KU_nil (K : Nat → Prop) : KU K [] = K := by funext b; simp [KU]

/-- the stages of a region whose order is drawn -/
def wpT (T : Nat → Option CFun) (K : Nat → Prop) : List MStage → AFr → AH → AQ → Prop
  | [], fr, h, Q => Q fr h
  | s :: l, fr, h, Q => onS (depL fr s.ag) fun ds => (∀ b ∈ ds, h.objs b ≠ none) ∧
      wpS T (KU K ds) s.e fr h fun fr h => wpL T K s.seg fr h fun fr h => wpT T K l fr h Q
def kT (T : Nat → Option CFun) (K : Nat → Prop) (l : List MStage) (Q : AQ) (fr : AFr) (h : AH) : Prop := wpT T K l fr h Q
def kG (T : Nat → Option CFun) (K : Nat → Prop) (seg : List MStep) (l : List MStage) (Q : AQ) (fr : AFr) (h : AH) : Prop := wpL T K seg fr h (kT T K l Q)
def kE (T : Nat → Option CFun) (K : Nat → Prop) (s : MStage) (l : List MStage) (Q : AQ) (fr : AFr) (h : AH) (ds : List Nat) : Prop := (∀ b ∈ ds, h.objs b ≠ none) ∧ wpS T (KU K ds) s.e fr h (kG T K s.seg l Q)

/-- Are the readings kept? -/
def okT (prev : List CStep) (av : List Tmp) : List MStage → Bool
  | [] => true
  | s :: l => !isIni s.e.op && (s.ag.map (·.t)).all (fun t => av.contains t && indT prev s.e.dst t) && (toL s.seg).all isPA && okT (prev ++ toL s.seg) (runSeg prev (s.ag.map (·.t)) (toL s.seg)) l
/-- Are they the ones that were made? -/
def okR (prev : List CStep) : List MStage → Prop
  | [] => True
  | s :: l => s.ag.map (fun a => againAt prev a.t) = s.ag.map some ∧ okR (prev ++ toL s.seg) l
def okD (seg : List MStep) (stages : List MStage) : Prop := ((toL seg).all isPA && okT (toL seg) (runSeg [] [] (toL seg)) stages) = true ∧ okR (toL seg) stages

def wpC (T : Nat → Option CFun) (K : Nat → Prop) : MCode → AFr → AH → (CExit → AQ) → Prop
  | .skip, fr, h, Q => Q .normal fr h
  | .region ops, fr, h, Q => wpL T K ops fr h (Q .normal)
  | .dregion seg stages, fr, h, Q => okD seg stages ∧ wpL T K seg fr h (kT T K stages (Q .normal))
  | .seq a b, fr, h, Q => wpC T K a fr h fun e fr h => match e with
    | .normal => wpC T K b fr h Q
    | e => Q e fr h
  | .cond c a b, fr, h, Q => ∃ t, evA fr c = .bool t ∧ bif t then wpC T K a fr h Q else wpC T K b fr h Q
  | .block id b, fr, h, Q => wpC T K b fr h fun e fr h => Q (if e = .exit id then .normal else e) fr h
  | .loop b, fr, h, Q => W T K (.loop b.toC) fr h Q
  | .exit id, fr, h, Q => Q (.exit id) fr h
  | .ret, fr, h, Q => Q .ret fr h
  | .rfun f ps a b, fr, h, Q => W T K (.rfun f ps a.toC b.toC) fr h Q
  | .raw c, fr, h, Q => W T K c fr h Q
def kC (T : Nat → Option CFun) (K : Nat → Prop) (b : MCode) (Q : CExit → AQ) : CExit → AQ
  | .normal, fr, h => wpC T K b fr h Q
  | e, fr, h => Q e fr h
def kB (id : Nat) (Q : CExit → AQ) (e : CExit) (fr : AFr) (h : AH) : Prop := Q (if e = .exit id then .normal else e) fr h
def wpI (T : Nat → Option CFun) (K : Nat → Prop) (a b : MCode) (fr : AFr) (h : AH) (Q : CExit → AQ) (v : AV) : Prop := ∃ t, v = .bool t ∧ bif t then wpC T K a fr h Q else wpC T K b fr h Q

-- soundness ------------------------------------------------------------------------------------------------
section
variable {T : Nat → Option CFun} {K : Nat → Prop} {fr : AFr} {h : AH} {Q : AQ}

theorem WS.cons {s : CStep} {l : List CStep} {R : AQ} (h1 : WS T K [s] fr h R) (h2 : ∀ fr h, R fr h → WS T K l fr h Q) : WS T K (s :: l) fr h Q := WS.app (l := [s]) h1 h2

theorem wpO_ok {d : Option Tmp} {op : MOp} (hw : wpO T K d op fr h Q) : WS T K (MStep.toC ⟨d, none, op⟩) fr h Q := by
  cases op <;> simp only [wpO] at hw <;> simp only [MStep.toC, MStep.toC1, MOp.toC, iniSt]
  case p o => obtain ⟨a, h1, h2⟩ := hw; exact .one (.p h1 h2)
  case alloc E zs => exact .one (.alloc fun b hb hk => hw b hb hk)
  case zer E zs => exact .one (.zero hw.1 hw.2)
  case box fz E x =>
    cases fz with
    | true => exact .one (.boxF hw.1.1 hw.1.2 hw.2)
    | false => exact .one (.box hw.1.1 fun b hb hk => hw.2 b hb hk)
  case bsl E z0 n parts => obtain ⟨⟨h1, h2, h3⟩, cs, h4, h5⟩ := hw; exact .one (.bsl h4 h1 h2 h3 h5)
  case mkmap => exact .one (.mkmap fun b hb hk => hw b hb hk)
  case st1 a x => obtain ⟨b, off, h1, o, h2, cs, E, rfl, ⟨h3, h4, h5, h6⟩, cs', h7, h8⟩ := hw; exact .one (.st1 h1 h2 h3 h4 h5 h6 h7 h8)
  case stN n a x => obtain ⟨b, off, h1, o, h2, cs, E, rfl, ⟨h3, h4, h5, h6⟩, cs', h7, h8⟩ := hw; exact .one (.stN h1 h2 h3 h4 h5 h6 h7 h8)
  case fz1 t x =>
    obtain ⟨rfl, b, h1, o, h2, cs, E, rfl, ⟨h3, h4, h5, h6⟩, cs', h7, h8, h9⟩ := hw
    exact .fz h3 (.one (.st1 (b := b) (off := 0) h1 h2 h3 h4 h5 h6 h7 ⟨h1, AH.set_same _ _ _, h8, by
      have e : (h.set b (.cells cs' E)).del b = h.del b := by
        unfold AH.set AH.del; congr 1; funext n; simp only [upd]; split <;> rfl
      rw [e]; exact h9⟩))
  case fzN n t x =>
    obtain ⟨rfl, b, h1, o, h2, cs, E, rfl, ⟨h3, h4, h5, h6⟩, cs', h7, h8, h9⟩ := hw
    exact .fz h3 (.one (.stN (b := b) (off := 0) h1 h2 h3 h4 h5 h6 h7 ⟨h1, AH.set_same _ _ _, h8, by
      have e : (h.set b (.cells cs' E)).del b = h.del b := by
        unfold AH.set AH.del; congr 1; funext n; simp only [upd]; split <;> rfl
      rw [e]; exact h9⟩))
  case mapupd str m k x => obtain ⟨b, h1, o, h2, es, rfl, ⟨h3, h4⟩, r, h5, h6⟩ := hw; exact .one (.mapupd h1 h2 h3 h4 h5 h6)
  case delete str m k => obtain ⟨b, h1, o, h2, es, rfl, ⟨h3, h4⟩, r, h5, h6⟩ := hw; exact .one (.delete h1 h2 h3 h4 h5 h6)
  case call f args => exact .one (.call hw)
  case callv x args =>
    rcases hw with ⟨f, a, b, h1, h2⟩ | ⟨c, h1, h2⟩
    · exact .one (.callv h1 h2)
    · exact .one (.cally h1 h2)
  case oth o => exact .one hw
  case ini one E zs x =>
    obtain ⟨⟨h0, h1, h2, h3, h4, h5, h6⟩, h7⟩ := hw
    obtain ⟨t, rfl⟩ := Option.isSome_iff_exists.1 h1
    refine WS.cons (R := fun fr' h' => ∃ b, h.objs b = none ∧ ¬ K b ∧ fr' = upd fr t (.ptr b 0) ∧ h' = h.set b (.cells (zs.map ofC1) E)) (.one (.alloc fun b hb hk => ⟨b, hb, hk, rfl, rfl⟩)) ?_
    rintro fr' h' ⟨b, hb, hk, rfl, rfl⟩
    have e1 : evA (upd fr t (.ptr b 0)) x = evA fr x := evA_setA (d := some t) h2
    have e2 : (h.set b (.cells (cellsA (evA fr x)) E)).del b = h := AH.set_del _ _ hb
    have e4 : putA (zs.map ofC1) 0 (cellsA (evA (upd fr t (.ptr b 0)) x)) = some (cellsA (evA fr x)) := by rw [e1]; unfold putA; rw [if_pos (by simp [h4])]; simp [h4]
    have e3 : upd (upd fr t (.ptr b 0)) t (.rptr (cellsA (evA fr x))) = upd fr t (.rptr (cellsA (evA fr x))) := by funext n; simp only [upd]; split <;> rfl
    have fin : (fun (fr' : AFr) (h' : AH) => fr' t = .ptr b 0 ∧ h'.objs b = some (.cells (cellsA (evA fr x)) E) ∧ cellsA (evA fr x) ≠ [] ∧ Q (upd fr' t (.rptr (cellsA (evA fr x)))) (h'.del b)) (setA (upd fr t (.ptr b 0)) none .any) ((h.set b (.cells (zs.map ofC1) E)).set b (.cells (cellsA (evA fr x)) E)) := by
      refine ⟨upd_same _ _ _, by simp only [AH.set_set, AH.set_same], by intro e; rw [e] at h4; exact h5 (List.length_eq_zero_iff.1 h4.symm), ?_⟩
      simp only [AH.set_set, setA, e2, e3]
      exact h7
    refine .fz (t := t) (b := b) (cs := cellsA (evA fr x)) (E := E) hk (.one ?_)
    cases one with
    | true => exact .st1 (b := b) (off := 0) (cs := zs.map ofC1) (cs' := cellsA (evA fr x)) (upd_same _ _ _) (AH.set_same _ _ _) hk (by rw [e1]; exact h3) (by rw [e1, h4]; exact h0 rfl) (by rw [e1]; exact h6) e4 fin
    | false => exact .stN (b := b) (off := 0) (cs := zs.map ofC1) (cs' := cellsA (evA fr x)) (upd_same _ _ _) (AH.set_same _ _ _) hk (by rw [e1]; exact h3) (by rw [e1]; exact h4) (by rw [e1]; exact h6) e4 fin

theorem iniSt_no {op : MOp} (hi : isIni op = false) (d : Option Tmp) (g : Option (Tmp × Bool)) : iniSt d g op = [] := by
  cases op <;> first | rfl | cases hi
theorem toC_guard {op : MOp} (d : Option Tmp) (g : Option (Tmp × Bool)) : ∃ o, MOp.toC d g op = ⟨d, g, o⟩ ∧ MOp.toC d none op = ⟨d, none, o⟩ := by
  cases op <;> exact ⟨_, rfl, rfl⟩

theorem wpS_ok {s : MStep} (hw : wpS T K s fr h Q) : WS T K s.toC fr h Q := by
  obtain ⟨d, g, op⟩ := s
  cases g with
  | none => exact wpO_ok hw
  | some p =>
    obtain ⟨t, b⟩ := p
    obtain ⟨hi, hw⟩ := hw
    obtain ⟨o, e1, e2⟩ := toC_guard (op := op) d (some (t, b))
    simp only [MStep.toC, MStep.toC1, iniSt_no hi, e1]
    rcases hw with ⟨c, h1, h2⟩ | ⟨h1, h2⟩
    case inr => exact .skipU h1 h2
    cases hc : c == b with
    | true =>
      rw [hc] at h2
      have := wpO_ok (show wpO T K d op fr h Q from h2)
      simp only [MStep.toC, MStep.toC1, iniSt_no hi, e2] at this
      have hcb : c = b := by simpa using hc
      exact .yes (by rw [h1, hcb]) this
    | false => rw [hc] at h2; exact .skip h1 hc h2

theorem wpL_ok : ∀ {l : List MStep} {fr : AFr} {h : AH} {Q : AQ}, wpL T K l fr h Q → WS T K (toL l) fr h Q
  | [], fr, h, Q, hw => .nil hw
  | s :: l, fr, h, Q, hw => .app (wpS_ok hw) fun fr h hw => wpL_ok hw

-- regions whose order is drawn -------------------------------------------------------------------------------
theorem KOk.union {ds : List Nat} (hK : KOk K h) (hd : ∀ b ∈ ds, h.objs b ≠ none) : KOk (KU K ds) h := fun b hb => by
  rcases hb with hb | hb
  · exact hK b hb
  · cases e : h.objs b with
    | none => exact absurd e (hd b hb)
    | some o => exact ⟨o, rfl⟩
theorem KOk.less {K K' : Nat → Prop} (hK : KOk K h) (hl : ∀ b, K' b → K b) : KOk K' h := fun b hb => hK b (hl b hb)

theorem depL_each : ∀ {l : List Again} {ds : List Nat}, depL fr l = some ds → ∀ a ∈ l, ∃ x, depG fr a = some x ∧ ∀ b ∈ x, b ∈ ds
  | [], ds, h, a, ha => by cases ha
  | a' :: l, ds, h, a, ha => by
    unfold depL at h
    split at h
    · rename_i x y e1 e2
      cases h
      rcases List.mem_cons.1 ha with rfl | ha
      · exact ⟨x, e1, fun b hb => by simp [hb]⟩
      · obtain ⟨z, g1, g2⟩ := depL_each e2 a ha
        exact ⟨z, g1, fun b hb => by simp [g2 b hb]⟩
    · cases h

/-- an effect, and the readings that are made behind it -/
theorem stage_facts {s : CStep} {prev : List CStep} {ag : List Tmp} {R : AQ} {ds : List Nat} {F : Nat → Nat} {σ : CW} {frC : Fr} (hA : AR F h σ) (hK : KOk K h) (hf : ∀ t, Rp F σ (fr t) (frC t))
    (hd : depL fr (ag.filterMap (againAt prev)) = some ds) (hb : ∀ b ∈ ds, h.objs b ≠ none) (hi : ∀ t ∈ ag, indT prev s.dst t = true) (hw : WS T (KU K ds) [s] fr h R) (hfa : Facts prev ag frC σ) :
    StepW (CallA T) s frC σ fun frC' σ' => After K F σ frC' σ' R ∧ Facts prev ag frC' σ' := by
  have key : ∀ σ' (v : Value), (∃ F', Ext (KU K ds) F σ F' σ') → Facts prev ag (putT frC s.dst v) σ' := by
    intro σ' v ⟨F', hx⟩ t ht
    obtain ⟨a, h1, h2⟩ := hfa t ht
    have hia := hi t ht
    simp only [indT, h1] at hia
    refine ⟨a, h1, again_put hia (fun u hwt hu => ?_) h2⟩
    obtain ⟨x, g1, g2⟩ := depL_each hd a (List.mem_filterMap.2 ⟨t, ht, h1⟩)
    have hdep : depA a.o (evA fr) = some x ∨ wants frC a.g = false := by
      unfold depG at g1
      split at g1
      · exact .inl g1
      · rename_i t' b hg
        split at g1
        · rename_i c hc
          cases hcb : c == b with
          | true => rw [hcb] at g1; exact .inl g1
          | false =>
            right
            have := hf t'
            rw [hc] at this
            simp only [hg, wants, this.bool_inv, hcb]
        · rename_i hc
          right
          have := hf t'
          rw [hc] at this
          simp only [hg, wants, this.und_inv]; rfl
        · exact .inl g1
    rcases hdep with hdep | hdep
    · exact pev_keep hx (evA_rp hf) hdep (fun b hb => .inr (g2 b hb)) hu
    · rw [hdep] at hwt; cases hwt
  rcases hw F σ frC hA (hK.union hb) hf with ⟨h1, h2⟩ | ⟨h1, h2⟩
  · refine .inl ⟨h1, OpW.mono CallA.mono h2 fun v σ' ⟨F', fr', h', g1, g2, g3, g4, g5⟩ => ⟨⟨F', fr', h', g1.less fun _ => .inl, g2, g3.less fun _ => .inl, g4, g5⟩, key σ' v ⟨F', g1⟩⟩⟩
  · obtain ⟨F', fr', h', g1, g2, g3, g4, g5⟩ := h2
    exact .inr ⟨h1, ⟨F', fr', h', g1.less fun _ => .inl, g2, g3.less fun _ => .inl, g4, g5⟩, key σ cundef ⟨F', g1⟩⟩

theorem again_all {prev : List CStep} : ∀ {ag : List Again}, ag.map (fun a => againAt prev a.t) = ag.map some → (ag.map (·.t)).filterMap (againAt prev) = ag ∧ ∀ a ∈ ag, againAt prev a.t = some a
  | [], _ => ⟨rfl, fun a ha => by cases ha⟩
  | a :: l, h => by
    simp only [List.map_cons, List.cons.injEq] at h
    obtain ⟨h1, h2⟩ := again_all h.2
    refine ⟨by simp only [List.map_cons, List.filterMap_cons, h.1, h1], fun x hx => ?_⟩
    rcases List.mem_cons.1 hx with rfl | hx
    · exact h.1
    · exact h2 x hx

theorem wpT_ok : ∀ {l : List MStage} {prev : List CStep} {av : List Tmp} {fr : AFr} {h : AH} {F : Nat → Nat} {σ : CW} {frC : Fr}, okT prev av l = true → okR prev l → wpT T K l fr h Q → AR F h σ → KOk K h → (∀ t, Rp F σ (fr t) (frC t)) → Facts prev av frC σ →
    StagesW (CallA T) (stgC l) frC σ fun frC' σ' => After K F σ frC' σ' Q
  | [], prev, av, fr, h, F, σ, frC, ho, hr, hw, hA, hK, hf, hfa => ⟨F, fr, h, .refl, hA, hK, hf, hw⟩
  | s :: l, prev, av, fr, h, F, σ, frC, ho, hr, hw, hA, hK, hf, hfa => by
    unfold okT at ho
    simp only [Bool.and_eq_true, Bool.not_eq_true'] at ho
    obtain ⟨⟨⟨o1, o2⟩, o3⟩, o4⟩ := ho
    obtain ⟨r1, r2⟩ := hr
    obtain ⟨q1, q2⟩ := again_all r1
    obtain ⟨ds, h1, h2, h3⟩ := hw
    have hs := wpS_ok h3
    have e1 : s.e.toC = [s.e.toC1] := by simp only [MStep.toC, iniSt_no o1]
    rw [e1] at hs
    have o2' : ∀ t ∈ s.ag.map (·.t), av.contains t = true ∧ indT prev s.e.dst t = true := fun t ht => by
      have := List.all_eq_true.1 o2 t ht
      simpa only [Bool.and_eq_true] using this
    have hfa' : Facts prev (s.ag.map (·.t)) frC σ := fun t ht => hfa t (by simpa using (o2' t ht).1)
    have edst : s.e.toC1.dst = s.e.dst := by
      obtain ⟨o, e, _⟩ := toC_guard (op := s.e.op) s.e.dst s.e.guard
      simp only [MStep.toC1, e]
    refine StepW.mono CallA.mono (stage_facts hA hK hf (ag := s.ag.map (·.t)) (by rw [q1]; exact h1) h2 (fun t ht => by rw [edst]; exact (o2' t ht).2) hs hfa') ?_
    rintro frC1 σ1 ⟨⟨F1, fr1, hh1, g1, g2, g3, g4, g5⟩, g6⟩
    refine ⟨fun a ha => ?_, ?_⟩
    · obtain ⟨a', u1, u2⟩ := g6 a.t (List.mem_map.2 ⟨a, ha, rfl⟩)
      rw [q2 a ha] at u1; cases u1; exact u2
    · refine StepsW.mono CallA.mono (seg_facts CallA.mono o3 g2.inv (wpL_ok g5 F1 σ1 frC1 g2 g3 g4) g6) ?_
      rintro frC2 σ2 ⟨⟨F2, fr2, hh2, k1, k2, k3, k4, k5⟩, k6⟩
      exact StagesW.mono CallA.mono (wpT_ok o4 r2 k5 k2 k3 k4 k6) fun _ _ ha => After.trans g1 (After.trans k1 ha)

theorem wpD_ok {seg : List MStep} {l : List MStage} {Q : CExit → AQ} (ho : okD seg l) (hw : wpL T K seg fr h fun fr h => wpT T K l fr h (Q .normal)) : W T K (.dregion (toL seg) (stgC l)) fr h Q := by
  intro F σ frC hA hK hf
  obtain ⟨ho, hr⟩ := ho
  rw [Bool.and_eq_true] at ho
  refine .dregion (StepsW.mono CallA.mono (seg_facts CallA.mono (prev := []) (av := []) ho.1 hA.inv (wpL_ok hw F σ frC hA hK hf) fun t ht => by cases ht) ?_)
  rintro frC1 σ1 ⟨⟨F1, fr1, hh1, g1, g2, g3, g4, g5⟩, g6⟩
  exact StagesW.mono CallA.mono (wpT_ok ho.2 hr g5 g2 g3 g4 g6) fun _ _ ha => After.trans g1 ha

theorem wpC_ok : ∀ {c : MCode} {fr : AFr} {h : AH} {Q : CExit → AQ}, wpC T K c fr h Q → W T K c.toC fr h Q := by
  intro c
  induction c with
  | skip => exact fun hw F σ frC hA hK hf => .skip ⟨F, _, _, .refl, hA, hK, hf, hw⟩
  | region ops => exact fun hw F σ frC hA hK hf => .region (wpL_ok hw F σ frC hA hK hf)
  | dregion seg l => exact fun hw => wpD_ok hw.1 hw.2
  | seq a b iha ihb =>
    intro fr h Q hw
    refine W.seq (iha hw) (fun fr h hr => ihb hr) fun e fr h he hr => ?_
    cases e with
    | normal => exact absurd rfl he
    | exit id => exact hr
    | ret => exact hr
  | cond c a b iha ihb =>
    intro fr h Q ⟨t, h1, h2⟩
    refine W.cond h1 ?_
    cases t with
    | true => exact iha h2
    | false => exact ihb h2
  | block id b ih => exact fun hw => W.block (ih hw) fun e fr h hq => hq
  | loop b ih => exact fun hw => hw
  | exit id => exact fun hw F σ frC hA hK hf => .exit ⟨F, _, _, .refl, hA, hK, hf, hw⟩
  | ret => exact fun hw F σ frC hA hK hf => .ret ⟨F, _, _, .refl, hA, hK, hf, hw⟩
  | rfun f ps a b _ _ => exact fun hw => hw
  | raw c => exact fun hw => hw

end
end Go.Cn
