/- Code step by step: the equations. -/
import Derived.Test.YtfagmflapdgcmaaDoorCnA10
namespace Go.Cn
set_option linter.unusedVariables false
set_option linter.unusedSimpArgs false

section
variable {T : Nat → Option CFun} {K : Nat → Prop} {fr : AFr} {h : AH} {Q : AQ} {R : CExit → AQ}

theorem e_skip : wpC T K .skip fr h R = R .normal fr h := rfl
theorem e_region {l : List MStep} : wpC T K (.region l) fr h R = wpL T K l fr h (R .normal) := rfl
theorem e_dregion {l : List MStep} {g : List MStage} (ho : okD l g) : wpC T K (.dregion l g) fr h R = wpL T K l fr h (kT T K g (R .normal)) := by
  show (_ ∧ _) = _
  exact propext ⟨fun h => h.2, fun h => ⟨ho, h⟩⟩
theorem e_seq {a b : MCode} : wpC T K (.seq a b) fr h R = wpC T K a fr h (kC T K b R) := by
  show wpC T K a fr h _ = _
  congr 1
  funext e fr h
  cases e <;> rfl
theorem e_cond {c : Operand} {a b : MCode} : wpC T K (.cond c a b) fr h R = wpI T K a b fr h R (evA fr c) := rfl
theorem e_block {id : Nat} {b : MCode} : wpC T K (.block id b) fr h R = wpC T K b fr h (kB id R) := rfl
theorem e_loop {b : MCode} : wpC T K (.loop b) fr h R = W T K (.loop b.toC) fr h R := rfl
theorem e_exit {id : Nat} : wpC T K (.exit id) fr h R = R (.exit id) fr h := rfl
theorem e_ret : wpC T K .ret fr h R = R .ret fr h := rfl
theorem e_rfun {f : Operand} {ps : List Tmp} {a b : MCode} : wpC T K (.rfun f ps a b) fr h R = W T K (.rfun f ps a.toC b.toC) fr h R := rfl
theorem e_raw {c : CCode} : wpC T K (.raw c) fr h R = W T K c fr h R := rfl
theorem e_kCn {b : MCode} : kC T K b R .normal fr h = wpC T K b fr h R := rfl
theorem e_kCe {b : MCode} {i : Nat} : kC T K b R (.exit i) fr h = R (.exit i) fr h := rfl
theorem e_kCr {b : MCode} : kC T K b R .ret fr h = R .ret fr h := rfl
theorem e_kBn {i : Nat} : kB i R .normal fr h = R .normal fr h := rfl
theorem e_kBr {i : Nat} : kB i R .ret fr h = R .ret fr h := rfl
theorem e_kBe {i j : Nat} : kB i R (.exit j) fr h = if j = i then R .normal fr h else R (.exit j) fr h := by
  unfold kB
  by_cases e : j = i
  · subst e; simp
  · simp [e]
theorem e_It {a b : MCode} : wpI T K a b fr h R (.bool true) = wpC T K a fr h R := propext ⟨fun ⟨t, h1, h2⟩ => by cases h1; exact h2, fun h => ⟨true, rfl, h⟩⟩
theorem e_If {a b : MCode} : wpI T K a b fr h R (.bool false) = wpC T K b fr h R := propext ⟨fun ⟨t, h1, h2⟩ => by cases h1; exact h2, fun h => ⟨false, rfl, h⟩⟩
theorem e_Ln : wpL T K [] fr h Q = Q fr h := rfl
theorem e_Lc {s : MStep} {l : List MStep} : wpL T K (s :: l) fr h Q = wpS T K s fr h (kL T K l Q) := rfl
theorem e_kL {l : List MStep} : kL T K l Q fr h = wpL T K l fr h Q := rfl
theorem e_kTn : kT T K [] Q fr h = Q fr h := rfl
theorem e_kTc {e : MStep} {ag : List Again} {seg : List MStep} {l : List MStage} : kT T K (⟨e, ag, seg⟩ :: l) Q fr h = onS (depL fr ag) (kE T K ⟨e, ag, seg⟩ l Q fr h) := rfl
theorem e_kE0 {e : MStep} {ag : List Again} {seg : List MStep} {l : List MStage} : kE T K ⟨e, ag, seg⟩ l Q fr h [] = wpS T K e fr h (kG T K seg l Q) := by
  show ((∀ b ∈ [], _) ∧ wpS T (KU K []) e fr h (kG T K seg l Q)) = _
  rw [KU_nil]; simp
theorem e_kE1 {e : MStep} {ag : List Again} {seg : List MStep} {l : List MStage} {b : Nat} {ds : List Nat} : kE T K ⟨e, ag, seg⟩ l Q fr h (b :: ds) = ((h.objs b ≠ none ∧ ∀ b ∈ ds, h.objs b ≠ none) ∧ wpS T (KU K (b :: ds)) e fr h (kG T K seg l Q)) := by
  show ((∀ b' ∈ b :: ds, _) ∧ _) = _
  simp
theorem e_kG {seg : List MStep} {l : List MStage} : kG T K seg l Q fr h = wpL T K seg fr h (kT T K l Q) := rfl
theorem e_depn : depL fr [] = some [] := rfl
theorem e_depc {a : Again} {l : List Again} : depL fr (a :: l) = match depG fr a, depL fr l with
    | some x, some y => some (x ++ y)
    | _, _ => none := rfl
theorem e_dGn {t : Tmp} {o : POp} : depG fr ⟨t, none, o⟩ = depA o (evA fr) := rfl
theorem e_dGg {t g : Tmp} {b c : Bool} {o : POp} (hg : fr g = .bool c) : depG fr ⟨t, some (g, b), o⟩ = bif c == b then depA o (evA fr) else some [] := by unfold depG; simp only [hg]
theorem e_Sn {d : Option Tmp} {op : MOp} : wpS T K ⟨d, none, op⟩ fr h Q = wpO T K d op fr h Q := rfl
theorem e_Sg {d : Option Tmp} {op : MOp} {t : Tmp} {b : Bool} : wpS T K ⟨d, some (t, b), op⟩ fr h Q = wpG T K d op fr h Q b (fr t) := rfl
theorem e_Gtt {d : Option Tmp} {op : MOp} : wpG T K d op fr h Q true (.bool true) = (isIni op = false ∧ wpO T K d op fr h Q) := propext ⟨fun ⟨h0, h⟩ => by rcases h with ⟨t, h1, h2⟩ | ⟨h1, _⟩ <;> cases h1; exact ⟨h0, h2⟩, fun h => ⟨h.1, .inl ⟨true, rfl, h.2⟩⟩⟩
theorem e_Gff {d : Option Tmp} {op : MOp} : wpG T K d op fr h Q false (.bool false) = (isIni op = false ∧ wpO T K d op fr h Q) := propext ⟨fun ⟨h0, h⟩ => by rcases h with ⟨t, h1, h2⟩ | ⟨h1, _⟩ <;> cases h1; exact ⟨h0, h2⟩, fun h => ⟨h.1, .inl ⟨false, rfl, h.2⟩⟩⟩
theorem e_Gtf {d : Option Tmp} {op : MOp} : wpG T K d op fr h Q true (.bool false) = (isIni op = false ∧ Q (setA fr d (.tuple [])) h) := propext ⟨fun ⟨h0, h⟩ => by rcases h with ⟨t, h1, h2⟩ | ⟨h1, _⟩ <;> cases h1; exact ⟨h0, h2⟩, fun h => ⟨h.1, .inl ⟨false, rfl, h.2⟩⟩⟩
theorem e_Gft {d : Option Tmp} {op : MOp} : wpG T K d op fr h Q false (.bool true) = (isIni op = false ∧ Q (setA fr d (.tuple [])) h) := propext ⟨fun ⟨h0, h⟩ => by rcases h with ⟨t, h1, h2⟩ | ⟨h1, _⟩ <;> cases h1; exact ⟨h0, h2⟩, fun h => ⟨h.1, .inl ⟨true, rfl, h.2⟩⟩⟩
theorem e_Gu {d : Option Tmp} {op : MOp} {b : Bool} : wpG T K d op fr h Q b (.tuple []) = (isIni op = false ∧ Q (setA fr d (.tuple [])) h) := propext ⟨fun ⟨h0, h⟩ => h.elim (fun ⟨t, h1, h2⟩ => by cases h1) fun ⟨_, h2⟩ => ⟨h0, h2⟩, fun h => ⟨h.1, .inr ⟨rfl, h.2⟩⟩⟩

-- operations
theorem i_p {o : POp} : isIni (.p o) = false := rfl
theorem i_alloc {E : TypeId} {zs : List Value} : isIni (.alloc E zs) = false := rfl
theorem i_zer {E : TypeId} {zs : List Value} : isIni (.zer E zs) = false := rfl
theorem i_box {b : Bool} {E : TypeId} {x : Operand} : isIni (.box b E x) = false := rfl
theorem i_bsl {E : TypeId} {zs : List Value} {n : Nat} {ps : List (Nat × Nat × Operand)} : isIni (.bsl E zs n ps) = false := rfl
theorem i_mkmap : isIni .mkmap = false := rfl
theorem i_st1 {a x : Operand} : isIni (.st1 a x) = false := rfl
theorem i_stN {n : Nat} {a x : Operand} : isIni (.stN n a x) = false := rfl
theorem i_fz1 {t : Tmp} {x : Operand} : isIni (.fz1 t x) = false := rfl
theorem i_fzN {n : Nat} {t : Tmp} {x : Operand} : isIni (.fzN n t x) = false := rfl
theorem i_mu {s : Bool} {m k x : Operand} : isIni (.mapupd s m k x) = false := rfl
theorem i_md {s : Bool} {m k : Operand} : isIni (.delete s m k) = false := rfl
theorem i_call {f : FuncId} {a : List Operand} : isIni (.call f a) = false := rfl
theorem i_callv {x : Operand} {a : List Operand} : isIni (.callv x a) = false := rfl
theorem i_oth {o : COp} : isIni (.oth o) = false := rfl

variable {d : Option Tmp}
theorem o_p {o : POp} : wpO T K d (.p o) fr h Q = onS (pevA o (evA fr) h) (kP Q fr d h) := rfl
theorem o_alloc {E : TypeId} {zs : List Value} : wpO T K d (.alloc E zs) fr h Q = AllNew K h (kNew Q fr d h (fun b => .ptr b 0) (.cells (zs.map ofC1) E)) := rfl
theorem o_ini {one : Bool} {E : TypeId} {zs : List Value} {x : Operand} : wpO T K d (.ini one E zs x) fr h Q = (((one = true → zs.length = 1) ∧ d.isSome = true ∧ notT d x = true ∧ isAny (evA fr x) = false ∧ (cellsA (evA fr x)).length = zs.length ∧ zs ≠ [] ∧ (cellsA (evA fr x)).all oneA = true) ∧ kP Q fr d h (.rptr (cellsA (evA fr x)))) := rfl
theorem o_zer {E : TypeId} {zs : List Value} : wpO T K d (.zer E zs) fr h Q = (zs ≠ [] ∧ kP Q fr d h (.rptr (zs.map ofC1))) := rfl
theorem o_boxT {E : TypeId} {x : Operand} : wpO T K d (.box true E x) fr h Q = ((isAny (evA fr x) = false ∧ cellsA (evA fr x) ≠ []) ∧ kP Q fr d h (.rptr (cellsA (evA fr x)))) := rfl
theorem o_boxF {E : TypeId} {x : Operand} : wpO T K d (.box false E x) fr h Q = ((isAny (evA fr x) = false ∧ cellsA (evA fr x) ≠ []) ∧ AllNew K h (kNew Q fr d h (fun b => .ptr b 0) (.cells (cellsA (evA fr x)) E))) := rfl
theorem o_bsl {E : TypeId} {z0 : List Value} {n : Nat} {ps : List (Nat × Nat × Operand)} : wpO T K d (.bsl E z0 n ps) fr h Q = ((0 < n ∧ 0 < z0.length ∧ n ≤ big) ∧ onS (fillA ((zerosL z0 n).map ofC1) (ps.map fun (o, s, x) => (o, s, evA fr x))) (kBsl Q fr d h E z0.length n)) := rfl
theorem o_mkmap : wpO T K d .mkmap fr h Q = AllNew K h (kNew Q fr d h (fun b => .map b) (.map [])) := rfl
theorem o_st1 {a x : Operand} : wpO T K d (.st1 a x) fr h Q = stP K h (evA fr x) 1 (kPut Q fr d h) (evA fr a) := rfl
theorem o_stN {n : Nat} {a x : Operand} : wpO T K d (.stN n a x) fr h Q = stP K h (evA fr x) n (kPut Q fr d h) (evA fr a) := rfl
theorem o_fz1 {t : Tmp} {x : Operand} : wpO T K none (.fz1 t x) fr h Q = fzP K h (evA fr x) 1 (kFz Q fr none h t) (fr t) := by
  show (_ ∧ _) = _
  simp
theorem o_fzN {n : Nat} {t : Tmp} {x : Operand} : wpO T K none (.fzN n t x) fr h Q = fzP K h (evA fr x) n (kFz Q fr none h t) (fr t) := by
  show (_ ∧ _) = _
  simp
theorem o_mu {s : Bool} {m k x : Operand} : wpO T K d (.mapupd s m k x) fr h Q = muP K h s (evA fr k) (evA fr x) (kMap Q fr d h) (evA fr m) := rfl
theorem o_md {s : Bool} {m k : Operand} : wpO T K d (.delete s m k) fr h Q = mdP K h s (evA fr k) (kMap Q fr d h) (evA fr m) := rfl
theorem o_call {f : FuncId} {a : List Operand} : wpO T K d (.call f a) fr h Q = ACall T K (.func f) (a.map (evA fr)) h (kV Q fr d) := rfl
theorem o_callv {x : Operand} {a : List Operand} : wpO T K d (.callv x a) fr h Q = cvP T K h (a.map (evA fr)) (kV Q fr d) (evA fr x) := rfl
theorem o_oth {o : COp} : wpO T K d (.oth o) fr h Q = WO T K o fr h (kV Q fr d) := rfl

theorem e_onS {α : Type} {a : α} {Q : α → Prop} : onS (some a) Q = Q a := propext ⟨fun ⟨b, h1, h2⟩ => by cases h1; exact h2, fun h => ⟨a, rfl, h⟩⟩
theorem e_kV {a : AV} : kV Q fr d a h = Q (setA fr d a) h := rfl
theorem e_kP {a : AV} : kP Q fr d h a = Q (setA fr d a) h := rfl
theorem e_kNew {mk : Nat → AV} {o : AO} {b : Nat} : kNew Q fr d h mk o b = Q (setA fr d (mk b)) (h.set b o) := rfl
theorem e_kBsl {E : TypeId} {sz n : Nat} {cs : List AV} : kBsl Q fr d h E sz n cs = Q (setA fr d (.lst E (chunkA sz n cs) .no)) h := rfl
theorem e_kPut {b : Nat} {E : TypeId} {cs : List AV} : kPut Q fr d h b E cs = Q (setA fr d .any) (h.set b (.cells cs E)) := rfl
theorem e_kFz {t : Tmp} {b : Nat} {E : TypeId} {cs : List AV} : kFz Q fr d h t b E cs = (cs ≠ [] ∧ Q (upd (setA fr d .any) t (.rptr cs)) (h.del b)) := rfl
theorem e_kMap {b : Nat} {es : List (AV × AV)} : kMap Q fr d h b es = Q (setA fr d .any) (h.set b (.map es)) := rfl
theorem e_setn {a : AV} : setA fr none a = fr := rfl
theorem e_sets {t : Tmp} {a : AV} : setA fr (some t) a = upd fr t a := rfl
theorem e_upd {t u : Tmp} {a : AV} : upd fr t a u = if u = t then a else fr u := rfl
theorem e_evt {t : Tmp} : evA fr (.tmp t) = fr t := rfl
theorem e_evc {v : Value} : evA fr (.const v) = ofC v := rfl
theorem e_evg {g : Nat} : evA fr (.global g) = .ptr g 0 := rfl
theorem e_evf {f : Nat} : evA fr (.func f) = .func f [] [] := rfl
theorem e_st {v : AV} {n b off : Nat} {k : Nat → TypeId → List AV → Prop} : stP K h v n k (.ptr b off) = onS (h.objs b) (stO K b off v n (k b)) := propext ⟨fun ⟨b', o', h1, h2⟩ => by cases h1; exact h2, fun h => ⟨b, off, rfl, h⟩⟩
theorem e_stO {v : AV} {n b off : Nat} {E : TypeId} {cs : List AV} {k : TypeId → List AV → Prop} : stO K b off v n k (.cells cs E) = ((¬ K b ∧ isAny v = false ∧ (cellsA v).length = n ∧ (cellsA v).all oneA = true) ∧ onS (putA cs off (cellsA v)) (k E)) := propext ⟨fun ⟨c', E', h1, h2⟩ => by cases h1; exact h2, fun h => ⟨cs, E, rfl, h⟩⟩
theorem e_fz {v : AV} {n b : Nat} {k : Nat → TypeId → List AV → Prop} : fzP K h v n k (.ptr b 0) = onS (h.objs b) (stO K b 0 v n (k b)) := propext ⟨fun ⟨b', h1, h2⟩ => by cases h1; exact h2, fun h => ⟨b, rfl, h⟩⟩
theorem e_mu {s : Bool} {kk v : AV} {b : Nat} {k : Nat → List (AV × AV) → Prop} : muP K h s kk v k (.map b) = onS (h.objs b) (muO K b s kk v (k b)) := propext ⟨fun ⟨b', h1, h2⟩ => by cases h1; exact h2, fun h => ⟨b, rfl, h⟩⟩
theorem e_muO {s : Bool} {kk v : AV} {b : Nat} {es : List (AV × AV)} {k : List (AV × AV) → Prop} : muO K b s kk v k (.map es) = ((¬ K b ∧ isKeyA s kk = true) ∧ onS (mputA kk v es) k) := propext ⟨fun ⟨b', h1, h2⟩ => by cases h1; exact h2, fun h => ⟨es, rfl, h⟩⟩
theorem e_md {s : Bool} {kk : AV} {b : Nat} {k : Nat → List (AV × AV) → Prop} : mdP K h s kk k (.map b) = onS (h.objs b) (mdO K b s kk (k b)) := propext ⟨fun ⟨b', h1, h2⟩ => by cases h1; exact h2, fun h => ⟨b, rfl, h⟩⟩
theorem e_mdO {s : Bool} {kk : AV} {b : Nat} {es : List (AV × AV)} {k : List (AV × AV) → Prop} : mdO K b s kk k (.map es) = ((¬ K b ∧ isKeyA s kk = true) ∧ onS (mdelA kk es) k) := propext ⟨fun ⟨b', h1, h2⟩ => by cases h1; exact h2, fun h => ⟨es, rfl, h⟩⟩
theorem e_cv {f : Nat} {a b args : List AV} {Q : AV → AH → Prop} : cvP T K h args Q (.func f a b) = ACall T K (.func f) (a ++ args ++ b) h Q := by
  refine propext ⟨fun h => ?_, fun h => .inl ⟨f, a, b, rfl, h⟩⟩
  rcases h with ⟨f', a', b', h1, h2⟩ | ⟨c, h1, _⟩
  · cases h1; exact h2
  · cases h1
theorem e_cy {c : Nat} {args : List AV} {Q : AV → AH → Prop} : cvP T K h args Q (.yield c) = ACall T K (.yield c) args h Q := by
  refine propext ⟨fun h => ?_, fun h => .inr ⟨c, rfl, h⟩⟩
  rcases h with ⟨f', a', b', h1, h2⟩ | ⟨c, h1, h2⟩
  · cases h1
  · cases h1; exact h2

-- values
theorem c_agg {cs : List AV} : cellsA (.agg cs) = cs := rfl
theorem c_bool {b : Bool} : cellsA (.bool b) = [.bool b] := rfl
theorem c_int {k : IntKind} {n : Int} : cellsA (.int k n) = [.int k n] := rfl
theorem c_str {s : List UInt8} : cellsA (.str s) = [.str s] := rfl
theorem c_lst {E : TypeId} {es : List (List AV)} {t : Tag} : cellsA (.lst E es t) = [.lst E es t] := rfl
theorem c_rptr {cs : List AV} : cellsA (.rptr cs) = [.rptr cs] := rfl
theorem c_ptr {b o : Nat} : cellsA (.ptr b o) = [.ptr b o] := rfl
theorem c_map {b : Nat} : cellsA (.map b) = [.map b] := rfl
theorem c_fmap {es : List (AV × AV)} : cellsA (.fmap es) = [.fmap es] := rfl
theorem c_nilp : cellsA .nilp = [.nilp] := rfl
theorem c_nilm : cellsA .nilm = [.nilm] := rfl
theorem c_nilf : cellsA .nilf = [.nilf] := rfl
theorem c_nili : cellsA .nili = [.nili] := rfl
theorem c_iface {t : TypeId} {v : AV} : cellsA (.iface t v) = [.iface t v] := rfl
theorem c_func {f : Nat} {a b : List AV} : cellsA (.func f a b) = [.func f a b] := rfl
theorem c_slice {b o l c : Nat} : cellsA (.slice b o l c) = [.slice b o l c] := rfl
theorem a_agg {cs : List AV} : isAny (.agg cs) = false := rfl
theorem a_bool {b : Bool} : isAny (.bool b) = false := rfl
theorem a_int {k : IntKind} {n : Int} : isAny (.int k n) = false := rfl
theorem a_str {s : List UInt8} : isAny (.str s) = false := rfl
theorem a_lst {E : TypeId} {es : List (List AV)} {t : Tag} : isAny (.lst E es t) = false := rfl
theorem a_rptr {cs : List AV} : isAny (.rptr cs) = false := rfl
theorem a_ptr {b o : Nat} : isAny (.ptr b o) = false := rfl
theorem a_map {b : Nat} : isAny (.map b) = false := rfl
theorem a_fmap {es : List (AV × AV)} : isAny (.fmap es) = false := rfl
theorem a_nilp : isAny .nilp = false := rfl
theorem a_nilm : isAny .nilm = false := rfl
theorem a_nilf : isAny .nilf = false := rfl
theorem a_nili : isAny .nili = false := rfl
theorem a_iface {t : TypeId} {v : AV} : isAny (.iface t v) = false := rfl
theorem a_func {f : Nat} {a b : List AV} : isAny (.func f a b) = false := rfl
theorem a_slice {b o l c : Nat} : isAny (.slice b o l c) = false := rfl
theorem n_bool {b : Bool} : oneA (.bool b) = true := rfl
theorem n_int {k : IntKind} {n : Int} : oneA (.int k n) = true := rfl
theorem n_str {s : List UInt8} : oneA (.str s) = true := rfl
theorem n_lst {E : TypeId} {es : List (List AV)} {t : Tag} : oneA (.lst E es t) = true := rfl
theorem n_rptr {cs : List AV} : oneA (.rptr cs) = true := rfl
theorem n_ptr {b o : Nat} : oneA (.ptr b o) = true := rfl
theorem n_map {b : Nat} : oneA (.map b) = true := rfl
theorem n_fmap {es : List (AV × AV)} : oneA (.fmap es) = true := rfl
theorem n_nilp : oneA .nilp = true := rfl
theorem n_nilm : oneA .nilm = true := rfl
theorem n_nilf : oneA .nilf = true := rfl
theorem n_nili : oneA .nili = true := rfl
theorem n_iface {t : TypeId} {v : AV} : oneA (.iface t v) = true := rfl
theorem n_func {f : Nat} {a b : List AV} : oneA (.func f a b) = true := rfl
theorem n_slice {b o l c : Nat} : oneA (.slice b o l c) = true := rfl
theorem v_bool {b : Bool} : ofC (.bool b) = .bool b := rfl
theorem v_int {k : IntKind} {n : Int} : ofC (.int k n) = .int k n := rfl
theorem v_str {s : List UInt8} : ofC (.string ⟨⟨s⟩⟩) = .str s := rfl
theorem v_nilp : ofC (.pointer none) = .nilp := rfl
theorem v_nilm : ofC (.map none) = .nilm := rfl
theorem v_nilf : ofC .nilFunc = .nilf := rfl
theorem v_nili : ofC .nilIface = .nili := rfl
theorem v_nils : ofC (.slice none 0 0) = .lst 0 [] .nil := rfl
theorem v_agg {l : List Value} : ofC (.agg ⟨l⟩) = .agg (l.map ofC1) := rfl
theorem w_bool {b : Bool} : ofC1 (.bool b) = .bool b := rfl
theorem w_int {k : IntKind} {n : Int} : ofC1 (.int k n) = .int k n := rfl
theorem w_str {s : List UInt8} : ofC1 (.string ⟨⟨s⟩⟩) = .str s := rfl
theorem w_nilp : ofC1 (.pointer none) = .nilp := rfl
theorem w_nilm : ofC1 (.map none) = .nilm := rfl
theorem w_nilf : ofC1 .nilFunc = .nilf := rfl
theorem w_nili : ofC1 .nilIface = .nili := rfl
theorem w_nils : ofC1 (.slice none 0 0) = .lst 0 [] .nil := rfl
theorem s_objs {b n : Nat} {o : AO} (hn : n ≠ b) : (h.set b o).objs n = h.objs n := AH.set_ne _ _ hn
theorem s_delset {b : Nat} {o : AO} : (h.set b o).del b = h.del b := by
  unfold AH.set AH.del; congr 1; funext n; simp only [upd]; split <;> rfl
theorem s_del {b : Nat} (hb : h.objs b = none) : h.del b = h := by
  obtain ⟨o, t⟩ := h
  unfold AH.del; congr 1; funext n; simp only [upd]; split
  · rename_i e; rw [e]; exact hb.symm
  · rfl
end

end Go.Cn
