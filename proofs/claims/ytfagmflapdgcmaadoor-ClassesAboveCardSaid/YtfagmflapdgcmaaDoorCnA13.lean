/- How contracts are proved. -/
import Derived.Test.YtfagmflapdgcmaaDoorCnA12
namespace Go.Cn
set_option linter.unusedVariables false
set_option linter.unusedSimpArgs false

theorem wrap64 {n : Int} (h : -9223372036854775808 ≤ n ∧ n ≤ 9223372036854775807) : IntKind.i64.wrap n = n := by
  have w : IntKind.i64.wrap n = if (true && decide (n % (2 ^ 64 : Int) ≥ (2 ^ 63 : Int))) = true then n % (2 ^ 64 : Int) - (2 ^ 64 : Int) else n % (2 ^ 64 : Int) := rfl
  rw [w]
  have e1 : (2 : Int) ^ 64 = 18446744073709551616 := by decide
  have e2 : (2 : Int) ^ 63 = 9223372036854775808 := by decide
  rw [e1, e2]
  simp only [Bool.true_and, decide_eq_true_eq]
  split <;> omega
theorem nt_t {t u : Tmp} : (notT (some t) (.tmp u) = true) = (u ≠ t) := by
  simp only [notT, Bool.not_eq_true', beq_eq_false_iff_ne, ne_eq, Option.some.injEq, eq_iff_iff]
  exact ⟨fun h e => h e.symm, fun h e => h e.symm⟩
theorem nt_c {d : Option Tmp} {v : Value} : notT d (.const v) = true := rfl
theorem nt_g {d : Option Tmp} {v : Nat} : notT d (.global v) = true := rfl
theorem nt_f {d : Option Tmp} {v : Nat} : notT d (.func v) = true := rfl
theorem lt_irr {n : Int} : decide (n < n) = false := by simp
theorem big_eq : big = 140737488355328 := rfl
/-- the next place in a list -/
theorem wrapS {n m : Nat} (h : n < m) (hB : m ≤ big) : IntKind.i64.wrap ((n : Int) + 1) = ((n + 1 : Nat) : Int) := by
  rw [big_eq] at hB
  rw [wrap64 ⟨by omega, by omega⟩]; rfl

section
variable {T : Nat → Option CFun} {K : Nat → Prop} {fr : AFr} {h h0 : AH} {Q : AQ} {R : CExit → AQ}

theorem u_L {l l' : List MStep} (e : l = l') : wpL T K l fr h Q = wpL T K l' fr h Q := by rw [e]
theorem u_T {l l' : List MStage} (e : l = l') : kT T K l Q fr h = kT T K l' Q fr h := by rw [e]
theorem u_C {c c' : MCode} (e : c = c') : wpC T K c fr h R = wpC T K c' fr h R := by rw [e]

/-- what a function hands back; memory is as it was -/
def kRet (a : AV) (h0 h' : AH) (as : List AV) : Prop := Wk (resVA as) a ∧ h0.le h'
def Ret (res : List CRes) (a : AV) (h0 : AH) (e : CExit) (fr : AFr) (h' : AH) : Prop := (e = .normal ∨ e = .ret) ∧ onS (resA fr h' res) (kRet a h0 h')
/-- .. more is asked -/
def kRetQ (K : Nat → Prop) (Q : AV → AH → Prop) (h' : AH) (as : List AV) : Prop := ∃ a h'', Frz (resVA as) h' a h'' ∧ KOk K h'' ∧ Q a h''
def RetQ (K : Nat → Prop) (res : List CRes) (Q : AV → AH → Prop) (e : CExit) (fr : AFr) (h' : AH) : Prop := (e = .normal ∨ e = .ret) ∧ onS (resA fr h' res) (kRetQ K Q h')

theorem ACall.ret {f : Nat} {c : MCode} {res : List CRes} {args : List AV} {a : AV} (hf : T f = some ⟨c.toC, res⟩) (hw : KOk K h → wpC T K c (initA args) h (Ret res a h)) : ACall T K (.func f) args h fun v h' => v = a ∧ h' = h :=
  ACall.func hf fun hK => (wpC_ok (hw hK)).mono fun e fr h' ⟨h1, as, h2, h3, h4⟩ => ⟨h1, as, h2, a, h, .weak h3 (.drop h4 (.refl _ _)), hK, rfl, rfl⟩
theorem ACall.retQ {f : Nat} {c : MCode} {res : List CRes} {args : List AV} {Q : AV → AH → Prop} (hf : T f = some ⟨c.toC, res⟩) (hw : KOk K h → wpC T K c (initA args) h (RetQ K res Q)) : ACall T K (.func f) args h Q :=
  ACall.func hf fun hK => (wpC_ok (hw hK)).mono fun e fr h' ⟨h1, as, h2, a, h'', h3, h4, h5⟩ => ⟨h1, as, h2, a, h'', h3, h4, h5⟩

/-- a call that gives 'a' and leaves all as it was -/
def Pure (T : Nat → Option CFun) (f : Nat) (args : List AV) (a : AV) : Prop := ∀ K h, ACall T K (.func f) args h fun v h' => v = a ∧ h' = h

theorem Pure.use {f : Nat} {args : List AV} {a : AV} {Q : AV → AH → Prop} (hp : Pure T f args a) (hq : Q a h) : ACall T K (.func f) args h Q :=
  (hp K h).mono fun v h' ⟨h1, h2⟩ => by subst h1 h2; exact hq
theorem Pure.weak {f : Nat} {args args' : List AV} {a : AV} (hp : Pure T f args' a) (hl : args.length = args'.length) (hw : ∀ (i : Nat) (x y : AV), args[i]? = some x → args'[i]? = some y → Wk x y) : Pure T f args a :=
  fun K h => (hp K h).weak hl hw

theorem e_Retr {res : List CRes} {a : AV} {h' : AH} : Ret res a h0 .ret fr h' = onS (resA fr h' res) (kRet a h0 h') := by simp [Ret]
theorem e_Retn {res : List CRes} {a : AV} {h' : AH} : Ret res a h0 .normal fr h' = onS (resA fr h' res) (kRet a h0 h') := by simp [Ret]
theorem e_kRet {as : List AV} {a : AV} {h' : AH} : kRet a h0 h' as = (Wk (resVA as) a ∧ h0.le h') := rfl
theorem e_RetQr {res : List CRes} {Q : AV → AH → Prop} {h' : AH} : RetQ K res Q .ret fr h' = onS (resA fr h' res) (kRetQ K Q h') := by simp [RetQ]
theorem e_RetQn {res : List CRes} {Q : AV → AH → Prop} {h' : AH} : RetQ K res Q .normal fr h' = onS (resA fr h' res) (kRetQ K Q h') := by simp [RetQ]
theorem e_kRetQ {as : List AV} {Q : AV → AH → Prop} {h' : AH} : kRetQ K Q h' as = ∃ a h'', Frz (resVA as) h' a h'' ∧ KOk K h'' ∧ Q a h'' := rfl
theorem r_n : resA fr h [] = some [] := rfl
theorem r_t {t : Tmp} {l : List CRes} : resA fr h (.tmp t :: l) = match some (fr t), resA fr h l with
    | some a, some as => some (a :: as)
    | _, _ => none := rfl
theorem r_1 {t : Tmp} {l : List CRes} : resA fr h (.ld1 t :: l) = match pevA (.ld1 (.tmp t)) (evA fr) h, resA fr h l with
    | some a, some as => some (a :: as)
    | _, _ => none := rfl
theorem r_N {n : Nat} {t : Tmp} {l : List CRes} : resA fr h (.ldN n t :: l) = match pevA (.ldN n (.tmp t)) (evA fr) h, resA fr h l with
    | some a, some as => some (a :: as)
    | _, _ => none := rfl
theorem rv_1 {a : AV} : resVA [a] = a := rfl
theorem rv_0 : resVA [] = .tuple [] := rfl
theorem rv_2 {a b : AV} {l : List AV} : resVA (a :: b :: l) = .tuple (a :: b :: l) := rfl

/-- a round -/
def kLp {α : Type} (I : α → AQ) (μ : α → Nat) (x : α) (R : CExit → AQ) : CExit → AQ
  | .normal, fr, h => ∃ y, μ y < μ x ∧ I y fr h
  | e, fr, h => R e fr h
theorem aloop {α : Type} {b : MCode} (I : α → AQ) (μ : α → Nat) (x : α) (hi : I x fr h) (hr : ∀ x fr h, I x fr h → wpC T K b fr h (kLp I μ x R)) : W T K (.loop b.toC) fr h R :=
  W.rounds I μ (fun x fr h hi => (wpC_ok (hr x fr h hi)).mono fun e fr h hq => by cases e <;> exact hq) x fr h hi
def Nxt {α : Type} (I : α → AQ) (μ : α → Nat) (x : α) (fr : AFr) (h : AH) : Prop := ∃ y, μ y < μ x ∧ I y fr h
theorem e_Lpn {α : Type} {I : α → AQ} {μ : α → Nat} {x : α} : kLp I μ x R .normal fr h = Nxt I μ x fr h := rfl
theorem e_Lpe {α : Type} {I : α → AQ} {μ : α → Nat} {x : α} {i : Nat} : kLp I μ x R (.exit i) fr h = R (.exit i) fr h := rfl
theorem e_Lpr {α : Type} {I : α → AQ} {μ : α → Nat} {x : α} : kLp I μ x R .ret fr h = R .ret fr h := rfl

theorem AH.le_set {b : Nat} {o : AO} (hb : h.objs b = none) : h.le (h.set b o) :=
  ⟨fun n x hn => by rw [AH.set_ne _ _ (by intro e; subst e; rw [hb] at hn; cases hn)]; exact hn, fun _ _ h => h⟩
theorem AH.le_toks {t : Nat → Option Tok} (ht : ∀ c k, h.toks c = some k → t c = some k) : h.le ⟨h.objs, t⟩ := ⟨fun _ _ h => h, ht⟩
theorem AH.le_setT {b : Nat} {k : Tok} (hb : h.toks b = none) : h.le (h.setT b k) :=
  ⟨fun _ _ h => h, fun n x hn => by rw [AH.setT_toks, if_neg (by intro e; subst e; rw [hb] at hn; cases hn)]; exact hn⟩
def depB (a : AV) (b : Bool) (x : Option (List Nat)) : Option (List Nat) := match a with
  | .bool c => bif c == b then x else some []
  | .tuple [] => some []
  | _ => x
theorem e_dGh {t g : Tmp} {b : Bool} {o : POp} : depG fr ⟨t, some (g, b), o⟩ = depB (fr g) b (depA o (evA fr)) := rfl
theorem e_dBtt {x : Option (List Nat)} : depB (.bool true) true x = x := rfl
theorem e_dBff {x : Option (List Nat)} : depB (.bool false) false x = x := rfl
theorem e_dBtf {x : Option (List Nat)} : depB (.bool true) false x = some [] := rfl
theorem e_dBu {b : Bool} {x : Option (List Nat)} : depB (.tuple []) b x = some [] := rfl
theorem e_dBft {x : Option (List Nat)} : depB (.bool false) true x = some [] := rfl
theorem en_n : entA h .nilm = some [] := rfl
theorem en_f {es : List (AV × AV)} : entA h (.fmap es) = some es := rfl
theorem en_m {b : Nat} : entA h (.map b) = match h.objs b with
    | some (.map es) => some es
    | _ => none := rfl
theorem k_s {s : Bool} {l : List UInt8} : isKeyA s (.str l) = s := rfl
theorem k_i {s : Bool} {k : IntKind} {n : Int} : isKeyA s (.int k n) = !s := rfl
theorem set_comm {b c : Nat} {o o' : AO} (hn : b ≠ c) : (h.set b o).set c o' = (h.set c o').set b o := by
  unfold AH.set
  congr 1
  funext n
  simp only [upd]
  by_cases h1 : n = b <;> by_cases h2 : n = c <;> simp_all
theorem del_set {b c : Nat} {o : AO} (hn : b ≠ c) : (h.set b o).del c = (h.del c).set b o := by
  unfold AH.set AH.del
  congr 1
  funext n
  simp only [upd]
  by_cases h1 : n = b <;> by_cases h2 : n = c <;> simp_all
theorem fa_n {P : Nat → Prop} : (∀ b : Nat, b ∈ ([] : List Nat) → P b) = True := by simp
theorem fa_c {P : Nat → Prop} {a : Nat} {l : List Nat} : (∀ b : Nat, b ∈ a :: l → P b) = (P a ∧ ∀ b : Nat, b ∈ l → P b) := by simp
theorem le_tk {h' : AH} {t : Nat → Option Tok} (hl : h.le h') (ht : ∀ c k, h'.toks c = some k → t c = some k) : h.le (h'.tk t) := ⟨hl.1, fun c k hk => ht c k (hl.2 c k hk)⟩
theorem le_set {h' : AH} {b : Nat} {o : AO} (hl : h.le h') (hb : h.objs b = none) : h.le (h'.set b o) :=
  ⟨fun n x hn => by rw [AH.set_ne _ _ (by intro e; subst e; rw [hb] at hn; cases hn)]; exact hl.1 n x hn, hl.2⟩
theorem le_del {h' : AH} {b : Nat} (hl : h.le h') (hb : h.objs b = none) : h.le (h'.del b) :=
  ⟨fun n x hn => by rw [AH.del_objs, if_neg (by intro e; subst e; rw [hb] at hn; cases hn)]; exact hl.1 n x hn, hl.2⟩
theorem Wk.lstE {E E' : TypeId} {es : List (List AV)} {t : Tag} (h : es ≠ [] → E' = E) : Wk (.lst E' es t) (.lst E es .no) := by
  by_cases he : es = []
  · subst he; exact .trans (.tag _ _ _) (.noE _ _)
  · rw [h he]; exact .tag _ _ _
theorem AH.set_none {b n : Nat} {o : AO} : (h.set b o).objs n = none ↔ n ≠ b ∧ h.objs n = none := by
  rw [AH.set_objs]
  by_cases e : n = b
  · simp [e]
  · simp [e]
theorem AH.eq_toks : (⟨h.objs, h.toks⟩ : AH) = h := rfl

/-- a map that is written no more -/
theorem fz_rp {F : Nat → Nat} {σ : CW} {n : Nat} {es : List (AV × AV)} {v : Value} (hF : F n = 1) (he : ∃ es' ver, σ.heap n = some (.map es' ver) ∧ EntR F σ es es') (hr : Rp F σ (.map n) v) : Rp F σ (.fmap es) v := by
  obtain ⟨es', ver, hh, hE⟩ := he
  cases hr
  exact .fmap hh (by omega) hE.1 (fun i p q hp hq => (hE.2 i p q hp hq).1) fun i p q hp hq => (hE.2 i p q hp hq).2
theorem Frz.map0 {n : Nat} {es : List (AV × AV)} (ho : h.objs n = some (.map es)) (hl : h0.le (h.del n)) : Frz (.map n) h (.fmap es) h0 :=
  .map ho (fun F σ v hF he hr => fz_rp hF he hr) (.drop hl (.refl _ _))
theorem Frz.map1 {n : Nat} {es : List (AV × AV)} (ho : h.objs n = some (.map es)) (hl : h0.le (h.del n)) : Frz (.agg [.map n]) h (.agg [.fmap es]) h0 := by
  refine .map ho (fun F σ v hF he hr => ?_) (.drop hl (.refl _ _))
  cases hr with
  | agg hl h =>
    refine .agg hl fun i x y hx hy => ?_
    match i, hx with
    | 0, hx =>
      cases hx
      exact fz_rp hF he (h 0 _ y rfl hy)

/-- how long a list may be that lies behind a pointer, or in an aggregate -/
theorem W.boundR {c : CCode} {Q : CExit → AFr → AH → Prop} {t : Tmp} {cs : List AV} (i : Nat) {E : TypeId} {es : List (List AV)} {tag : Tag} (ht : fr t = .rptr cs) (hi : cs[i]? = some (.lst E es tag)) (hc : es.length ≤ big → W T K c fr h Q) : W T K c fr h Q := by
  intro F σ frC hA hK hf
  refine hc ?_ F σ frC hA hK hf
  have hr := hf t
  rw [ht] at hr
  generalize frC t = v at hr
  cases hr with
  | @rptr _ b off cc E' cl rel hb h0 hF hl hv =>
    have hil := (List.getElem?_eq_some_iff.1 hi).1
    exact (hv i _ _ hi (List.getElem?_eq_getElem (by omega))).lst_big
theorem W.boundA {c : CCode} {Q : CExit → AFr → AH → Prop} {t : Tmp} {cs : List AV} (i : Nat) {E : TypeId} {es : List (List AV)} {tag : Tag} (ht : fr t = .agg cs) (hi : cs[i]? = some (.lst E es tag)) (hc : es.length ≤ big → W T K c fr h Q) : W T K c fr h Q := by
  intro F σ frC hA hK hf
  refine hc ?_ F σ frC hA hK hf
  have hr := hf t
  rw [ht] at hr
  generalize frC t = v at hr
  cases hr with
  | agg hl hv =>
    have hil := (List.getElem?_eq_some_iff.1 hi).1
    exact (hv i _ _ hi (Array.getElem?_eq_getElem (by omega))).lst_big

-- what is less known
theorem Wk.list {E : TypeId} {es ds : List (List AV)} {t : Tag} (hl : es.length = ds.length) (hs : ∀ (i : Nat) (x y : List AV), es[i]? = some x → ds[i]? = some y → x.length = y.length ∧ ∀ (j : Nat) (a b : AV), x[j]? = some a → y[j]? = some b → Wk a b) : Wk (.lst E es t) (.lst E ds t) := by
  refine .lst hl (fun i x y hx hy => (hs i x y hx hy).1) ?_
  clear t
  induction es generalizing ds with
  | nil =>
    intro i x y hx
    simp at hx
  | cons e es ih =>
    cases ds with
    | nil => cases hl
    | cons d ds =>
      have h0 := hs 0 e d rfl rfl
      intro i x y hx hy
      simp only [List.flatten_cons] at hx hy
      by_cases hi : i < e.length
      · rw [List.getElem?_append_left hi] at hx
        rw [List.getElem?_append_left (by omega)] at hy
        exact h0.2 i x y hx hy
      · rw [List.getElem?_append_right (by omega)] at hx
        rw [List.getElem?_append_right (by omega), ← h0.1] at hy
        exact ih (by simpa using hl) (fun i x y hx hy => hs (i + 1) x y hx hy) _ x y hx hy
def WkL : List AV → List AV → Prop
  | [], [] => True
  | a :: l, b :: m => Wk a b ∧ WkL l m
  | _, _ => False
theorem WkL.len : ∀ {l m : List AV}, WkL l m → l.length = m.length
  | [], [], _ => rfl
  | a :: l, b :: m, h => by simp [h.2.len]
theorem WkL.get : ∀ {l m : List AV}, WkL l m → ∀ (i : Nat) (x y : AV), l[i]? = some x → m[i]? = some y → Wk x y
  | [], [], _, i, x, y, hx, _ => by simp at hx
  | a :: l, b :: m, h, 0, x, y, hx, hy => by simp at hx hy; subst hx hy; exact h.1
  | a :: l, b :: m, h, i + 1, x, y, hx, hy => h.2.get i x y (by simpa using hx) (by simpa using hy)
theorem WkL.refl : ∀ (l : List AV), WkL l l
  | [] => trivial
  | a :: l => ⟨.refl a, WkL.refl l⟩
theorem Wk.aggL {cs ds : List AV} (h : WkL cs ds) : Wk (.agg cs) (.agg ds) := .agg h.len h.get
theorem Wk.tupL {cs ds : List AV} (h : WkL cs ds) : Wk (.tuple cs) (.tuple ds) := .tuple h.len h.get
theorem Wk.rptrL {cs ds : List AV} (h : WkL cs ds) : Wk (.rptr cs) (.rptr ds) := .rptr h.len h.get
def WkLL : List (List AV) → List (List AV) → Prop
  | [], [] => True
  | a :: l, b :: m => WkL a b ∧ WkLL l m
  | _, _ => False
theorem WkLL.get : ∀ {l m : List (List AV)}, WkLL l m → l.length = m.length ∧ ∀ (i : Nat) (x y : List AV), l[i]? = some x → m[i]? = some y → WkL x y
  | [], [], _ => ⟨rfl, fun i x y hx _ => by simp at hx⟩
  | a :: l, b :: m, h => ⟨by simp [h.2.get.1], fun i x y hx hy => by
    match i, hx, hy with
    | 0, hx, hy => simp at hx hy; subst hx hy; exact h.1
    | i + 1, hx, hy => exact h.2.get.2 i x y (by simpa using hx) (by simpa using hy)⟩
theorem Wk.lstL {E : TypeId} {t : Tag} {es ds : List (List AV)} (h : WkLL es ds) : Wk (.lst E es t) (.lst E ds t) :=
  .list h.get.1 fun i x y hx hy => ⟨(h.get.2 i x y hx hy).len, fun j a b ha hb => (h.get.2 i x y hx hy).get j a b ha hb⟩
theorem Pure.weakL {T : Nat → Option CFun} {f : Nat} {args args' : List AV} {a : AV} (hp : Pure T f args' a) (hw : WkL args args') : Pure T f args a := hp.weak hw.len hw.get
/-- a list whose tag is let go -/
theorem Wk.no (E : TypeId) (es : List (List AV)) (t : Tag) : Wk (.lst E es t) (.lst E es .no) := .tag E es t

end
end Go.Cn
