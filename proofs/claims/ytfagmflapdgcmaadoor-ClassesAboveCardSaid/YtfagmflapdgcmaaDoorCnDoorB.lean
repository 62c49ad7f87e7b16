/- From what is laid to how the variables lie. -/
import Derived.Test.YtfagmflapdgcmaaDoorCnGlue0
import Derived.LaidLaws
import Derived.Stop.LaidErr
import Derived.LaidHandle
import Derived.ProofKit
import Derived.Lay
namespace Go.Cn.Dr
open Go.ChangeShapes Go.WideShapes
set_option linter.unusedVariables false
set_option linter.unusedSimpArgs false

/-- no type of bytes is laid out as this one -/
def noU8 (P : Program) (te : TypeId) : Bool := (List.range P.types.size).all fun t => !(isU8 P t && sameLayout P P.depth t te)

theorem liesAt_u8 {P : Program} {te row : TypeId} {fs : Array Field} (hn : noU8 P te = true) (he : P.underlying te = some (.struct fs)) (hu : P.underlying row = some (.int .u8)) (d count off n : Nat) : liesAt P d row count off te n = false := by
  have hs : sameLayout P P.depth row te = false := by
    unfold noU8 at hn
    have := List.all_eq_true.1 hn row (List.mem_range.2 (u8_lt hu))
    have h8 : isU8 P row = true := by simp [isU8, hu]
    simpa [h8] using this
  have hr : ∀ (d c o : Nat), rowAt P (sameLayout P P.depth · te) d row c o n = false := by
    intro d c o
    cases d with
    | zero => rfl
    | succ d =>
      unfold rowAt
      simp only [hs, hu, Bool.and_false, Bool.or_false, ite_self]
  cases d with
  | zero => rfl
  | succ d =>
    unfold liesAt
    rw [hr, he]; rfl

/-- One variable, as it is laid. -/
theorem sen_of_laid {P : Program} {n nm : String} {text : List UInt8} {r : List (String × DataW Unit)} {W : World} {g : Nat} {ti tp te ts : TypeId} {ms : Array (String × TypeId)} {f : Field}
    (h : laidMet P ((n, .iface nm (.ptr (.agg [.lit (.string text)]))) :: r) W)
    (hg : P.globalNamed n = some g) (ht : (P.globals[g]?).map (·.type) = some ti) (hi : P.underlying ti = some (.interface ms)) (hrow : ∀ u, P.typeName? 3 u = some nm → u = tp)
    (hp : P.underlying tp = some (.pointer te)) (he : P.underlying te = some (.struct #[f])) (hft : f.type = ts) (hfo : f.offset = 0) (hs : P.underlying ts = some .string) (hc : P.cellsOf te = 1) (hcs : P.cellsOf ts = 1) (hnu : noU8 P te = true) :
    ∃ (a : Addr) (t : TypeId) (c : Array Value), (∃ fr, W.heap[g]? = some (.cells #[.iface tp (.pointer (some a))] t fr)) ∧ a.spot = none ∧ ∃ u, W.heap[a.block]? = some (.cells c u (0, 0)) ∧ c[a.off]? = some (.string ⟨⟨text⟩⟩) ∧ P.underlying u ≠ some (.int .u8) := by
  obtain ⟨ps, ⟨g0, t0, cs0, f0, p0, q0, hg0, ht0, hv0, hd0, _, e0⟩, _, hrows⟩ := h
  obtain rfl := Option.some.inj (hg.symm.trans hg0)
  obtain rfl := Option.some.inj (ht.symm.trans ht0)
  subst e0
  obtain ⟨l0⟩ := cs0
  have ok0 : ∀ u v, l0 = [.iface u v] → Value.okWide P W .any 0 u v := fun u v e => by
    subst e
    exact (hrows g 0 (by simp [MemPlace.row])).2 u v (by simpa using World.var?_cell hg0 hv0 0)
  obtain ⟨a0, s0, rfl, hc0, hs0, hz0, hp0⟩ := errorString_of_trod hi hrow hp he hft hfo hs hc hcs hd0 ok0
  have hok := ok0 _ _ rfl
  have hhas : W.has P .any 0 a0 te 1 := by
    unfold Value.okWide at hok
    simp only [hp] at hok
    unfold Cell.okWide at hok
    simpa [hp, Cell.ok] using hok
  obtain ⟨_, hsp, row, cells, hsh, hlie⟩ := hhas
  have hmem : MemPlace.cell a0.block a0.off ∈ MemPlace.row ⟨g, 0, none⟩ (#[Value.iface tp (.pointer (some a0))] : Array Value).size ++ (p0 ++ q0) := by
    subst hp0
    refine List.mem_append_right _ (List.mem_append_left _ (MemPlace.mem_row.2 ⟨0, by omega, by simp⟩))
  obtain ⟨⟨c, u, hh⟩, _⟩ := hrows a0.block a0.off (by simpa using hmem)
  refine ⟨a0, ?_⟩
  have hvar : ∃ t fr, W.heap[g]? = some (.cells #[.iface tp (.pointer (some a0))] t fr) := by
    unfold World.var? at hv0
    rw [hg0] at hv0
    simp only [Option.bind_some] at hv0
    split at hv0
    · rename_i cs t fr hq
      cases hv0
      exact ⟨t, fr, hq⟩
    · cases hv0
  obtain ⟨t, fr, hvar⟩ := hvar
  refine ⟨t, c, ⟨fr, hvar⟩, hsp, u, hh, ?_, ?_⟩
  · have e : a0 = ⟨a0.block, a0.off, none⟩ := addr_eq hsp
    rw [e] at hc0
    unfold World.cell? at hc0
    simp only [hh] at hc0
    have es : s0 = ⟨⟨text⟩⟩ := by
      subst hs0
      cases s0 with
      | mk d => cases d; rfl
    rw [← es]; simpa using hc0
  · intro hu
    unfold World.shape? at hsh
    rw [hh] at hsh
    simp only [Option.some.injEq, Prod.mk.injEq] at hsh
    obtain ⟨rfl, _⟩ := hsh
    rw [liesAt_u8 hnu he hu] at hlie
    cases hlie

/-- variables by name, with their places and texts -/
abbrev SenN := String × Nat × List UInt8
def laidS {H : Type} (nm : String) (x : SenN) : String × DataW H := (x.1, .iface nm (.ptr (.agg [.lit (.string x.2.2)])))
def okN (P : Program) (ti : TypeId) (l : List SenN) : Bool := l.all fun x => P.globalNamed x.1 == some x.2.1 && (P.globals[x.2.1]?).map (·.type) == some ti && decide (x.2.1 < P.globals.size)
/-- the variables' types at the start -/
noncomputable def okS (P : Program) (l : List SenN) : Bool := (l.all fun x => match (((begin P (fun _ _ => 0) default).world).heap[x.2.1]?).bind Obj.row? with | some (_, t) => !isU8 P t | none => false) &&
  match (((begin P (fun _ _ => 0) default).world).heap[P.globals.size - 1]?).bind Obj.row? with | some _ => true | none => false
def okD' : List SenN → Bool
  | [] => true
  | x :: l => l.all (fun y => x.2.2 != y.2.2) && okD' l

def typeAt (W : World) (b : Nat) : TypeId := match W.heap[b]? with | some (.cells _ t _) => t | _ => 0
def sizeAt (W : World) (b : Nat) : Nat := match W.heap[b]? with | some (.cells c _ _) => c.size | _ => 0

theorem sens_of_laid {P : Program} {nm : String} {W : World} {ti tp te ts : TypeId} {ms : Array (String × TypeId)} {f : Field}
    (hi : P.underlying ti = some (.interface ms)) (hrow : ∀ u, P.typeName? 3 u = some nm → u = tp)
    (hp : P.underlying tp = some (.pointer te)) (he : P.underlying te = some (.struct #[f])) (hft : f.type = ts) (hfo : f.offset = 0) (hs : P.underlying ts = some .string) (hc : P.cellsOf te = 1) (hcs : P.cellsOf ts = 1) (hnu : noU8 P te = true) :
    ∀ {l : List SenN}, okN P ti l = true → laidMet P (l.map (laidS nm)) W → ∀ (i : Nat) (x : SenN), l[i]? = some x →
      ∃ (a : Addr) (t : TypeId) (c : Array Value), (∃ fr, W.heap[x.2.1]? = some (.cells #[.iface tp (.pointer (some a))] t fr)) ∧ a.spot = none ∧ ∃ u, W.heap[a.block]? = some (.cells c u (0, 0)) ∧ c[a.off]? = some (.string ⟨⟨x.2.2⟩⟩) ∧ P.underlying u ≠ some (.int .u8)
  | [], _, _, i, x, hx => by simp at hx
  | y :: l, hn, hL, i, x, hx => by
    simp only [okN, List.all_cons, Bool.and_eq_true, beq_iff_eq, decide_eq_true_eq] at hn
    match i, hx with
    | 0, hx =>
      simp only [List.getElem?_cons_zero, Option.some.injEq] at hx
      subst hx
      exact sen_of_laid hL hn.1.1.1 hn.1.1.2 hi hrow hp he hft hfo hs hc hcs hnu
    | i + 1, hx => exact sens_of_laid hi hrow hp he hft hfo hs hc hcs hnu (l := l) hn.2 (laidMet.tail hL) i x (by simpa using hx)

theorem okD_ok : ∀ {l : List SenN}, okD' l = true → ∀ (i j : Nat) (x y : SenN), i < j → l[i]? = some x → l[j]? = some y → x.2.2 ≠ y.2.2
  | [], _, i, j, x, y, _, hx, _ => by simp at hx
  | z :: l, h, i, j, x, y, hij, hx, hy => by
    simp only [okD', Bool.and_eq_true, List.all_eq_true, bne_iff_ne, ne_eq] at h
    match i, j, hij, hx, hy with
    | 0, j + 1, _, hx, hy =>
      simp only [List.getElem?_cons_zero, Option.some.injEq] at hx
      subst hx
      exact h.1 y (List.mem_of_getElem? (by simpa using hy))
    | i + 1, j + 1, hij, hx, hy => exact okD_ok h.2 i j x y (by omega) (by simpa using hx) (by simpa using hy)

theorem doorW_of {P : Program} {nm : String} {W : World} {ti tp te ts : TypeId} {ms : Array (String × TypeId)} {f : Field} {G : Nat} {l : List SenN}
    (hG : P.globals.size = G) (hi : P.underlying ti = some (.interface ms)) (hrow : ∀ u, P.typeName? 3 u = some nm → u = tp)
    (hp : P.underlying tp = some (.pointer te)) (he : P.underlying te = some (.struct #[f])) (hft : f.type = ts) (hfo : f.offset = 0) (hs : P.underlying ts = some .string) (hc : P.cellsOf te = 1) (hcs : P.cellsOf ts = 1) (hnu : noU8 P te = true)
    (hn : okN P ti l = true) (hS : okS P l = true) (hD : okD' l = true) (hopen : W.ShapedOpen P) (hL : laidMet P (l.map (laidS nm)) W) :
    ∃ E A N, DoorW P W G tp (l.map (·.2)) E A N := by
  classical
  have hall := sens_of_laid hi hrow hp he hft hfo hs hc hcs hnu hn hL
  have hall' : ∀ k : Nat, ∃ a : Addr, ∀ x : SenN, l[k]? = some x → ∃ (t : TypeId) (c : Array Value), (∃ fr, W.heap[x.2.1]? = some (.cells #[.iface tp (.pointer (some a))] t fr)) ∧ a.spot = none ∧ ∃ u, W.heap[a.block]? = some (.cells c u (0, 0)) ∧ c[a.off]? = some (.string ⟨⟨x.2.2⟩⟩) ∧ P.underlying u ≠ some (.int .u8) := by
    intro k
    cases e : l[k]? with
    | none => exact ⟨⟨0, 0, none⟩, fun x hx => by cases hx⟩
    | some x =>
      obtain ⟨a, h⟩ := hall k x e
      exact ⟨a, fun y hy => by cases hy; exact h⟩
  obtain ⟨A, hA⟩ := Classical.axiomOfChoice hall'
  simp only [okS, Bool.and_eq_true, List.all_eq_true] at hS
  obtain ⟨hS1, hS2⟩ := hS
  have hsize : P.globals.size ≤ W.heap.size := by
    rcases Nat.eq_zero_or_pos P.globals.size with h0 | h0
    · omega
    · cases e : ((begin P (fun _ _ => 0) default).world.heap[P.globals.size - 1]?).bind Obj.row? with
      | none => rw [e] at hS2; cases hS2
      | some zt =>
        obtain ⟨z, t⟩ := zt
        obtain ⟨cs, h1, _⟩ := hopen.1 (P.globals.size - 1) z t (by omega) e
        rcases Nat.lt_or_ge (P.globals.size - 1) W.heap.size with h2 | h2
        · omega
        · rw [Array.getElem?_eq_none h2] at h1; cases h1
  have hnl : ∀ x ∈ l, x.2.1 < P.globals.size := fun x hx => by
    have := List.all_eq_true.1 hn x hx
    simp only [Bool.and_eq_true, decide_eq_true_eq] at this
    exact this.2
  refine ⟨fun b => if b < G then typeAt W b else typeAt W (A (b - G)).block, A, fun k => sizeAt W (A k).block, hG, by rw [← hG]; exact hsize, fun i s hs => ?_, fun i s hs => ?_, fun i j s t hij hs ht => ?_, fun hu => by rw [hp] at hu; cases hu⟩
  · simp only [List.getElem?_map, Option.map_eq_some_iff] at hs
    obtain ⟨x, hx, rfl⟩ := hs
    have hm := List.mem_of_getElem? hx
    have hlt : x.2.1 < G := by rw [← hG]; exact hnl x hm
    obtain ⟨t, c, ⟨fr, h1⟩, _⟩ := hA i x hx
    have h2 := hS1 x hm
    cases e : ((begin P (fun _ _ => 0) default).world.heap[x.2.1]?).bind Obj.row? with
    | none => rw [e] at h2; cases h2
    | some zt =>
      obtain ⟨z, u⟩ := zt
      rw [e] at h2
      simp only [Bool.not_eq_true'] at h2
      obtain ⟨cs, h3, _⟩ := hopen.1 x.2.1 z u (hnl x hm) e
      have hty : typeAt W x.2.1 = t := by unfold typeAt; rw [h1]
      rw [h1] at h3
      simp only [Option.some.injEq, Obj.cells.injEq] at h3
      obtain ⟨h4, h5, h6⟩ := h3
      refine ⟨hlt, ?_, ?_⟩
      · rw [if_pos hlt, hty, h1, h6]
      · rw [if_pos hlt, hty, h5]
        intro hu
        simp [isU8, hu] at h2
  · simp only [List.getElem?_map, Option.map_eq_some_iff] at hs
    obtain ⟨x, hx, rfl⟩ := hs
    obtain ⟨t, c, _, h2, u, h3, h4, h5⟩ := hA i x hx
    have e1 : typeAt W (A i).block = u := by unfold typeAt; rw [h3]
    have e2 : sizeAt W (A i).block = c.size := by unfold sizeAt; rw [h3]
    refine ⟨h2, c, ?_, e2.symm, h4, ?_⟩
    · rw [if_neg (by omega), show G + i - G = i by omega, e1]; exact h3
    · rw [if_neg (by omega), show G + i - G = i by omega, e1]; exact h5
  · simp only [List.getElem?_map, Option.map_eq_some_iff] at hs ht
    obtain ⟨x, hx, rfl⟩ := hs
    obtain ⟨y, hy, rfl⟩ := ht
    rcases Nat.lt_or_gt_of_ne hij with h | h
    · exact okD_ok hD i j x y h hx hy
    · exact fun e => okD_ok hD j i y x h hy hx e.symm

/-- a list of plain data -/
theorem laidH_plain {P : Program} {laid : List (String × DataW Unit)} {w : World} (h : (laid.all fun x => x.2.handleName?.isNone) = true) : laidMetH P laid w = laidMet P laid w := by
  have e : (laid.filter fun x => x.2.handleName?.isSome) = [] := by
    rw [List.filter_eq_nil_iff]
    intro x hx hs
    have := List.all_eq_true.1 h x hx
    cases hn : x.2.handleName? with
    | none => rw [hn] at hs; cases hs
    | some s => rw [hn] at this; cases this
  unfold laidMetH
  rw [e]

/-- .. and what the variables look like is known, too -/
theorem returnsInHanded_of_door {H : Type} {enc : TypeId × Value → H} {a : Assume} {C : Checked} {os : Os} {f : FuncId} {fn : Func} {s : ChangeSpec} {conds : List PathCond} {apart fresh handsOn again : Bool} {X : World → Array Value → Prop}
    (hX : ∀ (w w' : World) (args : Array Value), w.heap = w'.heap → X w args → X w' args)
    (own : ownKnob C.prog.godebug = none) (started : os.Started) (noInit : C.prog.inits.idxOf? f = none) (hfn : C.prog.funcs[f]? = some fn)
    (witness : ∃ (w : World) (tape : Tape) (i : Input), w.os = os ∧ (w.forCall tape i).Shaped C.prog ∧ i.vars = [] ∧ Input.okWide C.prog (w.forCall tape i) .any w.heap.size f i ∧
      ((s.pre enc C.prog fn conds apart (w.forCall tape i).memory i.args ∧ X (w.forCall tape i).memory i.args) ∧ sizedMet enc C.prog fn (OpenSpec.ofChange s) apart (w.forCall tape i).memory i.args) ∧ a.holds C.prog (lone (Frame.enter C.prog f i.args .normal) [] (w.forCall tape i)))
    (contract : ∀ (W : World) (base : Nat) (args : Array Value) (ds gs : List (DataW H)) (before : List MemPlace), W.ShapedOpen C.prog →
      (∀ (j : Nat) t v, fn.params[j]? = some t → args[j]? = some v → Value.okWide C.prog W .any base t v) →
      DataW.Whole enc C.prog fn.params.toList s.vars apart W args.toList ds gs before → X W args →
      Calls C.prog f args W fun e W' => ∃ v, e = .returned v ∧ s.post enc C.prog fn apart fresh handsOn again W args v W') :
    ReturnsInHanded a C os f .any (fun w args => (s.pre enc C.prog fn conds apart w args ∧ X w args) ∧ sizedMet enc C.prog fn (OpenSpec.ofChange s) apart w args) (s.post enc C.prog fn apart fresh handsOn again) := by
  refine returnsInHanded_of_calls own started noInit witness ?_
  intro w tape i _ hopen _ hok hpre hholds
  obtain ⟨_, _, _, fn', hfn', _, _, _, _, hval⟩ := hok
  have e : fn' = fn := Option.some.inj (hfn'.symm.trans hfn)
  subst e
  obtain ⟨⟨⟨ds, gs, before, hw, hc⟩, hx⟩, hz⟩ := hpre
  have hw' := DataW.Whole.of_heap (w' := w.forCall tape i) (by rfl) hw
  refine (contract (w.forCall tape i) w.heap.size i.args ds gs before hopen hval hw' (hX _ _ _ (by rfl) hx)).mono fun e W' ⟨v, he, hp⟩ => ?_
  subst he
  exact ChangeSpec.post_blind hp
end Go.Cn.Dr
