/- Package-level variables that hold errors made by errors.New: the canonical machine ahead of a run of a program that has such. -/
import Derived.Test.YtjagadjljllabaaGreatDoorCnEvCut
import Derived.Test.YtjagadjljllabaaGreatDoorCnGlue0
namespace Go.Cn.Ev
set_option linter.unusedVariables false
set_option linter.unusedSimpArgs false

/-- a variable's place among the variables, its error's text -/
abbrev Sen := Nat × List UInt8

section
variable (G : Nat) (tp : TypeId) (gs : List Sen) (E : Nat → TypeId)
def senAt (b : Nat) : List Sen → Nat → Option Nat
  | [], _ => none
  | s :: l, i => if s.1 = b then some i else senAt b l (i + 1)
def gRow (b : Nat) : EObj := match senAt b gs 0 with
  | some i => .cells [.iface tp (.pointer (some ⟨G + i, 0, none⟩))] (E b) b 0
  | none => .dead
def gRows : Nat → Nat → List EObj
  | 0, _ => []
  | n + 1, b => gRow G tp gs E b :: gRows n (b + 1)
def sRows : List Sen → Nat → List EObj
  | [], _ => []
  | s :: l, b => .cells [.string ⟨⟨s.2⟩⟩] (E b) b 0 :: sRows l (b + 1)
def rowsD : List EObj := gRows G tp gs E G 0 ++ sRows E gs G
end

theorem senAt_some {b : Nat} : ∀ {l : List Sen} {k i : Nat}, senAt b l k = some i → ∃ s, k ≤ i ∧ l[i - k]? = some s ∧ s.1 = b
  | [], k, i, h => by cases h
  | s :: l, k, i, h => by
    simp only [senAt] at h
    split at h
    · rename_i e; cases h; exact ⟨s, Nat.le_refl _, by simp, e⟩
    · obtain ⟨t, h1, h2, h3⟩ := senAt_some h
      refine ⟨t, by omega, ?_, h3⟩
      rw [show i - k = (i - (k + 1)) + 1 by omega]; simpa using h2

section
variable {G : Nat} {tp : TypeId} {gs : List Sen} {E : Nat → TypeId}
theorem gRows_get : ∀ (n b j : Nat), (gRows G tp gs E n b)[j]? = if j < n then some (gRow G tp gs E (b + j)) else none
  | 0, b, j => by simp [gRows]
  | n + 1, b, 0 => by simp [gRows]
  | n + 1, b, j + 1 => by
    simp only [gRows, List.getElem?_cons_succ, gRows_get n (b + 1) j, Nat.add_lt_add_iff_right]
    rw [show b + 1 + j = b + (j + 1) by omega]
theorem gRows_len (n b : Nat) : (gRows G tp gs E n b).length = n := by
  induction n generalizing b with
  | zero => rfl
  | succ n ih => simp [gRows, ih]
theorem sRows_get : ∀ (l : List Sen) (b j : Nat), (sRows E l b)[j]? = (l[j]?).map fun s => .cells [.string ⟨⟨s.2⟩⟩] (E (b + j)) (b + j) 0
  | [], b, j => by simp [sRows]
  | s :: l, b, 0 => by simp [sRows]
  | s :: l, b, j + 1 => by
    simp only [sRows, List.getElem?_cons_succ, sRows_get l (b + 1) j]
    rw [show b + 1 + j = b + (j + 1) by omega]
theorem sRows_len (l : List Sen) (b : Nat) : (sRows E l b).length = l.length := by
  induction l generalizing b with
  | nil => rfl
  | cons s l ih => simp [sRows, ih]
theorem rowsD_len : (rowsD G tp gs E).length = G + gs.length := by simp [rowsD, gRows_len, sRows_len]
theorem rowsD_get (b : Nat) : (rowsD G tp gs E)[b]? = if b < G then some (gRow G tp gs E b) else (gs[b - G]?).map fun s => .cells [.string ⟨⟨s.2⟩⟩] (E b) b 0 := by
  unfold rowsD
  by_cases h : b < G
  · rw [if_pos h, List.getElem?_append_left (by rw [gRows_len]; exact h), gRows_get, if_pos h, Nat.zero_add]
  · rw [if_neg h, List.getElem?_append_right (by rw [gRows_len]; omega), gRows_len, sRows_get, show G + (b - G) = b by omega]
end

/-- the evaluator's memory of rows -/
noncomputable def ofL : List EObj → Nat → FT EObj := @List.rec EObj (fun _ => Nat → FT EObj) (fun _ => .nil) (fun o _ ih n => setP o (path n) (ih (Nat.add n 1)))
theorem ofL_get (l : List EObj) : ∀ (k n : Nat), getP (path n) (ofL l k) = if k ≤ n then l[n - k]? else none := by
  induction l with
  | nil =>
    intro k n
    show getP (path n) (.nil : FT EObj) = _
    rw [get_nil]; simp
  | cons o l ih =>
    intro k n
    show getP (path n) (setP o (path k) (ofL l (k + 1))) = _
    have h1 : getP (path n) (setP o (path k) (ofL l (k + 1))) = if n = k then some o else getP (path n) (ofL l (k + 1)) := congrFun (set_path o k (ofL l (k + 1))) n
    rw [h1, ih (k + 1) n]
    by_cases e : n = k
    · subst e; simp
    · rw [if_neg e]
      by_cases h2 : k + 1 ≤ n
      · rw [if_pos h2, if_pos (by omega), show n - k = (n - (k + 1)) + 1 by omega]; simp
      · rw [if_neg h2, if_neg (by omega)]
noncomputable def hD (rs : List EObj) : HS := ⟨ofL rs 0, lenE rs, lenE rs, lenE rs, .nil⟩
theorem hD_heap (rs : List EObj) (b : Nat) : (den E0 (hD rs)).heap b = (rs[b]?).map (denO none) := by
  show (getP (path b) (ofL rs 0)).map (denO none) = _
  rw [ofL_get, if_pos (Nat.zero_le _)]; rfl

/-- How the variables lie. 'A': where an error is, 'N': how many cells its block has. -/
structure DoorW (P : Program) (W : World) (G : Nat) (tp : TypeId) (gs : List Sen) (E : Nat → TypeId) (A : Nat → Addr) (N : Nat → Nat) : Prop where
  gsize : P.globals.size = G
  size : G ≤ W.heap.size
  glob : ∀ (i : Nat) (s : Sen), gs[i]? = some s → s.1 < G ∧ W.heap[s.1]? = some (Obj.cells #[.iface tp (.pointer (some (A i)))] (E s.1) (0, 0)) ∧ P.underlying (E s.1) ≠ some (.int .u8)
  ptr : ∀ (i : Nat) (s : Sen), gs[i]? = some s → (A i).spot = none ∧ ∃ c, W.heap[(A i).block]? = some (Obj.cells c (E (G + i)) (0, 0)) ∧ c.size = N i ∧ c[(A i).off]? = some (Value.string ⟨⟨s.2⟩⟩) ∧ P.underlying (E (G + i)) ≠ some (.int .u8)
  dis : ∀ (i j : Nat) (s t : Sen), i ≠ j → gs[i]? = some s → gs[j]? = some t → s.2 ≠ t.2
  utp : P.underlying tp ≠ some (.int .u8)

def bD (G : Nat) (tp : TypeId) (gs : List Sen) (E : Nat → TypeId) (A : Nat → Addr) (N : Nat → Nat) : Ren := fun b =>
  if b < G then match senAt b gs 0 with
    | some i => some ⟨b, 0, 1, E b, true⟩
    | none => some ⟨b, 0, 0, tp, true⟩
  else match gs[b - G]? with
    | some s => some ⟨(A (b - G)).block, (A (b - G)).off, N (b - G), E b, true⟩
    | none => none

section
variable {P : Program} {W : World} {G : Nat} {tp : TypeId} {gs : List Sen} {E : Nat → TypeId} {A : Nat → Addr} {N : Nat → Nat}

/-- the three kinds of rows -/
inductive RowK (W : World) (G : Nat) (tp : TypeId) (gs : List Sen) (E : Nat → TypeId) (A : Nat → Addr) (N : Nat → Nat) (b : Nat) (i : BI) : EObj → Prop where
  | free (hb : b < G) (hi : i = ⟨b, 0, 0, tp, true⟩) : RowK W G tp gs E A N b i .dead
  | glob (k : Nat) (s : Sen) (hb : b < G) (hk : gs[k]? = some s) (hs : s.1 = b) (hi : i = ⟨b, 0, 1, E b, true⟩) : RowK W G tp gs E A N b i (.cells [.iface tp (.pointer (some ⟨G + k, 0, none⟩))] (E b) b 0)
  | sen (k : Nat) (s : Sen) (hb : b = G + k) (hk : gs[k]? = some s) (hi : i = ⟨(A k).block, (A k).off, N k, E b, true⟩) : RowK W G tp gs E A N b i (.cells [.string ⟨⟨s.2⟩⟩] (E b) b 0)

theorem bD_row {b : Nat} {i : BI} (h : bD G tp gs E A N b = some i) : ∃ o, (rowsD G tp gs E)[b]? = some o ∧ RowK W G tp gs E A N b i o := by
  rw [rowsD_get]
  unfold bD at h
  by_cases hb : b < G
  · rw [if_pos hb] at h ⊢
    refine ⟨_, rfl, ?_⟩
    unfold gRow
    cases e : senAt b gs 0 with
    | none => rw [e] at h; cases h; exact .free hb rfl
    | some k =>
      rw [e] at h; cases h
      obtain ⟨s, _, h2, h3⟩ := senAt_some e
      exact .glob k s hb (by simpa using h2) h3 rfl
  · rw [if_neg hb] at h ⊢
    cases e : gs[b - G]? with
    | none => rw [e] at h; cases h
    | some s =>
      rw [e] at h; cases h
      exact ⟨_, rfl, .sen (b - G) s (by omega) e rfl⟩

theorem bD_glob {s : Sen} {k : Nat} (h : gs[k]? = some s) (A : Nat → Addr) (N : Nat → Nat) : bD G tp gs E A N (G + k) = some ⟨(A k).block, (A k).off, N k, E (G + k), true⟩ := by
  unfold bD
  rw [if_neg (by omega), show G + k - G = k by omega, h]

theorem addr_eq {a : Addr} (h : a.spot = none) : a = ⟨a.block, a.off, none⟩ := by cases a; simp only at h; rw [h]

theorem rel_D (hW : DoorW P W G tp gs E A N) : Rel P (bD G tp gs E A N) (den E0 (hD (rowsD G tp gs E))) W ∧ GOk P (bD G tp gs E A N) := by
  have hlen : lenE (rowsD G tp gs E) = G + gs.length := by rw [lenE_eq, rowsD_len]
  have hro : (den E0 (hD (rowsD G tp gs E))).ro = G + gs.length := hlen
  have hinj : (den E0 (hD (rowsD G tp gs E))).inj = G + gs.length := hlen
  have hnext : (den E0 (hD (rowsD G tp gs E))).next = G + gs.length := hlen
  have hcls : ∀ c, (den E0 (hD (rowsD G tp gs E))).cls c = none := fun c => get_nil _
  have hbl : ∀ b i, bD G tp gs E A N b = some i → b < G + gs.length := by
    intro b i hb
    obtain ⟨o, h1, _⟩ := bD_row (W := W) hb
    have := (List.getElem?_eq_some_iff.1 h1).1
    rw [rowsD_len] at this; exact this
  refine ⟨⟨⟨fun b hb => ?_, fun b c E' cl rel h => ?_, fun c l h => ?_, ?_⟩, fun b i hb => ?_, fun b i o hb ho => ?_, fun b1 b2 i1 i2 hne h1 h2 hB => ?_, fun b i hb => ?_, fun r ir m ver seen hr ho => ?_, ?_⟩, fun g hg => ?_⟩
  · rw [hD_heap, List.getElem?_eq_none (by rw [hnext] at hb; rw [rowsD_len]; exact hb)]; rfl
  · rw [hD_heap] at h
    have hb : b < G + gs.length := by
      rcases Nat.lt_or_ge b (G + gs.length) with h1 | h1
      · exact h1
      · rw [List.getElem?_eq_none (by rw [rowsD_len]; exact h1)] at h; cases h
    have key : rel = 0 ∧ cl = b := by
      rw [rowsD_get] at h
      split at h
      · unfold gRow at h
        split at h
        · simp only [Option.map_some, denO, Option.some.injEq, CObj.cells.injEq] at h; exact ⟨h.2.2.2.symm, h.2.2.1.symm⟩
        · cases h
      · cases e : gs[b - G]? with
        | none => rw [e] at h; cases h
        | some s => rw [e] at h; simp only [Option.map_some, denO, Option.some.injEq, CObj.cells.injEq] at h; exact ⟨h.2.2.2.symm, h.2.2.1.symm⟩
    obtain ⟨rfl, rfl⟩ := key
    refine ⟨?_, by rw [hnext]; exact hb⟩
    unfold CW.members
    rw [hcls, hD_heap, h]
    simp
  · rw [hcls] at h; cases h
  · rw [hro, hnext]; exact Nat.le_refl _
  · refine ⟨by rw [hnext]; exact hbl b i hb, ?_⟩
    obtain ⟨o, _, hk⟩ := bD_row (W := W) hb
    cases hk with
    | free hb hi => subst hi; have := hW.size; show b < _; omega
    | glob k s hb hk hs hi => subst hi; have := hW.size; show b < _; omega
    | sen k s hb hk hi =>
      subst hi
      obtain ⟨_, c, h1, _⟩ := hW.ptr k s hk
      show (A k).block < _
      rcases Nat.lt_or_ge (A k).block W.heap.size with h2 | h2
      · exact h2
      · rw [Array.getElem?_eq_none h2] at h1; cases h1
  · obtain ⟨o', h1, hk⟩ := bD_row (W := W) hb
    rw [hD_heap, h1] at ho
    simp only [Option.map_some, Option.some.injEq] at ho
    subst ho
    cases hk with
    | free hb hi => trivial
    | glob k s hb hk hs hi =>
      subst hi hs
      obtain ⟨_, g1, _⟩ := hW.glob k s hk
      show ObjRel P _ _ _ W.heap[s.1]?
      rw [g1]
      refine ⟨rfl, rfl, rfl, Nat.le_refl _, fun _ => .inl rfl, fun j v hj => ?_⟩
      match j, hj with
      | 0, hj =>
        simp only [List.getElem?_cons_zero, Option.some.injEq] at hj
        subst hj
        refine ⟨_, rfl, .iface ?_⟩
        have := VRel.ptr (P := P) (off := 0) (bD_glob (G := G) (tp := tp) (E := E) hk A N)
        rw [addr_eq (hW.ptr k s hk).1]
        simpa using this
    | sen k s hbb hk hi =>
      subst hi hbb
      obtain ⟨_, c, g1, g2, g3, _⟩ := hW.ptr k s hk
      show ObjRel P _ _ _ W.heap[(A k).block]?
      rw [g1]
      have hoff : (A k).off < c.size := (Array.getElem?_eq_some_iff.1 g3).1
      refine ⟨rfl, rfl, g2, by show 1 + (A k).off ≤ N k; omega, fun _ => .inl rfl, fun j v hj => ?_⟩
      match j, hj with
      | 0, hj =>
        simp only [List.getElem?_cons_zero, Option.some.injEq] at hj
        subst hj
        exact ⟨_, by show c[0 + (A k).off]? = _; rw [Nat.zero_add]; exact g3, .string _⟩
  · refine ⟨⟨fun _ => by rw [hro]; exact hbl b2 i2 h2, fun _ => by rw [hro]; exact hbl b1 i1 h1⟩, ?_⟩
    have hb1 := hbl b1 i1 h1
    obtain ⟨o1, q1, k1⟩ := bD_row (W := W) h1
    obtain ⟨o2, q2, k2⟩ := bD_row (W := W) h2
    rw [hD_heap, hD_heap, q1, q2]
    have gs_no : ∀ {k : Nat} {s : Sen} {j : Nat} {t : Sen}, gs[k]? = some s → gs[j]? = some t → s.1 = (A j).block → False := by
      intro k s j t hk hj he
      obtain ⟨_, g1, _⟩ := hW.glob k s hk
      obtain ⟨_, c, g3, _, g4, _⟩ := hW.ptr j t hj
      rw [← he, g1] at g3
      simp only [Option.some.injEq, Obj.cells.injEq] at g3
      obtain ⟨g3, _⟩ := g3
      subst g3
      match hoff : (A j).off, g4 with
      | 0, g4 => simp at g4
      | n + 1, g4 => simp at g4
    cases k1 with
    | free hb hi => trivial
    | glob k s hb hk hs hi =>
      cases k2 with
      | free hb hi => trivial
      | glob j t hb' hj ht hi' => subst hi hi'; exact absurd hB hne
      | sen j t hb' hj hi' => subst hi hi' hs; exact (gs_no hk hj hB).elim
    | sen k s hb hk hi =>
      cases k2 with
      | free hb hi => trivial
      | glob j t hb' hj ht hi' => subst hi hi' ht; exact (gs_no hj hk hB.symm).elim
      | sen j t hb' hj hi' =>
        subst hi hi' hb hb'
        refine .inl ⟨by rw [hro]; exact hb1, .inr ?_⟩
        intro hsh
        simp only at hB hsh
        obtain ⟨_, c, g1, _, g2, _⟩ := hW.ptr k s hk
        obtain ⟨_, c', g3, _, g4, _⟩ := hW.ptr j t hj
        rw [hB, g3] at g1
        simp only [Option.some.injEq, Obj.cells.injEq] at g1
        obtain ⟨g1, _⟩ := g1
        subst g1
        rw [hsh, g4] at g2
        simp only [Option.some.injEq, Value.string.injEq, ByteArray.mk.injEq, Array.mk.injEq] at g2
        exact hW.dis j k t s (by intro e; subst e; exact hne rfl) hj hk g2
  · obtain ⟨o, q, _⟩ := bD_row (W := W) hb
    exact ⟨_, by rw [hD_heap, q]; rfl⟩
  · obtain ⟨o, q, k⟩ := bD_row (W := W) hr
    rw [hD_heap, q] at ho
    cases k <;> cases ho
  · refine ⟨fun b hb => ?_, fun b i hb _ => ?_⟩
    · rw [hinj] at hb
      unfold bD
      by_cases h1 : b < G
      · rw [if_pos h1]
        cases e : senAt b gs 0 with
        | none => exact ⟨_, rfl, hW.utp⟩
        | some k =>
          obtain ⟨s, _, h2, h3⟩ := senAt_some e
          subst h3
          exact ⟨_, rfl, (hW.glob k s (by simpa using h2)).2.2⟩
      · rw [if_neg h1]
        have hlt : b - G < gs.length := by omega
        rw [List.getElem?_eq_getElem hlt]
        refine ⟨_, rfl, ?_⟩
        obtain ⟨_, c, _, _, _, h2⟩ := hW.ptr (b - G) _ (List.getElem?_eq_getElem hlt)
        rw [show G + (b - G) = b by omega] at h2
        exact h2
    · obtain ⟨o, _, k⟩ := bD_row (W := W) hb
      cases k with
      | free _ hi => subst hi; rfl
      | glob _ _ _ _ _ hi => subst hi; rfl
      | sen _ _ _ _ hi => subst hi; rfl
  · rw [hW.gsize] at hg
    unfold bD
    rw [if_pos hg]
    cases e : senAt g gs 0 with
    | none => exact ⟨_, rfl, rfl, rfl⟩
    | some k => exact ⟨_, rfl, rfl, rfl⟩

/-- A run that answers true, as it is evaluated, of arguments without memory. -/
theorem run_D (hW : DoorW P W G tp gs E A N) (hP : ProgOk P) {T : Nat → Option CFun} (hT : OkT P T) {f : Nat} {args : List Value} (hc : CallA T (.func f) args (den E0 (hD (rowsD G tp gs E))) fun v _ => v = .bool true)
    (hm : LRel P (bD G tp gs E A N) args args) : Calls P f args.toArray W fun e W' => e = .returned (.bool true) ∧ Kept W W' := by
  obtain ⟨hR, hG⟩ := rel_D hW
  have h2 := ((CallA.sim hP hT).func hc hR hG hm).2
  refine (callsIn_wide.1 h2).mono fun e W' ⟨v, v', β', σ', hv, he, hvr, hs⟩ => ⟨?_, ?_⟩
  · subst hv
    rw [he, hvr.bool_inv]
  · refine ⟨fun B hB => hs.afr B hB fun b i hb hr => ?_, hs.size, hs.os, hs.out⟩
    obtain ⟨o, h1, _⟩ := bD_row (W := W) hb
    have := (List.getElem?_eq_some_iff.1 h1).1
    have hro : lenE (rowsD G tp gs E) ≤ b := hr
    rw [lenE_eq] at hro
    omega
end
end Go.Cn.Ev
