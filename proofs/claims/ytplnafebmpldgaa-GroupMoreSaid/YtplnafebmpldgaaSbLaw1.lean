/- Groups: the plain law -/

namespace Go.Proofs.grp
set_option linter.unusedSimpArgs false
set_option linter.unusedVariables false

/-- who needs whom, by one need -/
def Ed (x : List (List Int)) (k y : Nat) : Prop := ∃ row, x[k]? = some row ∧ (y : Int) ∈ row
/-- .. by however many -/
inductive Pl (x : List (List Int)) : Nat → Nat → Prop where
  | one {a b : Nat} (h : Ed x a b) : Pl x a b
  | snoc {a b c : Nat} (h : Pl x a b) (g : Ed x b c) : Pl x a c
theorem Pl.trans {x : List (List Int)} {a b c : Nat} (h : Pl x a b) (g : Pl x b c) : Pl x a c := by
  induction g with
  | one e => exact .snoc h e
  | snoc _ e ih => exact .snoc ih e
theorem Pl.mono {x y : List (List Int)} (h : ∀ a b, Ed x a b → Ed y a b) {a b : Nat} (g : Pl x a b) : Pl y a b := by
  induction g with
  | one e => exact .one (h _ _ e)
  | snoc _ e ih => exact .snoc ih (h _ _ e)
/-- what holds of the first's needs, and goes over to needs, holds of all -/
theorem Pl.closed {x : List (List Int)} {a : Nat} {S : Nat → Prop} (h1 : ∀ b, Ed x a b → S b) (h2 : ∀ b c, S b → Ed x b c → S c) {b : Nat} (g : Pl x a b) : S b := by
  induction g with
  | one e => exact h1 _ e
  | snoc _ e ih => exact h2 _ _ ih e

/-- numbers in their bounds -/
def InR (n : Nat) (x : List (List Int)) : Prop := x.length = n ∧ ∀ row ∈ x, ∀ v ∈ row, 0 ≤ v ∧ v < n
theorem InR.ed {n : Nat} {x : List (List Int)} (h : InR n x) {a b : Nat} (e : Ed x a b) : a < n ∧ b < n := by
  obtain ⟨row, h1, h2⟩ := e
  have ha := (List.getElem?_eq_some_iff.1 h1).1
  have := h.2 row (List.mem_of_getElem? h1) b h2
  have := h.1
  omega
theorem InR.pl {n : Nat} {x : List (List Int)} (h : InR n x) {a b : Nat} (e : Pl x a b) : a < n ∧ b < n := by
  induction e with
  | one e => exact h.ed e
  | snoc _ e ih => exact ⟨ih.1, (h.ed e).2⟩

/-- a matrix, read -/
def at2 (A : List (List Bool)) (k y : Nat) : Bool := match A[k]? with
  | some r => r.getD y false
  | none => false
/-- the matrix of who needs whom by however many -/
def IsM (n : Nat) (x : List (List Int)) (A : List (List Bool)) : Prop := A.length = n ∧ (∀ r ∈ A, r.length = n) ∧ ∀ k y, k < n → y < n → (at2 A k y = true ↔ Pl x k y)
def IsR (n : Nat) (x : List (List Int)) (k : Nat) (r : List Bool) : Prop := r.length = n ∧ ∀ y, y < n → (r.getD y false = true ↔ Pl x k y)
theorem IsM.uniq {n : Nat} {x y : List (List Int)} {A B : List (List Bool)} (hA : IsM n x A) (hB : IsM n y B) (h : ∀ a b, Pl x a b ↔ Pl y a b) : A = B := by
  apply List.ext_getElem (by rw [hA.1, hB.1])
  intro i h1 h2
  have l1 := hA.2.1 _ (List.getElem_mem h1)
  have l2 := hB.2.1 _ (List.getElem_mem h2)
  apply List.ext_getElem (by rw [l1, l2])
  intro j h3 h4
  have e1 := hA.2.2 i j (hA.1 ▸ h1) (l1 ▸ h3)
  have e2 := hB.2.2 i j (hB.1 ▸ h2) (l2 ▸ h4)
  have : at2 A i j = at2 B i j := by
    rw [Bool.eq_iff_iff, e1, e2, h]
  unfold at2 at this
  rw [List.getElem?_eq_getElem h1, List.getElem?_eq_getElem h2] at this
  simpa [List.getD, h3, h4] using this

/-- who is in one group with one -/
def scc (A : List (List Bool)) (k : Nat) : List Nat := (List.range A.length).filter fun y => y == k || (at2 A k y && at2 A y k)
/-- may one's group be told? -/
def rdy (A : List (List Bool)) (done : List Bool) (k : Nat) : Bool := (List.range A.length).all fun y => (y == k || (at2 A k y && at2 A y k)) || !(at2 A k y && !done.getD y false)
def mark (done : List Bool) (l : List Nat) : List Bool := l.foldl (fun d y => d.set y true) done
/-- the next one -/
def nxt (A : List (List Bool)) (done : List Bool) : Option Nat := (List.range A.length).find? fun k => !done.getD k false && rdy A done k
def it (A : List (List Bool)) : Nat → List Bool × List (List Nat)
  | 0 => (List.replicate A.length false, [])
  | j + 1 => match nxt A (it A j).1 with
    | some k => (mark (it A j).1 (scc A k), (it A j).2 ++ [scc A k])
    | none => it A j
def Ord (A : List (List Bool)) (out : List (List Nat)) : Prop := ∃ j, nxt A (it A j).1 = none ∧ out = (it A j).2
theorem it_stuck {A : List (List Bool)} {j : Nat} (h : nxt A (it A j).1 = none) : ∀ i, it A (j + i) = it A j
  | 0 => rfl
  | i + 1 => by
    have ih := it_stuck h i
    show (match nxt A (it A (j + i)).1 with | some k => _ | none => _) = _
    rw [ih, h]
    exact ih
theorem Ord.uniq {A : List (List Bool)} {o1 o2 : List (List Nat)} (h1 : Ord A o1) (h2 : Ord A o2) : o1 = o2 := by
  obtain ⟨i, hi, rfl⟩ := h1
  obtain ⟨j, hj, rfl⟩ := h2
  rcases Nat.le_total i j with h | h
  · have := it_stuck hi (j - i)
    rw [show i + (j - i) = j by omega] at this
    rw [this]
  · have := it_stuck hj (i - j)
    rw [show j + (i - j) = i by omega] at this
    rw [this]

theorem mark_len (l : List Nat) : ∀ d : List Bool, (mark d l).length = d.length := by
  induction l with
  | nil => intro d; rfl
  | cons a l ih => intro d; show (mark (d.set a true) l).length = _; rw [ih, List.length_set]
theorem mark_get (l : List Nat) : ∀ (d : List Bool) (y : Nat), y < d.length → ((mark d l).getD y false = true ↔ d.getD y false = true ∨ y ∈ l) := by
  induction l with
  | nil => intro d y _; simp [mark]
  | cons a l ih =>
    intro d y hy
    show (mark (d.set a true) l).getD y false = true ↔ _
    rw [ih _ y (by rw [List.length_set]; exact hy)]
    by_cases h : y = a
    · subst h; simp [List.getD, hy]
    · have h' : a ≠ y := fun e => h e.symm
      simp [List.getD, h, h']

/-- what holds on the way -/
structure Inv (n : Nat) (x : List (List Int)) (A : List (List Bool)) (done : List Bool) (out : List (List Nat)) : Prop where
  len : done.length = n
  grp : ∀ g ∈ out, ∃ k, k < n ∧ g = scc A k
  mem : ∀ y, y < n → (done.getD y false = true ↔ ∃ g ∈ out, y ∈ g)
  apart : ∀ (i j y : Nat) (g g' : List Nat), out[i]? = some g → out[j]? = some g' → y ∈ g → y ∈ g' → i = j
  up : ∀ (i k y : Nat) (g : List Nat), out[i]? = some g → k ∈ g → Pl x k y → ∃ (j : Nat) (g' : List Nat), j ≤ i ∧ out[j]? = some g' ∧ y ∈ g'

theorem scc_mem {n : Nat} {x : List (List Int)} {A : List (List Bool)} (hA : IsM n x A) {k y : Nat} (hk : k < n) : y ∈ scc A k ↔ y < n ∧ (y = k ∨ (Pl x k y ∧ Pl x y k)) := by
  unfold scc
  rw [List.mem_filter, List.mem_range, hA.1]
  constructor
  · rintro ⟨h1, h2⟩
    refine ⟨h1, ?_⟩
    simp only [Bool.or_eq_true, beq_iff_eq, Bool.and_eq_true] at h2
    rcases h2 with h2 | ⟨h2, h3⟩
    · exact .inl h2
    · exact .inr ⟨(hA.2.2 k y hk h1).1 h2, (hA.2.2 y k h1 hk).1 h3⟩
  · rintro ⟨h1, h2⟩
    refine ⟨h1, ?_⟩
    simp only [Bool.or_eq_true, beq_iff_eq, Bool.and_eq_true]
    rcases h2 with h2 | ⟨h2, h3⟩
    · exact .inl h2
    · exact .inr ⟨(hA.2.2 k y hk h1).2 h2, (hA.2.2 y k h1 hk).2 h3⟩
theorem scc_self {n : Nat} {x : List (List Int)} {A : List (List Bool)} (hA : IsM n x A) {k : Nat} (hk : k < n) : k ∈ scc A k := (scc_mem hA hk).2 ⟨hk, .inl rfl⟩
theorem rdy_iff {n : Nat} {x : List (List Int)} {A : List (List Bool)} (hA : IsM n x A) {done : List Bool} {k : Nat} (hk : k < n) : rdy A done k = true ↔ ∀ y, y < n → Pl x k y → y ∈ scc A k ∨ done.getD y false = true := by
  unfold rdy
  rw [List.all_eq_true]
  constructor
  · intro h y hy hp
    have := h y (by rw [List.mem_range, hA.1]; exact hy)
    simp only [Bool.or_eq_true, beq_iff_eq, Bool.and_eq_true, Bool.not_eq_true', Bool.and_eq_false_iff, Bool.not_eq_false'] at this
    rcases this with h1 | h1
    · left
      rw [scc_mem hA hk]
      refine ⟨hy, ?_⟩
      rcases h1 with h1 | ⟨h1, h2⟩
      · exact .inl h1
      · exact .inr ⟨hp, (hA.2.2 y k hy hk).1 h2⟩
    · rcases h1 with h1 | h1
      · rw [(hA.2.2 k y hk hy).2 hp] at h1; cases h1
      · exact .inr h1
  · intro h y hy
    rw [List.mem_range, hA.1] at hy
    simp only [Bool.or_eq_true, beq_iff_eq, Bool.and_eq_true, Bool.not_eq_true', Bool.and_eq_false_iff, Bool.not_eq_false']
    cases e : at2 A k y with
    | false => exact .inr (.inl rfl)
    | true =>
      have hp := (hA.2.2 k y hk hy).1 e
      rcases h y hy hp with h1 | h1
      · left
        rw [scc_mem hA hk] at h1
        rcases h1.2 with h2 | ⟨_, h3⟩
        · exact .inl h2
        · exact .inr ⟨rfl, (hA.2.2 y k hy hk).2 h3⟩
      · exact .inr (.inr h1)

theorem Inv.step {n : Nat} {x : List (List Int)} {A : List (List Bool)} {done : List Bool} {out : List (List Nat)} (hx : InR n x) (hA : IsM n x A) (h : Inv n x A done out) {k : Nat} (hk : nxt A done = some k) :
    Inv n x A (mark done (scc A k)) (out ++ [scc A k]) := by
  have hk1 := List.find?_some hk
  have hk2 : k < n := by have := List.mem_of_find?_eq_some hk; rw [List.mem_range, hA.1] at this; exact this
  simp only [Bool.and_eq_true, Bool.not_eq_true'] at hk1
  obtain ⟨hd, hr⟩ := hk1
  rw [rdy_iff hA hk2] at hr
  have hfresh : ∀ y, y ∈ scc A k → ∀ g ∈ out, y ∉ g := by
    intro y hy g hg hyg
    obtain ⟨i, hi⟩ := List.getElem?_of_mem hg
    have hy' := (scc_mem hA hk2).1 hy
    have : ∃ g ∈ out, k ∈ g := by
      rcases hy'.2 with e | ⟨_, hp⟩
      · exact ⟨g, hg, e ▸ hyg⟩
      · obtain ⟨j, g', _, h1, h2⟩ := h.up i y k g hi hyg hp
        exact ⟨g', List.mem_of_getElem? h1, h2⟩
    rw [← h.mem k hk2] at this
    rw [this] at hd; cases hd
  refine ⟨by rw [mark_len, h.len], ?_, ?_, ?_, ?_⟩
  · intro g hg
    rcases List.mem_append.1 hg with hg | hg
    · exact h.grp g hg
    · rw [List.mem_singleton.1 hg]; exact ⟨k, hk2, rfl⟩
  · intro y hy
    rw [mark_get _ _ _ (by rw [h.len]; exact hy), h.mem y hy]
    constructor
    · rintro (⟨g, hg, hyg⟩ | hys)
      · exact ⟨g, List.mem_append_left _ hg, hyg⟩
      · exact ⟨_, List.mem_append_right _ (List.mem_singleton.2 rfl), hys⟩
    · rintro ⟨g, hg, hyg⟩
      rcases List.mem_append.1 hg with hg | hg
      · exact .inl ⟨g, hg, hyg⟩
      · rw [List.mem_singleton.1 hg] at hyg; exact .inr hyg
  · intro i j y g g' hi hj hyg hyg'
    rw [List.getElem?_append] at hi hj
    split at hi <;> split at hj
    · exact h.apart i j y g g' hi hj hyg hyg'
    · have := List.mem_of_getElem? hj; rw [List.mem_singleton.1 this] at hyg'
      exact absurd hyg (hfresh y hyg' g (List.mem_of_getElem? hi))
    · have := List.mem_of_getElem? hi; rw [List.mem_singleton.1 this] at hyg
      exact absurd hyg' (hfresh y hyg g' (List.mem_of_getElem? hj))
    · have h1 := (List.getElem?_eq_some_iff.1 hi).1
      have h2 := (List.getElem?_eq_some_iff.1 hj).1
      simp at h1 h2
      omega
  · intro i a y g hi ha hp
    rw [List.getElem?_append] at hi
    split at hi
    · rename_i hlt
      obtain ⟨j, g', h1, h2, h3⟩ := h.up i a y g hi ha hp
      exact ⟨j, g', h1, by rw [List.getElem?_append_left ((List.getElem?_eq_some_iff.1 h2).1)]; exact h2, h3⟩
    · rename_i hge
      have hg := List.mem_of_getElem? hi
      rw [List.mem_singleton.1 hg] at ha
      have hi' := (List.getElem?_eq_some_iff.1 hi).1
      simp at hi'
      have hio : i = out.length := by omega
      have hpk : Pl x k y := by
        rcases ((scc_mem hA hk2).1 ha).2 with e | ⟨e, _⟩
        · exact e ▸ hp
        · exact e.trans hp
      have hy := (hx.pl hp).2
      rcases hr y hy hpk with h1 | h1
      · exact ⟨i, scc A k, Nat.le_refl _, by rw [hio, List.getElem?_append_right (Nat.le_refl _), Nat.sub_self]; rfl, h1⟩
      · obtain ⟨g', h2, h3⟩ := (h.mem y hy).1 h1
        obtain ⟨j, hj⟩ := List.getElem?_of_mem h2
        have hjl := (List.getElem?_eq_some_iff.1 hj).1
        exact ⟨j, g', by omega, by rw [List.getElem?_append_left hjl]; exact hj, h3⟩
theorem Inv.zero {n : Nat} {x : List (List Int)} {A : List (List Bool)} (hA : IsM n x A) : Inv n x A (List.replicate A.length false) [] := by
  refine ⟨by rw [List.length_replicate, hA.1], by simp, fun y hy => ?_, by simp, by simp⟩
  simp [List.getD, hA.1, hy]
theorem Inv.it {n : Nat} {x : List (List Int)} {A : List (List Bool)} (hx : InR n x) (hA : IsM n x A) : ∀ j, Inv n x A (grp.it A j).1 (grp.it A j).2
  | 0 => Inv.zero hA
  | j + 1 => by
    have ih := Inv.it hx hA j
    show Inv n x A (match nxt A (grp.it A j).1 with | some k => _ | none => _ : List Bool × List (List Nat)).1 (match nxt A (grp.it A j).1 with | some k => _ | none => _ : List Bool × List (List Nat)).2
    cases e : nxt A (grp.it A j).1 with
    | none => exact ih
    | some k => exact ih.step hx hA e
end Go.Proofs.grp

namespace Go.Proofs.grp
set_option linter.unusedSimpArgs false
set_option linter.unusedVariables false

theorem filter_lt {α : Type} {p q : α → Bool} {a : α} : ∀ {l : List α}, (∀ x, p x = true → q x = true) → a ∈ l → q a = true → p a = false → (l.filter p).length < (l.filter q).length
  | [], _, h, _, _ => by cases h
  | b :: l, h, hm, hq, hp => by
    have hle : ∀ l : List α, (l.filter p).length ≤ (l.filter q).length := by
      intro l
      induction l with
      | nil => exact Nat.le_refl _
      | cons c l ih =>
        cases e : p c with
        | true => rw [List.filter_cons_of_pos e, List.filter_cons_of_pos (h c e)]; simp; exact ih
        | false =>
          rw [List.filter_cons_of_neg (by simp [e])]
          cases e2 : q c with
          | true => rw [List.filter_cons_of_pos e2]; simp; omega
          | false => rw [List.filter_cons_of_neg (by simp [e2])]; exact ih
    rcases List.mem_cons.1 hm with rfl | hm
    · rw [List.filter_cons_of_neg (by simp [hp]), List.filter_cons_of_pos hq]
      have := hle l
      simp; omega
    · have ih := filter_lt (l := l) h hm hq hp
      cases e : p b with
      | true => rw [List.filter_cons_of_pos e, List.filter_cons_of_pos (h b e)]; simp; exact ih
      | false =>
        rw [List.filter_cons_of_neg (by simp [e])]
        cases e2 : q b with
        | true => rw [List.filter_cons_of_pos e2]; simp; omega
        | false => rw [List.filter_cons_of_neg (by simp [e2])]; exact ih

/-- how many are left -/
def cnt (d : List Bool) : Nat := ((List.range d.length).filter fun y => !d.getD y false).length
theorem cnt_mark {d : List Bool} {l : List Nat} {k : Nat} (hk : k < d.length) (hl : k ∈ l) (hd : d.getD k false = false) : cnt (mark d l) < cnt d := by
  unfold cnt
  rw [mark_len]
  have e : (List.range d.length).filter (fun y => !(mark d l).getD y false) = (List.range d.length).filter (fun y => !(d.getD y false || decide (y ∈ l))) := by
    apply List.filter_congr
    intro y hy
    rw [List.mem_range] at hy
    have := mark_get l d y hy
    have e2 : (mark d l).getD y false = (d.getD y false || decide (y ∈ l)) := by
      rw [Bool.eq_iff_iff, this]; simp
    rw [e2]
  rw [e]
  refine filter_lt (a := k) (fun y h => ?_) (List.mem_range.2 hk) (by simp only [hd]; rfl) (by simp [hl])
  simp only [Bool.not_eq_true', Bool.or_eq_false_iff] at h ⊢
  exact h.1

theorem ready_one {n : Nat} {x : List (List Int)} {A : List (List Bool)} {done : List Bool} (hA : IsM n x A) (hx : InR n x) :
    ∀ (m k : Nat), ((List.range n).filter fun y => y == k || at2 A k y).length ≤ m → k < n → done.getD k false = false → ∃ k, k < n ∧ done.getD k false = false ∧ rdy A done k = true
  | 0, k, hm, hk, _ => by
    have hpos := List.length_pos_of_mem (List.mem_filter.2 ⟨List.mem_range.2 hk, by simp⟩ : k ∈ (List.range n).filter fun y => y == k || at2 A k y)
    omega
  | m + 1, k, hm, hk, hd => by
    cases e : rdy A done k with
    | true => exact ⟨k, hk, hd, e⟩
    | false =>
      have h1 : ¬ ∀ y, y < n → Pl x k y → y ∈ scc A k ∨ done.getD y false = true := fun h => by rw [(rdy_iff hA hk).2 h] at e; cases e
      obtain ⟨y, hy⟩ := Classical.not_forall.1 h1
      obtain ⟨h2, hy⟩ := Classical.not_imp.1 hy
      obtain ⟨h3, hy⟩ := Classical.not_imp.1 hy
      have h4 : y ∉ scc A k := fun h => hy (.inl h)
      have h5 : done.getD y false = false := by
        cases e2 : done.getD y false with
        | false => rfl
        | true => exact absurd (.inr e2) hy
      have h6 : y ≠ k := fun h => h4 (by rw [h]; exact scc_self hA hk)
      have h7 : ¬ Pl x y k := fun h => h4 ((scc_mem hA hk).2 ⟨h2, .inr ⟨h3, h⟩⟩)
      refine ready_one hA hx m y ?_ h2 h5
      have := filter_lt (l := List.range n) (p := fun z => z == y || at2 A y z) (q := fun z => z == k || at2 A k z && decide (z < n) || (z == y)) (a := k) ?_ (List.mem_range.2 hk) (by simp) ?_
      · have e2 : (List.range n).filter (fun z => z == k || at2 A k z && decide (z < n) || (z == y)) = (List.range n).filter fun z => z == k || at2 A k z := by
          apply List.filter_congr
          intro z hz
          rw [List.mem_range] at hz
          rw [Bool.eq_iff_iff]
          simp only [Bool.or_eq_true, beq_iff_eq, Bool.and_eq_true, decide_eq_true_eq]
          constructor
          · rintro ((h | ⟨h, _⟩) | h)
            · exact .inl h
            · exact .inr h
            · exact .inr (h ▸ (hA.2.2 k y hk h2).2 h3)
          · rintro (h | h)
            · exact .inl (.inl h)
            · exact .inl (.inr ⟨h, hz⟩)
        rw [e2] at this
        omega
      · intro z hz
        simp only [Bool.or_eq_true, beq_iff_eq, Bool.and_eq_true, decide_eq_true_eq] at hz ⊢
        rcases hz with h | h
        · exact .inr h
        · by_cases hzn : z < n
          · exact .inl (.inr ⟨(hA.2.2 k z hk hzn).2 (h3.trans ((hA.2.2 y z h2 hzn).1 h)), hzn⟩)
          · exfalso
            unfold at2 at h
            cases e3 : A[y]? with
            | none => rw [e3] at h; cases h
            | some r =>
              rw [e3] at h
              have := hA.2.1 r (List.mem_of_getElem? e3)
              simp [List.getD, List.getElem?_eq_none (show r.length ≤ z by omega)] at h
      · simp only [Bool.or_eq_false_iff, beq_eq_false_iff_ne]
        refine ⟨fun h => h6 h.symm, ?_⟩
        cases e3 : at2 A y k with
        | false => rfl
        | true => exact absurd ((hA.2.2 y k h2 hk).1 e3) h7

/-- what is told in the end -/
structure Out (n : Nat) (x : List (List Int)) (A : List (List Bool)) (out : List (List Nat)) : Prop where
  grp : ∀ g ∈ out, ∃ k, k < n ∧ g = scc A k
  mem : ∀ y, y < n → ∃ g ∈ out, y ∈ g
  apart : ∀ (i j y : Nat) (g g' : List Nat), out[i]? = some g → out[j]? = some g' → y ∈ g → y ∈ g' → i = j
  up : ∀ (i k y : Nat) (g : List Nat), out[i]? = some g → k ∈ g → Pl x k y → ∃ (j : Nat) (g' : List Nat), j ≤ i ∧ out[j]? = some g' ∧ y ∈ g'

theorem Out.of {n : Nat} {x : List (List Int)} {A : List (List Bool)} {out : List (List Nat)} (hx : InR n x) (hA : IsM n x A) (h : Ord A out) : Out n x A out := by
  obtain ⟨j, hj, rfl⟩ := h
  have hI := Inv.it hx hA j
  refine ⟨hI.grp, fun y hy => (hI.mem y hy).1 ?_, hI.apart, hI.up⟩
  cases e : (it A j).1.getD y false with
  | true => rfl
  | false =>
    obtain ⟨k, h1, h2, h3⟩ := ready_one hA hx _ y (Nat.le_refl _) hy e
    have := List.find?_eq_none.1 hj k (by rw [List.mem_range, hA.1]; exact h1)
    rw [h2, h3] at this
    simp at this

/-- the place of one's group -/
theorem Out.place {n : Nat} {x : List (List Int)} {A : List (List Bool)} {out : List (List Nat)} (h : Out n x A out) : ∃ p : Nat → Nat, ∀ y, y < n → ∃ g, out[p y]? = some g ∧ y ∈ g := by
  have : ∀ y : Nat, ∃ i : Nat, y < n → ∃ g, out[i]? = some g ∧ y ∈ g := by
    intro y
    by_cases hy : y < n
    · obtain ⟨g, hg, hyg⟩ := h.mem y hy
      obtain ⟨i, hi⟩ := List.getElem?_of_mem hg
      exact ⟨i, fun _ => ⟨g, hi, hyg⟩⟩
    · exact ⟨0, fun h => absurd h hy⟩
  exact ⟨fun y => Classical.choose (this y), fun y => Classical.choose_spec (this y)⟩
/-- two in one group need each other -/
theorem Out.both {n : Nat} {x : List (List Int)} {A : List (List Bool)} {out : List (List Nat)} (hA : IsM n x A) (h : Out n x A out) {g : List Nat} (hg : g ∈ out) {a b : Nat} (ha : a ∈ g) (hb : b ∈ g) : a = b ∨ (Pl x a b ∧ Pl x b a) := by
  obtain ⟨k, hk, rfl⟩ := h.grp g hg
  have h1 := ((scc_mem hA hk).1 ha).2
  have h2 := ((scc_mem hA hk).1 hb).2
  rcases h1 with rfl | ⟨p1, p2⟩
  · rcases h2 with rfl | ⟨q1, q2⟩
    · exact .inl rfl
    · exact .inr ⟨q1, q2⟩
  · rcases h2 with rfl | ⟨q1, q2⟩
    · exact .inr ⟨p2, p1⟩
    · exact .inr ⟨p2.trans q1, q2.trans p1⟩
theorem Out.both' {n : Nat} {x : List (List Int)} {A : List (List Bool)} {out : List (List Nat)} (hA : IsM n x A) (h : Out n x A out) {i j a b : Nat} {g g' : List Nat} (hi : out[i]? = some g) (hj : out[j]? = some g') (ha : a ∈ g) (hb : b ∈ g') (hp : Pl x a b) (hq : Pl x b a) : i = j := by
  obtain ⟨i', g1, h1, h2, h3⟩ := h.up i a b g hi ha hp
  obtain ⟨j', g2, h4, h5, h6⟩ := h.up j b a g' hj hb hq
  have e1 := h.apart _ _ b _ _ h2 hj h3 hb
  have e2 := h.apart _ _ a _ _ h5 hi h6 ha
  omega

theorem pigeon : ∀ (b a : Nat) (f : Nat → Nat), (∀ i, i < a → f i < b) → (∀ i j, i < a → j < a → f i = f j → i = j) → a ≤ b
  | 0, a, f, h1, h2 => by
    rcases Nat.eq_zero_or_pos a with h | h
    · omega
    · have := h1 0 h; omega
  | b + 1, a, f, h1, h2 => by
    rcases Nat.eq_zero_or_pos a with h | h
    · omega
    · have := pigeon b (a - 1) (fun i => if f i = b then f (a - 1) else f i) (fun i hi => by
        have e1 := h1 i (by omega)
        have e2 := h1 (a - 1) (by omega)
        have e3 : f i ≠ f (a - 1) := fun e => by have := h2 i (a - 1) (by omega) (by omega) e; omega
        show (if f i = b then f (a - 1) else f i) < b
        split <;> omega) (fun i j hi hj e => by
        have e1 := h2 i j (by omega) (by omega)
        have e3 : f i ≠ f (a - 1) := fun e => by have := h2 i (a - 1) (by omega) (by omega) e; omega
        have e4 : f j ≠ f (a - 1) := fun e => by have := h2 j (a - 1) (by omega) (by omega) e; omega
        split at e <;> split at e <;> first | exact e1 (by omega) | exact absurd e e3 | exact absurd e.symm e4 | exact absurd e.symm e3 | exact absurd e e4)
      omega

theorem fewer {n : Nat} {x y : List (List Int)} {A B : List (List Bool)} {o1 o2 : List (List Nat)} (hA : IsM n x A) (hB : IsM n y B) (h1 : Out n x A o1) (h2 : Out n y B o2) (hm : ∀ a b, Pl x a b → Pl y a b) : o2.length ≤ o1.length := by
  obtain ⟨p, hp⟩ := h1.place
  have hne : ∀ j, j < o2.length → ∃ a, a < n ∧ ∃ g, o2[j]? = some g ∧ a ∈ g := by
    intro j hj
    obtain ⟨k, hk, e⟩ := h2.grp _ (List.getElem_mem hj)
    exact ⟨k, hk, _, List.getElem?_eq_getElem hj, by rw [e]; exact scc_self hB hk⟩
  have hne' : ∀ j, ∃ a, j < o2.length → a < n ∧ ∃ g, o2[j]? = some g ∧ a ∈ g := fun j => by
    by_cases hj : j < o2.length
    · obtain ⟨a, ha⟩ := hne j hj; exact ⟨a, fun _ => ha⟩
    · exact ⟨0, fun h => absurd h hj⟩
  let r := fun j => Classical.choose (hne' j)
  have hr : ∀ j, j < o2.length → r j < n ∧ ∃ g, o2[j]? = some g ∧ r j ∈ g := fun j => Classical.choose_spec (hne' j)
  refine pigeon o1.length o2.length (fun j => p (r j)) (fun j hj => ?_) (fun i j hi hj e => ?_)
  · obtain ⟨g, hg, _⟩ := hp (r j) (hr j hj).1
    exact (List.getElem?_eq_some_iff.1 hg).1
  · obtain ⟨g, hg, ha⟩ := hp (r i) (hr i hi).1
    obtain ⟨g', hg', hb⟩ := hp (r j) (hr j hj).1
    obtain ⟨_, u, hu, hau⟩ := hr i hi
    obtain ⟨_, v, hv, hbv⟩ := hr j hj
    have e' : p (r i) = p (r j) := e
    rw [e', hg'] at hg
    cases hg
    rcases h1.both hA (List.mem_of_getElem? hg') ha hb with h | ⟨q1, q2⟩
    · exact h2.apart i j (r i) u v hu hv hau (h ▸ hbv)
    · exact h2.both' hB hu hv hau hbv (hm _ _ q1) (hm _ _ q2)
end Go.Proofs.grp

namespace Go.Proofs.grp
set_option linter.unusedSimpArgs false
set_option linter.unusedVariables false

/-- on the way: who is found; who is still to be looked at; 'P': whose needs are being looked at -/
structure RInv (n : Nat) (x : List (List Int)) (a : Nat) (P : Nat → Prop) (is : List Bool) (q : List Nat) : Prop where
  len : is.length = n
  sound : ∀ y, y < n → is.getD y false = true → Pl x a y
  que : ∀ k ∈ q, k < n ∧ (k = a ∨ Pl x a k)
  all : ∀ k, (k = a ∨ (k < n ∧ is.getD k false = true)) → k ∈ q ∨ P k ∨ ∀ y, Ed x k y → is.getD y false = true
theorem RInv.start {n : Nat} {x : List (List Int)} {a : Nat} (ha : a < n) : RInv n x a (fun _ => False) (List.replicate n false) [a] where
  len := by simp
  sound := fun y hy h => by simp [List.getD, hy] at h
  que := fun k hk => by rw [List.mem_singleton.1 hk]; exact ⟨ha, .inl rfl⟩
  all := fun k hk => by
    rcases hk with rfl | ⟨h1, h2⟩
    · exact .inl (List.mem_singleton.2 rfl)
    · simp [List.getD, h1] at h2
theorem RInv.pop {n : Nat} {x : List (List Int)} {a k : Nat} {is : List Bool} {q : List Nat} (h : RInv n x a (fun _ => False) is (k :: q)) : RInv n x a (fun y => y = k) is q where
  len := h.len
  sound := h.sound
  que := fun j hj => h.que j (List.mem_cons_of_mem _ hj)
  all := fun j hj => by
    rcases h.all j hj with h1 | h1 | h1
    · rcases List.mem_cons.1 h1 with h1 | h1
      · exact .inr (.inl h1)
      · exact .inl h1
    · exact h1.elim
    · exact .inr (.inr h1)
theorem getD_set {is : List Bool} {v y : Nat} : (is.set v true).getD y false = true ↔ (is.getD y false = true ∨ (y = v ∧ v < is.length)) := by
  by_cases hv : y = v
  · subst hv
    by_cases hy : y < is.length
    · simp [List.getD, hy]
    · simp [List.getD, hy]
  · have hv' : v ≠ y := fun e => hv e.symm
    simp [List.getD, hv, hv']
theorem RInv.push {n : Nat} {x : List (List Int)} {a v : Nat} {P : Nat → Prop} {is : List Bool} {q : List Nat} (h : RInv n x a P is q) (hv : v < n) (hp : Pl x a v) : RInv n x a P (is.set v true) (q ++ [v]) where
  len := by rw [List.length_set]; exact h.len
  sound := fun y hy h1 => by
    rcases getD_set.1 h1 with h1 | ⟨rfl, _⟩
    · exact h.sound y hy h1
    · exact hp
  que := fun j hj => by
    rcases List.mem_append.1 hj with hj | hj
    · exact h.que j hj
    · rw [List.mem_singleton.1 hj]; exact ⟨hv, .inr hp⟩
  all := fun j hj => by
    have : (j = a ∨ (j < n ∧ is.getD j false = true)) ∨ j = v := by
      rcases hj with h1 | ⟨h1, h2⟩
      · exact .inl (.inl h1)
      · rcases getD_set.1 h2 with h2 | ⟨h2, _⟩
        · exact .inl (.inr ⟨h1, h2⟩)
        · exact .inr h2
    rcases this with h1 | h1
    · rcases h.all j h1 with h2 | h2 | h2
      · exact .inl (List.mem_append_left _ h2)
      · exact .inr (.inl h2)
      · exact .inr (.inr fun y hy => getD_set.2 (.inl (h2 y hy)))
    · exact .inl (List.mem_append_right _ (List.mem_singleton.2 h1))
theorem RInv.over {n : Nat} {x : List (List Int)} {a k : Nat} {is : List Bool} {q : List Nat} (h : RInv n x a (fun y => y = k) is q) (hk : ∀ y, Ed x k y → is.getD y false = true) : RInv n x a (fun _ => False) is q where
  len := h.len
  sound := h.sound
  que := h.que
  all := fun j hj => by
    rcases h.all j hj with h1 | h1 | h1
    · exact .inl h1
    · subst h1; exact .inr (.inr hk)
    · exact .inr (.inr h1)
theorem RInv.done {n : Nat} {x : List (List Int)} {a : Nat} {is : List Bool} (hx : InR n x) (h : RInv n x a (fun _ => False) is []) : IsR n x a is := by
  refine ⟨h.len, fun y hy => ⟨h.sound y hy, fun hp => ?_⟩⟩
  refine hp.closed (S := fun y => is.getD y false = true) (fun b e => ?_) (fun b c hb e => ?_)
  · rcases h.all a (.inl rfl) with h1 | h1 | h1
    · cases h1
    · exact h1.elim
    · exact h1 b e
  · rcases h.all b (.inr ⟨(hx.ed e).1, hb⟩) with h1 | h1 | h1
    · cases h1
    · exact h1.elim
    · exact h1 c e
theorem cnt_set {d : List Bool} {k : Nat} (hk : k < d.length) (hd : d.getD k false = false) : cnt (d.set k true) < cnt d :=
  cnt_mark (l := [k]) hk (List.mem_singleton.2 rfl) hd
theorem cnt_le (d : List Bool) : cnt d ≤ d.length := by
  unfold cnt
  exact Nat.le_trans (List.length_filter_le _ _) (by simp)

open Classical in
/-- one's row -/
noncomputable def rowF (n : Nat) (x : List (List Int)) (a : Nat) : List Bool := (List.range n).map fun y => decide (Pl x a y)
noncomputable def matF (n : Nat) (x : List (List Int)) : List (List Bool) := (List.range n).map (rowF n x)
theorem rowF_is (n : Nat) (x : List (List Int)) (a : Nat) : IsR n x a (rowF n x a) := by
  refine ⟨by simp [rowF], fun y hy => ?_⟩
  simp [rowF, List.getD, hy]
theorem IsR.eq {n : Nat} {x : List (List Int)} {a : Nat} {r : List Bool} (h : IsR n x a r) : r = rowF n x a := by
  have g := rowF_is n x a
  apply List.ext_getElem (by rw [h.1, g.1])
  intro i h1 h2
  have hi : i < n := h.1 ▸ h1
  have e1 := h.2 i hi
  have e2 := g.2 i hi
  have : r.getD i false = (rowF n x a).getD i false := by rw [Bool.eq_iff_iff, e1, e2]
  simpa [List.getD, h1, h2] using this
theorem matF_is (n : Nat) (x : List (List Int)) : IsM n x (matF n x) := by
  refine ⟨by simp [matF], fun r hr => ?_, fun k y hk hy => ?_⟩
  · obtain ⟨a, _, rfl⟩ := List.mem_map.1 hr
    exact (rowF_is n x a).1
  · have : at2 (matF n x) k y = (rowF n x k).getD y false := by simp [at2, matF, hk]
    rw [this]
    exact (rowF_is n x k).2 y hy
end Go.Proofs.grp

namespace Go.Proofs.grp
set_option linter.unusedSimpArgs false
set_option linter.unusedVariables false

theorem ex_ed {a b : Nat} (h : Ed [[1], []] a b) : a = 0 ∧ b = 1 := by
  obtain ⟨row, h1, h2⟩ := h
  match a, h1 with
  | 0, h1 => cases h1; simp at h2; exact ⟨rfl, by omega⟩
  | 1, h1 => cases h1; simp at h2
  | a + 2, h1 => simp at h1
theorem ex_pl {a b : Nat} (h : Pl [[1], []] a b) : a = 0 ∧ b = 1 := by
  induction h with
  | one e => exact ex_ed e
  | snoc _ e ih => exact ⟨ih.1, (ex_ed e).2⟩
theorem ex_in : InR 2 [[1], []] := by
  refine ⟨rfl, fun row hr v hv => ?_⟩
  simp at hr
  rcases hr with rfl | rfl
  · simp at hv; omega
  · simp at hv
theorem ex_m : IsM 2 [[1], []] [[false, true], [false, false]] := by
  refine ⟨rfl, by simp, fun k y hk hy => ?_⟩
  have e01 : Pl [[1], []] 0 1 := .one ⟨[1], rfl, by simp⟩
  have hk' : k = 0 ∨ k = 1 := by omega
  have hy' : y = 0 ∨ y = 1 := by omega
  rcases hk' with rfl | rfl <;> rcases hy' with rfl | rfl
  · exact ⟨fun h => absurd h (by decide), fun h => absurd (ex_pl h).2 (by decide)⟩
  · exact ⟨fun _ => e01, fun _ => rfl⟩
  · exact ⟨fun h => absurd h (by decide), fun h => absurd (ex_pl h).1 (by decide)⟩
  · exact ⟨fun h => absurd h (by decide), fun h => absurd (ex_pl h).1 (by decide)⟩
theorem ex_out {out : List (List Nat)} (h : Ord (matF 2 [[1], []]) out) : out = [[1], [0]] := by
  rw [(matF_is 2 [[1], []]).uniq ex_m (fun _ _ => Iff.rfl)] at h
  exact h.uniq ⟨2, by decide, by decide⟩
end Go.Proofs.grp

namespace Go.Proofs.grp
set_option linter.unusedSimpArgs false
set_option linter.unusedVariables false

structure Pos (n : Nat) (x : List (List Int)) (out : List (List Nat)) (p : Nat → Nat) : Prop where
  at_ : ∀ y, y < n → ∃ g, out[p y]? = some g ∧ y ∈ g
  uniq : ∀ (i y : Nat) (g : List Nat), out[i]? = some g → y ∈ g → p y = i
  lt : ∀ (g : List Nat) (y : Nat), g ∈ out → y ∈ g → y < n
  sorted : ∀ g ∈ out, g.Pairwise (· < ·)
  len : ∀ g ∈ out, g.length ≤ n
  up : ∀ i v, Ed x i v → p v ≤ p i
  both : ∀ i k, i < n → k < n → i ≠ k → p i = p k → Pl x i k ∧ Pl x k i
theorem Out.pos {n : Nat} {x : List (List Int)} {A : List (List Bool)} {out : List (List Nat)} (hx : InR n x) (hA : IsM n x A) (h : Out n x A out) : ∃ p, Pos n x out p := by
  obtain ⟨p, hp⟩ := h.place
  have hlt : ∀ (g : List Nat) (y : Nat), g ∈ out → y ∈ g → y < n := fun g y hg hy => by
    obtain ⟨k, hk, rfl⟩ := h.grp g hg
    exact ((scc_mem hA hk).1 hy).1
  have huniq : ∀ (i y : Nat) (g : List Nat), out[i]? = some g → y ∈ g → p y = i := fun i y g hi hy => by
    obtain ⟨g', h1, h2⟩ := hp y (hlt g y (List.mem_of_getElem? hi) hy)
    exact h.apart _ _ y _ _ h1 hi h2 hy
  refine ⟨p, hp, huniq, hlt, fun g hg => ?_, fun g hg => ?_, fun i v e => ?_, fun i k hi hk hne e => ?_⟩
  · obtain ⟨k, hk, rfl⟩ := h.grp g hg
    exact List.pairwise_lt_range.filter _
  · obtain ⟨k, hk, rfl⟩ := h.grp g hg
    unfold scc
    refine Nat.le_trans (List.length_filter_le _ _) ?_
    rw [List.length_range, hA.1]; exact Nat.le_refl _
  · obtain ⟨h1, h2⟩ := hx.ed e
    obtain ⟨g, h3, h4⟩ := hp i h1
    obtain ⟨j, g', h5, h6, h7⟩ := h.up _ _ _ _ h3 h4 (.one e)
    rw [huniq j v g' h6 h7]; exact h5
  · obtain ⟨g, h3, h4⟩ := hp i hi
    obtain ⟨g', h5, h6⟩ := hp k hk
    rw [← e, h3] at h5
    cases h5
    rcases h.both hA (List.mem_of_getElem? h3) h4 h6 with h | h
    · exact absurd h hne
    · exact h
/-- the next one is greater, and not there yet -/
theorem sorted_next {g : List Nat} (h : g.Pairwise (· < ·)) {k v : Nat} (hv : g[k]? = some v) : (∀ u, g[k - 1]? = some u → 0 < k → u < v) ∧ v ∉ g.take k := by
  have hk := (List.getElem?_eq_some_iff.1 hv).1
  have hv' := (List.getElem?_eq_some_iff.1 hv).2
  have h1 : ∀ i (hi : i < k), g[i]'(by omega) < v := fun i hi => by
    have := List.pairwise_iff_getElem.1 h i k (by omega) hk hi
    rw [hv'] at this; exact this
  refine ⟨fun u hu h0 => ?_, fun hm => ?_⟩
  · have := (List.getElem?_eq_some_iff.1 hu).2
    rw [← this]; exact h1 (k - 1) (by omega)
  · obtain ⟨i, hi, e⟩ := List.getElem_of_mem hm
    rw [List.getElem_take] at e
    have hi' : i < k := by rw [List.length_take] at hi; omega
    have := h1 i hi'
    omega
end Go.Proofs.grp

namespace Go.Proofs.grp
set_option linter.unusedSimpArgs false
set_option linter.unusedVariables false

/-- one more need -/
def addE (x : List (List Int)) (a : Nat) (b : Int) : List (List Int) := x.set a (x.getD a [] ++ [b])
theorem addE_get {x : List (List Int)} {a : Nat} {b : Int} (ha : a < x.length) (i : Nat) : (addE x a b)[i]? = if i = a then some (x.getD a [] ++ [b]) else x[i]? := by
  unfold addE
  by_cases h : i = a
  · subst h; simp [ha]
  · have h' : a ≠ i := fun e => h e.symm
    simp [h, h']
theorem addE_in {n : Nat} {x : List (List Int)} {a b : Nat} (h : InR n x) (ha : a < n) (hb : b < n) : InR n (addE x a b) := by
  refine ⟨by unfold addE; rw [List.length_set]; exact h.1, fun row hr w hw => ?_⟩
  unfold addE at hr
  rcases List.mem_or_eq_of_mem_set hr with hr | rfl
  · exact h.2 row hr w hw
  · rcases List.mem_append.1 hw with hw | hw
    · have hk : a < x.length := by rw [h.1]; exact ha
      rw [List.getD, List.getElem?_eq_getElem hk] at hw
      exact h.2 _ (List.getElem_mem hk) w hw
    · rw [List.mem_singleton.1 hw]; omega
theorem addE_len {x : List (List Int)} {a : Nat} {b : Int} {m : Nat} (h : ∀ row ∈ x, row.length ≤ m) : ∀ row ∈ addE x a b, row.length ≤ m + 1 := by
  intro row hr
  unfold addE at hr
  rcases List.mem_or_eq_of_mem_set hr with hr | rfl
  · have := h row hr; omega
  · rw [List.length_append, List.length_singleton]
    have : (x.getD a []).length ≤ m := by
      cases e : x[a]? with
      | none => simp [List.getD, e]
      | some r => simp only [List.getD, e, Option.getD_some]; exact h r (List.mem_of_getElem? e)
    omega
theorem addE_ed {x : List (List Int)} {a : Nat} {b : Int} (ha : a < x.length) {i j : Nat} (h : Ed x i j) : Ed (addE x a b) i j := by
  obtain ⟨row, h1, h2⟩ := h
  by_cases e : i = a
  · subst e
    refine ⟨_, by rw [addE_get ha, if_pos rfl], List.mem_append_left _ ?_⟩
    simp only [List.getD, h1, Option.getD_some]; exact h2
  · exact ⟨row, by rw [addE_get ha, if_neg e]; exact h1, h2⟩
theorem addE_twice {x : List (List Int)} {a : Nat} {b : Int} (ha : a < x.length) (hb : b ∈ x.getD a []) {i j : Nat} (h : Ed (addE x a b) i j) : Ed x i j := by
  obtain ⟨row, h1, h2⟩ := h
  rw [addE_get ha] at h1
  by_cases e : i = a
  · subst e
    rw [if_pos rfl] at h1
    cases h1
    have hx : x[i]? = some (x.getD i []) := by simp [List.getD, ha]
    rcases List.mem_append.1 h2 with h2 | h2
    · exact ⟨_, hx, h2⟩
    · exact ⟨_, hx, by rw [List.mem_singleton.1 h2]; exact hb⟩
  · rw [if_neg e] at h1
    exact ⟨row, h1, h2⟩
theorem addE_has {x : List (List Int)} {a : Nat} {b : Int} (ha : a < x.length) : b ∈ (addE x a b).getD a [] := by
  have := addE_get (b := b) ha a
  rw [if_pos rfl] at this
  simp [List.getD, this]
theorem matF_twice {n : Nat} {x : List (List Int)} {a : Nat} {b : Int} (ha : a < x.length) (hb : b ∈ x.getD a []) : matF n (addE x a b) = matF n x :=
  (matF_is n _).uniq (matF_is n _) fun i j => ⟨fun h => h.mono fun _ _ e => addE_twice ha hb e, fun h => h.mono fun _ _ e => addE_ed ha e⟩
end Go.Proofs.grp
