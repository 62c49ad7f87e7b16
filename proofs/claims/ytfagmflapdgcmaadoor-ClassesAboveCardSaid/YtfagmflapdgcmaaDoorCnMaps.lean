/- Maps: entries and their images. -/
import Derived.Test.YtfagmflapdgcmaaDoorCnRel
namespace Go.Cn
set_option linter.unusedSimpArgs false
set_option linter.unusedVariables false

theorem ba_beq (a b : ByteArray) : (a == b) = true ↔ a = b := by
  constructor
  · intro h
    have h' : (a.data == b.data) = true := h
    have h'' : a.data = b.data := eq_of_beq h'
    cases a; cases b; cases h''; rfl
  · rintro rfl
    show (a.data == a.data) = true
    exact beq_self_eq_true _

theorem ba_list (a b : ByteArray) : (a.data.toList == b.data.toList) = (a == b) := by
  rw [Bool.eq_iff_iff, ba_beq]
  constructor
  · intro h
    have h' : a.data.toList = b.data.toList := eq_of_beq h
    have h'' : a.data = b.data := Array.toList_inj.1 h'
    cases a; cases b; cases h''; rfl
  · rintro rfl; exact beq_self_eq_true _

theorem keyEq_true {a b : Value} (h : keyEq a b = some true) : a = b := by
  unfold keyEq at h
  split at h
  · rename_i s u
    rw [ba_list] at h
    simp only [Option.some.injEq, ba_beq] at h
    rw [h]
  · split at h
    · rename_i j m k n hk
      simp only [Option.some.injEq, beq_iff_eq] at h hk
      rw [h, hk]
    · cases h
  · cases h

theorem keyEq_self {str : Bool} {a : Value} (h : isKey str a = true) : keyEq a a = some true := by
  unfold isKey at h
  split at h <;> simp_all [keyEq]

/-- keys that can be held against each other: both of one kind -/
theorem keyEq_kind {str : Bool} {a b : Value} {r : Bool} (h : keyEq a b = some r) (ha : isKey str a = true) : isKey str b = true := by
  unfold keyEq at h
  split at h <;> first | exact ha | cases h

theorem keyEq_false_ne {a b : Value} (h : keyEq a b = some false) : a ≠ b := by
  rintro rfl
  unfold keyEq at h
  split at h
  · simp at h
  · simp at h
  · cases h

theorem keyEq_symm_false {a b : Value} (h : keyEq a b = some false) : keyEq b a = some false := by
  unfold keyEq at h ⊢
  split at h
  · simp only [Option.some.injEq, beq_eq_false_iff_ne] at h ⊢
    exact fun e => h e.symm
  · rename_i j m k n
    split at h
    · rename_i hk
      simp only [beq_iff_eq] at hk
      subst hk
      simp only [beq_self_eq_true, if_true, Option.some.injEq, beq_eq_false_iff_ne] at h ⊢
      exact fun e => h e.symm
    · cases h
  · cases h

/-- what the key's type is, as the model asks it -/
def KeyKind (d : TypeDesc) (str : Bool) : Prop := (str = true ∧ d = .string) ∨ (str = false ∧ ∃ k, d = .int k)

theorem sameNow_eq {d : TypeDesc} {str : Bool} (hd : KeyKind d str) {a b : Value} {r : Bool} (ha : isKey str a = true) (h : keyEq a b = some r) : Instr.sameNow d a b = some r := by
  unfold keyEq at h
  split at h
  · rcases hd with ⟨_, rfl⟩ | ⟨rfl, _⟩
    · rw [ba_list] at h; exact h
    · cases ha
  · rename_i j m k n
    split at h
    · rename_i hk
      simp only [beq_iff_eq] at hk
      rcases hd with ⟨rfl, _⟩ | ⟨_, k0, rfl⟩
      · cases ha
      · simp only [Instr.sameNow, hk, if_true]; exact h
    · cases h
  · cases h

theorem findNow_spec {d : TypeDesc} {str : Bool} (hd : KeyKind d str) {k : Value} (hk : isKey str k = true) : ∀ (L : List MapEntry) (i : Nat), (∀ e ∈ L, ∃ b, keyEq k e.key = some b) →
    (Instr.findNow d k L i = some none ∧ ∀ e ∈ L, keyEq k e.key = some false) ∨
    (∃ j e, L[j]? = some e ∧ keyEq k e.key = some true ∧ (∀ j', j' < j → ∀ e', L[j']? = some e' → keyEq k e'.key = some false) ∧ Instr.findNow d k L i = some (some (i + j, e.val)))
  | [], i, _ => .inl ⟨rfl, by simp⟩
  | e :: L, i, h => by
    obtain ⟨b, hb⟩ := h e (by simp)
    have hs := sameNow_eq hd hk hb
    cases b with
    | true => exact .inr ⟨0, e, rfl, hb, fun j' hj => absurd hj (Nat.not_lt_zero _), by simp [Instr.findNow, hs]⟩
    | false =>
      rcases findNow_spec hd hk L (i + 1) (fun e' he => h e' (by simp [he])) with ⟨h1, h2⟩ | ⟨j, e', h1, h2, h4, h3⟩
      · refine .inl ⟨by simp [Instr.findNow, hs, h1], ?_⟩
        intro e' he'
        rcases List.mem_cons.1 he' with rfl | h'
        · exact hb
        · exact h2 e' h'
      · refine .inr ⟨j + 1, e', by simpa using h1, h2, ?_, ?_⟩
        · intro j' hj e'' he''
          cases j' with
          | zero => simp at he''; subst he''; exact hb
          | succ j' => exact h4 j' (by omega) e'' (by simpa using he'')
        · simp only [Instr.findNow, hs, h3]; congr 3; omega

theorem look_spec {k : Value} : ∀ {es : List (Value × Value)} {r : Option Value}, look k es = some r →
    (r = none ∧ ∀ x ∈ es, keyEq k x.1 = some false) ∨ (∃ v pre post k', r = some v ∧ es = pre ++ (k', v) :: post ∧ keyEq k k' = some true ∧ ∀ x ∈ pre, keyEq k x.1 = some false)
  | [], r, h => by cases h; exact .inl ⟨rfl, by simp⟩
  | (k', v) :: es, r, h => by
    unfold look at h
    split at h
    · rename_i e; cases h; exact .inr ⟨v, [], es, k', rfl, rfl, e, by simp⟩
    · rename_i e
      rcases look_spec h with ⟨rfl, h2⟩ | ⟨u, pre, post, k2, rfl, rfl, h3, h4⟩
      · refine .inl ⟨rfl, ?_⟩
        intro x hx
        rcases List.mem_cons.1 hx with rfl | hx
        · exact e
        · exact h2 x hx
      · refine .inr ⟨u, (k', v) :: pre, post, k2, rfl, rfl, h3, ?_⟩
        intro x hx
        rcases List.mem_cons.1 hx with rfl | hx
        · exact e
        · exact h4 x hx
    · cases h

/-- of a key that was found: no other is the same -/
theorem keys_other {pre post : List (Value × Value)} {k k' v : Value} (h : KeysOk (pre ++ (k', v) :: post)) (hk : k = k') : (∀ x ∈ pre, keyEq k x.1 = some false) ∧ ∀ x ∈ post, keyEq k x.1 = some false := by
  subst hk
  unfold KeysOk at h
  rw [List.pairwise_append] at h
  obtain ⟨_, h2, h3⟩ := h
  rw [List.pairwise_cons] at h2
  exact ⟨fun x hx => keyEq_symm_false (h3 x hx (k, v) (List.mem_cons_self ..)), fun x hx => h2.1 x hx⟩

theorem ERel.mem {P : Program} {β : Ren} {es : List (Value × Value)} {l : List MapEntry} (h : ERel P β es l) {e : MapEntry} (he : e ∈ l) : ∃ v, (e.key, v) ∈ es ∧ VRel P β v e.val := by
  induction h with
  | nil => cases he
  | cons hk hv t ih =>
    rcases List.mem_cons.1 he with rfl | he
    · exact ⟨_, by rw [hk]; simp, hv⟩
    · obtain ⟨v, h1, h2⟩ := ih he; exact ⟨v, by simp [h1], h2⟩
theorem ERel.len {P : Program} {β : Ren} {es : List (Value × Value)} {l : List MapEntry} (h : ERel P β es l) : l.length = es.length := by
  induction h with
  | nil => rfl
  | cons _ _ _ ih => simp [ih]
theorem ERel.split {P : Program} {β : Ren} : ∀ {pre : List (Value × Value)} {x : Value × Value} {post : List (Value × Value)} {l : List MapEntry}, ERel P β (pre ++ x :: post) l →
    ∃ p e q, l = p ++ e :: q ∧ ERel P β pre p ∧ e.key = x.1 ∧ VRel P β x.2 e.val ∧ ERel P β post q
  | [], x, post, l, h => by
    cases h with
    | cons hk hv t => exact ⟨[], _, _, rfl, .nil, hk, hv, t⟩
  | y :: pre, x, post, l, h => by
    cases h with
    | cons hk hv t =>
      obtain ⟨p, e, q, rfl, h1, h2, h3, h4⟩ := ERel.split t
      exact ⟨_ :: p, e, q, rfl, .cons hk hv h1, h2, h3, h4⟩
theorem ERel.append {P : Program} {β : Ren} {a b : List (Value × Value)} {c d : List MapEntry} (h : ERel P β a c) (g : ERel P β b d) : ERel P β (a ++ b) (c ++ d) := by
  induction h with
  | nil => exact g
  | cons hk hv _ ih => exact .cons hk hv ih

theorem MapRel.size {P : Program} {β : Ren} {es : List (Value × Value)} {es' : Array MapEntry} (h : MapRel P β es es') : es'.size = es.length := by
  obtain ⟨_, l, hp, hr⟩ := h
  rw [← hr.len, ← hp.length_eq]; simp

/-- a key is looked up -/
theorem MapRel.look {P : Program} {β : Ren} {es : List (Value × Value)} {es' : Array MapEntry} (h : MapRel P β es es') {d : TypeDesc} {str : Bool} (hd : KeyKind d str) {k : Value} (hk : isKey str k = true)
    {r : Option Value} (hl : look k es = some r) :
    (r = none ∧ Instr.findNow d k es'.toList 0 = some none ∧ ∀ x ∈ es, keyEq k x.1 = some false) ∨
    (∃ v pre post j e, r = some v ∧ es = pre ++ (k, v) :: post ∧ es'[j]? = some e ∧ e.key = k ∧ VRel P β v e.val ∧ Instr.findNow d k es'.toList 0 = some (some (j, e.val)) ∧
      (∀ x ∈ pre ++ post, keyEq k x.1 = some false)) := by
  obtain ⟨hkeys, l, hp, hr⟩ := h
  rcases look_spec hl with ⟨rfl, hno⟩ | ⟨v, pre, post, k', rfl, rfl, hkk, hpre⟩
  · refine .inl ⟨rfl, ?_, hno⟩
    have hall : ∀ e ∈ es'.toList, keyEq k e.key = some false := by
      intro e he
      obtain ⟨v, h1, _⟩ := hr.mem (hp.mem_iff.1 he)
      exact hno _ h1
    rcases findNow_spec hd hk es'.toList 0 (fun e he => ⟨false, hall e he⟩) with ⟨h1, _⟩ | ⟨j, e, h1, h2, _⟩
    · exact h1
    · rw [hall e (List.mem_of_getElem? h1)] at h2; cases h2
  · have hkk' := keyEq_true hkk
    subst hkk'
    obtain ⟨ho1, ho2⟩ := keys_other hkeys rfl
    have hall : ∀ e ∈ es'.toList, ∃ b, keyEq k e.key = some b ∧ (b = true → VRel P β v e.val) := by
      intro e he
      obtain ⟨u, h1, h2⟩ := hr.mem (hp.mem_iff.1 he)
      rcases List.mem_append.1 h1 with h1 | h1
      · exact ⟨false, ho1 _ h1, by simp⟩
      · rcases List.mem_cons.1 h1 with h1 | h1
        · injection h1 with e1 e2; rw [e1]; exact ⟨true, hkk, fun _ => e2 ▸ h2⟩
        · exact ⟨false, ho2 _ h1, by simp⟩
    rcases findNow_spec hd hk es'.toList 0 (fun e he => let ⟨b, hb, _⟩ := hall e he; ⟨b, hb⟩) with ⟨_, h2⟩ | ⟨j, e, h1, h2, _, h3⟩
    · obtain ⟨p, e, q, rfl, _, he, _, _⟩ := ERel.split hr
      have := h2 e (hp.mem_iff.2 (by simp))
      rw [he] at this
      rw [hkk] at this; cases this
    · refine .inr ⟨v, pre, post, j, e, rfl, rfl, by simpa using h1, (keyEq_true h2).symm, ?_, by simpa using h3, ?_⟩
      · obtain ⟨b, hb, hv⟩ := hall e (List.mem_of_getElem? h1)
        rw [h2] at hb; cases hb; exact hv rfl
      · intro x hx
        rcases List.mem_append.1 hx with hx | hx
        · exact ho1 x hx
        · exact ho2 x hx

theorem run_checkKey {P : Program} {w : World} {t : TypeId} {d : TypeDesc} {str : Bool} (ht : P.underlying t = some d) (hd : KeyKind d str) {b : Bool} {n : Nat} {k : Value} :
    (Instr.checkKey b (n + 1) t k).run P w = .ok () w := by
  rw [Instr.checkKey, Sem.run_bind]
  have : (underlying t).run P w = .ok d w := by simp [underlying, ht]
  rw [this]
  rcases hd with ⟨_, rfl⟩ | ⟨_, k0, rfl⟩ <;> rfl

theorem run_findKey {P : Program} {w : World} {t : TypeId} {d : TypeDesc} (ht : P.underlying t = some d) {k : Value} {L : List MapEntry} {r : Option (Nat × Value)} (h : Instr.findNow d k L 0 = some r) :
    (Instr.findKey t k L).run P w = .ok r w := by
  rw [Instr.findKey, Sem.run_bind]
  have : (underlying t).run P w = .ok d w := by simp [underlying, ht]
  rw [this, Result.andThen_ok, h]; rfl

end Go.Cn
