/- Lists that grow. -/
import Derived.Test.YtfagmflapdgcmaaDoorCnA11
namespace Go.Cn
set_option linter.unusedVariables false
set_option linter.unusedSimpArgs false

/-- a list's tag: it may grow, with room for 'k' more -/
def ownOk (t : Nat → Option Tok) (E : TypeId) (sz k : Nat) : Tag → Prop
  | .nil => k = 0
  | .own c cur rel p cp sz' => sz' = sz ∧ t c = some ⟨cur, rel, p, cp, sz, E⟩ ∧ cp = p + k * sz
  | .no => False
def clsOf : Tag → Option Nat
  | .own c _ _ _ _ _ => some c
  | _ => none

/-- The lists that may grow: tag, element type, cells of an element, room. 't0': what is others'. -/
structure Toks (t0 t : Nat → Option Tok) (L : List (Tag × TypeId × Nat × Nat)) : Prop where
  le : ∀ c k, t0 c = some k → t c = some k
  own : ∀ (i : Nat) (tag : Tag) (E sz k : Nat), L[i]? = some (tag, E, sz, k) → ownOk t E sz k tag
  out : ∀ (i : Nat) (tag : Tag) (E sz k c : Nat), L[i]? = some (tag, E, sz, k) → clsOf tag = some c → t0 c = none
  sep : ∀ (i j : Nat) (a b : Tag × TypeId × Nat × Nat) (c : Nat), i ≠ j → L[i]? = some a → L[j]? = some b → clsOf a.1 = some c → clsOf b.1 ≠ some c

theorem Toks.init (t : Nat → Option Tok) : Toks t t [] := ⟨fun _ _ h => h, fun i _ _ _ _ h => by simp at h, fun i _ _ _ _ _ h => by simp at h, fun i _ _ _ _ _ h => by simp at h⟩

theorem ownOk.cls {t : Nat → Option Tok} {E sz k c : Nat} {tag : Tag} (h : ownOk t E sz k tag) (hc : clsOf tag = some c) : ∃ x, t c = some x := by
  cases tag <;> simp only [clsOf, reduceCtorEq, Option.some.injEq] at hc
  subst hc
  exact ⟨_, h.2.1⟩
theorem ownOk.upd {t : Nat → Option Tok} {E sz k c : Nat} {tag : Tag} {x : Option Tok} (h : ownOk t E sz k tag) (hc : clsOf tag ≠ some c) : ownOk (upd t c x) E sz k tag := by
  cases tag with
  | no => exact h
  | nil => exact h
  | own c' cur rel p cp sz' =>
    refine ⟨h.1, ?_, h.2.2⟩
    rw [upd_ne _ _ (by intro e; subst e; exact hc rfl)]
    exact h.2.1

theorem Toks.one (t : Nat → Option Tok) (E sz : Nat) : Toks t t [(.nil, E, sz, 0)] where
  le := fun _ _ h => h
  own := by
    intro i tag E' sz' k h
    match i, h with
    | 0, h => cases h; rfl
  out := by
    intro i tag E' sz' k c h hc
    match i, h with
    | 0, h => cases h; cases hc
  sep := by
    intro i j a b c hij ha hb hc
    match i, ha with
    | 0, ha => cases ha; cases hc
theorem Toks.cons {t0 t : Nat → Option Tok} {L : List (Tag × TypeId × Nat × Nat)} (h : Toks t0 t L) (E sz : Nat) : Toks t0 t ((.nil, E, sz, 0) :: L) where
  le := h.le
  own := by
    intro i tag E' sz' k hi
    match i, hi with
    | 0, hi => cases hi; rfl
    | i + 1, hi => exact h.own i _ _ _ _ hi
  out := by
    intro i tag E' sz' k c hi hc
    match i, hi with
    | 0, hi => cases hi; cases hc
    | i + 1, hi => exact h.out i _ _ _ _ _ hi hc
  sep := by
    intro i j a b c hij ha hb hc
    match i, j, ha, hb with
    | 0, _, ha, _ => cases ha; cases hc
    | i + 1, 0, ha, hb => cases hb; simp [clsOf]
    | i + 1, j + 1, ha, hb => exact h.sep i j a b c (by omega) ha hb hc

theorem Toks.set {t0 t : Nat → Option Tok} {L : List (Tag × TypeId × Nat × Nat)} (h : Toks t0 t L) {i : Nat} {tag tag' : Tag} {E sz k k' c : Nat} {x : Tok} (hi : L[i]? = some (tag, E, sz, k)) (hc : clsOf tag = some c ∨ clsOf tag = none ∧ t c = none) (hc' : clsOf tag' = some c)
    (ho : ownOk (Go.Cn.upd t c (some x)) E sz k' tag') : Toks t0 (Go.Cn.upd t c (some x)) (L.set i (tag', E, sz, k')) := by
  have h0 : t0 c = none := by
    rcases hc with hc | ⟨_, hc⟩
    · exact h.out i _ _ _ _ _ hi hc
    · cases e : t0 c with
      | none => rfl
      | some y => rw [h.le c y e] at hc; cases hc
  have hil : i < L.length := (List.getElem?_eq_some_iff.1 hi).1
  have other : ∀ j tg E sz k, j ≠ i → L[j]? = some (tg, E, sz, k) → clsOf tg ≠ some c := by
    intro j tg E' sz' k' hj hl e
    rcases hc with hc | ⟨_, hc⟩
    · exact h.sep j i _ _ c hj hl hi e hc
    · obtain ⟨y, hy⟩ := (h.own j _ _ _ _ hl).cls e
      rw [hy] at hc; cases hc
  refine ⟨fun c' k hk => ?_, fun j tg E' sz' k2 hj => ?_, fun j tg E' sz' k2 c2 hj hc2 => ?_, fun j1 j2 a b c2 hjj ha hb hca => ?_⟩
  · rw [upd_ne _ _ (by intro e; subst e; rw [h0] at hk; cases hk)]; exact h.le _ _ hk
  · rw [List.getElem?_set] at hj
    split at hj
    · simp only [hil, if_true, Option.some.injEq, Prod.mk.injEq] at hj
      obtain ⟨rfl, rfl, rfl, rfl⟩ := hj
      exact ho
    · rename_i hne
      exact (h.own j _ _ _ _ hj).upd (other j _ _ _ _ (by omega) hj)
  · rw [List.getElem?_set] at hj
    split at hj
    · simp only [hil, if_true, Option.some.injEq, Prod.mk.injEq] at hj
      obtain ⟨rfl, rfl, rfl, rfl⟩ := hj
      rw [hc'] at hc2; cases hc2; exact h0
    · exact h.out j _ _ _ _ _ hj hc2
  · rw [List.getElem?_set] at ha hb
    split at ha
    · rename_i e1
      split at hb
      · omega
      · rename_i e2
        simp only [hil, if_true, Option.some.injEq] at ha
        subst ha
        obtain ⟨b1, b2, b3, b4⟩ := b
        have hcc : some c = some c2 := hc'.symm.trans hca
        cases hcc
        exact other j2 _ _ _ _ (by omega) hb
    · rename_i e1
      split at hb
      · simp only [hil, if_true, Option.some.injEq] at hb
        subst hb
        intro hb'
        have hcc : some c = some c2 := hc'.symm.trans hb'
        cases hcc
        obtain ⟨a1, a2, a3, a4⟩ := a
        exact other j1 _ _ _ _ (by omega) ha hca
      · exact h.sep j1 j2 a b c2 hjj ha hb hca

section
variable {K : Nat → Prop} {F : Nat → Nat} {h : AH} {σ : CW}

/-- a list with a tag of its own -/
theorem own_view {E E' c b rel p cp sz : Nat} {es : List (List AV)} {v : Value} (hT : TokOk F σ c ⟨b, rel, p, cp, sz, E⟩) (hr : Rp F σ (.lst E' es (.own c b rel p cp sz)) v) (hz : 0 < sz) :
    ∃ off cap cc, v = .slice (some ⟨b, off, none⟩) es.length cap ∧ p = rel + off + es.length * sz ∧ cp = rel + off + cap * sz ∧ σ.heap b = some (.cells cc E c rel) ∧ rel + cc.length = cp ∧ (∀ e ∈ es, e.length = sz) ∧
      (∀ (i : Nat) (x : AV) (y : Value), es.flatten[i]? = some x → cc[off + i]? = some y → Rp F σ x y) ∧ (es ≠ [] → E' = E) := by
  obtain ⟨cc, h1, h2⟩ := hT.row
  cases hr with
  | @lstO _ _ _ _ _ _ _ off cap hp hc => exact ⟨off, cap, cc, rfl, by simp; omega, by omega, h1, h2, by simp, fun i x y hi => by simp at hi, fun e => absurd rfl e⟩
  | @lst _ _ _ b' off cap sz' c' cl' rel' hb h0 hz' hs hF hc hl hB ht hv =>
    rcases ht with ht | ht
    · cases ht
    · cases ht
      rw [hb] at h1
      cases h1
      exact ⟨off, cap, _, rfl, rfl, rfl, hb, h2, hs, hv, fun _ => rfl⟩

theorem first_take {b off n cap sz m : Nat} {c cs : List Value} {E : TypeId} {cl rel : Nat} (hb : σ.heap b = some (.cells c E cl rel)) (h : takeAt c off (n * sz) = some cs) : (h0 : n ≠ 0) → σ.first sz n (.slice (some ⟨b, off, none⟩) m cap) = some cs := by
  intro h0
  simp only [CW.first, CW.cells, CW.row, hb, h, if_neg h0]

/-- What is put behind a list, as it grows. -/
theorem AR.append (hA : AR F h σ) (hK : KOk K h) {t0 : Nat → Option Tok} {L : List (Tag × TypeId × Nat × Nat)} (hT : Toks t0 h.toks L) {i : Nat} {tag : Tag} {E E' sz k bytes : Nat} {es ns : List (List AV)} {sv xv : Value} {new : List Value}
    (hi : L[i]? = some (tag, E, sz, k)) (hs : Rp F σ (.lst E' es tag) sv) (hx : lenV xv = some ns.length) (hf : σ.first sz ns.length xv = some new) (hnew : RpL F σ ns.flatten new) (hz : 0 < sz) (hns : ∀ e ∈ ns, e.length = sz) (hone : ns.flatten.all oneA = true)
    (hk : ns.length ≤ k ∨ k = 0) (hcap : k < ns.length → capOk (es.length + ns.length) bytes) (hB : es.length + ns.length ≤ big) :
    ∃ v σ' F' tag' t', doAppend E sz bytes σ sv xv = some (v, σ') ∧ Ext K F σ F' σ' ∧ AR F' ⟨h.objs, t'⟩ σ' ∧ Rp F' σ' (.lst E (es ++ ns) tag') v ∧ Toks t0 t' (L.set i (tag', E, sz, k - ns.length)) := by
  have hlen : ns.flatten.length = ns.length * sz := flatten_length hns
  have hnl : new.length = ns.length * sz := by rw [← hnew.1, hlen]
  have hsame : L.set i (tag, E, sz, k) = L := by
    apply List.ext_getElem?
    intro j
    rw [List.getElem?_set]
    split
    · rename_i e; subst e
      obtain ⟨this, e2⟩ := List.getElem?_eq_some_iff.1 hi
      rw [if_pos this, hi]
    · rfl
  have hown := hT.own i _ _ _ _ hi
  cases tag with
  | no => exact hown.elim
  | nil =>
    have hk0 : k = 0 := hown
    subst hk0
    have hes : es = [] ∧ sv = .slice none 0 0 := by
      cases hs with
      | lst0 => exact ⟨rfl, rfl⟩
      | lst _ _ _ _ _ _ _ _ ht _ => rcases ht with ht | ht <;> cases ht
    obtain ⟨rfl, rfl⟩ := hes
    by_cases h0 : ns = []
    · subst h0
      refine ⟨.slice none 0 0, σ, F, .nil, h.toks, ?_, .refl, hA, .lst0 E, ?_⟩
      · have hf' : σ.first sz 0 xv = some new := hf
        simp only [doAppend, hx, hf', List.length_nil, Nat.add_zero, Nat.le_refl, if_true]
      · simpa only [List.length_nil, Nat.sub_zero, hsame] using hT
    · have hpos : 0 < ns.length := List.length_pos_iff.2 h0
      obtain ⟨g1, g2⟩ := hA.newOwn (K := K) (c := new) (E := E) (p := ns.length * sz) (sz := sz) (by omega) hK
      refine ⟨.slice (some ⟨σ.next, 0, none⟩) ns.length ns.length, _, _, .own σ.next σ.next 0 (ns.length * sz) (ns.length * sz) sz, upd h.toks σ.next (some ⟨σ.next, 0, ns.length * sz, ns.length * sz, sz, E⟩), ?_, g2, ?_, ?_, ?_⟩
      · simp only [doAppend, hx, hf, Nat.zero_add]
        rw [if_neg (by omega), if_pos ⟨by have := hcap hpos; simpa using this, hnew.all_one hone⟩]
      · rw [hnl] at g1; exact g1
      · have := Rp.lst (F := upd F σ.next (ns.length * sz)) (σ := σ.add (.cells new E σ.next 0)) (E := E) (es := ns) (t := .own σ.next σ.next 0 (0 + 0 + ns.length * sz) (0 + 0 + ns.length * sz) sz) (b := σ.next) (off := 0) (cap := ns.length) (sz := sz) (by rw [add_heap, if_pos rfl])
          h0 hz hns (by rw [upd_same]; omega) (by omega) (Nat.le_refl _) (by simpa using hB) (.inr rfl) (fun i x y hi hy => (hnew.2 i x y hi (by simpa using hy)).ext g2)
        simpa only [Nat.zero_add, List.nil_append] using this
      · exact hT.set (c := σ.next) hi (.inr ⟨rfl, hA.tnext⟩) rfl ⟨rfl, by rw [upd_same], by simp⟩
  | own c b rel p cp sz' =>
    obtain ⟨rfl, htok, hroom⟩ := hown
    have hTk := hA.tok c _ htok
    obtain ⟨off, cap, cc, rfl, q1, q2, q3, q4, q5, q6, q7⟩ := own_view hTk hs hz
    have hcapk : cap = es.length + k := by
      have : cap * sz' = (es.length + k) * sz' := by rw [Nat.add_mul]; omega
      exact Nat.eq_of_mul_eq_mul_right hz this
    by_cases h0 : ns = []
    · subst h0
      refine ⟨.slice (some ⟨b, off, none⟩) es.length cap, σ, F, .own c b rel p cp sz', h.toks, ?_, .refl, hA, ?_, ?_⟩
      · have hf' : σ.first sz' 0 xv = some new := hf
        simp only [doAppend, hx, hf', List.length_nil, Nat.add_zero]
        rw [if_pos (by omega)]
        simp
      · by_cases he : es = []
        · subst he
          have e1 : rel + off = p := by simpa using q1.symm
          exact .lstO E e1 (by omega)
        · rw [List.append_nil, ← q7 he]; exact hs
      · simpa only [List.length_nil, Nat.sub_zero, hsame] using hT
    · have hpos : 0 < ns.length := List.length_pos_iff.2 h0
      have hposz : 0 < ns.length * sz' := Nat.mul_pos hpos hz
      have hflat : ns.flatten ≠ [] := by intro e; rw [e] at hlen; simp at hlen; omega
      have hall : ∀ e ∈ es ++ ns, e.length = sz' := by
        intro e he
        rcases List.mem_append.1 he with he | he
        · exact q5 e he
        · exact hns e he
      have hel : es.flatten.length = es.length * sz' := flatten_length q5
      have hAdd : (es ++ ns).length * sz' = es.length * sz' + ns.length * sz' := by rw [List.length_append, Nat.add_mul]
      by_cases hfit : ns.length ≤ k
      · have hfz : ns.length * sz' ≤ k * sz' := Nat.mul_le_mul_right _ hfit
        obtain ⟨σ', g1, g2, g3, cc0, cc', g4, g5, g6, g7, g8, g9⟩ := hA.appIn (K := K) htok hnew hone (by show p + _ ≤ cp; omega) hflat hK
        simp only at g1 g2 g3 g4 g5 g6 g7 g8 g9
        rw [q3] at g4; cases g4
        have e1 : p - rel = off + es.length * sz' := by omega
        refine ⟨.slice (some ⟨b, off, none⟩) (es.length + ns.length) cap, σ', _, .own c b rel (p + ns.flatten.length) cp sz', upd h.toks c (some ⟨b, rel, p + ns.flatten.length, cp, sz', E⟩), ?_, g3, g2, ?_, ?_⟩
        · simp only [doAppend, hx, hf]
          rw [if_pos (by omega), if_neg (by omega)]
          rw [e1] at g1
          simp only [g1]
        · have := Rp.lst (F := upd F b (p + ns.flatten.length - rel)) (σ := σ') (E := E) (es := es ++ ns) (t := .own c b rel (rel + off + (es ++ ns).length * sz') (rel + off + cap * sz') sz') (b := b) (off := off) (cap := cap) (sz := sz') g5
            (by simp [h0]) hz hall (by rw [upd_same, hAdd, hlen]; omega) (by rw [hAdd, g6]; omega) (by rw [List.length_append]; omega) (by rw [List.length_append]; exact hB) (.inr rfl) (fun j x y hj hy => by
              rw [List.flatten_append] at hj
              by_cases hjl : j < es.flatten.length
              · rw [List.getElem?_append_left hjl] at hj
                rw [g8 (off + j) (by omega)] at hy
                exact (q6 j x y hj hy).ext g3
              · rw [List.getElem?_append_right (by omega)] at hj
                have hjn : j - es.flatten.length < ns.flatten.length := (List.getElem?_eq_some_iff.1 hj).1
                have := g9 (j - es.flatten.length) hjn
                rw [show p - rel + (j - es.flatten.length) = off + j by omega] at this
                rw [this] at hy
                exact (hnew.2 _ x y hj hy).ext g3)
          rw [List.length_append] at this
          rwa [show rel + off + (es.length + ns.length) * sz' = p + ns.flatten.length by rw [Nat.add_mul, hlen]; omega, ← q2] at this
        · refine hT.set (c := c) hi (.inl rfl) rfl ⟨rfl, by rw [upd_same], ?_⟩
          rw [hlen, Nat.sub_mul]; omega
      · have hk0 : k = 0 := by rcases hk with hk | hk <;> omega
        subst hk0
        have hend : p = cp := by omega
        have htake : takeAt cc off (es.length * sz') = some ((cc.drop off).take (es.length * sz')) := by unfold takeAt; rw [if_pos (by omega)]
        have hold : ((cc.drop off).take (es.length * sz')).length = es.length * sz' := by simp; omega
        have hcl : ((cc.drop off).take (es.length * sz') ++ new).length = es.length * sz' + ns.length * sz' := by rw [List.length_append, hold, hnl]
        obtain ⟨g1, g2⟩ := hA.appCopy (K := K) htok (show p = cp from hend) (cs := (cc.drop off).take (es.length * sz') ++ new) (r0 := rel + off) (n := ns.length * sz') (by rw [List.length_append, hold, hnl]; show _ = p + _; omega) hK
        simp only at g1 g2
        refine ⟨.slice (some ⟨σ.next, 0, none⟩) (es.length + ns.length) (es.length + ns.length), _, _, .own c σ.next (rel + off) (p + ns.length * sz') (p + ns.length * sz') sz', upd h.toks c (some ⟨σ.next, rel + off, p + ns.length * sz', p + ns.length * sz', sz', E⟩), ?_, g2, g1, ?_, ?_⟩
        · simp only [doAppend, hx, hf]
          rw [if_neg (by omega), if_pos ⟨hcap hpos, hnew.all_one hone⟩]
          rw [if_pos ⟨trivial, hTk.ro⟩]
          simp only [q3, if_true, htake]
          rw [show rel + off + es.length * sz' = p by omega]
        · have := Rp.lst (F := upd F σ.next ((cc.drop off).take (es.length * sz') ++ new).length) (σ := grown σ c p ((cc.drop off).take (es.length * sz') ++ new) E (rel + off)) (E := E) (es := es ++ ns) (t := .own c σ.next (rel + off) (rel + off + 0 + (es ++ ns).length * sz') (rel + off + 0 + (es.length + ns.length) * sz') sz') (b := σ.next) (off := 0) (cap := es.length + ns.length) (sz := sz') (by rw [grown_heap, if_pos rfl])
            (by simp [h0]) hz hall (by rw [upd_same, hcl, hAdd]; omega) (by rw [hcl, hAdd]; omega) (by rw [List.length_append]; omega) (by rw [List.length_append]; exact hB) (.inr rfl) (fun j x y hj hy => by
              rw [List.flatten_append] at hj
              rw [Nat.zero_add] at hy
              by_cases hjl : j < es.flatten.length
              · rw [List.getElem?_append_left hjl] at hj
                rw [List.getElem?_append_left (by omega), List.getElem?_take, if_pos (by omega), List.getElem?_drop] at hy
                exact (q6 j x y hj hy).ext g2
              · rw [List.getElem?_append_right (by omega)] at hj
                rw [List.getElem?_append_right (by omega), hold, ← hel] at hy
                exact (hnew.2 _ x y hj hy).ext g2)
          rw [show (es ++ ns).length = es.length + ns.length from List.length_append] at this
          rwa [show rel + off + 0 + (es.length + ns.length) * sz' = p + ns.length * sz' by rw [Nat.add_mul]; omega] at this
        · exact hT.set (c := c) hi (.inl rfl) rfl ⟨rfl, by rw [upd_same], by simp⟩

end

/-- the elements of what is put behind -/
def newEls : AV → Option (List (List AV))
  | .lst _ ns _ => some ns
  | .str s => some (s.map fun c => [.int .u8 c.toNat])
  | _ => none
def newOk (sz : Nat) : AV → Prop
  | .str _ => sz = 1
  | _ => True

theorem newEls_rp {F : Nat → Nat} {σ : CW} {a : AV} {v : Value} {ns : List (List AV)} {sz : Nat} (hr : Rp F σ a v) (hn : newEls a = some ns) (ho : newOk sz a) (hs : ∀ e ∈ ns, e.length = sz) :
    lenV v = some ns.length ∧ ∃ new, σ.first sz ns.length v = some new ∧ RpL F σ ns.flatten new := by
  cases hr <;> simp only [newEls, reduceCtorEq, Option.some.injEq] at hn
  case str s =>
    subst hn
    have h1 : sz = 1 := ho
    subst h1
    refine ⟨by simp [lenV]; rfl, ?_⟩
    refine ⟨_, by simp only [CW.first, if_true]; rfl, ?_⟩
    rw [flat_one, List.length_map]
    have : List.take s.length s = s := List.take_length
    show RpL F σ _ (List.map _ (List.take s.length s))
    rw [this]
    exact RpL.map _ _ _ fun c _ => .int _ _
  case lst0 => subst hn; exact ⟨rfl, [], rfl, .nil⟩
  case lstN => subst hn; exact ⟨rfl, [], rfl, .nil⟩
  case lstE => subst hn; exact ⟨rfl, [], by simp [CW.first], .nil⟩
  case lstO => subst hn; exact ⟨rfl, [], by simp [CW.first], .nil⟩
  case lst E es t b off cap sz' c cl rel hb h0 hz' hs' hF hc hl hB ht hv =>
    subst hn
    obtain ⟨e0, he0⟩ := List.exists_mem_of_ne_nil _ h0
    have hsz : sz' = sz := (hs' e0 he0).symm.trans (hs e0 he0)
    subst hsz
    have htake : takeAt c off (es.length * sz') = some ((c.drop off).take (es.length * sz')) := by unfold takeAt; rw [if_pos hc]
    refine ⟨rfl, _, first_take hb htake (by have := List.length_pos_iff.2 h0; omega), ?_⟩
    refine ⟨by rw [flatten_length hs']; simp; omega, fun i x y hi hy => ?_⟩
    have hil : i < es.flatten.length := (List.getElem?_eq_some_iff.1 hi).1
    rw [flatten_length hs'] at hil
    rw [List.getElem?_take, if_pos hil, List.getElem?_drop] at hy
    exact hv i x y hi hy

/-- other tokens -/
def AH.tk (h : AH) (t : Nat → Option Tok) : AH := ⟨h.objs, t⟩
theorem tk_objs {h : AH} {t : Nat → Option Tok} : (h.tk t).objs = h.objs := rfl
theorem tk_toks {h : AH} {t : Nat → Option Tok} : (h.tk t).toks = t := rfl
theorem tk_tk {h : AH} {t t' : Nat → Option Tok} : (h.tk t).tk t' = h.tk t' := rfl
theorem tk_set {h : AH} {t : Nat → Option Tok} {b : Nat} {o : AO} : (h.tk t).set b o = (h.set b o).tk t := rfl
theorem tk_del {h : AH} {t : Nat → Option Tok} {b : Nat} : (h.tk t).del b = (h.del b).tk t := rfl
theorem tk_same {h : AH} : h.tk h.toks = h := rfl
theorem tk_le {h h' : AH} {t : Nat → Option Tok} (hl : h.le h') (ht : ∀ c k, h'.toks c = some k → t c = some k) : h.le (h'.tk t) := ⟨hl.1, fun c k hk => ht c k (hl.2 c k hk)⟩

/-- An append, in code. -/
theorem WO.append {T : Nat → Option CFun} {K : Nat → Prop} {fr : AFr} {h : AH} {s x : Operand} {E E' sz k bytes i : Nat} {es ns : List (List AV)} {tag : Tag} {t0 : Nat → Option Tok} {L : List (Tag × TypeId × Nat × Nat)} {Q : AV → AH → Prop}
    (hT : Toks t0 h.toks L) (hi : L[i]? = some (tag, E, sz, k)) (hs : evA fr s = .lst E' es tag) (hx : newEls (evA fr x) = some ns) (hxo : newOk sz (evA fr x)) (hz : 0 < sz) (hns : ∀ e ∈ ns, e.length = sz) (hone : ns.flatten.all oneA = true)
    (hk : ns.length ≤ k ∨ k = 0) (hcap : k < ns.length → capOk (es.length + ns.length) bytes) (hB : es.length + ns.length ≤ big)
    (hq : ∀ tag' t', Toks t0 t' (L.set i (tag', E, sz, k - ns.length)) → Q (.lst E (es ++ ns) tag') (h.tk t')) : WO T K (.e (.append E sz bytes s x)) fr h Q := by
  intro F σ ρ hA hK hρ
  have hs' := hρ s
  rw [hs] at hs'
  obtain ⟨h1, new, h2, h3⟩ := newEls_rp (hρ x) hx hxo hns
  obtain ⟨v, σ', F', tag', t', g1, g2, g3, g4, g5⟩ := hA.append hK hT hi hs' h1 h2 h3 hz hns hone hk hcap hB
  exact ⟨v, σ', g1, F', _, _, g2, g3, fun b hb => hK b hb, g4, hq _ _ g5⟩

end Go.Cn
