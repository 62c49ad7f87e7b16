/- Every operation that only reads. -/
import Derived.Test.YtfagmflapdgcmaaDoorCnA3
namespace Go.Cn
set_option linter.unusedVariables false
set_option linter.unusedSimpArgs false

section
variable {F : Nat → Nat} {h : AH} {σ : CW}

theorem nth_toList (a : Array Value) (i : Nat) : nth a.toList i = a[i]? := by simp [nth]

theorem flatten_get {α : Type} : ∀ {es : List (List α)} {sz i : Nat} {e : List α}, (∀ e ∈ es, e.length = sz) → es[i]? = some e → ∀ j, j < sz → es.flatten[i * sz + j]? = e[j]?
  | [], _, _, _, _, h, _, _ => by simp at h
  | e0 :: es, sz, i, e, hs, h, j, hj => by
    have h0 := hs e0 (by simp)
    cases i with
    | zero =>
      simp at h; subst h
      rw [List.flatten_cons, List.getElem?_append_left (by omega)]
      simp
    | succ i =>
      simp at h
      have := flatten_get (es := es) (sz := sz) (i := i) (e := e) (fun x hx => hs x (by simp [hx])) h j hj
      rw [List.flatten_cons, List.getElem?_append_right (by rw [h0, Nat.succ_mul]; omega), ← this]
      congr 1
      rw [h0, Nat.succ_mul]; omega

theorem drop_flatten {α : Type} : ∀ {es : List (List α)} {sz : Nat} (l : Nat), (∀ e ∈ es, e.length = sz) → es.flatten.drop (l * sz) = (es.drop l).flatten
  | [], _, l, _ => by simp
  | e :: es, sz, 0, _ => by simp
  | e :: es, sz, l + 1, hs => by
    have h0 := hs e (by simp)
    rw [List.flatten_cons, List.drop_succ_cons, ← drop_flatten l (fun x hx => hs x (by simp [hx]))]
    have : (l + 1) * sz = e.length + l * sz := by rw [h0, Nat.succ_mul]; omega
    rw [this]
    rw [List.drop_append, List.drop_eq_nil_of_le (by omega)]
    simp
theorem take_flatten {α : Type} : ∀ {es : List (List α)} {sz : Nat} (l : Nat), (∀ e ∈ es, e.length = sz) → es.flatten.take (l * sz) = (es.take l).flatten
  | [], _, l, _ => by simp
  | e :: es, sz, 0, _ => by simp
  | e :: es, sz, l + 1, hs => by
    have h0 := hs e (by simp)
    rw [List.flatten_cons, List.take_succ_cons, List.flatten_cons, ← take_flatten l (fun x hx => hs x (by simp [hx]))]
    have : (l + 1) * sz = e.length + l * sz := by rw [h0, Nat.succ_mul]; omega
    rw [this, List.take_append]
    rw [List.take_of_length_le (by omega)]
    congr 1
    congr 1
    omega

/-- a list without its beginning -/
theorem Rp.suffix {E : TypeId} {es : List (List AV)} {t : Tag} {b off cap sz : Nat} {l : Nat} (hs : ∀ e ∈ es, e.length = sz) (h1 : l ≤ es.length) (hne : es ≠ []) (h : Rp F σ (.lst E es t) (.slice (some ⟨b, off, none⟩) es.length cap)) :
    Rp F σ (.lst E (es.drop l) t) (.slice (some ⟨b, off + l * sz, none⟩) (es.length - l) (cap - l)) := by
  generalize hn : es.length = n at h
  cases h with
  | lstE => exact absurd rfl hne
  | lstO => exact absurd rfl hne
  | @lst _ _ _ _ _ _ sz' c cl rel hb h0 hz hs' hF hc hl hB ht hv =>
    have hsz : sz' = sz := by
      cases es with
      | nil => exact absurd rfl hne
      | cons e es => rw [← hs' e (by simp), hs e (by simp)]
    subst hsz
    have hlen : (es.drop l).length = es.length - l := by simp
    have hmul : l * sz' + (es.length - l) * sz' = es.length * sz' := by rw [← Nat.add_mul]; congr 1; omega
    have hmul2 : l * sz' + (cap - l) * sz' = cap * sz' := by rw [← Nat.add_mul]; congr 1; omega
    by_cases he : es.length - l = 0
    · have hd : es.drop l = [] := by rw [List.drop_eq_nil_iff]; omega
      rw [hd, he]
      rcases ht with rfl | rfl
      · exact .lstE E _ _ _
      · refine .lstO E ?_ ?_
        · rw [he] at hmul; omega
        · rw [he] at hmul; omega
    · rw [← hlen]
      refine .lst (sz := sz') hb (by intro e; rw [e] at hlen; simp at hlen; omega) hz (fun e he => hs' e (List.mem_of_mem_drop he)) ?_ ?_ ?_ ?_ ?_ ?_
      · rw [hlen]; omega
      · rw [hlen]; omega
      · rw [hlen]; omega
      · rw [hlen]; omega
      · rcases ht with ht | ht
        · exact .inl ht
        · right
          rw [ht, hlen]
          congr 1 <;> omega
      · intro i x y hx hy
        refine hv (l * sz' + i) x y ?_ (by rw [← Nat.add_assoc]; exact hy)
        rw [← drop_flatten l hs', List.getElem?_drop] at hx
        exact hx

/-- a part of a list -/
theorem Rp.sub {E : TypeId} {es : List (List AV)} {t : Tag} {b off len cap sz : Nat} {l hh : Nat} (hs : ∀ e ∈ es, e.length = sz) (h1 : l ≤ hh) (h2 : hh ≤ es.length) (h : Rp F σ (.lst E es t) (.slice (some ⟨b, off, none⟩) len cap)) :
    Rp F σ (.lst E ((es.drop l).take (hh - l)) .no) (.slice (some ⟨b, off + l * sz, none⟩) (hh - l) (cap - l)) := by
  by_cases he : hh - l = 0
  · rw [he, List.take_zero]; exact .lstE E _ _ _
  · have hne : es ≠ [] := by rintro rfl; simp at h2; omega
    cases h with
    | lstE => exact absurd rfl hne
    | lstO => exact absurd rfl hne
    | @lst _ _ _ _ _ _ sz' c cl rel hb h0 hz hs' hF hc hl hB ht hv =>
      have hsz : sz' = sz := by
        cases es with
        | nil => exact absurd rfl hne
        | cons e es => rw [← hs' e (by simp), hs e (by simp)]
      subst hsz
      have hlen : ((es.drop l).take (hh - l)).length = hh - l := by simp; omega
      have hmul : l * sz' + (hh - l) * sz' = hh * sz' := by rw [← Nat.add_mul]; congr 1; omega
      have hmul2 : hh * sz' ≤ es.length * sz' := Nat.mul_le_mul_right _ h2
      have key : Rp F σ (.lst E ((es.drop l).take (hh - l)) .no) (.slice (some ⟨b, off + l * sz', none⟩) ((es.drop l).take (hh - l)).length (cap - l)) := by
        refine .lst (sz := sz') hb (by intro e; rw [e] at hlen; simp at hlen; omega) hz (fun e he => hs' e (List.mem_of_mem_drop (List.mem_of_mem_take he))) ?_ ?_ ?_ ?_ (.inl rfl) ?_
        · rw [hlen]; omega
        · rw [hlen]; omega
        · rw [hlen]; omega
        · rw [hlen]; omega
        · intro i x y hx hy
          refine hv (l * sz' + i) x y ?_ (by rw [← Nat.add_assoc]; exact hy)
          rw [← take_flatten _ (fun e he => hs' e (List.mem_of_mem_drop he)), ← drop_flatten l hs', List.getElem?_take] at hx
          split at hx
          · rw [List.getElem?_drop] at hx; exact hx
          · cases hx
      rw [hlen] at key
      exact key

theorem RpL.agg {l : List AV} {r : List Value} (h : RpL F σ l r) : Rp F σ (.agg l) (.agg r.toArray) := .agg (by simpa using h.1) fun i x y hi hy => h.2 i x y hi (by simpa using hy)

theorem ba_get (s : List UInt8) (n : Nat) : (⟨⟨s⟩⟩ : ByteArray)[n]? = s[n]? := by
  show (if h : n < (⟨⟨s⟩⟩ : ByteArray).size then some ((⟨⟨s⟩⟩ : ByteArray)[n]'h) else none) = _
  have hsz : (⟨⟨s⟩⟩ : ByteArray).size = s.length := rfl
  by_cases h : n < s.length
  · rw [dif_pos (by rw [hsz]; exact h), List.getElem?_eq_getElem h]; rfl
  · rw [dif_neg (by rw [hsz]; exact h), List.getElem?_eq_none (by omega)]
theorem ba_extract (s : List UInt8) (l h : Nat) : (⟨⟨s⟩⟩ : ByteArray).extract l h = ⟨⟨(s.drop l).take (h - l)⟩⟩ := by
  apply ByteArray.ext
  rw [ByteArray.data_extract]
  simp [List.extract_eq_take_drop]

theorem bnd_le {d y n : Nat} {o : Option Value} (h : bnd d y o = some n) : n = d ∨ n ≤ y := by
  unfold bnd at h
  split at h
  · cases h; exact .inl rfl
  · split at h
    · rename_i hc; cases h; right; omega
    · cases h
  · cases h
theorem bnd_cap {d y y' n : Nat} {o : Option Value} (hy : y ≤ y') (h : bnd d y o = some n) : bnd d y' o = some n := by
  unfold bnd at h ⊢
  split at h
  · exact h
  · split at h
    · rename_i hc
      rw [if_pos ⟨hc.1, by omega⟩]; exact h
    · cases h
  · cases h

theorem rp_pev (hA : AR F h σ) {o : POp} {ρA : Operand → AV} {ρ : Operand → Value} (hρ : ∀ x, Rp F σ (ρA x) (ρ x)) {a : AV} (he : pevA o ρA h = some a) : ∃ v, pev o ρ σ = some v ∧ Rp F σ a v := by
  cases o <;> simp only [pevA] at he
  case mov x => cases he; exact ⟨_, rfl, hρ x⟩
  case pick c x y =>
    have hc := hρ c
    split at he
    · rename_i t e
      cases he
      rw [e] at hc
      have := hc.bool_inv
      cases t
      · exact ⟨_, by simp [pev, this], hρ y⟩
      · exact ⟨_, by simp [pev, this], hρ x⟩
    · cases he
  case nilck x =>
    have hx := hρ x
    simp only [pev]
    generalize ρ x = v at hx ⊢
    generalize ρA x = a0 at hx he
    cases a0 <;> simp only [] at he <;> cases he
    all_goals (have hx' := hx; cases hx; exact ⟨_, rfl, hx'⟩)
  case bin op x y => exact binA_rp he (hρ x) (hρ y)
  case beq neg x y =>
    have hx := hρ x
    have hy := hρ y
    split at he
    · rename_i e1 e2
      cases he
      rw [e1] at hx; rw [e2] at hy
      exact ⟨_, by simp only [pev, hx.bool_inv, hy.bool_inv], .bool _⟩
    · cases he
  case isnil neg c x =>
    split at he
    · rename_i b e
      cases he
      exact ⟨_, by simp only [pev, isNil_rp e (hρ x)], .bool _⟩
    · cases he
  case un op x =>
    have hx := hρ x
    split at he
    · rename_i b e; cases he; rw [e] at hx
      exact ⟨.bool !b, by simp only [pev, hx.bool_inv, Op.unary]; rfl, .bool _⟩
    · rename_i k n e; cases he; rw [e] at hx
      exact ⟨.int k (k.wrap (0 - n)), by simp only [pev, hx.int_inv, Op.unary, Op.intArith]; rfl, .int _ _⟩
    · cases he
  case i2i k x =>
    have hx := hρ x
    split at he
    · rename_i k' n e; cases he; rw [e] at hx
      exact ⟨_, by simp only [pev, hx.int_inv], .int _ _⟩
    · cases he
  case i2s x =>
    have hx := hρ x
    split at he
    · rename_i k' n e; cases he; rw [e] at hx
      exact ⟨.string (Utf8.encode n), by simp only [pev, hx.int_inv], .str _⟩
    · cases he
  case s2s x =>
    have hx := hρ x
    split at he
    · rename_i n e; cases he; rw [e] at hx
      exact ⟨.string ⟨⟨n⟩⟩, by simp only [pev, hx.str_inv], .str _⟩
    · cases he
  case b2s x =>
    have hx := hρ x
    simp only [pev]
    generalize ρ x = v at hx ⊢
    split at he
    · rename_i E e
      rw [e] at hx
      cases he
      cases hx with
      | lst0 => exact ⟨_, rfl, .str _⟩
      | lst _ h0 _ _ _ _ _ _ _ _ => exact absurd rfl h0
    · rename_i E e0 es0 t e
      rw [e] at hx
      obtain ⟨es, hes⟩ : ∃ es, es = e0 :: es0 := ⟨_, rfl⟩
      have hn : es.length = es0.length + 1 := by rw [hes]; rfl
      rw [← hes] at hx he
      rw [← hn] at he
      split at he
      · rename_i l hl
        split at he
        · rename_i hlen
          cases he
          cases hx with
          | lst0 => cases hes
          | lstN => cases hes
          | lstE => cases hes
          | lstO => cases hes
          | @lst _ _ _ b off cap sz c cl rel hb h0 hz hs hF hc hl' hB ht hv =>
            have hsz : sz = 1 := by
              have := flatten_length hs
              rw [hlen] at this
              have hp : 0 < es.length := List.length_pos_iff.2 h0
              have : es.length * sz = es.length * 1 := by omega
              exact Nat.eq_of_mul_eq_mul_left hp this
            subst hsz
            have hrow : σ.row b = some c := by simp [CW.row, hb]
            have hR : RpL F σ es.flatten ((c.drop off).take es.length) := by
              refine ⟨by rw [hlen]; simp; omega, fun i x y hi hy => ?_⟩
              rw [List.getElem?_take] at hy
              split at hy
              · rw [List.getElem?_drop] at hy; exact hv i x y hi hy
              · cases hy
            refine ⟨.string ⟨⟨l⟩⟩, ?_, .str _⟩
            have ht : takeAt c off es.length = some ((c.drop off).take es.length) := by unfold takeAt; rw [if_pos (by omega)]
            simp only [CW.cells, hrow, ht, bytes_rp hl hR]
        · cases he
      · cases he
    · rename_i b off n cap e
      rw [e] at hx
      split at he
      · rename_i cs hcs
        split at he
        · rename_i l hl
          split at he
          · rename_i r hr
            cases he
            cases hx
            obtain ⟨c, h1, h2⟩ := cellAt_rp hA hcs
            obtain ⟨l', h3, h4⟩ := takeA_rp hl h2
            refine ⟨.string ⟨⟨r⟩⟩, ?_, .str _⟩
            simp only [CW.cells, h1, h3, bytes_rp hr h4]
          · cases he
        · cases he
      · cases he
    · cases he
  case mkif t x => cases he; exact ⟨_, rfl, .iface (hρ x)⟩
  case mkfn f first captured =>
    cases he
    have hl := RpL.map (F := F) (σ := σ) ρA ρ first fun x _ => hρ x
    have hl2 := RpL.map (F := F) (σ := σ) ρA ρ captured fun x _ => hρ x
    exact ⟨_, rfl, .func (by simp) (by simp) (fun i x y hx hy => hl.2 i x y hx (by simpa using hy)) fun i x y hx hy => hl2.2 i x y hx (by simpa using hy)⟩
  case slS x lo hi =>
    have hx := hρ x
    split at he
    · rename_i s e
      rw [e] at hx
      split at he
      · rename_i hh e1
        split at he
        · rename_i l e2
          cases he
          refine ⟨.string ⟨⟨(s.drop l).take (hh - l)⟩⟩, ?_, .str _⟩
          have h1 := bnd_rp hρ e1
          have h2 := bnd_rp hρ e2
          have hsz : (⟨⟨s⟩⟩ : ByteArray).size = s.length := rfl
          simp only [pev, hx.str_inv, hsz, h1, h2, ba_extract]
        · cases he
      · cases he
    · cases he
  case slV elem sz x lo hi mx =>
    cases mx with
    | some _ => cases he
    | none =>
      have hx := hρ x
      have hm : ∀ c, bnd c c none = some c := fun _ => rfl
      simp only at he
      split at he
      · rename_i E e
        rw [e] at hx
        split at he
        · rename_i hh e1
          split at he
          · rename_i l e2
            cases he
            have b1 := bnd_rp hρ e1
            have b2 := bnd_rp hρ e2
            simp only [pev]
            generalize ρ x = v at hx ⊢
            cases hx with
            | lst0 => exact ⟨.slice none 0 0, by simp only [Option.map_none, hm, b1, b2], .lst0 _⟩
            | lst _ h0 _ _ _ _ _ _ _ _ => exact absurd rfl h0
          · cases he
        · cases he
      · rename_i E e0 es0 t e
        rw [e] at hx
        obtain ⟨es, hes⟩ : ∃ es, es = e0 :: es0 := ⟨_, rfl⟩
        have hn : es.length = es0.length + 1 := by rw [hes]; rfl
        have hne : es ≠ [] := by rw [hes]; simp
        rw [← hes] at hx he
        rw [← hn] at he
        split at he
        · rename_i hc
          obtain ⟨rfl, hs⟩ := hc
          split at he
          · rename_i hh e1
            split at he
            · rename_i l e2
              cases he
              have b1 := bnd_rp hρ e1
              have b2 := bnd_rp hρ e2
              have k1 := bnd_le b1
              have k2 := bnd_le b2
              have k3 : hh ≤ es.length := k1.elim (fun e => by omega) id
              have k4 : l ≤ hh := k2.elim (fun e => by omega) id
              simp only [pev]
              generalize ρ x = v at hx ⊢
              have hx' := hx
              cases hx with
              | lst0 => exact absurd rfl hne
              | lstN => exact absurd rfl hne
              | lstE => exact absurd rfl hne
              | lstO => exact absurd rfl hne
              | @lst _ _ _ b off cap sz' c cl rel hb h0 hz hs' hF hcl hl hB ht hv =>
                refine ⟨.slice (some ⟨b, off + l * sz, none⟩) (hh - l) (cap - l), ?_, ?_⟩
                · have := bnd_cap hl b1
                  simp only [Option.map_none, hm, this, b2]
                  rw [if_pos]
                  simp [CW.elemIs, hb]
                · split
                  · rename_i e
                    rw [List.take_of_length_le (by simp; omega), e]
                    exact Rp.suffix hs (by omega) hne hx'
                  · exact Rp.sub hs k4 k3 hx'
            · cases he
          · cases he
        · cases he
      · rename_i b off len cap e
        rw [e] at hx
        split at he
        · rename_i hel
          split at he
          · rename_i hh e1
            split at he
            · rename_i l e2
              cases he
              have b1 := bnd_rp hρ e1
              have b2 := bnd_rp hρ e2
              simp only [pev]
              generalize ρ x = v at hx ⊢
              cases hx with
              | slice hl =>
                have k1 := bnd_le b1
                have k2 := bnd_le b2
                have k4 : l ≤ hh := k2.elim (fun e => by omega) id
                have k3 : hh ≤ cap := k1.elim (fun e => by omega) id
                obtain ⟨c, cl, rel, hb⟩ := elemAt_rp hA hel
                refine ⟨.slice (some ⟨b, off + l * sz, none⟩) (hh - l) (cap - l), ?_, .slice (by omega)⟩
                simp only [Option.map_none, hm, b1, b2]
                rw [if_pos]
                simp [CW.elemIs, hb]
            · cases he
          · cases he
        · cases he
      · cases he
  case fa off x =>
    have hx := hρ x
    split at he
    · rename_i cs e
      rw [e] at hx
      split at he
      · rename_i hlt
        cases he
        generalize hv0 : ρ x = v at hx
        cases hx with
        | @rptr _ b o c E cl rel hb h0 hF hc hv =>
          refine ⟨_, by simp only [pev, hv0]; rfl, ?_⟩
          refine .rptr (off := o + off) hb (by intro e; rw [List.drop_eq_nil_iff] at e; omega) (by simp; omega) (by simp; omega) fun i x y hi hy => ?_
          rw [List.getElem?_drop] at hi
          exact hv _ x y hi (by rw [← Nat.add_assoc]; exact hy)
      · cases he
    · rename_i b o e
      rw [e] at hx
      cases he
      generalize hv0 : ρ x = v at hx
      cases hx
      exact ⟨_, by simp only [pev, hv0]; rfl, .ptr _ _⟩
    · cases he
  case fld off n agg x =>
    have hx := hρ x
    split at he
    · rename_i cs e
      rw [e] at hx
      generalize hv0 : ρ x = v at hx
      cases hx with
      | @agg _ arr hl h =>
        have hL : RpL F σ cs arr.toList := ⟨by simpa using hl, fun i x y hi hy => h i x y hi (by simpa using hy)⟩
        split at he
        · rename_i hagg
          split at he
          · rename_i l hl'
            cases he
            obtain ⟨r, h1, h2⟩ := takeA_rp hl' hL
            exact ⟨.agg r.toArray, by simp only [pev, hv0, hagg, if_true, h1], h2.agg⟩
          · cases he
        · rename_i hagg
          obtain ⟨y, h1, h2⟩ := hL.left he
          exact ⟨y, by simp only [pev, hv0, hagg, if_false, Bool.false_eq_true]; exact h1, h2⟩
    · cases he
  case ia sz x i =>
    have hx := hρ x
    have hi := hρ i
    split at he
    · rename_i E es t k n e1 e2
      rw [e1] at hx
      rw [e2] at hi
      split at he
      · rename_i hn
        split at he
        · rename_i e hel
          split at he
          · rename_i hc
            cases he
            generalize hv0 : ρ x = v at hx
            have hmem := List.mem_of_getElem? hel
            have hlt : n.toNat < es.length := (List.getElem?_eq_some_iff.1 hel).1
            cases hx with
            | lst0 => simp at hel
            | lstN => simp at hel
            | lstE => simp at hel
            | lstO => simp at hel
            | @lst _ _ _ b off cap sz' c cl rel hb h0 hz hs hF hcl hl hB ht hv =>
              have hsz : sz' = sz := by rw [← hc.1, hs e hmem]
              subst hsz
              refine ⟨.pointer (some ⟨b, off + n.toNat * sz', none⟩), ?_, ?_⟩
              · simp only [pev, hv0, hi.int_inv]
                rw [if_pos ⟨trivial, hn, by omega⟩]
              · have hb2 : n.toNat * sz' + sz' ≤ es.length * sz' := by rw [← Nat.succ_mul]; exact Nat.mul_le_mul_right _ hlt
                refine .rptr hb hc.2 (by rw [hc.1]; omega) (by rw [hc.1]; omega) fun j x y hx hy => ?_
                have hj : j < sz' := by rw [← hc.1]; exact (List.getElem?_eq_some_iff.1 hx).1
                refine hv (n.toNat * sz' + j) x y ?_ (by rw [← Nat.add_assoc]; exact hy)
                rw [flatten_get hs hel j hj]; exact hx
          · cases he
        · cases he
      · cases he
    · rename_i b off len cap k n e1 e2
      rw [e1] at hx
      rw [e2] at hi
      split at he
      · rename_i hc
        cases he
        generalize hv0 : ρ x = v at hx
        cases hx
        refine ⟨_, ?_, .ptr _ _⟩
        simp only [pev, hv0, hi.int_inv]
        rw [if_pos ⟨trivial, hc.1, hc.2⟩]
      · cases he
    · cases he
  case ixS x i =>
    have hx := hρ x
    have hi := hρ i
    split at he
    · rename_i s k n e1 e2
      rw [e1] at hx
      rw [e2] at hi
      split at he
      · rename_i hn
        split at he
        · rename_i b hb
          cases he
          refine ⟨.int .u8 b.toNat, ?_, .int _ _⟩
          simp only [pev, hx.str_inv, hi.int_inv]
          rw [if_pos hn]
          rw [ba_get, hb]
        · cases he
      · cases he
    · cases he
  case lookup str zero ok m k =>
    split at he
    · rename_i es hes
      obtain ⟨es', h1, h2⟩ := ent_rp hA hes (hρ m)
      split at he
      · rename_i hk
        have hkey : isKey str (ρ k) = true := by
          have hk' := hρ k
          unfold isKeyA at hk
          split at hk
          · rename_i e; rw [e] at hk'; rw [hk'.str_inv]; exact hk
          · rename_i e; rw [e] at hk'; rw [hk'.int_inv]; exact hk
          · cases hk
        split at he
        · rename_i v hv
          cases he
          rcases look_rp (hρ k) hv h2 with ⟨g1, _⟩ | ⟨a', x, g1, g2, g3⟩
          · cases g1
          · cases g1
            cases ok
            · exact ⟨x, by simp only [pev, h1, hkey, g2]; rfl, g3⟩
            · exact ⟨.tuple #[x, .bool true], by simp only [pev, h1, hkey, g2]; rfl, .tuple rfl fun i a b ha hb => (RpL.cons g3 (.cons (.bool true) .nil)).2 i a b ha (by simpa using hb)⟩
        · rename_i hv
          cases he
          rcases look_rp (hρ k) hv h2 with ⟨_, g2⟩ | ⟨a', x, g1, _⟩
          · cases ok
            · exact ⟨zero, by simp only [pev, h1, hkey, g2]; rfl, ofC_rp F σ zero⟩
            · exact ⟨.tuple #[zero, .bool false], by simp only [pev, h1, hkey, g2]; rfl, .tuple rfl fun i a b ha hb => (RpL.cons (ofC_rp F σ zero) (.cons (.bool false) .nil)).2 i a b ha (by simpa using hb)⟩
          · cases g1
        · cases he
      · cases he
    · cases he
  case ta t zero ok x =>
    have hx := hρ x
    have hzero : Rp F σ (.tuple [ofC zero, .bool false]) (.tuple #[zero, .bool false]) := .tuple rfl fun i a b ha hb => (RpL.cons (ofC_rp F σ zero) (.cons (.bool false) .nil)).2 i a b ha (by simpa using hb)
    split at he
    · rename_i u v e
      rw [e] at hx
      generalize hv0 : ρ x = w at hx
      cases hx with
      | @iface _ _ v' hv =>
        split at he
        · rename_i hu
          cases he
          cases ok
          · exact ⟨v', by simp only [pev, hv0]; rw [if_pos hu]; rfl, hv⟩
          · exact ⟨.tuple #[v', .bool true], by simp only [pev, hv0]; rw [if_pos hu]; rfl, .tuple rfl fun i a b ha hb => (RpL.cons hv (.cons (.bool true) .nil)).2 i a b ha (by simpa using hb)⟩
        · rename_i hu
          split at he
          · rename_i hok
            cases he
            exact ⟨_, by simp only [pev, hv0]; rw [if_neg hu, if_pos hok], hzero⟩
          · cases he
    · rename_i e
      rw [e] at hx
      generalize hv0 : ρ x = w at hx
      cases hx
      split at he
      · rename_i hok
        cases he
        exact ⟨_, by simp only [pev, hv0]; rw [if_pos hok], hzero⟩
      · cases he
    · cases he
  case ext x i =>
    have hx := hρ x
    split at he
    · rename_i vs e
      rw [e] at hx
      generalize hv0 : ρ x = w at hx
      cases hx with
      | @tuple _ arr hl hh =>
        have hL : RpL F σ vs arr.toList := ⟨by simpa using hl, fun i x y hi hy => hh i x y hi (by simpa using hy)⟩
        obtain ⟨y, h1, h2⟩ := hL.left he
        exact ⟨y, by simp only [pev, hv0]; exact h1, h2⟩
    · cases he
  case lenS x =>
    have hx := hρ x
    split at he
    · rename_i s e; cases he; rw [e] at hx
      exact ⟨_, by simp only [pev, hx.str_inv]; rfl, .int _ _⟩
    · cases he
  case lenV x =>
    have hx := hρ x
    simp only [pev]
    generalize ρ x = v at hx ⊢
    split at he
    · rename_i E es t e; cases he; rw [e] at hx
      cases hx <;> exact ⟨_, rfl, .int _ _⟩
    · rename_i b o n c e; cases he; rw [e] at hx
      cases hx; exact ⟨_, rfl, .int _ _⟩
    · cases he
  case lenM x =>
    split at he
    · rename_i es hes
      cases he
      obtain ⟨es', h1, h2⟩ := ent_rp hA hes (hρ x)
      exact ⟨_, by simp only [pev, h1, ← h2.1], .int _ _⟩
    · cases he
  case ld1 x =>
    have hx := hρ x
    simp only [pev]
    generalize ρ x = v at hx ⊢
    split at he
    · rename_i cs e; rw [e] at hx
      cases hx with
      | @rptr _ b off c E cl rel hb h0 hF hc hv =>
        have hlt : 0 < cs.length := List.length_pos_iff.2 h0
        have hrow : σ.row b = some c := by simp [CW.row, hb]
        have hg : c[off + 0]? = some (c[off]'(by omega)) := by simp
        exact ⟨c[off]'(by omega), by simp only [CW.cell, hrow, nth]; exact hg, hv 0 a _ he hg⟩
    · rename_i b o e; rw [e] at hx
      cases hx
      split at he
      · rename_i cs hcs
        obtain ⟨c, h1, h2⟩ := cellAt_rp hA hcs
        obtain ⟨y, h3, h4⟩ := h2.left he
        exact ⟨y, by simp only [CW.cell, h1]; exact h3, h4⟩
      · cases he
    · cases he
  case ldN n x =>
    have hx := hρ x
    simp only [pev]
    generalize ρ x = v at hx ⊢
    split at he
    · rename_i cs e; rw [e] at hx
      split at he
      · rename_i l hl
        cases he
        cases hx with
        | @rptr _ b off c E cl rel hb h0 hF hc hv =>
          have hrow : σ.row b = some c := by simp [CW.row, hb]
          have hL : RpL F σ cs ((c.drop off).take cs.length) := by
            refine ⟨by simp; omega, fun i x y hi hy => ?_⟩
            rw [List.getElem?_take] at hy
            split at hy
            · rw [List.getElem?_drop] at hy; exact hv i x y hi hy
            · cases hy
          unfold takeA at hl
          split at hl
          · rename_i hle
            cases hl
            have hln : n ≤ cs.length := by omega
            refine ⟨.agg ((c.drop off).take n).toArray, ?_, ?_⟩
            · have : takeAt c off n = some ((c.drop off).take n) := by unfold takeAt; rw [if_pos (by omega)]
              simp only [CW.cells, hrow, this]
            · have := hL.take n
              rw [List.take_take, Nat.min_eq_left hln] at this
              exact .agg (by simpa using this.1) fun i x y hi hy => this.2 i x y (by simpa using hi) (by simpa using hy)
          · cases hl
      · cases he
    · rename_i b o e; rw [e] at hx
      cases hx
      split at he
      · rename_i cs hcs
        split at he
        · rename_i l hl
          cases he
          obtain ⟨c, h1, h2⟩ := cellAt_rp hA hcs
          obtain ⟨l', h3, h4⟩ := takeA_rp hl h2
          exact ⟨.agg l'.toArray, by simp only [CW.cells, h1, h3], h4.agg⟩
        · cases he
      · cases he
    · cases he
  case build zero parts =>
    split at he
    · rename_i l hl
      cases he
      obtain ⟨r, h1, h2⟩ := fillA_rp hρ hl (ofC1L_rp zero)
      exact ⟨.agg r.toArray, by simp only [pev, h1], h2.agg⟩
    · cases he
  case mm max x y =>
    have hx := hρ x
    have hy := hρ y
    split at he
    · rename_i e1 e2
      cases he
      rw [e1] at hx; rw [e2] at hy
      exact ⟨_, by simp only [pev, hx.int_inv, hy.int_inv], .int _ _⟩
    · cases he
  case cmp x y =>
    have hx := hρ x
    have hy := hρ y
    split at he
    · rename_i e1 e2
      cases he
      rw [e1] at hx; rw [e2] at hy
      exact ⟨_, by simp only [pev, hx.str_inv, hy.str_inv]; rfl, .int _ _⟩
    · cases he
  case eqI neg ok u8 x y =>
    split at he
    · rename_i b hb
      cases he
      exact ⟨_, by simp only [pev, eqI_rp hA hb (hρ x) (hρ y)], .bool _⟩
    · cases he
  case capV x =>
    have hx := hρ x
    simp only [pev]
    generalize ρ x = v at hx ⊢
    split at he
    · rename_i e; cases he; rw [e] at hx
      cases hx with
      | lst0 => exact ⟨_, rfl, .int _ _⟩
      | lst _ h0 _ _ _ _ _ _ _ _ => exact absurd rfl h0
    · cases he
  case entry x =>
    have hx := hρ x
    simp only [pev]
    generalize ρ x = v at hx ⊢
    split at he
    · rename_i b e; rw [e] at hx
      cases hx
      split at he
      · rename_i todo k x ho
        cases he
        obtain ⟨_, _, hit⟩ := hA.obj b _ ho
        rcases hit with ⟨_, _, _, _, hc⟩ | ⟨m, ver, seen, es', h1, h2, _, _, _, h3⟩
        · cases hc
        · obtain ⟨k', l, x', rfl, g1, g2, g3⟩ := h3 k x rfl
          refine ⟨.tuple #[k', x'], by simp only [CW.entry, h1, h2, if_true, g2], .tuple rfl fun i a b ha hb => (RpL.cons ?_ (.cons g3 .nil)).2 i a b ha (by simpa using hb)⟩
          unfold keyV at g1
          split at g1 <;> cases g1 <;> constructor
      · cases he
    · cases he

end
end Go.Cn
