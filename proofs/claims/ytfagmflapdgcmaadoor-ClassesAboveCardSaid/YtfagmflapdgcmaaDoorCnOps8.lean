/- Appends, copies, clears. -/
import Derived.Test.YtfagmflapdgcmaaDoorCnOps7
namespace Go.Cn
set_option linter.unusedVariables false
set_option linter.unusedSimpArgs false

section ops
variable {P : Program} {β : Ren} {σ : CW} {w : World} {ev' ρ : Operand → Value} {o : Oper} {v : Value} {σ' : CW}

theorem lenV_rel {x x' : Value} {n : Nat} (h : lenV x = some n) (hx : VRel P β x x') : (Builtin.lenOf x').run P w = .ok n w := by
  unfold lenV at h
  split at h
  · rename_i a m c
    cases h
    cases a with
    | none => obtain ⟨rfl, _, rfl⟩ := hx.nilSlice_inv; rfl
    | some a => obtain ⟨_, _, a', c', rfl, _⟩ := hx.slice_inv; rfl
  · cases h; rw [hx.string_inv]; rfl
  · cases h

theorem r_first {sz n m : Nat} {x x' : Value} {l : List Value} (h : Rel P β σ w) (hx : VRel P β x x') (hm : lenV x = some m) (hn : n ≤ m) (hf : σ.first sz n x = some l) :
    ∃ l', LRel P β l l' ∧ l.length = n * sz ∧ ∀ w1 : World, w1.heap = w.heap → (Builtin.firstCells sz n x').run P w1 = .ok l'.toArray w1 := by
  unfold CW.first at hf
  split at hf
  · rename_i a len cap
    cases hm
    obtain ⟨_, hlc, a', c', rfl, hcc, hor⟩ := hx.slice_inv
    split at hf
    · rename_i hn0
      subst hn0
      cases hf
      refine ⟨[], .nil, by simp, fun w1 _ => ?_⟩
      simp [Builtin.firstCells, loadCells, loadCellsFrom]
    obtain ⟨_, c, hr, hk⟩ := cells_some hf
    rcases hor with hz | ⟨i, hi, rfl, _⟩
    · have hn0 : n = 0 := by omega
      subst hn0
      obtain ⟨_, rfl⟩ := takeAt_some hk
      refine ⟨[], by simp; exact .nil, by simp, fun w1 _ => ?_⟩
      simp [Builtin.firstCells, loadCells, loadCellsFrom]
    · obtain ⟨r', h1, h2, h3⟩ := h.loads hr hk hi
      exact ⟨r', h1, h2, fun w1 hw => by simp only [Builtin.firstCells]; exact h3 w1 hw⟩
  · rename_i len cap
    cases hm
    obtain ⟨rfl, _, rfl⟩ := hx.nilSlice_inv
    cases hf
    have : n = 0 := by omega
    subst this
    exact ⟨[], .nil, by simp, fun _ _ => rfl⟩
  · rename_i s
    split at hf
    · rename_i hs1
      cases hf
      cases hm
      rw [hx.string_inv]
      subst hs1
      have hsz : s.data.size = s.size := rfl
      refine ⟨(s.data.toList.take n).map fun b => .int .u8 b.toNat, LRel.map _ _ _ fun b _ => .int _ _, by simp [hsz]; omega, fun w1 _ => ?_⟩
      simp only [Builtin.firstCells, Sem.run_pure]
      congr 1
      apply Array.ext'
      simp [ByteArray.extract, ByteArray.copySlice]
    · cases hf
  · cases hf

theorem nextslicecap_le {need old : Nat} (h : old < need) : Builtin.nextslicecap need old ≤ 2 * need + 1000 := by
  unfold Builtin.nextslicecap
  split
  · omega
  · split
    · omega
    · have step : ∀ (r c : Nat), c ≤ 2 * need + 1000 → Builtin.growBy need r c ≤ 2 * need + 1000 := by
        intro r
        induction r with
        | zero => intro c hc; exact hc
        | succ r ih =>
          intro c hc
          unfold Builtin.growBy
          split
          · exact hc
          · exact ih _ (by omega)
      exact step 4 old (by omega)

theorem zeroCells_size {z : Array Value} {n : Nat} : (Builtin.zeroCells z n).size = n * z.size := by simp [Builtin.zeroCells]

/-- what the model's append comes to, where it is made in place -/
theorem r_append_in {t u e : TypeId} {d : TypeDesc} {sz n sLen sCap : Nat} {base : Option Addr} {x : Value} {new : List Value} {rt : TypeId} {w' : World} (ht : P.underlying t = some (.slice e)) (hu : P.underlying u = some d) (hd : ∀ k, d ≠ .int k)
    (hsz : szOf P e = some sz) (hn : (Builtin.lenOf x).run P w = .ok n w) (hf : (Builtin.firstCells sz n x).run P w = .ok new.toArray w) (hle : sLen + n ≤ sCap)
    (hs : ∀ a ∈ base, (storeCells (a.add (sLen * sz)) new).run P w = .ok () w') (hb : base = none → w' = w) :
    (Builtin.append_ #[t, u] rt #[.slice base sLen sCap, x]).run P w = .ok (.slice base (sLen + n) sCap) w' := by
  simp only [Builtin.append_, Sem.run_bind, List.getElem?_toArray, List.getElem?_cons_zero, List.getElem?_cons_succ, r_und ht, r_und hu, Result.andThen, r_size hsz, Sem.run_pure]
  cases d <;> first
    | exact absurd rfl (hd _)
    | (simp only [Bool.false_eq_true, if_false, Sem.run_bind, hn, Result.andThen, if_pos hle, Bool.not_false, if_true, hf]
       cases base with
       | none => rw [hb rfl]; rfl
       | some a => simp only [Sem.run_bind, hs a rfl, Result.andThen, Sem.run_pure])

theorem r_append_new {t u e : TypeId} {d : TypeDesc} {sz b n sLen sCap : Nat} {z : Value} {base : Option Addr} {x : Value} {new old : List Value} {rt : TypeId} (ht : P.underlying t = some (.slice e)) (hu : P.underlying u = some d) (hd : ∀ k, d ≠ .int k)
    (hsz : szOf P e = some sz) (hby : bytesOf P e = some b) (hb0 : b ≠ 0) (hz : zeroOf P e = some z) (hn : (Builtin.lenOf x).run P w = .ok n w) (hf : ∀ w1 : World, w1.heap = w.heap → (Builtin.firstCells sz n x).run P w1 = .ok new.toArray w1)
    (hold : ∀ w1 : World, w1.heap = w.heap → (Builtin.firstCells sz sLen (.slice base sLen sCap)).run P w1 = .ok old.toArray w1) (hgt : ¬ sLen + n ≤ sCap) (hcap : capOk (sLen + n) b) :
    ∃ newCap, sLen + n ≤ newCap ∧ (Builtin.append_ #[t, u] rt #[.slice base sLen sCap, x]).run P w =
      .ok (.slice (some ⟨w.heap.size, 0, none⟩) (sLen + n) newCap) (w.drew.alloc (.cells (old.toArray ++ new.toArray ++ Builtin.zeroCells z.cells (newCap - (sLen + n))) e)) := by
  obtain ⟨inf, hi1, hi2⟩ := bytesOf_some hby
  refine ⟨(Question.appendCap (sLen + n) sCap e).cut (w.tape w.drawn (.appendCap (sLen + n) sCap e)), by simp only [Question.cut]; omega, ?_⟩
  have g1 : ¬ (((sLen + n : Nat) : Int) > IntKind.i64.max ∧ (False ∨ inf.bytes = 0)) := by
    rintro ⟨_, h⟩
    rcases h with h | h
    · exact h
    · omega
  have g2 : ¬ (Builtin.nextslicecap (sLen + n) sCap * inf.bytes > 2 ^ 48) := by
    have h1 := nextslicecap_le (need := sLen + n) (old := sCap) (by omega)
    have h2 := hcap.1
    rw [hi2]
    have h3 : Builtin.nextslicecap (sLen + n) sCap * b ≤ (2 * (sLen + n) + 2000) * b := Nat.mul_le_mul_right b (by omega)
    have : (2 : Nat) ^ 48 = 281474976710656 := by decide
    omega
  have hforced : (Question.appendCap (sLen + n) sCap e).forced = false := rfl
  simp only [Builtin.append_, Sem.run_bind, List.getElem?_toArray, List.getElem?_cons_zero, List.getElem?_cons_succ, r_und ht, r_und hu, Result.andThen, r_size hsz, Sem.run_pure]
  cases d <;> first
    | exact absurd rfl (hd _)
    | (simp only [Bool.false_eq_true, if_false, Sem.run_bind, hn, Result.andThen, if_neg hgt, r_info hi1, Result.andThen, if_neg g1, if_neg g2, run_choose, hforced, run_askRoom, World.drew_eq, hold w.drew rfl, hf w.drew rfl, Bool.not_false, if_true, r_zero hz, Go.newRow, run_newObj, Sem.run_pure, World.alloc_eq, World.size_drew])

theorem e_append {c : Call} {t u e : TypeId} {d : TypeDesc} {sz b : Nat} {z : Value} {s x : Operand} (h : Rel P β σ w) (ho : o.op = .call c) (hc : c.callee = .builtin .append) (hat : c.argTypes = #[t, u]) (ha : c.args = #[s, x])
    (ht : P.underlying t = some (.slice e)) (hu : P.underlying u = some d) (hd : ∀ k, d ≠ .int k) (hsz : szOf P e = some sz) (hby : bytesOf P e = some b) (hb0 : b ≠ 0) (hz : zeroP P e = some z) (hzl : (cellsOf z).length = sz)
    (hs : VRel P β (ev' s) (ρ s)) (hx : VRel P β (ev' x) (ρ x)) (hp : doAppend e sz b σ (ev' s) (ev' x) = some (v, σ')) : Does P ρ o β σ w v σ' := by
  obtain ⟨hz1, hz2⟩ := zeroP_some hz
  have hzsz : z.cells.size = sz := by rw [← hzl]; exact (lrel_size (plain_cells (P := P) (β := β) hz2)).symm
  have hex : ∀ w' y, (Builtin.append_ #[t, u] o.type #[ρ s, ρ x]).run P w = .ok y w' → (execOp ρ o).run P w = .ok (.value y) w' := by
    intro w' y hw'
    simp [execOp, ho, resolve, hc, ha, hat, invoke, builtin, hw']
  unfold doAppend at hp
  split at hp
  case h_2 => cases hp
  rename_i base sLen sCap n es hln
  split at hp
  case h_2 => cases hp
  rename_i new hnew
  have hlen := lenV_rel (P := P) (w := w) hln hx
  obtain ⟨new', hn1, hn2, hn3'⟩ := r_first h hx hln (Nat.le_refl _) hnew
  have hn3 := hn3' w rfl
  split at hp
  · -- in place, here and there
    rename_i hle
    split at hp
    · simp only [Option.some.injEq, Prod.mk.injEq] at hp
      obtain ⟨rfl, rfl⟩ := hp
      obtain ⟨rfl, rfl, q⟩ := (es ▸ hs).nilSlice_inv
      have hn0 : n = 0 := by omega
      subst hn0
      refine ⟨_, w, β, hex w _ ?_, .inl ⟨_, rfl, .nilSlice⟩, .refl h⟩
      rw [q]
      exact r_append_in ht hu hd hsz hlen hn3 (Nat.le_refl _) (by simp) (fun _ => rfl)
    · rename_i a
      obtain ⟨_, hlc, a', c', q, hcc, hor⟩ := (es ▸ hs).slice_inv
      split at hp
      · rename_i hn0
        subst hn0
        simp only [Option.some.injEq, Prod.mk.injEq] at hp
        obtain ⟨rfl, rfl⟩ := hp
        have hnil : new' = [] := by
          have : new.length = 0 := by rw [hn2]; simp
          have := hn1.1
          exact List.length_eq_zero_iff.1 (by omega)
        subst hnil
        refine ⟨_, w, β, hex w (.slice (some a') (sLen + 0) c') ?_, .inl ⟨_, rfl, ?_⟩, .refl h⟩
        · rw [q]
          exact r_append_in ht hu hd hsz hlen hn3 (by omega) (fun _ _ => rfl) (fun h => by cases h)
        · rw [es] at hs
          rw [q] at hs; exact hs
      · rename_i hn0
        split at hp
        case h_2 => cases hp
        rename_i σ1 hput
        simp only [Option.some.injEq, Prod.mk.injEq] at hp
        obtain ⟨rfl, rfl⟩ := hp
        rcases hor with hz0 | ⟨i, hi, rfl, hspan⟩
        · omega
        · obtain ⟨hs1, hs2⟩ := put_row hput
          simp only at hs1
          rw [hs1] at hput
          obtain ⟨w', k1, k2⟩ := h.put hi hput hn1
          refine ⟨_, w', β, hex w' (.slice (some ⟨i.B, a.off + i.sh, none⟩) (sLen + n) c') ?_, .inl ⟨_, rfl, ?_⟩, k2⟩
          · rw [q]
            refine r_append_in ht hu hd hsz hlen hn3 (by omega) (fun y hy => ?_) (fun h => by cases h)
            cases hy
            rw [Addr.add_none]
            rw [show a.off + i.sh + sLen * sz = a.off + sLen * sz + i.sh by omega]; exact k1
          · have ha : a = ⟨a.block, a.off, none⟩ := by cases a; simp_all
            rw [ha]
            exact .slice hle hcc (.inr ⟨i, hi, rfl, hspan⟩)
  · rename_i hgt
    split at hp
    case isFalse => cases hp
    rename_i hcond
    obtain ⟨hcapok, hone⟩ := hcond
    split at hp
    · -- nothing was there
      simp only [Option.some.injEq, Prod.mk.injEq] at hp
      obtain ⟨rfl, rfl⟩ := hp
      obtain ⟨rfl, rfl, q⟩ := (es ▸ hs).nilSlice_inv
      obtain ⟨newCap, g1, g2⟩ := r_append_new (base := none) (old := []) (rt := o.type) ht hu hd hsz hby hb0 hz1 hlen hn3' (fun _ _ => rfl) hgt hcapok
      have hrow : (([] : List Value).toArray ++ new'.toArray ++ Builtin.zeroCells z.cells (newCap - (0 + n))).size = newCap * sz := by
        have := hn1.1
        simp only [Array.size_append, List.size_toArray, zeroCells_size, hzsz, List.length_nil]
        have e1 : newCap * sz = (newCap - (0 + n)) * sz + n * sz := by rw [← Nat.add_mul]; congr 1; omega
        omega
      refine ⟨_, w.drew.alloc (.cells (([] : List Value).toArray ++ new'.toArray ++ Builtin.zeroCells z.cells (newCap - (0 + n))) e), _, hex _ _ (by rw [q]; exact g2), .inl ⟨_, rfl, ?_⟩, h.newRow (w' := w.drew.alloc (.cells (([] : List Value).toArray ++ new'.toArray ++ Builtin.zeroCells z.cells (newCap - (0 + n))) e)) (fr := (0, 0)) (E := e) (c' := ([] : List Value).toArray ++ new'.toArray ++ Builtin.zeroCells z.cells (newCap - (0 + n))) ?_ ?_ (.inl rfl) rfl rfl rfl rfl⟩
      · exact slice_new (sz := sz) (upd_same _ _ _) (Nat.le_refl _) g1 (.inr ⟨hsz, by rw [hrow]; exact Nat.le_refl _⟩)
      · rw [hrow, hn2]; exact Nat.mul_le_mul_right sz (by omega)
      · intro k y hk
        obtain ⟨y', r1, r2⟩ := hn1.left hk
        refine ⟨y', ?_, r2⟩
        have hkl : k < new'.length := (List.getElem?_eq_some_iff.1 r1).1
        rw [Array.getElem?_append_left (by simpa using hkl)]
        simpa using r1
    · rename_i a
      split at hp
      case isFalse => cases hp
      rename_i hc2
      obtain ⟨hsp, hro⟩ := hc2
      split at hp
      case h_2 => cases hp
      rename_i row elem' cl rel hrow
      split at hp
      case isFalse => cases hp
      rename_i hel
      subst hel
      split at hp
      case h_2 => cases hp
      rename_i old hold
      simp only [Option.some.injEq, Prod.mk.injEq] at hp
      obtain ⟨rfl, rfl⟩ := hp
      obtain ⟨_, hlc, a', c', q, hcc, hor⟩ := (es ▸ hs).slice_inv
      have hoL : old.length = sLen * sz := by obtain ⟨h1, rfl⟩ := takeAt_some hold; simp; omega
      have hrow' : σ.row a.block = some row := by unfold CW.row; rw [hrow]
      by_cases hle' : sLen + n ≤ c'
      · -- there in place
        rcases hor with hz0 | ⟨i, hi, rfl, hspan⟩
        · omega
        · obtain ⟨c1, fr, hB, hE, hN, hcN, hsoft, hcs⟩ := (h.obj _ i _ hi hrow).cells_inv
          have hspan' : a.off + i.sh + c' * sz ≤ i.N := by
            rcases hspan with hx1 | ⟨sz', hs1, hs2⟩
            · omega
            · rw [← hE, hsz] at hs1; cases hs1; exact hs2
          have hfit : a.off + i.sh + sLen * sz + new.length ≤ i.N := by
            rw [hn2]
            have e1 : (sLen + n) * sz ≤ c' * sz := Nat.mul_le_mul_right sz hle'
            have e2 : (sLen + n) * sz = sLen * sz + n * sz := Nat.add_mul _ _ _
            omega
          have hone' : ∀ y ∈ new', y.oneCell' = true := by
            intro y hy
            obtain ⟨j, hj, rfl⟩ := List.getElem_of_mem hy
            have hj' : j < new.length := by rw [hn1.1]; exact hj
            exact (hn1.2 j new[j] new'[j] (by simp) (by simp)).oneCell ((List.all_eq_true.1 hone) _ (by simp))
          obtain ⟨w', c2, k1, k2, k3, k4⟩ := run_storeCells (P := P) (off := a.off + i.sh + sLen * sz) (B := i.B) (E := i.E) (fr := fr) new' 0 w c1 hB hone'
            (by rw [hN, ← hn1.1]; omega) (by rw [hN]; exact (hsoft (h.wr.2 _ i hi (.inl hro))).cells)
          simp only [Nat.add_zero] at k4
          have hstp := h.growIn (w' := w') (q := sLen * sz) hi hrow hro hold hn1 hB k2 k3 (by omega) k4
          refine ⟨_, w', _, hex w' (.slice (some ⟨i.B, a.off + i.sh, none⟩) (sLen + n) c') ?_, .inl ⟨_, rfl, ?_⟩, hstp⟩
          · rw [q]
            refine r_append_in ht hu hd hsz hlen hn3 hle' (fun y hy => ?_) (fun h => by cases h)
            cases hy
            rw [Addr.add_none]; exact k1
          · refine .slice (Nat.le_refl _) hle' (.inr ⟨_, upd_same _ _ _, ?_, .inr ⟨sz, by rw [← hE]; exact hsz, ?_⟩⟩)
            · simp
            · simpa using hspan'
      · -- there anew, too
        have hold' : ∃ old', LRel P β old old' ∧ ∀ w1 : World, w1.heap = w.heap → (Builtin.firstCells sz sLen (.slice (some a') sLen c')).run P w1 = .ok old'.toArray w1 := by
          rcases hor with hz0 | ⟨i, hi, rfl, _⟩
          · have hs0 : sLen = 0 := by omega
            subst hs0
            have : old = [] := List.length_eq_zero_iff.1 (by rw [hoL]; simp)
            subst this
            refine ⟨[], .nil, fun w1 _ => ?_⟩
            simp [Builtin.firstCells, loadCells, loadCellsFrom]
          · obtain ⟨r', m1, _, m3⟩ := h.loads hrow' hold hi
            exact ⟨r', m1, fun w1 hw1 => by simp only [Builtin.firstCells]; exact m3 w1 hw1⟩
        obtain ⟨old', m1, m2⟩ := hold'
        obtain ⟨newCap, g1, g2⟩ := r_append_new (base := some a') (rt := o.type) ht hu hd hsz hby hb0 hz1 hlen hn3' m2 hle' hcapok
        have hrowsz : (old'.toArray ++ new'.toArray ++ Builtin.zeroCells z.cells (newCap - (sLen + n))).size = newCap * sz := by
          have e0 := hn1.1
          have e2 := m1.1
          simp only [Array.size_append, List.size_toArray, zeroCells_size, hzsz]
          have e1 : newCap * sz = (newCap - (sLen + n)) * sz + (sLen + n) * sz := by rw [← Nat.add_mul]; congr 1; omega
          have e3 : (sLen + n) * sz = sLen * sz + n * sz := Nat.add_mul _ _ _
          omega
        have hboth := m1.append hn1
        have hnewo : ObjRel P (upd β σ.next (some ⟨w.heap.size, 0, newCap * sz, elem', true⟩)) ⟨w.heap.size, 0, newCap * sz, elem', true⟩ (.cells (old ++ new) elem' cl (rel + a.off))
            (some (.cells (old'.toArray ++ new'.toArray ++ Builtin.zeroCells z.cells (newCap - (sLen + n))) elem')) := by
          refine ⟨rfl, rfl, hrowsz, ?_, fun _ => .inl rfl, fun k y hk => ?_⟩
          · show (old ++ new).length + 0 ≤ newCap * sz
            rw [List.length_append, hoL, hn2, ← Nat.add_mul]
            exact Nat.mul_le_mul_right sz g1
          · obtain ⟨y', r1, r2⟩ := hboth.left hk
            refine ⟨y', ?_, r2.mono (h.le_upd _)⟩
            have hkl : k < (old' ++ new').length := (List.getElem?_eq_some_iff.1 r1).1
            show (old'.toArray ++ new'.toArray ++ Builtin.zeroCells z.cells (newCap - (sLen + n)))[k + 0]? = some y'
            rw [Nat.add_zero, Array.getElem?_append_left (by simpa using hkl)]
            simpa using r1
        have hstp := h.growNew (p := rel + a.off + sLen * sz) (i := ⟨w.heap.size, 0, newCap * sz, elem', true⟩) (w' := w.drew.alloc (.cells (old'.toArray ++ new'.toArray ++ Builtin.zeroCells z.cells (newCap - (sLen + n))) elem')) hrow hro rfl rfl rfl rfl rfl hnewo
        refine ⟨_, _, _, hex _ _ (by rw [q]; exact g2), .inl ⟨_, rfl, ?_⟩, hstp⟩
        exact slice_new (sz := sz) (upd_same _ _ _) (Nat.le_refl _) g1 (.inr ⟨hsz, Nat.le_refl _⟩)

end ops
end Go.Cn
