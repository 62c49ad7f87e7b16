/- New blocks; appends that copy. -/
import Derived.Test.YtdepohnidjndjaaCnMem2
namespace Go.Cn
set_option linter.unusedSimpArgs false
set_option linter.unusedVariables false

def FreshO (σ : CW) : CObj → Prop
  | .cells _ _ cl rel => cl = σ.next ∧ rel = 0
  | .map _ _ => True
  | .iter _ _ _ => True
  | .loop _ _ _ _ _ _ => True
  | .dead => False

theorem add_heap {σ : CW} {o : CObj} {n : Nat} : (σ.add o).heap n = if n = σ.next then some o else σ.heap n := rfl

theorem cls_next {σ : CW} (hi : CInv σ) : σ.cls σ.next = none := by
  cases e : σ.cls σ.next with
  | none => rfl
  | some l => have := (hi.cls _ _ e).1; omega

theorem members_add {σ : CW} {o : CObj} {c : Nat} (hc : c < σ.next) : (σ.add o).members c = σ.members c := by
  unfold CW.members
  show (match σ.cls c with | some l => l | none => _) = _
  cases σ.cls c with
  | some l => rfl
  | none => simp only [add_heap, if_neg (Nat.ne_of_lt hc)]

theorem CInv.add {σ : CW} (hi : CInv σ) {o : CObj} (ho : FreshO σ o) : CInv (σ.add o) where
  fresh := by
    intro n hn
    have hn' : σ.next + 1 ≤ n := hn
    rw [add_heap, if_neg (by omega)]; exact hi.fresh n (by omega)
  mem := by
    intro n cs E cl rel hn
    rw [add_heap] at hn
    split at hn
    · rename_i e
      cases hn
      obtain ⟨h1, h2⟩ := ho
      subst h1 h2 e
      refine ⟨?_, Nat.lt_succ_self _⟩
      unfold CW.members
      have : (σ.add (.cells cs E σ.next 0)).cls σ.next = none := cls_next hi
      rw [this]
      simp [add_heap]
    · have hm := hi.mem n cs E cl rel hn
      rw [members_add hm.2]
      exact ⟨hm.1, Nat.lt_succ_of_lt hm.2⟩
  cls := by
    intro n l hn
    have := hi.cls n l hn
    exact ⟨Nat.lt_succ_of_lt this.1, fun m hm => ⟨(this.2 m hm).1, Nat.lt_succ_of_lt (this.2 m hm).2⟩⟩
  rol := Nat.le_succ_of_le hi.rol

theorem Rel.le_upd {P : Program} {β : Ren} {σ : CW} {w : World} (h : Rel P β σ w) (i : BI) : Le β (upd β σ.next (some i)) := by
  intro b j hb
  rw [upd_ne _ _ (by have := (h.lt b j hb).1; omega)]; exact hb

theorem Rel.wr_upd {P : Program} {β : Ren} {σ : CW} {w : World} (h : Rel P β σ w) {i : BI} (hi : i.wr = true) (n : Nat) (hn : β n = none) :
    (∀ b, b < σ.inj → ∃ j, upd β n (some i) b = some j ∧ P.underlying j.E ≠ some (.int .u8)) ∧ ∀ b j, upd β n (some i) b = some j → (σ.ro ≤ b ∨ b < σ.inj) → j.wr = true := by
  refine ⟨fun b hb => ?_, fun b j hb hr => ?_⟩
  · obtain ⟨j, h1, h2⟩ := h.wr.1 b hb
    exact ⟨j, by rw [upd_ne _ _ (by intro e; subst e; rw [hn] at h1; cases h1)]; exact h1, h2⟩
  · by_cases e : b = n
    · subst e; rw [upd_same] at hb; cases hb; exact hi
    · rw [upd_ne _ _ e] at hb; exact h.wr.2 b j hb hr
theorem Rel.next_none {P : Program} {β : Ren} {σ : CW} {w : World} (h : Rel P β σ w) : β σ.next = none := by
  cases e : β σ.next with
  | none => rfl
  | some i => have := (h.lt _ i e).1; omega

theorem push_get {w w' : World} {o' : Obj} (hw : w'.heap = w.heap.push o') {B : Nat} (hB : B < w.heap.size) : w'.heap[B]? = w.heap[B]? := by
  rw [hw, Array.getElem?_push, if_neg (by omega)]
theorem push_new {w w' : World} {o' : Obj} (hw : w'.heap = w.heap.push o') : w'.heap[w.heap.size]? = some o' := by
  rw [hw]; simp

theorem Rel.allocI {P : Program} {β : Ren} {σ : CW} {w w' : World} (h : Rel P β σ w) {o : CObj} {o' : Obj} {i : BI} (hB : i.B = w.heap.size) (hw : w'.heap = w.heap.push o')
    (hos : w'.os = w.os) (hout : w'.output = w.output) (htape : w'.tape = w.tape) (hf : FreshO σ o) (ho : ObjRel P (upd β σ.next (some i)) i o (some o'))
    (hit : ∀ m ver seen, o = .iter (some m) ver seen → IterOk (upd β σ.next (some i)) (σ.add o) w' i m ver seen) (hwr : i.wr = true := by rfl) :
    Stp P β σ w (upd β σ.next (some i)) (σ.add o) w' where
  le := h.le_upd i
  new := by
    intro b j hb
    by_cases e : b = σ.next
    · subst e; rw [upd_same] at hb; cases hb; exact .inr ⟨Nat.le_refl _, .inr (by omega)⟩
    · rw [upd_ne _ _ e] at hb; exact .inl hb
  next := Nat.le_succ _
  ro := rfl
  inj := rfl
  cfr := by intro b hb _; rw [add_heap, if_neg (by omega)]; exact .inl rfl
  size := by rw [hw]; simp
  afr := fun B hB' _ => push_get hw hB'
  os := hos
  out := hout
  tape := htape
  rel :=
  { inv := h.inv.add hf
    wr := h.wr_upd hwr σ.next h.next_none
    lt := by
      intro b j hb
      by_cases e : b = σ.next
      · subst e; rw [upd_same] at hb; cases hb; exact ⟨Nat.lt_succ_self _, by rw [hw, hB]; simp⟩
      · rw [upd_ne _ _ e] at hb
        exact ⟨Nat.lt_succ_of_lt (h.lt b j hb).1, by rw [hw]; simp; exact Nat.lt_succ_of_lt (h.lt b j hb).2⟩
    obj := by
      intro b j x hb hx
      rw [add_heap] at hx
      by_cases e : b = σ.next
      · subst e
        rw [upd_same] at hb; cases hb
        rw [if_pos rfl] at hx; cases hx
        rw [hB, push_new hw]; exact ho
      · rw [upd_ne _ _ e] at hb
        rw [if_neg e] at hx
        rw [push_get hw (h.lt b j hb).2]
        exact (h.obj b j x hb hx).mono (h.le_upd i)
    alias := by
      intro b1 b2 i1 i2 hne h1 h2 hBB
      by_cases e1 : b1 = σ.next
      · subst e1
        rw [upd_same] at h1; cases h1
        rw [upd_ne _ _ (Ne.symm hne)] at h2
        have := (h.lt b2 i2 h2).2; omega
      · rw [upd_ne _ _ e1] at h1
        by_cases e2 : b2 = σ.next
        · subst e2
          rw [upd_same] at h2; cases h2
          have := (h.lt b1 i1 h1).2; omega
        · rw [upd_ne _ _ e2] at h2
          have ha := h.alias b1 b2 i1 i2 hne h1 h2 hBB
          unfold AliasOk at ha ⊢
          simp only [add_heap, if_neg e1, if_neg e2]
          exact ha
    here := by
      intro b j hb
      rw [add_heap]
      by_cases e : b = σ.next
      · rw [if_pos e]; exact ⟨_, rfl⟩
      · rw [if_neg e]; rw [upd_ne _ _ e] at hb; exact h.here b j hb
    iters := by
      intro r ir m ver seen hr hro
      rw [add_heap] at hro
      by_cases e : r = σ.next
      · subst e
        rw [upd_same] at hr; cases hr
        rw [if_pos rfl] at hro; cases hro
        exact hit m ver seen rfl
      · rw [upd_ne _ _ e] at hr
        rw [if_neg e] at hro
        obtain ⟨im, since, seen', last, a1, a2, a3, a4, a5⟩ := h.iters r ir m ver seen hr hro
        refine ⟨im, since, seen', last, h.le_upd i _ _ a1, by rw [push_get hw (h.lt r ir hr).2]; exact a2, a3, Nat.lt_succ_of_lt a4, fun es v0 hm => ?_⟩
        rw [add_heap, if_neg (by omega)] at hm
        rw [push_get hw (h.lt m im a1).2]
        exact a5 es v0 hm }

theorem Rel.alloc {P : Program} {β : Ren} {σ : CW} {w w' : World} (h : Rel P β σ w) {o : CObj} {o' : Obj} {i : BI} (hB : i.B = w.heap.size) (hw : w'.heap = w.heap.push o')
    (hos : w'.os = w.os) (hout : w'.output = w.output) (htape : w'.tape = w.tape) (hf : FreshO σ o) (ho : ObjRel P (upd β σ.next (some i)) i o (some o')) (hit : isIter o = false := by rfl) (hwr : i.wr = true := by rfl) :
    Stp P β σ w (upd β σ.next (some i)) (σ.add o) w' :=
  h.allocI hB hw hos hout htape hf ho (fun m ver seen e => by rw [e] at hit; cases hit) hwr

abbrev grown := CW.grow

theorem grown_heap {σ : CW} {cl p : Nat} {cs : List Value} {E : TypeId} {rel n : Nat} :
    (grown σ cl p cs E rel).heap n = if n = σ.next then some (.cells cs E cl rel) else killL σ.next p (σ.members cl) σ.heap n := rfl

theorem CInv.grow {σ : CW} (hi : CInv σ) {b p : Nat} {c cs : List Value} {E E' : TypeId} {cl rel rel' : Nat} (hb : σ.heap b = some (.cells c E cl rel)) (hro : σ.ro ≤ b) :
    CInv (grown σ cl p cs E' rel') where
  fresh := by
    intro n hn
    have hn' : σ.next + 1 ≤ n := hn
    rw [grown_heap, if_neg (by omega)]
    rcases kill_or (b := σ.next) (p := p) (l := σ.members cl) (h := σ.heap) n with h | ⟨_, _, m, hm, he⟩
    · rw [h]; exact hi.fresh n (by omega)
    · have := (members_ro hi hb hro m hm).2; omega
  mem := by
    intro n cs1 E1 cl1 rel1 hn
    rw [grown_heap] at hn
    by_cases hnb : n = σ.next
    · rw [if_pos hnb] at hn
      cases hn
      subst hnb
      refine ⟨?_, Nat.lt_succ_of_lt (hi.mem _ _ _ _ _ hb).2⟩
      unfold CW.members
      simp [CW.grow, CW.touch, CW.add]
    · rw [if_neg hnb] at hn
      obtain ⟨h1, h2⟩ := kill_live hn (by simp)
      have hm := hi.mem n cs1 E1 cl1 rel1 h1
      refine ⟨?_, Nat.lt_succ_of_lt hm.2⟩
      by_cases hcl : cl1 = cl
      · subst hcl
        unfold CW.members
        simp only [CW.grow, CW.touch, CW.add, upd_same]
        refine List.mem_cons_of_mem _ ?_
        unfold keepL
        rw [List.mem_filter]
        refine ⟨hm.1, ?_⟩
        simp only [decide_eq_true_eq]
        exact ⟨hnb, h2 hnb _ hm.1 rfl⟩
      · refine members_upd_other (σ := σ) (nx := σ.next + 1) (ro := σ.ro) (inj := σ.inj) hcl ?_ hm.1 ?_
        · intro cs2 E2 cl2 rel2 hh
          have hh' : (if cl1 = σ.next then some (.cells cs E' cl rel') else killL σ.next p (σ.members cl) σ.heap cl1) = some (.cells cs2 E2 cl2 rel2) := hh
          rw [if_neg (by have := hm.2; omega)] at hh'
          exact ⟨_, _, _, _, (kill_live hh' (by simp)).1, rfl⟩
        · intro cs2 E2 cl2 rel2 hnone hh
          have hroot := mem_singleton_root hnone hm.1
          subst hroot
          refine ⟨cs1, E1, n, rel1, ?_, ?_⟩
          · show (if n = σ.next then some (.cells cs E' cl rel') else killL σ.next p (σ.members cl) σ.heap n) = _
            rw [if_neg hnb, hn]
          · rw [h1] at hh; cases hh; rfl
  cls := by
    intro n l hn
    have hn' : upd σ.cls cl (some ((σ.next, rel' + cs.length) :: keepL σ.next p (σ.members cl))) n = some l := hn
    by_cases hc : n = cl
    · subst hc
      rw [upd_same] at hn'
      cases hn'
      refine ⟨Nat.lt_succ_of_lt (hi.mem _ _ _ _ _ hb).2, fun m hm => ?_⟩
      rcases List.mem_cons.1 hm with h | h
      · subst h; exact ⟨hi.rol, Nat.lt_succ_self _⟩
      · unfold keepL at h
        have := members_ro hi hb hro m (List.mem_filter.1 h).1
        exact ⟨this.1, Nat.lt_succ_of_lt this.2⟩
    · rw [upd_ne _ _ hc] at hn'
      have := hi.cls n l hn'
      exact ⟨Nat.lt_succ_of_lt this.1, fun m hm => ⟨(this.2 m hm).1, Nat.lt_succ_of_lt (this.2 m hm).2⟩⟩
  rol := Nat.le_succ_of_le hi.rol

/-- Two old rows behind a touch of a class. -/
theorem alias_kill {P : Program} {β : Ren} {σ : CW} {w : World} (h : Rel P β σ w) {b p : Nat} {c : List Value} {E : TypeId} {cl rel : Nat} (hbc : σ.heap b = some (.cells c E cl rel)) (hro : σ.ro ≤ b)
    {b1 b2 : Nat} {i1 i2 : BI} (hne : b1 ≠ b2) (h1 : β b1 = some i1) (h2 : β b2 = some i2) (hBB : i1.B = i2.B) (nw : Nat) {σ' : CW} (hro' : σ'.ro = σ.ro) (hinj : σ'.inj = σ.inj)
    (e1 : σ'.heap b1 = killL nw p (σ.members cl) σ.heap b1) (e2 : σ'.heap b2 = killL nw p (σ.members cl) σ.heap b2) : AliasOk σ' b1 b2 i1 i2 := by
  obtain ⟨ha, hm⟩ := h.alias b1 b2 i1 i2 hne h1 h2 hBB
  refine ⟨by rw [hro']; exact ha, ?_⟩
  rw [e1, e2, hro', hinj]
  have hro2 : ∀ n, (∃ m ∈ σ.members cl, m.1 = n) → σ.ro ≤ n := fun n ⟨m, hm, he⟩ => he ▸ (members_ro h.inv hbc hro m hm).1
  rcases kill_or (b := nw) (p := p) (l := σ.members cl) (h := σ.heap) b1 with q1 | ⟨q1, _, q1'⟩
  · rcases kill_or (b := nw) (p := p) (l := σ.members cl) (h := σ.heap) b2 with q2 | ⟨q2, _, q2'⟩
    · rw [q1, q2]; exact hm
    · rw [q2]
      have h3 : σ.ro ≤ b1 := by
        have := hro2 _ q2'
        rcases Nat.lt_or_ge b1 σ.ro with h3 | h3
        · have := ha.1 h3; omega
        · exact h3
      split <;> first | trivial | simp_all
  · rw [q1]; trivial

/-- An append that copies here, and there makes a new block. -/
theorem Rel.growNew {P : Program} {β : Ren} {σ : CW} {w w' : World} (h : Rel P β σ w) {b p : Nat} {c cs : List Value} {E E' : TypeId} {cl rel rel' : Nat} {o' : Obj} {i : BI}
    (hbc : σ.heap b = some (.cells c E cl rel)) (hro : σ.ro ≤ b) (hB : i.B = w.heap.size) (hw : w'.heap = w.heap.push o') (hos : w'.os = w.os) (hout : w'.output = w.output) (htape : w'.tape = w.tape)
    (ho : ObjRel P (upd β σ.next (some i)) i (.cells cs E' cl rel') (some o')) (hwr : i.wr = true := by rfl) : Stp P β σ w (upd β σ.next (some i)) (grown σ cl p cs E' rel') w' where
  le := h.le_upd i
  new := by
    intro b j hb
    by_cases e : b = σ.next
    · subst e; rw [upd_same] at hb; cases hb; exact .inr ⟨Nat.le_refl _, .inr (by omega)⟩
    · rw [upd_ne _ _ e] at hb; exact .inl hb
  next := Nat.le_succ _
  ro := rfl
  inj := rfl
  cfr := by
    intro n hn _
    rw [grown_heap, if_neg (by omega)]
    rcases kill_or (b := σ.next) (p := p) (l := σ.members cl) (h := σ.heap) n with h | ⟨h, _⟩
    · exact .inl h
    · exact .inr h
  size := by rw [hw]; simp
  afr := fun B hB' _ => push_get hw hB'
  os := hos
  out := hout
  tape := htape
  rel :=
  { inv := h.inv.grow hbc hro
    wr := h.wr_upd hwr σ.next h.next_none
    lt := by
      intro n j hb
      by_cases e : n = σ.next
      · subst e; rw [upd_same] at hb; cases hb; exact ⟨Nat.lt_succ_self _, by rw [hw, hB]; simp⟩
      · rw [upd_ne _ _ e] at hb
        exact ⟨Nat.lt_succ_of_lt (h.lt n j hb).1, by rw [hw]; simp; exact Nat.lt_succ_of_lt (h.lt n j hb).2⟩
    obj := by
      intro n j x hb hx
      rw [grown_heap] at hx
      by_cases e : n = σ.next
      · subst e
        rw [upd_same] at hb; cases hb
        rw [if_pos rfl] at hx; cases hx
        rw [hB, push_new hw]; exact ho
      · rw [upd_ne _ _ e] at hb
        rw [if_neg e] at hx
        by_cases hd : x = .dead
        · subst hd; trivial
        · obtain ⟨g1, _⟩ := kill_live hx hd
          rw [push_get hw (h.lt n j hb).2]
          exact (h.obj n j x hb g1).mono (h.le_upd i)
    alias := by
      intro b1 b2 i1 i2 hne h1 h2 hBB
      by_cases e1 : b1 = σ.next
      · subst e1
        rw [upd_same] at h1; cases h1
        rw [upd_ne _ _ (Ne.symm hne)] at h2
        have := (h.lt b2 i2 h2).2; omega
      · rw [upd_ne _ _ e1] at h1
        by_cases e2 : b2 = σ.next
        · subst e2
          rw [upd_same] at h2; cases h2
          have := (h.lt b1 i1 h1).2; omega
        · rw [upd_ne _ _ e2] at h2
          exact alias_kill h hbc hro hne h1 h2 hBB σ.next rfl rfl (by rw [grown_heap, if_neg e1]) (by rw [grown_heap, if_neg e2])
    here := by
      intro n j hb
      rw [grown_heap]
      by_cases e : n = σ.next
      · rw [if_pos e]; exact ⟨_, rfl⟩
      · rw [if_neg e]; rw [upd_ne _ _ e] at hb
        rcases kill_or (b := σ.next) (p := p) (l := σ.members cl) (h := σ.heap) n with hk | ⟨hk, _⟩
        · rw [hk]; exact h.here n j hb
        · exact ⟨_, hk⟩
    iters := by
      refine h.iters.keep (h.le_upd i) (Nat.le_succ _) (fun n j hn => ?_) (fun n j o hn ho hmi => ?_) (fun n j o hn ho _ => by rw [push_get hw (h.lt n j hn).2]; exact ho)
      · by_cases e : n = σ.next
        · refine .inr fun o ho => ?_
          rw [grown_heap, if_pos e] at ho; cases ho; rfl
        · rw [upd_ne _ _ e] at hn; exact .inl hn
      · rw [grown_heap, if_neg (Nat.ne_of_lt (h.lt n j hn).1)] at ho
        exact (kill_live ho (by intro e; rw [e] at hmi; cases hmi)).1 }

/-- An append that copies here, and there is made in place: 'off' in row 'b' the slice begins, 'q' cells of it there are. -/
theorem Rel.growIn {P : Program} {β : Ren} {σ : CW} {w w' : World} (h : Rel P β σ w) {b off q : Nat} {c old new new' : List Value} {E : TypeId} {cl rel : Nat} {i : BI} {c1 c2 : Array Value} {fr : Nat × Nat}
    (hb : β b = some i) (hbc : σ.heap b = some (.cells c E cl rel)) (hro : σ.ro ≤ b) (htake : takeAt c off q = some old) (hnew : LRel P β new new')
    (hB : w.heap[i.B]? = some (.cells c1 i.E fr)) (hu : UpdB w w' i.B (.cells c2 i.E fr)) (hsz : c2.size = c1.size) (hfit : off + i.sh + q + new.length ≤ i.N)
    (hc2 : ∀ (k : Nat), c2[k]? = if off + i.sh + q ≤ k ∧ k < off + i.sh + q + new'.length then new'[k - (off + i.sh + q)]? else c1[k]?) :
    Stp P β σ w (upd β σ.next (some ⟨i.B, off + i.sh, i.N, i.E, true⟩)) (grown σ cl (rel + off + q) (old ++ new) E (rel + off)) w' := by
  obtain ⟨c1', fr', hB', hE, hN, hcN, hsoft, hcs⟩ := (h.obj b i _ hb hbc).cells_inv
  rw [hB] at hB'
  injection hB' with e1
  injection e1 with e1 _ e2
  subst e1 e2
  obtain ⟨hql, hold⟩ := takeAt_some htake
  have hq : old.length = q := by subst hold; simp; omega
  have hle := h.le_upd ⟨i.B, off + i.sh, i.N, i.E, true⟩
  have hnewlen := hnew.1
  -- an old row that lives on is where it was
  have holds : ∀ n j x, β n = some j → killL σ.next (rel + off + q) (σ.members cl) σ.heap n = some x → ObjRel P β j x w'.heap[j.B]? := by
    intro n j x hn hx
    by_cases hd : x = .dead
    · subst hd; trivial
    · obtain ⟨g1, g2⟩ := kill_live hx hd
      have hnn : n ≠ σ.next := by have := (h.lt n j hn).1; omega
      have holdo := h.obj n j x hn g1
      by_cases hjB : j.B = i.B
      · rw [hu.get, if_pos hjB]
        cases x with
        | dead => exact absurd rfl hd
        | map es _ =>
          by_cases hnb : n = b
          · subst hnb; rw [hbc] at g1; cases g1
          · exact (cells_map_alias h hb hbc hn hnb hjB g1 rfl).elim
        | iter _ _ _ =>
          by_cases hnb : n = b
          · subst hnb; rw [hbc] at g1; cases g1
          · exact (cells_map_alias h hb hbc hn hnb hjB g1 rfl).elim
        | loop _ _ _ _ _ _ =>
          by_cases hnb : n = b
          · subst hnb; rw [hbc] at g1; cases g1
          · exact (cells_map_alias h hb hbc hn hnb hjB g1 rfl).elim
        | cells ds E' cl' rel' =>
          have hend : rel' + ds.length ≤ rel + off + q ∧ j.sh + rel = i.sh + rel' := by
            by_cases hnb : n = b
            · subst hnb
              rw [hbc] at g1; cases g1
              rw [hb] at hn; cases hn
              exact ⟨g2 hnn _ (h.inv.mem n c E cl rel hbc).1 rfl, rfl⟩
            · obtain ⟨_, _, h3, h4⟩ := alias_end h hb hbc hro hn hnb hjB g1 (g2 hnn)
              exact ⟨h4, h3⟩
          obtain ⟨c3, fr3, e3, k1, k2, k3, k4, k5⟩ := holdo.cells_inv
          rw [hjB, hB] at e3
          injection e3 with e3
          injection e3 with e3 e4 e5
          subst e3 e5
          refine ⟨k1, e4, hsz.trans k2, k3, k4, fun k v hk => ?_⟩
          obtain ⟨v', q1, q2⟩ := k5 k v hk
          have hkl : k < ds.length := (List.getElem?_eq_some_iff.1 hk).1
          refine ⟨v', ?_, q2⟩
          rw [hc2, if_neg (by omega)]; exact q1
      · rw [hu.get, if_neg hjB]; exact holdo
  have hnewo : ObjRel P (upd β σ.next (some ⟨i.B, off + i.sh, i.N, i.E, true⟩)) ⟨i.B, off + i.sh, i.N, i.E, true⟩ (.cells (old ++ new) E cl (rel + off)) (some (.cells c2 i.E fr)) := by
    refine ⟨hE, rfl, hsz.trans hN, by simp only [List.length_append]; omega, fun _ => hsoft (h.wr.2 b i hb (.inl hro)), fun k v hk => ?_⟩
    show ∃ v', c2[k + (off + i.sh)]? = some v' ∧ _
    by_cases hkq : k < q
    · rw [List.getElem?_append_left (by omega)] at hk
      subst hold
      rw [List.getElem?_take, if_pos hkq, List.getElem?_drop] at hk
      obtain ⟨v', r1, r2⟩ := hcs (off + k) v hk
      refine ⟨v', ?_, r2.mono hle⟩
      rw [hc2, if_neg (by omega)]
      rw [← r1]; congr 1; omega
    · rw [List.getElem?_append_right (by omega), hq] at hk
      obtain ⟨v', r1, r2⟩ := hnew.left hk
      have : k - q < new.length := (List.getElem?_eq_some_iff.1 hk).1
      refine ⟨v', ?_, r2.mono hle⟩
      rw [hc2, if_pos (by omega), ← r1]; congr 1; omega
  exact
  { le := hle
    new := by
      intro n j hn
      by_cases e : n = σ.next
      · subst e; rw [upd_same] at hn; cases hn; exact .inr ⟨Nat.le_refl _, .inl ⟨b, i, hb, hro, rfl⟩⟩
      · rw [upd_ne _ _ e] at hn; exact .inl hn
    next := Nat.le_succ _
    ro := rfl
    inj := rfl
    cfr := by
      intro n hn _
      rw [grown_heap, if_neg (by omega)]
      rcases kill_or (b := σ.next) (p := rel + off + q) (l := σ.members cl) (h := σ.heap) n with h | ⟨h, _⟩
      · exact .inl h
      · exact .inr h
    size := by rw [hu.size]; exact Nat.le_refl _
    afr := by intro B hB' hne; rw [hu.get, if_neg (fun e => hne b i hb hro e.symm)]
    os := hu.os
    out := hu.out
    tape := hu.tape
    rel :=
    { inv := h.inv.grow hbc hro
      wr := h.wr_upd rfl σ.next h.next_none
      lt := by
        intro n j hn
        by_cases e : n = σ.next
        · subst e; rw [upd_same] at hn; cases hn; exact ⟨Nat.lt_succ_self _, by rw [hu.size]; exact (h.lt b i hb).2⟩
        · rw [upd_ne _ _ e] at hn
          exact ⟨Nat.lt_succ_of_lt (h.lt n j hn).1, by rw [hu.size]; exact (h.lt n j hn).2⟩
      obj := by
        intro n j x hn hx
        rw [grown_heap] at hx
        by_cases e : n = σ.next
        · subst e
          rw [upd_same] at hn; cases hn
          rw [if_pos rfl] at hx; cases hx
          show ObjRel P _ _ _ w'.heap[i.B]?
          rw [hu.get, if_pos rfl]; exact hnewo
        · rw [upd_ne _ _ e] at hn
          rw [if_neg e] at hx
          exact (holds n j x hn hx).mono hle
      alias := by
        intro b1 b2 i1 i2 hne h1 h2 hBB
        have hone : ∀ n j, n ≠ σ.next → β n = some j → j.B = i.B → ∀ x, killL σ.next (rel + off + q) (σ.members cl) σ.heap n = some x →
            σ.ro ≤ n ∧ (x = .dead ∨ ∃ ds E' rel', x = .cells ds E' cl rel' ∧ j.sh + rel = i.sh + rel') := by
          intro n j hnn hn hjB x hx
          have hron : σ.ro ≤ n := by
            by_cases hnb : n = b
            · subst hnb; exact hro
            · obtain ⟨hr, _⟩ := h.alias n b j i hnb hn hb hjB
              rcases Nat.lt_or_ge n σ.ro with h3 | h3
              · have := hr.1 h3; omega
              · exact h3
          refine ⟨hron, ?_⟩
          by_cases hd : x = .dead
          · exact .inl hd
          · obtain ⟨g1, g2⟩ := kill_live hx hd
            cases x with
            | dead => exact absurd rfl hd
            | map es _ =>
              by_cases hnb : n = b
              · subst hnb; rw [hbc] at g1; cases g1
              · exact (cells_map_alias h hb hbc hn hnb hjB g1 rfl).elim
            | iter _ _ _ =>
              by_cases hnb : n = b
              · subst hnb; rw [hbc] at g1; cases g1
              · exact (cells_map_alias h hb hbc hn hnb hjB g1 rfl).elim
            | loop _ _ _ _ _ _ =>
              by_cases hnb : n = b
              · subst hnb; rw [hbc] at g1; cases g1
              · exact (cells_map_alias h hb hbc hn hnb hjB g1 rfl).elim
            | cells ds E' cl' rel' =>
              by_cases hnb : n = b
              · subst hnb
                rw [hbc] at g1; cases g1
                rw [hb] at hn; cases hn
                exact .inr ⟨_, _, _, rfl, rfl⟩
              · obtain ⟨_, h3, h4, _⟩ := alias_end h hb hbc hro hn hnb hjB g1 (g2 hnn)
                subst h3
                exact .inr ⟨_, _, _, rfl, h4⟩
        by_cases e1 : b1 = σ.next
        · subst e1
          rw [upd_same] at h1; cases h1
          rw [upd_ne _ _ (Ne.symm hne)] at h2
          have hx2 : ∃ x, killL σ.next (rel + off + q) (σ.members cl) σ.heap b2 = some x := by
            rcases kill_or (b := σ.next) (p := rel + off + q) (l := σ.members cl) (h := σ.heap) b2 with hk | ⟨hk, _⟩
            · rw [hk]; exact h.here b2 i2 h2
            · exact ⟨_, hk⟩
          obtain ⟨x, hx⟩ := hx2
          obtain ⟨r1, r2⟩ := hone b2 i2 (Ne.symm hne) h2 hBB.symm x hx
          have hron : σ.ro ≤ σ.next := h.inv.rol
          refine ⟨⟨fun h3 => absurd h3 (Nat.not_lt.2 hron), fun h3 => absurd h3 (Nat.not_lt.2 r1)⟩, ?_⟩
          rw [grown_heap, grown_heap, if_pos rfl, if_neg (Ne.symm hne), hx]
          rcases r2 with rfl | ⟨ds, E', rel', rfl, r2⟩
          · exact trivial
          · refine .inr ⟨hron, rfl, ?_⟩
            show off + i.sh + rel' = i2.sh + (rel + off)
            omega
        · rw [upd_ne _ _ e1] at h1
          by_cases e2 : b2 = σ.next
          · subst e2
            rw [upd_same] at h2; cases h2
            have hx1 : ∃ x, killL σ.next (rel + off + q) (σ.members cl) σ.heap b1 = some x := by
              rcases kill_or (b := σ.next) (p := rel + off + q) (l := σ.members cl) (h := σ.heap) b1 with hk | ⟨hk, _⟩
              · rw [hk]; exact h.here b1 i1 h1
              · exact ⟨_, hk⟩
            obtain ⟨x, hx⟩ := hx1
            obtain ⟨r1, r2⟩ := hone b1 i1 hne h1 hBB x hx
            have hron : σ.ro ≤ σ.next := h.inv.rol
            refine ⟨⟨fun h3 => absurd h3 (Nat.not_lt.2 r1), fun h3 => absurd h3 (Nat.not_lt.2 hron)⟩, ?_⟩
            rw [grown_heap, grown_heap, if_pos rfl, if_neg hne, hx]
            rcases r2 with rfl | ⟨ds, E', rel', rfl, r2⟩
            · exact trivial
            · refine .inr ⟨r1, rfl, ?_⟩
              show i1.sh + (rel + off) = off + i.sh + rel'
              omega
          · rw [upd_ne _ _ e2] at h2
            exact alias_kill h hbc hro hne h1 h2 hBB σ.next rfl rfl (by rw [grown_heap, if_neg e1]) (by rw [grown_heap, if_neg e2])
      here := by
        intro n j hn
        rw [grown_heap]
        by_cases e : n = σ.next
        · rw [if_pos e]; exact ⟨_, rfl⟩
        · rw [if_neg e]; rw [upd_ne _ _ e] at hn
          rcases kill_or (b := σ.next) (p := rel + off + q) (l := σ.members cl) (h := σ.heap) n with hk | ⟨hk, _⟩
          · rw [hk]; exact h.here n j hn
          · exact ⟨_, hk⟩
      iters := by
        refine h.iters.keep hle (Nat.le_succ _) (fun n j hn => ?_) (fun n j o hn ho hmi => ?_) (fun n j o hn ho hmi => ?_)
        · by_cases e : n = σ.next
          · refine .inr fun o ho => ?_
            rw [grown_heap, if_pos e] at ho; cases ho; rfl
          · rw [upd_ne _ _ e] at hn; exact .inl hn
        · rw [grown_heap, if_neg (Nat.ne_of_lt (h.lt n j hn).1)] at ho
          exact (kill_live ho (by intro e; rw [e] at hmi; cases hmi)).1
        · by_cases hjB : j.B = i.B
          · rw [hjB, hB] at ho; cases ho; cases hmi
          · rw [hu.get, if_neg hjB]; exact ho } }

end Go.Cn
