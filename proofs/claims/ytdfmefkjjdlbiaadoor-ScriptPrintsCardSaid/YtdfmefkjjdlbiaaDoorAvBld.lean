/-
  AvBld: room for an object to come; an object moved to that room.
-/
import Derived.Test.YtdfmefkjjdlbiaaDoorAvDraw2
namespace Go.Av
open Go.RowKit (Below)
set_option linter.unusedVariables false
set_option linter.unusedSimpArgs false

section
variable {C : Ctx} {n p0 : Nat} {out loc : List AObj} {env : Nat → AV} {Q : Exit → AState → Prop}

/-- Room for an object to come. -/
theorem AWp.pad {c : Code} (h : AWp C c Q ⟨n, p0, out, loc ++ [.tok 0 0], env⟩) : AWp C c Q ⟨n, p0, out, loc, env⟩ := by
  intro G w a hs
  have hm := hs.mem
  have hf : TokFit G (out ++ loc) w G.n ⟨0, 0, 0, 0, 0⟩ := ⟨fun h => absurd h (Nat.lt_irrefl 0), fun h => absurd h (Nat.lt_irrefl 0), fun h => absurd h (Nat.lt_irrefl 0)⟩
  obtain ⟨hm', hx⟩ := hm.newTok _ hf
  have hsim : Sim C (G.newTok ⟨0, 0, 0, 0, 0⟩) ⟨n, p0, out, loc ++ [.tok 0 0], env⟩ w a :=
    ⟨hs.size, hs.defers, fun t ht => (hs.env t ht).mono hx, hs.outlen, by rw [← List.append_assoc]; exact hm'⟩
  have hp0 := hs.p0_le
  refine wp_mono (h _ w a hsim) fun e a' w' p => p.ofExt (hx.le hp0)

theorem Rep.ofTrunc {G G' : Ghost} {m : Nat} {v : AV} {cv : Value} (hx : Ext m (G.trunc m) G') (r : Rep G v cv) (h : IdLt m v) : Rep G' v cv :=
  (r.trunc h).mono hx

theorem RepL.weak {G : Ghost} {cells cells' : List AV} {vs : List Value} (h : RepL G cells vs) (hl : cells'.length = cells.length) (hc : ∀ (i : Nat) (c : AV), cells'[i]? = some c → cells[i]? = some c ∨ c = .any) : RepL G cells' vs := by
  refine RepL.of_at (hl.trans h.len) fun i c v hci hv => ?_
  have hi : i < cells.length := by rw [← hl]; exact lt_of_getElem? hci
  obtain ⟨u, h1, h2, h3⟩ := h.at_ (List.getElem?_eq_getElem hi)
  rw [hv] at h1; cases h1
  rcases hc i c hci with h4 | rfl
  · rw [List.getElem?_eq_getElem hi] at h4; cases h4; exact ⟨h2, h3⟩
  · exact ⟨.any _, h3⟩

/-- An object that lies behind what is kept, moved to the first place behind it; the one object that speaks of it says so. -/
theorem Wk.bld {l : List (Nat × AV)} (hpl : C.plain) (pre : List AObj) (q k j len cap rt et : Nat) (p : AV) (cells cells' : List AV) (hcl : cells'.length = cells.length) (hcc : ∀ (i : Nat) (c : AV), cells'[i]? = some c → cells[i]? = some c ∨ c = .any) (hk : pre.length = k)
    (hq : loc[q]? = some (.row rt [p, .arr j 0 len cap])) (hj : p0 = out.length → (out ++ loc)[j]? = some (.row et cells)) (hjk : p0 + k ≤ j)
    (hpre : ∀ (i : Nat) (x : AObj), pre[i]? = some x → i ≠ q → loc[i]? = some x ∧ ObjLt (p0 + k) x) (hqk : pre[q]? = some (.row rt [p, .arr (p0 + k) 0 len cap]))
    (hp : IdLt (p0 + k) p) (hc : ∀ c, c ∈ cells' → IdLt (p0 + k) c) (hout : ObjsLt (p0 + k) out) (he : WkL env (p0 + k) l) :
    Wk C ⟨n, p0, out, loc, env⟩ ⟨n, p0, out, pre ++ [.row et cells'], ofL l⟩ := by
  refine ⟨rfl, fun G w a hs => ?_⟩
  have hol : out.length = p0 := hs.outlen
  have hm := hs.mem
  have hj := hj hol.symm
  have hn := hm.n
  have hqlt : q < k := by rw [← hk]; exact lt_of_getElem? hqk
  have hjlt := lt_of_getElem? hj
  have hlocl : ∀ (i : Nat) (x : AObj), loc[i]? = some x → (out ++ loc)[p0 + i]? = some x := fun i x hi => by rw [← hol, List.getElem?_append_right (by omega), Nat.add_sub_cancel_left]; exact hi
  let G' : Ghost := { G with n := p0 + k + 1, obj := fun i => if i = p0 + k then G.obj j else G.obj i, tok := fun i => if i = p0 + k then ⟨0, 0, 0, 0, 0⟩ else G.tok i }
  have hobj : ∀ i, i < p0 + k → G'.obj i = G.obj i := fun i hi => by show (if i = p0 + k then _ else _) = _; rw [if_neg (by omega)]
  have hobjk : G'.obj (p0 + k) = G.obj j := by show (if p0 + k = p0 + k then _ else _) = _; rw [if_pos rfl]
  have hx : Ext (p0 + k) (G.trunc (p0 + k)) G' := ⟨Nat.le_succ _, rfl, rfl, fun _ _ _ h => h, fun i hi => hobj i hi, fun i hi => .inl (by show (if i = p0 + k then _ else _) = _; rw [if_neg (by omega)]; rfl)⟩
  -- what stands at each place
  have hat : ∀ (i : Nat) (x : AObj), (out ++ (pre ++ [.row et cells']))[i]? = some x →
      (i < p0 + k ∧ i ≠ p0 + q ∧ (out ++ loc)[i]? = some x ∧ ObjLt (p0 + k) x) ∨ (i = p0 + q ∧ x = .row rt [p, .arr (p0 + k) 0 len cap]) ∨ (i = p0 + k ∧ x = .row et cells') := by
    intro i x hi
    rcases Nat.lt_or_ge i p0 with h | h
    · rw [List.getElem?_append_left (by omega)] at hi
      refine .inl ⟨by omega, by omega, by rw [List.getElem?_append_left (by omega)]; exact hi, hout x (List.mem_of_getElem? hi)⟩
    · rw [List.getElem?_append_right (by omega), hol] at hi
      rcases Nat.lt_or_ge (i - p0) k with h2 | h2
      · rw [List.getElem?_append_left (by omega)] at hi
        by_cases hq' : i - p0 = q
        · subst hq'
          rw [hqk] at hi; cases hi
          exact .inr (.inl ⟨by omega, rfl⟩)
        · obtain ⟨h3, h4⟩ := hpre _ _ hi hq'
          have := hlocl _ _ h3
          rw [show p0 + (i - p0) = i by omega] at this
          exact .inl ⟨by omega, by omega, this, h4⟩
      · have h3 := lt_of_getElem? hi
        simp only [List.length_append, List.length_singleton, hk] at h3
        have h4 : i - p0 = k := by omega
        rw [h4, List.getElem?_append_right (by omega), hk, Nat.sub_self] at hi
        simp only [List.getElem?_cons_zero, Option.some.injEq] at hi
        exact .inr (.inr ⟨by omega, hi.symm⟩)
  -- from where each comes
  let f : Nat → Nat := fun i => if i = p0 + k then j else i
  have hsrc : ∀ (i : Nat) (x : AObj), (out ++ (pre ++ [.row et cells']))[i]? = some x → ∃ y, (out ++ loc)[f i]? = some y ∧ y.isTok = x.isTok ∧ G'.obj i = G.obj (f i) ∧ (∀ c s, x = .tok c s → y = .tok c s) := by
    intro i x hi
    rcases hat i x hi with ⟨h1, _, h2, _⟩ | ⟨h1, rfl⟩ | ⟨h1, rfl⟩
    · refine ⟨x, ?_, rfl, ?_, fun _ _ e => e⟩
      · show (out ++ loc)[if i = p0 + k then j else i]? = _; rw [if_neg (by omega)]; exact h2
      · rw [hobj i h1]; show _ = G.obj (if i = p0 + k then j else i); rw [if_neg (by omega)]
    · subst h1
      refine ⟨.row rt [p, .arr j 0 len cap], ?_, rfl, ?_, fun _ _ e => by cases e⟩
      · show (out ++ loc)[if p0 + q = p0 + k then j else p0 + q]? = _; rw [if_neg (by omega)]; exact hlocl _ _ hq
      · rw [hobj _ (by omega)]; show _ = G.obj (if p0 + q = p0 + k then j else p0 + q); rw [if_neg (by omega)]
    · subst h1
      refine ⟨.row et cells, ?_, rfl, ?_, fun _ _ e => by cases e⟩
      · show (out ++ loc)[if p0 + k = p0 + k then j else p0 + k]? = _; rw [if_pos rfl]; exact hj
      · rw [hobjk]; show _ = G.obj (if p0 + k = p0 + k then j else p0 + k); rw [if_pos rfl]
  have hfinj : ∀ i i' (x x' : AObj), (out ++ (pre ++ [.row et cells']))[i]? = some x → (out ++ (pre ++ [.row et cells']))[i']? = some x' → i ≠ i' → f i ≠ f i' := by
    intro i i' x x' hi hi' hne
    have h1 := lt_of_getElem? hi
    have h2 := lt_of_getElem? hi'
    simp only [List.length_append, List.length_singleton, hk, hol] at h1 h2
    show (if i = p0 + k then j else i) ≠ (if i' = p0 + k then j else i')
    by_cases c1 : i = p0 + k
    · rw [if_pos c1, if_neg (by omega)]; omega
    · rw [if_neg c1]
      by_cases c2 : i' = p0 + k
      · rw [if_pos c2]; omega
      · rw [if_neg c2]; exact hne
  have htok : ∀ i cnt sz, (out ++ (pre ++ [.row et cells']))[i]? = some (.tok cnt sz) → G'.tok i = G.tok i ∧ (out ++ loc)[i]? = some (.tok cnt sz) := by
    intro i cnt sz hi
    rcases hat i _ hi with ⟨h1, _, h2, _⟩ | ⟨_, e⟩ | ⟨_, e⟩
    · exact ⟨by show (if i = p0 + k then _ else _) = _; rw [if_neg (by omega)], h2⟩
    · cases e
    · cases e
  have hrow := hm.obj _ _ (hlocl _ _ hq)
  have hmem : MemOk C G' (out ++ (pre ++ [.row et cells'])) w := by
    refine ⟨?_, hm.imm, ?_, ?_, ?_, ?_, ?_, ?_, ?_, hm.below, hm.b0, ?_, hm.inv⟩
    · show p0 + k + 1 = _
      simp [hol, hk]; omega
    · intro i x hi
      rcases hat i x hi with ⟨h1, _, h2, h3⟩ | ⟨rfl, rfl⟩ | ⟨rfl, rfl⟩
      · have := ((hm.obj i x h2).trunc h3).mono hx rfl
        rw [hobj i h1]; exact this
      · obtain ⟨vs, h1, h2⟩ := hrow
        rw [hobj _ (by omega)]
        refine ⟨vs, h1, h2.len, h2.one, fun i hi => ?_⟩
        have hi2 : i = 0 ∨ i = 1 := by simp at hi; omega
        rcases hi2 with rfl | rfl
        · exact Rep.ofTrunc hx (h2.rep 0 (by simp)) hp
        · have h3 := h2.rep 1 (by simp)
          have h4 : Rep G (.arr j 0 len cap) (vs.toList.getD 1 undef) := h3
          obtain ⟨e1, _⟩ := h4.arr_inv
          show Rep G' (.arr (p0 + k) 0 len cap) _
          rw [e1, ← hobjk]
          exact .arr (G := G') (p0 + k) 0 len cap (Nat.lt_succ_self _)
      · obtain ⟨vs, h1, h2⟩ := hm.obj j _ hj
        have h2 := h2.weak hcl hcc
        rw [hobjk]
        refine ⟨vs, h1, h2.len, h2.one, fun i hi => ?_⟩
        exact Rep.ofTrunc hx (h2.rep i hi) (hc _ (getD_mem hi))
    · intro i i' x x' hi hi' hxt hxt' hne
      obtain ⟨y, hy, ht, ho, _⟩ := hsrc i x hi
      obtain ⟨y', hy', ht', ho', _⟩ := hsrc i' x' hi'
      rw [ho, ho']
      exact hm.inj _ _ y y' hy hy' (ht.trans hxt) (ht'.trans hxt') (hfinj i i' x x' hi hi' hne)
    · intro i x hi hxt
      obtain ⟨y, hy, ht, ho, _⟩ := hsrc i x hi
      rw [ho]
      exact hm.lt _ y hy (ht.trans hxt)
    · intro i x hi hxt o
      obtain ⟨y, hy, ht, ho, _⟩ := hsrc i x hi
      rw [ho]
      exact hm.sep _ y hy (ht.trans hxt) o
    · intro i cnt sz hi
      obtain ⟨e, h2⟩ := htok i cnt sz hi
      have := hm.tok i cnt sz h2
      exact ⟨by rw [e]; exact this.cnt, by rw [e]; exact this.sz, by rw [e]; exact this.free⟩
    · intro i i' cnt sz x hi hi' hxt hfree
      obtain ⟨e, h2⟩ := htok i cnt sz hi
      obtain ⟨y, hy, ht, ho, _⟩ := hsrc i' x hi'
      rw [e] at hfree ⊢
      rw [ho]
      exact hm.tokobj i _ cnt sz y h2 hy (ht.trans hxt) hfree
    · intro i i' cnt sz cnt' sz' hi hi' hne hf1 hf2
      obtain ⟨e, h2⟩ := htok i cnt sz hi
      obtain ⟨e', h2'⟩ := htok i' cnt' sz' hi'
      rw [e] at hf1 ⊢; rw [e'] at hf2 ⊢
      exact hm.toktok i i' cnt sz cnt' sz' h2 h2' hne hf1 hf2
    · intro g cs e
      exact Rep.ofTrunc hx (hm.glob g cs e) (.cptr cs fun c hc => (hpl g cs e c hc).le (Nat.zero_le _))
  refine ⟨G', ⟨hs.size, hs.defers, fun t ht => ?_, hol, hmem⟩, ⟨by show p0 ≤ p0 + k + 1; omega, rfl, rfl, fun _ _ _ h => h, fun i hi => hobj i (Nat.lt_of_lt_of_le hi (Nat.le_add_right _ _)), fun i hi => .inl (by show (if i = p0 + k then _ else _) = _; rw [if_neg (by simp only at hi; omega)])⟩⟩
  refine ofL_rep fun q' hq' e => ?_
  have := he.at_ q' hq'
  refine Rep.ofTrunc hx (this.1 G _ ?_) this.2
  rw [e]
  exact hs.env t ht
end
end Go.Av
