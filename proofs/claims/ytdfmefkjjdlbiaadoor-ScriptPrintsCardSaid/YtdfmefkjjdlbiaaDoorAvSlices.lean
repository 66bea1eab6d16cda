/-
  AvSlices: slices that the call makes: literals, append, make.
-/
import Derived.Test.YtdfmefkjjdlbiaaDoorAvExec
import Derived.Laws.Append
namespace Go.Av
open Go.RowKit (Below)
set_option linter.unusedVariables false
set_option linter.unusedSimpArgs false

/-! ### A new block, its first cells fixed for good -/
def Ghost.fix (G : Ghost) (nb k : Nat) (L : List Value) : Ghost := { G with imm := fun b o => if b = nb then (if o < k then L[o]? else none) else G.imm b o }

theorem MemOk.fix {C : Ctx} {G : Ghost} {objs : List AObj} {w : World} (h : MemOk C G objs w) (L : List Value) (ty : TypeId) (k : Nat) :
    MemOk C (G.fix w.heap.size k L) objs (w.alloc (.cells L.toArray ty)) ∧ Ext G.n G (G.fix w.heap.size k L) := by
  have hold : ∀ b, b < w.heap.size → (w.alloc (.cells L.toArray ty)).heap[b]? = w.heap[b]? := fun b hb => Below.heap_alloc w _ b hb
  have hnew : (w.alloc (.cells L.toArray ty)).heap[w.heap.size]? = some (.cells L.toArray ty (0, 0)) := by
    show (w.heap.push _)[w.heap.size]? = _
    simp
  have hi : ∀ b o v, G.imm b o = some v → (G.fix w.heap.size k L).imm b o = some v := fun b o v e => by
    have := block_lt (h.imm b o v e)
    simp only [Ghost.fix]; rw [if_neg (by omega)]; exact e
  have hx : Ext G.n G (G.fix w.heap.size k L) := ⟨Nat.le_refl _, rfl, rfl, hi, fun _ _ => rfl, fun _ _ => .inl rfl⟩
  refine ⟨⟨h.n, ?_, ?_, h.inj, ?_, ?_, ?_, h.tokobj, h.toktok, Below.alloc h.below h.b0 _, ?_, fun g cells e => (h.glob g cells e).mono hx, h.inv⟩, hx⟩
  · intro b o v e
    simp only [Ghost.fix] at e
    split at e
    · rename_i hb
      subst hb
      split at e
      · simp only [World.cell?, hnew]; simpa using e
      · cases e
    · rw [cell?_of_heap (hold b (block_lt (h.imm b o v e)))]; exact h.imm b o v e
  · intro id x e
    cases hxt : x.isTok with
    | true => cases x <;> simp [AObj.isTok] at hxt; trivial
    | false => exact (h.obj id x e).mono hx (hold _ (h.lt id x e hxt).1)
  · intro i x e hxt
    have := h.lt i x e hxt
    exact ⟨by rw [World.size_alloc]; exact Nat.lt_succ_of_lt this.1, this.2⟩
  · intro i x e hxt o
    have := (h.lt i x e hxt).1
    show (if G.obj i = w.heap.size then _ else _) = none
    rw [if_neg (by omega)]; exact h.sep i x e hxt o
  · intro i cnt sz e
    obtain ⟨h1, h2, h3⟩ := h.tok i cnt sz e
    refine ⟨h1, h2, fun hf => ?_⟩
    obtain ⟨⟨vs, tt, fr, hv, hl, hfr⟩, hB, him⟩ := h3 hf
    have hlt := lt_of_heap hv
    refine ⟨⟨vs, tt, fr, (hold _ hlt).trans hv, hl, hfr⟩, hB, fun o ho => ?_⟩
    show (if (G.tok i).blk = w.heap.size then _ else _) = none
    rw [if_neg (by omega)]; exact him o ho
  · show G.B0 ≤ _
    have := h.b0; rw [World.size_alloc]; omega

/-! ### A new token; a token's new state -/
structure TokFit (G : Ghost) (objs : List AObj) (w : World) (i : Nat) (ts : TokSt) : Prop where
  free : ts.off < ts.lim → (∃ vs ty fr, w.heap[ts.blk]? = some (.cells vs ty fr) ∧ ts.lim ≤ vs.size ∧ fr.2 ≤ ts.off) ∧ G.B0 ≤ ts.blk ∧ ∀ o, ts.off ≤ o → G.imm ts.blk o = none
  obj : ts.off < ts.lim → ∀ (j : Nat) (x : AObj), objs[j]? = some x → x.isTok = false → ts.blk ≠ G.obj j
  tok : ts.off < ts.lim → ∀ (j cnt sz : Nat), objs[j]? = some (.tok cnt sz) → j ≠ i → (G.tok j).off < (G.tok j).lim → ts.blk ≠ (G.tok j).blk

def Ghost.newTok (G : Ghost) (ts : TokSt) : Ghost := { G with n := G.n + 1, tok := fun i => if i = G.n then ts else G.tok i }
def Ghost.setTok (G : Ghost) (t : Nat) (ts : TokSt) : Ghost := { G with tok := fun i => if i = t then ts else G.tok i }

theorem MemOk.newTok {C : Ctx} {G : Ghost} {objs : List AObj} {w : World} (h : MemOk C G objs w) (ts : TokSt) (hf : TokFit G objs w G.n ts) :
    MemOk C (G.newTok ts) (objs ++ [.tok ts.cnt ts.sz]) w ∧ Ext G.n G (G.newTok ts) := by
  have hx : Ext G.n G (G.newTok ts) := ⟨Nat.le_succ _, rfl, rfl, fun _ _ _ h => h, fun _ _ => rfl, fun id hi => by simp only [Ghost.newTok]; rw [if_neg (by omega)]; exact .inl rfl⟩
  have told : ∀ i, i < objs.length → (G.newTok ts).tok i = G.tok i := fun i hi => by simp only [Ghost.newTok]; rw [if_neg (by rw [h.n]; omega)]
  have tnew : (G.newTok ts).tok objs.length = ts := by simp only [Ghost.newTok]; rw [if_pos h.n.symm]
  have hN : G.n = objs.length := h.n
  refine ⟨⟨?_, h.imm, ?_, ?_, ?_, ?_, ?_, ?_, ?_, h.below, h.b0, fun g cells e => (h.glob g cells e).mono hx, h.inv⟩, hx⟩
  · simp [Ghost.newTok, h.n]
  · intro i x e
    rcases getElem?_snoc e with ⟨e, _⟩ | ⟨_, rfl⟩
    · exact (h.obj i x e).mono hx rfl
    · trivial
  · intro i j x y ei ej hxt hyt hne
    rcases getElem?_snoc ei with ⟨a, _⟩ | ⟨_, rfl⟩
    · rcases getElem?_snoc ej with ⟨b, _⟩ | ⟨_, rfl⟩
      · exact h.inj i j x y a b hxt hyt hne
      · simp [AObj.isTok] at hyt
    · simp [AObj.isTok] at hxt
  · intro i x e hxt
    rcases getElem?_snoc e with ⟨a, _⟩ | ⟨_, rfl⟩
    · exact h.lt i x a hxt
    · simp [AObj.isTok] at hxt
  · intro i x e hxt o
    rcases getElem?_snoc e with ⟨a, _⟩ | ⟨_, rfl⟩
    · exact h.sep i x a hxt o
    · simp [AObj.isTok] at hxt
  · intro i cnt sz e
    rcases getElem?_snoc e with ⟨a, hi⟩ | ⟨hi, e'⟩
    · obtain ⟨h1, h2, h3⟩ := h.tok i cnt sz a
      exact ⟨by rw [told i hi]; exact h1, by rw [told i hi]; exact h2, by rw [told i hi]; exact h3⟩
    · subst hi
      injection e' with e1 e2
      exact ⟨by rw [tnew, e1], by rw [tnew, e2], by rw [tnew]; exact hf.free⟩
  · intro i j cnt sz x ei ej hxt hfree
    rcases getElem?_snoc ej with ⟨b, _⟩ | ⟨_, rfl⟩
    · rcases getElem?_snoc ei with ⟨a, hi⟩ | ⟨hi, e'⟩
      · rw [told i hi] at hfree ⊢; exact h.tokobj i j cnt sz x a b hxt hfree
      · subst hi; rw [tnew] at hfree ⊢; exact hf.obj hfree j x b hxt
    · simp [AObj.isTok] at hxt
  · intro i j cnt sz cnt' sz' ei ej hne hfi hfj
    rcases getElem?_snoc ei with ⟨a, hi⟩ | ⟨hi, e'⟩ <;> rcases getElem?_snoc ej with ⟨b, hj⟩ | ⟨hj, e''⟩
    · rw [told i hi] at hfi ⊢; rw [told j hj] at hfj ⊢; exact h.toktok i j cnt sz cnt' sz' a b hne hfi hfj
    · subst hj; rw [told i hi] at hfi ⊢; rw [tnew] at hfj ⊢
      exact fun e => hf.tok hfj i cnt sz a (by omega) hfi e.symm
    · subst hi; rw [told j hj] at hfj ⊢; rw [tnew] at hfi ⊢
      exact hf.tok hfi j cnt' sz' b (by omega) hfj
    · omega

theorem MemOk.setTok {C : Ctx} {G : Ghost} {objs : List AObj} {w : World} (h : MemOk C G objs w) {t m s : Nat} (ht : objs[t]? = some (.tok m s)) (ts : TokSt) (hc : m < ts.cnt) (hf : TokFit G objs w t ts) :
    MemOk C (G.setTok t ts) (objs.set t (.tok ts.cnt ts.sz)) w ∧ Ext G.n G (G.setTok t ts) := by
  have hcnt := (h.tok t m s ht).cnt
  have hx : Ext G.n G (G.setTok t ts) := ⟨Nat.le_refl _, rfl, rfl, fun _ _ _ h => h, fun _ _ => rfl, fun id hi => by
    simp only [Ghost.setTok]; split
    · rename_i e; subst e; exact .inr (by omega)
    · exact .inl rfl⟩
  have tnew : (G.setTok t ts).tok t = ts := by simp only [Ghost.setTok]; rw [if_pos trivial]
  have told : ∀ i, i ≠ t → (G.setTok t ts).tok i = G.tok i := fun i hi => by simp only [Ghost.setTok]; rw [if_neg hi]
  have isT : ∀ (i : Nat) (x : AObj), (objs.set t (.tok ts.cnt ts.sz))[i]? = some x → x.isTok = false → objs[i]? = some x := fun i x e hxt => by
    rcases getElem?_set_cases e with ⟨_, rfl, _⟩ | ⟨_, e⟩
    · simp [AObj.isTok] at hxt
    · exact e
  refine ⟨⟨?_, h.imm, ?_, ?_, ?_, ?_, ?_, ?_, ?_, h.below, h.b0, fun g cells e => (h.glob g cells e).mono hx, h.inv⟩, hx⟩
  · simp [Ghost.setTok, h.n]
  · intro i x e
    rcases getElem?_set_cases e with ⟨_, rfl, _⟩ | ⟨_, e⟩
    · trivial
    · exact (h.obj i x e).mono hx rfl
  · exact fun i j x y ei ej hxt hyt hne => h.inj i j x y (isT i x ei hxt) (isT j y ej hyt) hxt hyt hne
  · exact fun i x e hxt => h.lt i x (isT i x e hxt) hxt
  · exact fun i x e hxt o => h.sep i x (isT i x e hxt) hxt o
  · intro i cnt sz e
    rcases getElem?_set_cases e with ⟨rfl, e', _⟩ | ⟨hne, e⟩
    · injection e' with e1 e2
      exact ⟨by rw [tnew, e1], by rw [tnew, e2], by rw [tnew]; exact hf.free⟩
    · obtain ⟨h1, h2, h3⟩ := h.tok i cnt sz e
      exact ⟨by rw [told i (Ne.symm hne)]; exact h1, by rw [told i (Ne.symm hne)]; exact h2, by rw [told i (Ne.symm hne)]; exact h3⟩
  · intro i j cnt sz x ei ej hxt hfree
    rcases getElem?_set_cases ei with ⟨rfl, e', _⟩ | ⟨hne, ei⟩
    · rw [tnew] at hfree ⊢; exact hf.obj hfree j x (isT j x ej hxt) hxt
    · rw [told i (Ne.symm hne)] at hfree ⊢; exact h.tokobj i j cnt sz x ei (isT j x ej hxt) hxt hfree
  · intro i j cnt sz cnt' sz' ei ej hne hfi hfj
    rcases getElem?_set_cases ei with ⟨rfl, _, _⟩ | ⟨hni, ei⟩ <;> rcases getElem?_set_cases ej with ⟨e2, _, _⟩ | ⟨hnj, ej⟩
    · exact absurd e2 hne
    · rw [tnew] at hfi ⊢; rw [told j (Ne.symm hnj)] at hfj ⊢; exact hf.tok hfi j cnt' sz' ej (Ne.symm hnj) hfj
    · subst e2; rw [tnew] at hfj ⊢; rw [told i (Ne.symm hni)] at hfi ⊢; exact fun e => hf.tok hfj i cnt sz ei (Ne.symm hni) hfi e.symm
    · rw [told i (Ne.symm hni)] at hfi ⊢; rw [told j (Ne.symm hnj)] at hfj ⊢; exact h.toktok i j cnt sz cnt' sz' ei ej hne hfi hfj

def Ghost.grow (G : Ghost) (t c : Nat) (news : List Value) : Ghost :=
  { G with
    imm := fun b o => if b = (G.tok t).blk ∧ (G.tok t).off ≤ o ∧ o < (G.tok t).off + news.length then news[o - (G.tok t).off]? else G.imm b o
    tok := fun i => if i = t then { G.tok t with cnt := c, off := (G.tok t).off + news.length } else G.tok i }

theorem MemOk.grow {C : Ctx} {G : Ghost} {objs : List AObj} {w : World} (h : MemOk C G objs w) {t m s c : Nat} (ht : objs[t]? = some (.tok m s)) (hc : m < c) (news : List Value) (hfree : (G.tok t).off < (G.tok t).lim) (hfit : (G.tok t).off + news.length ≤ (G.tok t).lim) :
    MemOk C (G.grow t c news) (objs.set t (.tok c s)) (w.setCells (G.tok t).blk (G.tok t).off news) ∧ Ext G.n G (G.grow t c news) := by
  have htok := h.tok t m s ht
  obtain ⟨⟨vs, ty, fr, hv, hl, hfr⟩, hB, him⟩ := htok.free hfree
  obtain ⟨a1, a2, a3, a4, a5, a6, a7⟩ := setCells_facts (G.tok t).blk news (G.tok t).off vs ty w hv
  have hcell : ∀ o, o < vs.size → (w.setCells (G.tok t).blk (G.tok t).off news).cell? ⟨(G.tok t).blk, o, none⟩ = if (G.tok t).off ≤ o ∧ o < (G.tok t).off + news.length then news[o - (G.tok t).off]? else w.cell? ⟨(G.tok t).blk, o, none⟩ := by
    intro o ho
    simp only [World.cell?, a1, hv]
    simp only [Option.isSome_none, Bool.false_eq_true, if_false, List.getElem?_toArray, List.getElem?_take, if_pos ho, List.append_assoc, List.getElem?_append, List.length_take, List.getElem?_drop]
    have e1 : min (G.tok t).off vs.toList.length = (G.tok t).off := by simp; omega
    simp only [e1]
    by_cases c1 : o < (G.tok t).off
    · rw [if_pos c1, if_pos c1, if_neg (by omega)]; simp
    · rw [if_neg c1]
      by_cases c2 : o < (G.tok t).off + news.length
      · rw [if_pos (by omega), if_pos ⟨by omega, c2⟩]
      · rw [if_neg (by omega), if_neg (by omega)]
        rw [show (G.tok t).off + news.length + (o - (G.tok t).off - news.length) = o by omega]
        simp
  have hnoimm : ∀ b o v, G.imm b o = some v → ¬ (b = (G.tok t).blk ∧ (G.tok t).off ≤ o) := fun b o v e hh => by
    obtain ⟨rfl, hh⟩ := hh; rw [him o hh] at e; cases e
  have hi : ∀ b o v, G.imm b o = some v → (G.grow t c news).imm b o = some v := fun b o v e => by
    simp only [Ghost.grow]; rw [if_neg (fun hh => hnoimm b o v e ⟨hh.1, hh.2.1⟩)]; exact e
  have hx : Ext G.n G (G.grow t c news) := ⟨Nat.le_refl _, rfl, rfl, hi, fun _ _ => rfl, fun id hi' => by
    simp only [Ghost.grow]; split
    · rename_i e; subst e; exact .inr (by rw [htok.cnt]; exact hc)
    · exact .inl rfl⟩
  have tnew : (G.grow t c news).tok t = { G.tok t with cnt := c, off := (G.tok t).off + news.length } := by simp only [Ghost.grow]; rw [if_pos trivial]
  have told : ∀ i, i ≠ t → (G.grow t c news).tok i = G.tok i := fun i hi => by simp only [Ghost.grow]; rw [if_neg hi]
  have isT : ∀ (i : Nat) (x : AObj), (objs.set t (.tok c s))[i]? = some x → x.isTok = false → objs[i]? = some x := fun i x e hxt => by
    rcases getElem?_set_cases e with ⟨_, rfl, _⟩ | ⟨_, e⟩
    · simp [AObj.isTok] at hxt
    · exact e
  have hne : ∀ (i : Nat) (x : AObj), objs[i]? = some x → x.isTok = false → G.obj i ≠ (G.tok t).blk := fun i x e hxt => (h.tokobj t i m s x ht e hxt hfree).symm
  refine ⟨⟨?_, ?_, ?_, ?_, ?_, ?_, ?_, ?_, ?_, ?_, ?_, fun g cells e => (h.glob g cells e).mono hx, h.inv⟩, hx⟩
  · simp [Ghost.grow, h.n]
  · intro b o v e
    simp only [Ghost.grow] at e
    split at e
    · rename_i hh
      obtain ⟨rfl, h1, h2⟩ := hh
      rw [hcell o (by omega), if_pos ⟨h1, h2⟩]; exact e
    · by_cases hb : b = (G.tok t).blk
      · subst hb
        have hlt : o < (G.tok t).off := by have := hnoimm _ o v e; omega
        have hw := h.imm _ _ _ e
        rw [hcell o (by omega), if_neg (by omega)]; exact hw
      · rw [cell?_of_heap (a2 b hb)]; exact h.imm b o v e
  · intro i x e
    cases hxt : x.isTok with
    | true => cases x <;> simp [AObj.isTok] at hxt; trivial
    | false =>
      have e' := isT i x e hxt
      exact (h.obj i x e').mono hx (a2 _ (hne i x e' hxt))
  · exact fun i j x y ei ej hxt hyt hn => h.inj i j x y (isT i x ei hxt) (isT j y ej hyt) hxt hyt hn
  · intro i x e hxt; rw [a3]; exact h.lt i x (isT i x e hxt) hxt
  · intro i x e hxt o
    have e' := isT i x e hxt
    simp only [Ghost.grow]
    rw [if_neg (fun hh => hne i x e' hxt hh.1)]
    exact h.sep i x e' hxt o
  · intro i cnt sz e
    rcases getElem?_set_cases e with ⟨rfl, e', _⟩ | ⟨hni, e⟩
    · injection e' with e1 e2
      refine ⟨by rw [tnew, e1], by rw [tnew, e2]; exact htok.sz, ?_⟩
      rw [tnew]
      intro hf
      refine ⟨⟨_, ty, fr, a1, ?_, ?_⟩, hB, fun o ho => ?_⟩
      · simp; omega
      · simp; omega
      · simp only [Ghost.grow] at ho ⊢
        rw [if_neg (by omega)]; exact him o (by omega)
    · obtain ⟨h1, h2, h3⟩ := h.tok i cnt sz e
      refine ⟨by rw [told i (Ne.symm hni)]; exact h1, by rw [told i (Ne.symm hni)]; exact h2, ?_⟩
      rw [told i (Ne.symm hni)]
      intro hf
      obtain ⟨⟨us, ty', fr', hu, hl', hfr'⟩, hB', him'⟩ := h3 hf
      have hbb : (G.tok i).blk ≠ (G.tok t).blk := h.toktok i t cnt sz m s e ht (Ne.symm hni) hf hfree
      refine ⟨⟨us, ty', fr', (a2 _ hbb).trans hu, hl', hfr'⟩, hB', fun o ho => ?_⟩
      simp only [Ghost.grow]
      rw [if_neg (fun hh => hbb hh.1)]; exact him' o ho
  · intro i j cnt sz x ei ej hxt hf
    have e' := isT j x ej hxt
    rcases getElem?_set_cases ei with ⟨rfl, _, _⟩ | ⟨hni, ei⟩
    · rw [tnew]; exact h.tokobj _ j m s x ht e' hxt hfree
    · rw [told i (Ne.symm hni)] at hf ⊢; exact h.tokobj i j cnt sz x ei e' hxt hf
  · intro i j cnt sz cnt' sz' ei ej hn hfi hfj
    rcases getElem?_set_cases ei with ⟨rfl, _, _⟩ | ⟨hni, ei⟩ <;> rcases getElem?_set_cases ej with ⟨e2, _, _⟩ | ⟨hnj, ej⟩
    · exact absurd e2 hn
    · rw [tnew]; rw [told j (Ne.symm hnj)] at hfj ⊢; exact h.toktok _ j m s cnt' sz' ht ej hn hfree hfj
    · subst e2; rw [tnew]; rw [told i (Ne.symm hni)] at hfi ⊢; exact h.toktok i _ cnt sz m s ei ht hn hfi hfree
    · rw [told i (Ne.symm hni)] at hfi ⊢; rw [told j (Ne.symm hnj)] at hfj ⊢; exact h.toktok i j cnt sz cnt' sz' ei ej hn hfi hfj
  · refine ⟨a4.trans h.below.os, a5.trans h.below.tape, a6.trans h.below.output, by rw [a3]; exact h.below.size, fun k hk => ?_⟩
    have hk' : k < G.B0 := hk
    rw [a2 k (by omega)]; exact h.below.block k hk'
  · rw [a3]; exact h.b0

/-! ### append, as it runs -/
structure Src (P : Program) (w : World) (size n : Nat) (x : Value) (news : List Value) : Prop where
  len : ∀ w', (Builtin.lenOf x).run P w' = .ok n w'
  first : ∀ w', w'.heap = w.heap → (Builtin.firstCells size n x).run P w' = .ok news.toArray w'
  size : news.length = n * size

theorem run_append_room_ {P : Program} {w : World} {t t2 ty e : TypeId} {d2 : TypeDesc} {i : TypeInfo} {b o sLen sCap n : Nat} {x : Value} {news : List Value} (ht : P.underlying t = some (.slice e)) (hu : P.underlying t2 = some d2) (hd : ∀ k, d2 ≠ .int k) (hi : P.info? e = some i)
    (hs : Src P w i.size n x news) (hle : sLen + n ≤ sCap) (hc : ∀ j, j < news.length → (w.cell? ⟨b, o + sLen * i.size + j, none⟩).isSome = true ∧ w.frozen? ⟨b, o + sLen * i.size + j, none⟩ = false) (ho : ∀ v, v ∈ news → v.oneCell' = true) :
    (Builtin.append_ #[t, t2] ty #[.slice (some ⟨b, o, none⟩) sLen sCap, x]).run P w = .ok (.slice (some ⟨b, o, none⟩) (sLen + n) sCap) (w.setCells b (o + sLen * i.size) news) := by
  have hz : (d2 matches .int _) = false := by cases d2 <;> first | rfl | exact absurd rfl (hd _)
  have hst := run_storeCells_cells (P := P) b (o + sLen * i.size) news 0 w (fun j hj => by rw [Nat.add_zero]; exact (hc j hj).1) (fun j hj => by rw [Nat.add_zero]; exact (hc j hj).2) ho
  rw [Nat.add_zero] at hst
  simp only [Builtin.append_, List.getElem?_toArray, List.getElem?_cons_zero, List.getElem?_cons_succ, Sem.run_bind, run_underlying_of ht, run_underlying_of hu, Result.andThen_ok, sizeOf, run_typeInfo_of hi, Sem.run_pure, hz, Bool.false_eq_true, if_false, hs.len, Bool.not_false, if_true, hs.first w rfl, add_none, hst, if_pos hle]

theorem run_append_new_ {P : Program} {w : World} {t t2 ty e : TypeId} {d2 : TypeDesc} {i : TypeInfo} {z : Value} {sLen sCap n : Nat} {base : Option Addr} {x : Value} {news olds : List Value} (ht : P.underlying t = some (.slice e)) (hu : P.underlying t2 = some d2) (hd : ∀ k, d2 ≠ .int k) (hi : P.info? e = some i) (hz : i.zero = some z)
    (hs : Src P w i.size n x news) (hlt : sCap < sLen + n) (hold : ∀ w', w'.heap = w.heap → (Builtin.firstCells i.size sLen (.slice base sLen sCap)).run P w' = .ok olds.toArray w') (hb : 0 < i.bytes)
    (hfit : (sLen + n) * i.bytes ≤ 140737488355328) :
    (Builtin.append_ #[t, t2] ty #[.slice base sLen sCap, x]).run P w = .ok (.slice (some ⟨w.heap.size, 0, none⟩) (sLen + n) (grownCap w (sLen + n) sCap e))
      (w.drew.alloc (.cells (olds ++ news ++ (Builtin.zeroCells z.cells (grownCap w (sLen + n) sCap e - (sLen + n))).toList).toArray e)) := by
  have hzz : (d2 matches .int _) = false := by cases d2 <;> first | rfl | exact absurd rfl (hd _)
  have h1 := growslice_fits hlt hfit
  have hle : sLen + n ≤ (sLen + n) * i.bytes := Nat.le_mul_of_pos_right _ hb
  have h2 : ¬ (((sLen + n : Nat) : Int) > IntKind.i64.max) := by
    have : IntKind.i64.max = 9223372036854775807 := by decide
    rw [this]; omega
  have h3 : ¬ (Builtin.nextslicecap (sLen + n) sCap * i.bytes > 2 ^ 48) := by omega
  have h4 : ¬ (sLen + n ≤ sCap) := by omega
  have hch : (choose (.appendCap (sLen + n) sCap e)).run P w = .ok (grownCap w (sLen + n) sCap e) w.drew := by simp [Question.forced, grownCap]
  simp only [Builtin.append_, List.getElem?_toArray, List.getElem?_cons_zero, List.getElem?_cons_succ, Sem.run_bind, run_underlying_of ht, run_underlying_of hu, Result.andThen_ok, sizeOf, run_typeInfo_of hi, Sem.run_pure, hzz, Bool.false_eq_true, if_false, hs.len, Bool.not_false, if_true, if_neg h4]
  rw [if_neg (fun hh => h2 hh.1)]
  simp only [Sem.run_bind, run_typeInfo_of hi, Result.andThen_ok, Sem.run_pure, hch, run_askRoom, hold w.drew rfl, hs.first w.drew rfl, zeroValue, hz, newRow]
  rw [if_neg h3]
  simp only [Sem.run_bind, Sem.run_pure, Result.andThen_ok, hch, run_askRoom, hold w.drew rfl, hs.first w.drew rfl, hi, hz, newRow, run_newObj, zeroValue, run_typeInfo_of hi]
  congr 1
  simp only [World.alloc]
  congr 2
  apply congrArg (fun c => Obj.cells c e)
  apply Array.ext'
  simp

/-! ### Rows of elements, laid flat -/
def AllLen (k : Nat) (l : List (List AV)) : Prop := ∀ el, el ∈ l → el.length = k
theorem AllLen.nil (k : Nat) : AllLen k [] := fun _ h => by cases h
theorem AllLen.cons {k : Nat} {x : List AV} {l : List (List AV)} (h : x.length = k) (hl : AllLen k l) : AllLen k (x :: l) := fun el he => by
  rcases List.mem_cons.1 he with rfl | he
  · exact h
  · exact hl el he
theorem AllLen.append {k : Nat} {l l' : List (List AV)} (h : AllLen k l) (h' : AllLen k l') : AllLen k (l ++ l') := fun el he => (List.mem_append.1 he).elim (h el) (h' el)
theorem AllLen.map {α : Type} {k : Nat} {l : List α} {enc : α → List AV} (h : ∀ x, (enc x).length = k) : AllLen k (l.map enc) := fun el he => by obtain ⟨x, _, rfl⟩ := List.mem_map.1 he; exact h x
theorem AllLen.sub {k : Nat} {l l' : List (List AV)} (h : AllLen k l) (hs : ∀ x, x ∈ l' → x ∈ l) : AllLen k l' := fun el he => h el (hs el he)

theorem flatten_get {k : Nat} : ∀ {l : List (List AV)} {i j : Nat}, AllLen k l → i < l.length → j < k → l.flatten[i * k + j]? = (l.getD i [])[j]?
  | [], _, _, _, h, _ => absurd h (Nat.not_lt_zero _)
  | x :: r, 0, j, h, _, hj => by
    have hx := h x (List.mem_cons_self ..)
    rw [Nat.zero_mul, Nat.zero_add, List.flatten_cons, List.getElem?_append_left (by omega)]; rfl
  | x :: r, i + 1, j, h, hi, hj => by
    have hx := h x (List.mem_cons_self ..)
    have ih := flatten_get (l := r) (i := i) (j := j) (fun el he => h el (List.mem_cons_of_mem _ he)) (by simpa using hi) hj
    rw [List.flatten_cons, List.getElem?_append_right (by rw [hx, Nat.succ_mul]; omega), hx]
    rw [show (i + 1) * k + j - k = i * k + j by rw [Nat.succ_mul]; omega, ih]; rfl
theorem flatten_len {k : Nat} : ∀ {l : List (List AV)}, AllLen k l → l.flatten.length = l.length * k
  | [], _ => by simp
  | x :: r, h => by
    have hx := h x (List.mem_cons_self ..)
    have ih := flatten_len (l := r) (fun el he => h el (List.mem_cons_of_mem _ he))
    rw [List.flatten_cons, List.length_append, ih, hx, List.length_cons, Nat.succ_mul]; omega

theorem slc_mk {G : Ghost} {elems : List (List AV)} {e : SEnd} {sz b o cap : Nat} {L : List Value} (hs : AllLen sz elems) (hr : RepL G elems.flatten L) (hi : ∀ j v, L[j]? = some v → G.imm b (o + j) = some v) (hc : elems.length ≤ cap)
    (he : EndOk G e (some ⟨b, o, none⟩) elems.length cap sz) : Rep G (.slc elems e) (.slice (some ⟨b, o, none⟩) elems.length cap) := by
  have hl : L.length = elems.length * sz := by rw [← hr.len, flatten_len hs]
  refine .slc elems e _ cap sz (fun j => L.getD j undef) (fun i h => hs _ (getD_mem h)) (fun _ => ⟨b, o, rfl, fun j hj => ?_⟩) (fun x hx => by cases hx; rfl) (fun i j h1 h2 => ?_) hc he
  · have hj' : j < L.length := by rw [hl]; exact hj
    have e1 : L.getD j undef = L[j] := by rw [getD_eq, List.getElem?_eq_getElem hj']; rfl
    simp only [e1]
    exact ⟨hi j _ (List.getElem?_eq_getElem hj'), hr.mem _ (List.getElem_mem _)⟩
  · have hlt : i * sz + j < L.length := by rw [hl]; exact mul_lt_of h1 h2
    have := hr.rep (i * sz + j) (by rw [hr.len]; exact hlt)
    rw [getD_eq elems.flatten, flatten_get hs h1 h2, ← getD_eq] at this
    exact this

theorem slc_open {C : Ctx} {G : Ghost} {objs : List AObj} {w : World} (hm : MemOk C G objs w) {elems : List (List AV)} {e : SEnd} {sz : Nat} {cv : Value} (h : Rep G (.slc elems e) cv) (hs : AllLen sz elems) :
    ∃ a cap L, cv = .slice a elems.length cap ∧ elems.length ≤ cap ∧ RepL G elems.flatten L ∧ (∀ w', w'.heap = w.heap → ∀ c', (Builtin.firstCells sz elems.length (.slice a elems.length c')).run C.P w' = .ok L.toArray w') ∧
      (0 < elems.length → ∃ b o, a = some ⟨b, o, none⟩ ∧ ∀ j v, L[j]? = some v → G.imm b (o + j) = some v) ∧ (∀ x, a = some x → x.spot = none) ∧ ∃ sz', EndOk G e a elems.length cap sz' ∧ (0 < elems.length → sz' = sz) := by
  obtain ⟨a, cap, sz', f, rfl, h1, h2, h3, h4, h5, h6⟩ := h.slc_inv
  by_cases hp : 0 < elems.length
  · have hsz : sz' = sz := by rw [← h1 0 hp]; exact hs _ (getD_mem hp)
    subst hsz
    obtain ⟨b, o, rfl, hc⟩ := h2 hp
    have hlen : ((List.range (elems.length * sz')).map f).length = elems.length * sz' := by simp
    have hat : ∀ j v, ((List.range (elems.length * sz')).map f)[j]? = some v → j < elems.length * sz' ∧ v = f j := fun j v hv => by
      have hj := lt_of_getElem? hv
      rw [hlen] at hj
      rw [List.getElem?_map, List.getElem?_range hj] at hv
      cases hv; exact ⟨hj, rfl⟩
    refine ⟨_, cap, (List.range (elems.length * sz')).map f, rfl, h5, ?_, ?_, fun _ => ⟨b, o, rfl, fun j v hv => ?_⟩, h3, sz', h6, fun _ => rfl⟩
    · refine RepL.of_at (by rw [flatten_len hs, hlen]) fun j c v hc' hv => ?_
      obtain ⟨hj, rfl⟩ := hat j v hv
      refine ⟨?_, (hc j hj).2⟩
      have hz : 0 < sz' := by rcases Nat.eq_zero_or_pos sz' with e0 | e0; · subst e0; simp at hj
                              exact e0
      have hi : j / sz' < elems.length := Nat.div_lt_of_lt_mul (by rw [Nat.mul_comm]; exact hj)
      have hr := h4 (j / sz') (j % sz') hi (Nat.mod_lt _ hz)
      have e1 : j / sz' * sz' + j % sz' = j := by rw [Nat.mul_comm]; exact Nat.div_add_mod j sz'
      rw [e1] at hr
      have := flatten_get hs hi (Nat.mod_lt j hz)
      rw [e1, hc'] at this
      rw [getD_eq, ← this] at hr
      exact hr
    · intro w' hw c'
      simp only [Builtin.firstCells]
      exact run_loadCells w' _ _ f fun j hj => by
        rw [add_none, cell?_of_heap (w := w) (by rw [hw])]; exact hm.imm _ _ _ (hc j hj).1
    · obtain ⟨hj, rfl⟩ := hat j v hv
      exact (hc j hj).1
  · have he : elems = [] := by cases elems with | nil => rfl | cons x r => simp at hp
    subst he
    refine ⟨a, cap, [], rfl, h5, RepL.nil G, ?_, fun hh => absurd hh hp, h3, sz', h6, fun hh => absurd hh hp⟩
    intro w' hw c'
    cases a with
    | none => simp [Builtin.firstCells]
    | some x => simp [Builtin.firstCells, loadCells, loadCellsFrom]

end Go.Av
