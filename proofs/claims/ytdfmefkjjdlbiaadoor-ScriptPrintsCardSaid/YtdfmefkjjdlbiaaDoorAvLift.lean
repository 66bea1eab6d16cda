/-
  AvLift: from a contract of the logic to a call in a world: all that lies in the world at the call's start is fixed for good.
-/
import Derived.Test.YtdfmefkjjdlbiaaDoorAvNat
namespace Go.Av
open Go.RowKit (Below)
set_option linter.unusedVariables false
set_option linter.unusedSimpArgs false

def G0 (w : World) : Ghost := ⟨0, w.heap.size, w, fun b o => w.cell? ⟨b, o, none⟩, fun _ => 0, fun _ => ⟨0, 0, 0, 0, 0⟩⟩

theorem memOk0 {C : Ctx} {w : World} (hg : ∀ g cells, C.gl g = some cells → Rep (G0 w) (.cptr cells) (.pointer (some ⟨g, 0, none⟩))) (hi : ∀ w', Below w.heap.size w w' → C.inv w') : MemOk C (G0 w) [] w where
  n := rfl
  imm := fun b o v e => e
  obj := fun id x e => by cases e
  inj := fun i j x y e => by cases e
  lt := fun i x e => by cases e
  sep := fun i x e => by cases e
  tok := fun i c s e => by cases e
  tokobj := fun i j c s x e => by cases e
  toktok := fun i j c s c' s' e => by cases e
  below := Below.refl _ _
  b0 := Nat.le_refl _
  glob := hg
  inv := hi

/-- A law, true by its contract, is true in the world. -/
theorem law_calls {C : Ctx} {f : FuncId} {args : List AV} {vs : List Value} {w : World} (h : PureF C f args (.bool true)) (ha : RepA (G0 w) args vs)
    (hg : ∀ g cells, C.gl g = some cells → Rep (G0 w) (.cptr cells) (.pointer (some ⟨g, 0, none⟩))) (hi : ∀ w', Below w.heap.size w w' → C.inv w') :
    Calls C.P f vs.toArray w fun e w' => e = .returned (.bool true) ∧ Below w.heap.size w w' := by
  refine (h.on [] (G0 w) w vs (memOk0 hg hi) ha).mono ?_
  rintro e w' ⟨v, r, objs', G', rfl, hr, hm, hx, rfl, _⟩
  refine ⟨by rw [hr.bool_inv], ?_⟩
  have := hm.below
  rw [hx.B0, hx.w0] at this
  exact this

/-- A row of constants lies where it is said to lie. -/
theorem cptr0 {w : World} {g : Nat} {cells : List AV} {vs : List Value} (hl : cells.length = vs.length) (hc : ∀ (i : Nat) (v : Value), vs[i]? = some v → w.cell? ⟨g, i, none⟩ = some v)
    (hr : ∀ (i : Nat) (c : AV) (v : Value), cells[i]? = some c → vs[i]? = some v → Rep (G0 w) c v ∧ v.oneCell' = true) : Rep (G0 w) (.cptr cells) (.pointer (some ⟨g, 0, none⟩)) := by
  refine .cptr cells g 0 (fun i => vs.getD i undef) (fun i hi => ?_) (fun i hi => ?_)
  · have hi' : i < vs.length := by rw [← hl]; exact hi
    have e : vs[i]? = some (vs.getD i undef) := by rw [getD_eq, List.getElem?_eq_getElem hi']; rfl
    refine ⟨?_, (hr i _ _ (List.getElem?_eq_getElem hi) e).2⟩
    show w.cell? ⟨g, 0 + i, none⟩ = _
    rw [Nat.zero_add]; exact hc i _ e
  · have hi' : i < vs.length := by rw [← hl]; exact hi
    have e : vs[i]? = some (vs.getD i undef) := by rw [getD_eq, List.getElem?_eq_getElem hi']; rfl
    have e2 : cells[i]? = some (cells.getD i .any) := by rw [getD_eq, List.getElem?_eq_getElem hi]; rfl
    exact (hr i _ _ e2 e).1

/-- A slice that came in, its elements told. -/
theorem slc0 {w : World} {b o len cap sz : Nat} {elems : List (List AV)} (hlen : elems.length = len) (hcap : len ≤ cap) (hs : ∀ i, i < len → (elems.getD i []).length = sz)
    (V : Nat → Nat → Value) (hc : ∀ i j, i < len → j < sz → w.cell? ⟨b, o + i * sz + j, none⟩ = some (V i j) ∧ (V i j).oneCell' = true)
    (hr : ∀ i j, i < len → j < sz → Rep (G0 w) ((elems.getD i []).getD j .any) (V i j)) : Rep (G0 w) (.slc elems .unk) (.slice (some ⟨b, o, none⟩) len cap) := by
  subst hlen
  by_cases hz : sz = 0
  · subst hz
    exact .slc elems .unk _ cap 0 (fun _ => undef) hs (fun _ => ⟨b, o, rfl, fun j hj => absurd hj (by simp)⟩) (fun x h => by cases h; rfl) (fun i j _ hj => absurd hj (Nat.not_lt_zero _)) hcap trivial
  have hz : 0 < sz := Nat.pos_of_ne_zero hz
  refine .slc elems .unk _ cap sz (fun k => V (k / sz) (k % sz)) hs (fun _ => ⟨b, o, rfl, fun k hk => ?_⟩) (fun x h => by cases h; rfl) (fun i j hi hj => ?_) hcap trivial
  · have h1 : k / sz < elems.length := Nat.div_lt_of_lt_mul (by rw [Nat.mul_comm]; exact hk)
    have h2 : k % sz < sz := Nat.mod_lt _ hz
    have := hc (k / sz) (k % sz) h1 h2
    have e : o + k / sz * sz + k % sz = o + k := by
      have h3 := Nat.div_add_mod k sz
      rw [Nat.mul_comm] at h3
      omega
    rw [e] at this
    exact this
  · have e1 : (i * sz + j) / sz = i := by rw [Nat.mul_comm, Nat.mul_add_div hz, Nat.div_eq_of_lt hj, Nat.add_zero]
    have e2 : (i * sz + j) % sz = j := by rw [Nat.mul_comm, Nat.mul_add_mod, Nat.mod_eq_of_lt hj]
    show Rep _ _ (V ((i * sz + j) / sz) ((i * sz + j) % sz))
    rw [e1, e2]
    exact hr i j hi hj
end Go.Av
