/-
  AvMem: what becomes of the store when the world makes a block, or one of the store's own blocks is written.
-/
import Derived.Test.YtdfmefkjjdlbiaaDoorAvRules
import Derived.Laws.IdiomCopy
namespace Go.Av
open Go.RowKit (Below)
set_option linter.unusedVariables false
set_option linter.unusedSimpArgs false

theorem add_none (b o k : Nat) : (⟨b, o, none⟩ : Addr).add k = ⟨b, o + k, none⟩ := by unfold Addr.add; split <;> simp_all

theorem ObjOk.mono {G G' : Ghost} {w w' : World} {b : Nat} {x : AObj} (hx : Ext G.n G G') (hw : w'.heap[b]? = w.heap[b]?) (h : ObjOk G w b x) : ObjOk G' w' b x := by
  cases x with
  | row rt cells => obtain ⟨vs, h1, h2⟩ := h; exact ⟨vs, hw.trans h1, h2.mono hx⟩
  | rowF rt cells => obtain ⟨vs, fr, h1, h2⟩ := h; exact ⟨vs, fr, hw.trans h1, h2.mono hx⟩
  | map es clock =>
    obtain ⟨ms, h1, h2⟩ := h
    exact ⟨ms, hw.trans h1, h2.mono hx⟩
  | iter m since seen last =>
    obtain ⟨h1, h2⟩ := h
    exact ⟨Nat.lt_of_lt_of_le h1 hx.n, by rw [hx.obj m h1]; exact hw.trans h2⟩
  | tok _ _ => trivial
  | gone => trivial

theorem cell?_of_heap {w w' : World} {b o : Nat} (h : w'.heap[b]? = w.heap[b]?) : w'.cell? ⟨b, o, none⟩ = w.cell? ⟨b, o, none⟩ := by simp only [World.cell?, h]
theorem frozen?_of_heap {w w' : World} {b o : Nat} (h : w'.heap[b]? = w.heap[b]?) : w'.frozen? ⟨b, o, none⟩ = w.frozen? ⟨b, o, none⟩ := by simp only [World.frozen?, h]
theorem block_lt {w : World} {b o : Nat} {v : Value} (h : w.cell? ⟨b, o, none⟩ = some v) : b < w.heap.size := by
  rcases Nat.lt_or_ge b w.heap.size with h' | h'
  · exact h'
  · simp [World.cell?, Array.getElem?_eq_none h'] at h

theorem lt_of_heap {w : World} {b : Nat} {o : Obj} (h : w.heap[b]? = some o) : b < w.heap.size := by
  rcases Nat.lt_or_ge b w.heap.size with h' | h'
  · exact h'
  · rw [Array.getElem?_eq_none h'] at h; cases h

/-- The world has turned in no block of the heap. -/
theorem MemOk.of_heap {C : Ctx} {G : Ghost} {objs : List AObj} {w w' : World} (h : MemOk C G objs w) (hh : w'.heap = w.heap) (ho : w'.os = w.os) (ht : w'.tape = w.tape) (hp : w'.output = w.output) : MemOk C G objs w' where
  n := h.n
  imm := fun b o v e => (cell?_of_heap (congrArg (·[b]?) hh)).trans (h.imm b o v e)
  obj := fun id x e => (h.obj id x e).mono (Ext.refl (Nat.le_refl _)) (by rw [hh])
  inj := h.inj
  lt := fun i x e hx => by rw [hh]; exact h.lt i x e hx
  sep := h.sep
  tok := fun i cnt sz e => ⟨(h.tok i cnt sz e).cnt, (h.tok i cnt sz e).sz, fun h1 => by rw [hh]; exact (h.tok i cnt sz e).free h1⟩
  tokobj := h.tokobj
  toktok := h.toktok
  below := ⟨ho.trans h.below.os, ht.trans h.below.tape, hp.trans h.below.output, by rw [hh]; exact h.below.size, fun k hk => by rw [hh]; exact h.below.block k hk⟩
  b0 := by rw [hh]; exact h.b0
  glob := h.glob
  inv := h.inv

def Ghost.push (G : Ghost) (b : Nat) : Ghost := { G with n := G.n + 1, obj := fun i => if i = G.n then b else G.obj i }
theorem Ext.push (G : Ghost) (b : Nat) : Ext G.n G (G.push b) :=
  ⟨Nat.le_succ _, rfl, rfl, fun _ _ _ h => h, fun id h => by simp only [Ghost.push]; rw [if_neg (by omega)], fun _ _ => .inl rfl⟩

theorem getElem?_snoc {α : Type} {l : List α} {x y : α} {i : Nat} (h : (l ++ [x])[i]? = some y) : l[i]? = some y ∧ i < l.length ∨ i = l.length ∧ y = x := by
  rcases Nat.lt_or_ge i l.length with h' | h'
  · rw [List.getElem?_append_left h'] at h; exact .inl ⟨h, h'⟩
  · rw [List.getElem?_append_right h'] at h
    rcases Nat.eq_or_lt_of_le h' with e | e
    · subst e; simp at h; exact .inr ⟨rfl, h.symm⟩
    · rw [List.getElem?_eq_none (by simp; omega)] at h; cases h

theorem lt_of_getElem? {α : Type} {l : List α} {i : Nat} {y : α} (h : l[i]? = some y) : i < l.length := by
  rcases Nat.lt_or_ge i l.length with h' | h'
  · exact h'
  · rw [List.getElem?_eq_none h'] at h; cases h

/-- A new object of the store in a new block. -/
theorem MemOk.push {C : Ctx} {G : Ghost} {objs : List AObj} {w : World} (h : MemOk C G objs w) (o : Obj) (x : AObj) (hx : x.isTok = false)
    (hok : ObjOk G (w.alloc o) w.heap.size x) : MemOk C (G.push w.heap.size) (objs ++ [x]) (w.alloc o) := by
  have hext := Ext.push G w.heap.size
  have hold : ∀ k, k < w.heap.size → (w.alloc o).heap[k]? = w.heap[k]? := fun k hk => Below.heap_alloc w o k hk
  have hobj : ∀ i y, objs[i]? = some y → (G.push w.heap.size).obj i = G.obj i := fun i y e => by
    have := lt_of_getElem? e
    simp only [Ghost.push]; rw [if_neg (by rw [h.n]; omega)]
  have hnew : (G.push w.heap.size).obj objs.length = w.heap.size := by simp only [Ghost.push, h.n]; rw [if_pos trivial]
  refine ⟨?_, ?_, ?_, ?_, ?_, ?_, ?_, ?_, ?_, ?_, ?_, ?_, h.inv⟩
  · simp [Ghost.push, h.n]
  · intro b oo v e
    rw [cell?_of_heap (hold b (block_lt (h.imm b oo v e)))]
    exact h.imm b oo v e
  · intro i y e
    rcases getElem?_snoc e with ⟨e, hl⟩ | ⟨rfl, rfl⟩
    · rw [hobj i y e]
      cases hy : y.isTok with
      | true => cases y <;> simp [AObj.isTok] at hy; trivial
      | false => exact (h.obj i y e).mono hext (hold _ (h.lt i y e hy).1)
    · rw [hnew]; exact hok.mono hext rfl
  · intro i j y z ei ej hy hz hne
    rcases getElem?_snoc ei with ⟨a, hi⟩ | ⟨a, a'⟩ <;> rcases getElem?_snoc ej with ⟨b, hj⟩ | ⟨b, b'⟩
    · rw [hobj i y a, hobj j z b]; exact h.inj i j y z a b hy hz hne
    · subst b; rw [hobj i y a, hnew]; have := (h.lt i y a hy).1; omega
    · subst a; rw [hobj j z b, hnew]; have := (h.lt j z b hz).1; omega
    · omega
  · intro i y e hy
    have hs : (w.alloc o).heap.size = w.heap.size + 1 := by simp
    rcases getElem?_snoc e with ⟨e, hl⟩ | ⟨rfl, rfl⟩
    · rw [hobj i y e, hs]; have := h.lt i y e hy; exact ⟨by omega, this.2⟩
    · rw [hnew, hs]; exact ⟨by omega, h.b0⟩
  · intro i y e hy oo
    rcases getElem?_snoc e with ⟨e, hl⟩ | ⟨rfl, rfl⟩
    · rw [hobj i y e]; exact h.sep i y e hy oo
    · rw [hnew]
      show G.imm w.heap.size oo = none
      cases hv : G.imm w.heap.size oo with
      | none => rfl
      | some v => exact absurd (block_lt (h.imm _ _ _ hv)) (Nat.lt_irrefl _)
  · intro i cnt sz e
    rcases getElem?_snoc e with ⟨e, hl⟩ | ⟨_, e⟩
    · obtain ⟨h1, h2, h3⟩ := h.tok i cnt sz e
      refine ⟨h1, h2, fun hf => ?_⟩
      obtain ⟨⟨vs, tt, fr, hv, hl, hfr⟩, hB, hi⟩ := h3 hf
      refine ⟨⟨vs, tt, fr, ?_, hl, hfr⟩, hB, hi⟩
      show (w.alloc o).heap[(G.tok i).blk]? = _
      rw [hold _ (lt_of_heap hv)]; exact hv
    · subst e; simp [AObj.isTok] at hx
  · intro i j cnt sz y ei ej hy hfree
    rcases getElem?_snoc ei with ⟨a, hi⟩ | ⟨_, e⟩
    · rcases getElem?_snoc ej with ⟨b, hj⟩ | ⟨b, b'⟩
      · rw [hobj j y b]; exact h.tokobj i j cnt sz y a b hy hfree
      · subst b; rw [hnew]
        obtain ⟨⟨vs, tt, fr, hv, hl, hfr⟩, _⟩ := (h.tok i cnt sz a).free hfree
        have := lt_of_heap hv
        show (G.tok i).blk ≠ _
        omega
    · subst e; simp [AObj.isTok] at hx
  · intro i j cnt sz cnt' sz' ei ej hne hf hf'
    rcases getElem?_snoc ei with ⟨a, hi⟩ | ⟨_, e⟩
    · rcases getElem?_snoc ej with ⟨b, hj⟩ | ⟨_, e⟩
      · exact h.toktok i j cnt sz cnt' sz' a b hne hf hf'
      · subst e; simp [AObj.isTok] at hx
    · subst e; simp [AObj.isTok] at hx
  · exact Below.alloc h.below h.b0 o
  · show G.B0 ≤ (w.alloc o).heap.size
    have := h.b0; simp; omega
  · exact fun g cells e => (h.glob g cells e).mono hext

theorem getElem?_set_cases {α : Type} {l : List α} {x y : α} {i j : Nat} (h : (l.set i x)[j]? = some y) : i = j ∧ y = x ∧ i < l.length ∨ i ≠ j ∧ l[j]? = some y := by
  rw [List.getElem?_set] at h
  split at h
  · rename_i e
    subst e
    split at h
    · rename_i hl; simp at h; exact .inl ⟨rfl, h.symm, hl⟩
    · cases h
  · rename_i e; exact .inr ⟨e, h⟩

/-- One object's own block has turned, and nothing else. -/
theorem MemOk.set {C : Ctx} {G : Ghost} {objs : List AObj} {w w' : World} (h : MemOk C G objs w) {id : Nat} {x x' : AObj} (hid : objs[id]? = some x) (hx : x.isTok = false) (hx' : x'.isTok = false)
    (hother : ∀ k, k ≠ G.obj id → w'.heap[k]? = w.heap[k]?) (hsz : w'.heap.size = w.heap.size) (ho : w'.os = w.os) (ht : w'.tape = w.tape) (hp : w'.output = w.output)
    (hok : ObjOk G w' (G.obj id) x') : MemOk C G (objs.set id x') w' := by
  have himm : ∀ b o v, G.imm b o = some v → b ≠ G.obj id := fun b o v e e' => by rw [e', h.sep id x hid hx o] at e; cases e
  refine ⟨?_, ?_, ?_, ?_, ?_, ?_, ?_, ?_, ?_, ?_, ?_, h.glob, h.inv⟩
  · simp [h.n]
  · intro b o v e; rw [cell?_of_heap (hother b (himm b o v e))]; exact h.imm b o v e
  · intro i y e
    rcases getElem?_set_cases e with ⟨rfl, rfl, _⟩ | ⟨hne, e⟩
    · exact hok
    · cases hy : y.isTok with
      | true => cases y <;> simp [AObj.isTok] at hy; trivial
      | false => exact (h.obj i y e).mono (Ext.refl (Nat.le_refl _)) (hother _ (h.inj i id y x e hid hy hx (Ne.symm hne)))
  · intro i j y z ei ej hy hz hne
    have g : ∀ (i : Nat) (y : AObj), (objs.set id x')[i]? = some y → y.isTok = false → ∃ y' : AObj, objs[i]? = some y' ∧ y'.isTok = false := fun i y e hy => by
      rcases getElem?_set_cases e with ⟨rfl, rfl, _⟩ | ⟨hne, e⟩
      · exact ⟨x, hid, hx⟩
      · exact ⟨y, e, hy⟩
    obtain ⟨y', a, b⟩ := g i y ei hy
    obtain ⟨z', c, d⟩ := g j z ej hz
    exact h.inj i j y' z' a c b d hne
  · intro i y e hy
    rw [hsz]
    rcases getElem?_set_cases e with ⟨rfl, rfl, _⟩ | ⟨hne, e⟩
    · exact h.lt _ x hid hx
    · exact h.lt i y e hy
  · intro i y e hy o
    rcases getElem?_set_cases e with ⟨rfl, rfl, _⟩ | ⟨hne, e⟩
    · exact h.sep _ x hid hx o
    · exact h.sep i y e hy o
  · intro i cnt sz e
    rcases getElem?_set_cases e with ⟨rfl, e', _⟩ | ⟨hne, e⟩
    · rw [← e'] at hx'; simp [AObj.isTok] at hx'
    · refine ⟨(h.tok i cnt sz e).cnt, (h.tok i cnt sz e).sz, fun a => ?_⟩
      have hb : (G.tok i).blk ≠ G.obj id := h.tokobj i id cnt sz x e hid hx a
      rw [hother _ hb]
      exact (h.tok i cnt sz e).free a
  · intro i j cnt sz y ei ej hy hf
    rcases getElem?_set_cases ei with ⟨_, e', _⟩ | ⟨hne, a⟩
    · rw [← e'] at hx'; simp [AObj.isTok] at hx'
    · rcases getElem?_set_cases ej with ⟨b, b', _⟩ | ⟨hne', b⟩
      · subst b; exact h.tokobj i _ cnt sz x a hid hx hf
      · exact h.tokobj i j cnt sz y a b hy hf
  · intro i j cnt sz cnt' sz' ei ej hne hf hf'
    rcases getElem?_set_cases ei with ⟨rfl, e', _⟩ | ⟨_, ei⟩
    · rw [← e'] at hx'; simp [AObj.isTok] at hx'
    · rcases getElem?_set_cases ej with ⟨rfl, e', _⟩ | ⟨_, ej⟩
      · rw [← e'] at hx'; simp [AObj.isTok] at hx'
      · exact h.toktok i j cnt sz cnt' sz' ei ej hne hf hf'
  · refine ⟨ho.trans h.below.os, ht.trans h.below.tape, hp.trans h.below.output, by rw [hsz]; exact h.below.size, fun k hk => ?_⟩
    rw [hother k (by have := (h.lt id x hid hx).2; omega)]
    exact h.below.block k hk
  · rw [hsz]; exact h.b0

/-! ### RepL, piece by piece -/
theorem getD_eq {α : Type} (l : List α) (i : Nat) (d : α) : l.getD i d = (l[i]?).getD d := List.getD_eq_getElem?_getD

theorem RepL.ofA {G : Ghost} {cells : List AV} {vs : List Value} (h : RepA G cells vs) (ho : ∀ v, v ∈ vs → v.oneCell' = true) : RepL G cells vs :=
  ⟨h.len, fun i hi => ho _ (getD_mem (by rw [← h.len]; exact hi)), h.rep⟩
theorem RepL.toA {G : Ghost} {cells : List AV} {vs : List Value} (h : RepL G cells vs) : RepA G cells vs := ⟨h.len, h.rep⟩
theorem RepL.nil (G : Ghost) : RepL G [] [] := ⟨rfl, fun i h => absurd h (Nat.not_lt_zero _), fun i h => absurd h (Nat.not_lt_zero _)⟩
theorem RepL.one_ {G : Ghost} {v : AV} {cv : Value} (h : Rep G v cv) (ho : cv.oneCell' = true) : RepL G [v] [cv] := by
  refine ⟨rfl, fun i hi => ?_, fun i hi => ?_⟩
  · have : i = 0 := by simpa using hi
    subst this; exact ho
  · have : i = 0 := by simpa using hi
    subst this; exact h
theorem RepL.mem {G : Ghost} {cells : List AV} {vs : List Value} (h : RepL G cells vs) : ∀ v, v ∈ vs → v.oneCell' = true := by
  intro v hv
  obtain ⟨i, hi, rfl⟩ := List.getElem_of_mem hv
  have := h.one i (by rw [h.len]; exact hi)
  rwa [getD_eq, List.getElem?_eq_getElem hi] at this
theorem RepL.at_ {G : Ghost} {cells : List AV} {vs : List Value} (h : RepL G cells vs) {i : Nat} {c : AV} (hc : cells[i]? = some c) : ∃ v, vs[i]? = some v ∧ Rep G c v ∧ v.oneCell' = true := by
  have hi := lt_of_getElem? hc
  have hi' : i < vs.length := by rw [← h.len]; exact hi
  have h1 := h.rep i hi
  have h2 := h.one i hi
  rw [getD_eq, getD_eq, hc, List.getElem?_eq_getElem hi'] at h1
  rw [getD_eq, List.getElem?_eq_getElem hi'] at h2
  exact ⟨_, List.getElem?_eq_getElem hi', h1, h2⟩
theorem RepL.of_at {G : Ghost} {cells : List AV} {vs : List Value} (hl : cells.length = vs.length) (h : ∀ (i : Nat) (c : AV) (v : Value), cells[i]? = some c → vs[i]? = some v → Rep G c v ∧ v.oneCell' = true) : RepL G cells vs := by
  refine ⟨hl, fun i hi => ?_, fun i hi => ?_⟩ <;>
  · have := h i _ _ (List.getElem?_eq_getElem hi) (List.getElem?_eq_getElem (by rw [← hl]; exact hi))
    simp only [getD_eq, List.getElem?_eq_getElem hi, List.getElem?_eq_getElem (show i < vs.length by rw [← hl]; exact hi), Option.getD_some]
    first | exact this.2 | exact this.1
theorem RepL.append {G : Ghost} {cells cells' : List AV} {vs vs' : List Value} (h : RepL G cells vs) (h' : RepL G cells' vs') : RepL G (cells ++ cells') (vs ++ vs') := by
  refine RepL.of_at (by simp [h.len, h'.len]) fun i c v hc hv => ?_
  rcases Nat.lt_or_ge i cells.length with hi | hi
  · rw [List.getElem?_append_left hi] at hc
    rw [List.getElem?_append_left (by rw [← h.len]; exact hi)] at hv
    obtain ⟨v', a, b, d⟩ := h.at_ hc
    rw [a] at hv; cases hv; exact ⟨b, d⟩
  · rw [List.getElem?_append_right hi] at hc
    rw [List.getElem?_append_right (by rw [← h.len]; exact hi), ← h.len] at hv
    obtain ⟨v', a, b, d⟩ := h'.at_ hc
    rw [a] at hv; cases hv; exact ⟨b, d⟩
theorem RepL.take {G : Ghost} {cells : List AV} {vs : List Value} (h : RepL G cells vs) (k : Nat) : RepL G (cells.take k) (vs.take k) := by
  refine RepL.of_at (by simp [h.len]) fun i c v hc hv => ?_
  rw [List.getElem?_take] at hc hv
  split at hc
  · rename_i hi
    rw [if_pos hi] at hv
    obtain ⟨v', a, b, d⟩ := h.at_ hc
    rw [a] at hv; cases hv; exact ⟨b, d⟩
  · cases hc
theorem RepL.drop {G : Ghost} {cells : List AV} {vs : List Value} (h : RepL G cells vs) (k : Nat) : RepL G (cells.drop k) (vs.drop k) := by
  refine RepL.of_at (by simp [h.len]) fun i c v hc hv => ?_
  rw [List.getElem?_drop] at hc hv
  obtain ⟨v', a, b, d⟩ := h.at_ hc
  rw [a] at hv; cases hv; exact ⟨b, d⟩
theorem RepL.set {G : Ghost} {cells : List AV} {vs : List Value} (h : RepL G cells vs) (k : Nat) {c : AV} {v : Value} (r : Rep G c v) (ho : v.oneCell' = true) : RepL G (cells.set k c) (vs.set k v) := by
  refine RepL.of_at (by simp [h.len]) fun i c' v' hc hv => ?_
  rcases getElem?_set_cases hc with ⟨rfl, rfl, _⟩ | ⟨hne, hc⟩
  · rcases getElem?_set_cases hv with ⟨_, rfl, _⟩ | ⟨hne, _⟩
    · exact ⟨r, ho⟩
    · exact absurd rfl hne
  · rcases getElem?_set_cases hv with ⟨e, _, _⟩ | ⟨_, hv⟩
    · exact absurd e hne
    · obtain ⟨v'', a, b, d⟩ := h.at_ hc
      rw [a] at hv; cases hv; exact ⟨b, d⟩

theorem Rep.agg_inv {G : Ghost} {cells : List AV} {cv : Value} (h : Rep G (.agg cells) cv) : ∃ vs, cv = .agg vs.toArray ∧ RepL G cells vs := by
  cases h with | agg _ vs hl ho r => exact ⟨vs, rfl, hl, ho, r⟩
theorem Rep.agg_mk {G : Ghost} {cells : List AV} {vs : List Value} (h : RepL G cells vs) : Rep G (.agg cells) (.agg vs.toArray) := .agg cells vs h.len h.one h.rep
theorem Rep.tuple_inv {G : Ghost} {xs : List AV} {cv : Value} (h : Rep G (.tuple xs) cv) : ∃ vs, cv = .tuple vs.toArray ∧ RepA G xs vs := by
  cases h with | tuple _ vs hl r => exact ⟨vs, rfl, hl, r⟩
theorem Rep.tuple_mk {G : Ghost} {xs : List AV} {vs : List Value} (h : RepA G xs vs) : Rep G (.tuple xs) (.tuple vs.toArray) := .tuple xs vs h.len h.rep
theorem RepA.at_ {G : Ghost} {cells : List AV} {vs : List Value} (h : RepA G cells vs) {i : Nat} {c : AV} (hc : cells[i]? = some c) : ∃ v, vs[i]? = some v ∧ Rep G c v := by
  have hi := lt_of_getElem? hc
  have hi' : i < vs.length := by rw [← h.len]; exact hi
  have h1 := h.rep i hi
  rw [getD_eq, getD_eq, hc, List.getElem?_eq_getElem hi'] at h1
  exact ⟨_, List.getElem?_eq_getElem hi', h1⟩

/-- The values that fill one cell. -/
def AV.one : AV → Bool
  | .any | .agg _ | .tuple _ => false
  | _ => true
theorem Rep.one {G : Ghost} {v : AV} {cv : Value} (h : Rep G v cv) (hv : v.one = true) : cv.oneCell' = true := by
  cases h <;> first | rfl | simp [AV.one] at hv

/-- A value's cells. -/
def AV.cellsOf : AV → List AV
  | .agg l => l
  | v => [v]
/-- What may be stored. -/
def AV.stor : AV → Bool
  | .agg _ => true
  | v => v.one
theorem Rep.cells {G : Ghost} {v : AV} {cv : Value} (h : Rep G v cv) (hv : v.stor = true) : ∃ vs, cv.cells = vs.toArray ∧ RepL G v.cellsOf vs := by
  cases v with
  | agg cells => obtain ⟨vs, rfl, hr⟩ := h.agg_inv; exact ⟨vs, rfl, hr⟩
  | _ =>
    have ho := h.one hv
    refine ⟨[_], ?_, RepL.one_ h ho⟩
    cases h <;> first | rfl | simp [AV.stor, AV.one] at hv

end Go.Av
