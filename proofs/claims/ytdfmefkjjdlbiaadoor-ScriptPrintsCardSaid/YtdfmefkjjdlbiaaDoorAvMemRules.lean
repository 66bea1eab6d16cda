/-
  AvMemRules: rules for addresses, loads, stores, new variables, parts of values.
-/
import Derived.Test.YtdfmefkjjdlbiaaDoorAvMem
namespace Go.Av
open Go.RowKit (Below)
set_option linter.unusedVariables false
set_option linter.unusedSimpArgs false

def Ty.known : Ty → Bool
  | .other => false
  | _ => true
theorem Ty.ne_other {t : Ty} (h : t.known = true) : t ≠ .other := by intro e; subst e; simp [Ty.known] at h

section
variable {C : Ctx} {ops : Array Oper} {rest : List Oper} {Q : Exit → AState → Prop} {n p0 : Nat} {out loc : List AObj} {env : Nat → AV}
variable {d : Option Nat} {ty : TypeId} {pos : String} {aft : Array Edge} {gd : Option (Nat × Bool)}

theorem Rep.ptr_inv {G : Ghost} {id o : Nat} {cv : Value} (h : Rep G (.ptr id o) cv) : cv = .pointer (some ⟨G.obj id, o, none⟩) ∧ id < G.n := by cases h with | ptr _ _ h => exact ⟨rfl, h⟩
theorem Rep.cptr_inv {G : Ghost} {cells : List AV} {cv : Value} (h : Rep G (.cptr cells) cv) : ∃ (b o : Nat) (f : Nat → Value), cv = .pointer (some ⟨b, o, none⟩) ∧ (∀ i, i < cells.length → G.imm b (o + i) = some (f i) ∧ (f i).oneCell' = true) ∧ ∀ i, i < cells.length → Rep G (cells.getD i .any) (f i) := by
  cases h with | cptr _ b o f h1 h2 => exact ⟨b, o, f, rfl, h1, h2⟩
theorem Rep.cptr_drop {G : Ghost} {cells : List AV} {b o : Nat} (h : Rep G (.cptr cells) (.pointer (some ⟨b, o, none⟩))) (k : Nat) : Rep G (.cptr (cells.drop k)) (.pointer (some ⟨b, o + k, none⟩)) := by
  cases h with
  | cptr _ _ _ f h1 h2 =>
    refine .cptr _ b (o + k) (fun i => f (k + i)) (fun i hi => ?_) (fun i hi => ?_)
    · simp at hi; have := h1 (k + i) (by omega); rwa [← Nat.add_assoc] at this
    · simp at hi; have := h2 (k + i) (by omega); simpa [getD_eq, List.getElem?_drop] using this

theorem run_fieldPlace {C : Ctx} {f : Field} {ft : TypeId} {m : Nat} (hft : f.type = ft) (hk : (C.ty ft).d.known = true) (hm : (C.ty ft).size = m + 1) (b o : Nat) (w : World) :
    (fieldPlace ⟨b, o, none⟩ f).run C.P w = .ok ⟨b, o + f.offset, none⟩ w := by
  subst hft
  simp [fieldPlace, run_sizeOf_ (Ty.ne_other hk), hm, add_none]

theorem struct_field {fields : Array Field} {fs : List (Nat × TypeId)} (h : fs = fields.toList.map fun f => (f.offset, f.type)) {k fo : Nat} {ft : TypeId} (hf : fs[k]? = some (fo, ft)) : ∃ f, fields[k]? = some f ∧ f.offset = fo ∧ f.type = ft := by
  rw [h, List.getElem?_map] at hf
  cases hg : fields.toList[k]? with
  | none => simp [hg] at hf
  | some f =>
    rw [hg] at hf
    simp at hf
    exact ⟨f, by simpa using hg, hf.1, hf.2⟩

theorem St.fieldPtr {s : TypeId} {x : Operand} {k id o fo m : Nat} {ft : TypeId} {fs : List (Nat × TypeId)} (hx : ev C ⟨n, p0, out, loc, env⟩ x = .ptr id o) (hs : (C.ty s).d = .struct fs) (hf : fs[k]? = some (fo, ft))
    (hk : (C.ty ft).d.known = true) (hm : (C.ty ft).size = m + 1) : OpStep C { dst := d, op := .fieldAddr s x k, type := ty, pos := pos, after := aft, guard := gd } ⟨n, p0, out, loc, env⟩ (.ptr id (o + fo)) out loc := by
  refine OpStep.pure_ (fun G w a hs' => ?_)
  have h1 := rep_ev hs' x; rw [hx] at h1
  obtain ⟨e1, hid⟩ := h1.ptr_inv
  obtain ⟨fields, hu, hfs⟩ := und_struct hs
  obtain ⟨f, hf1, hf2, hf3⟩ := struct_field hfs hf
  simp [execOp, e1, Instr.fieldAt, run_underlying_of hu, hf1, Instr.sureAddr, run_fieldPlace hf3 hk hm, hf2]
  exact .ptr id (o + fo) hid
theorem St.fieldCptr {s : TypeId} {x : Operand} {k fo m : Nat} {cells : List AV} {ft : TypeId} {fs : List (Nat × TypeId)} (hx : ev C ⟨n, p0, out, loc, env⟩ x = .cptr cells) (hs : (C.ty s).d = .struct fs) (hf : fs[k]? = some (fo, ft))
    (hk : (C.ty ft).d.known = true) (hm : (C.ty ft).size = m + 1) : OpStep C { dst := d, op := .fieldAddr s x k, type := ty, pos := pos, after := aft, guard := gd } ⟨n, p0, out, loc, env⟩ (.cptr (cells.drop fo)) out loc := by
  refine OpStep.pure_ (fun G w a hs' => ?_)
  have h1 := rep_ev hs' x; rw [hx] at h1
  obtain ⟨b, o, f', e1, _, _⟩ := h1.cptr_inv
  rw [e1] at h1
  obtain ⟨fields, hu, hfs⟩ := und_struct hs
  obtain ⟨f, hf1, hf2, hf3⟩ := struct_field hfs hf
  simp [execOp, e1, Instr.fieldAt, run_underlying_of hu, hf1, Instr.sureAddr, run_fieldPlace hf3 hk hm, hf2]
  exact h1.cptr_drop fo

/-! ### Element addresses -/
theorem Rep.slc_inv {G : Ghost} {elems : List (List AV)} {e : SEnd} {cv : Value} (h : Rep G (.slc elems e) cv) : ∃ (a : Option Addr) (cap sz : Nat) (f : Nat → Value), cv = .slice a elems.length cap ∧
    (∀ i, i < elems.length → (elems.getD i []).length = sz) ∧
    (0 < elems.length → ∃ b o, a = some ⟨b, o, none⟩ ∧ ∀ j, j < elems.length * sz → G.imm b (o + j) = some (f j) ∧ (f j).oneCell' = true) ∧
    (∀ x, a = some x → x.spot = none) ∧
    (∀ i j, i < elems.length → j < sz → Rep G ((elems.getD i []).getD j .any) (f (i * sz + j))) ∧ elems.length ≤ cap ∧ EndOk G e a elems.length cap sz := by
  cases h with | slc _ _ a cap sz f h1 h2 h3 h4 h5 h6 => exact ⟨a, cap, sz, f, rfl, h1, h2, h3, h4, h5, h6⟩

theorem mul_lt_of {i j m sz : Nat} (hi : i < m) (hj : j < sz) : i * sz + j < m * sz := by
  have : i * sz + sz ≤ m * sz := by rw [← Nat.succ_mul]; exact Nat.mul_le_mul_right sz hi
  omega

theorem St.indexSlc {t et : TypeId} {x y : Operand} {k : IntKind} {i : Int} {elems : List (List AV)} {e : SEnd} {el : List AV}
    (hx : ev C ⟨n, p0, out, loc, env⟩ x = .slc elems e) (hy : ev C ⟨n, p0, out, loc, env⟩ y = .int k i) (ht : (C.ty t).d = .slice et) (hk : (C.ty et).d.known = true)
    (h0 : 0 ≤ i) (hel : elems[i.toNat]? = some el) (hlen : el.length = (C.ty et).size)
    : OpStep C { dst := d, op := .indexAddr t x y, type := ty, pos := pos, after := aft, guard := gd } ⟨n, p0, out, loc, env⟩ (.cptr el) out loc := by
  refine OpStep.pure_ (fun G w a hs' => ?_)
  have h1 := rep_ev hs' x; rw [hx] at h1
  have h2 := rep_ev hs' y; rw [hy] at h2
  have e2 := h2.int_inv
  have hlt := lt_of_getElem? hel
  obtain ⟨A, cap, sz, f, e1, hs, ha, _, hr, _, _⟩ := h1.slc_inv
  obtain ⟨b, o, rfl, hc⟩ := ha (by omega)
  have hsz : sz = (C.ty et).size := by rw [← hlen, ← hs i.toNat hlt, getD_eq, hel]; rfl
  have hi : i < (elems.length : Int) := by omega
  simp [execOp, e1, e2, Instr.indexAt, asIntOf, run_underlying_of (und_slice ht), h0, hi, run_sizeOf_ (Ty.ne_other hk), add_none, ← hsz]
  refine .cptr el b (o + i.toNat * sz) (fun j => f (i.toNat * sz + j)) (fun j hj => ?_) (fun j hj => ?_)
  · have := hc (i.toNat * sz + j) (mul_lt_of hlt (by omega)); rwa [← Nat.add_assoc] at this
  · have := hr i.toNat j hlt (by omega); rwa [getD_eq elems, hel] at this

theorem St.indexArrPtr {t et : TypeId} {x y : Operand} {k : IntKind} {i : Int} {m id o : Nat}
    (hx : ev C ⟨n, p0, out, loc, env⟩ x = .ptr id o) (hy : ev C ⟨n, p0, out, loc, env⟩ y = .int k i) (ht : (C.ty t).d = .array m et) (hk : (C.ty et).d.known = true)
    (h0 : 0 ≤ i) (h1 : i < m) : OpStep C { dst := d, op := .indexAddr t x y, type := ty, pos := pos, after := aft, guard := gd } ⟨n, p0, out, loc, env⟩ (.ptr id (o + i.toNat * (C.ty et).size)) out loc := by
  refine OpStep.pure_ (fun G w a hs' => ?_)
  have g1 := rep_ev hs' x; rw [hx] at g1
  have g2 := rep_ev hs' y; rw [hy] at g2
  have e2 := g2.int_inv
  obtain ⟨e1, hid⟩ := g1.ptr_inv
  simp [execOp, e1, e2, Instr.indexAt, asIntOf, run_underlying_of (und_array ht), h0, h1, run_sizeOf_ (Ty.ne_other hk), add_none, Instr.sureAddr]
  exact .ptr _ _ hid
theorem St.indexArrCptr {t et : TypeId} {x y : Operand} {k : IntKind} {i : Int} {m : Nat} {cells : List AV}
    (hx : ev C ⟨n, p0, out, loc, env⟩ x = .cptr cells) (hy : ev C ⟨n, p0, out, loc, env⟩ y = .int k i) (ht : (C.ty t).d = .array m et) (hk : (C.ty et).d.known = true)
    (h0 : 0 ≤ i) (h1 : i < m) : OpStep C { dst := d, op := .indexAddr t x y, type := ty, pos := pos, after := aft, guard := gd } ⟨n, p0, out, loc, env⟩ (.cptr (cells.drop (i.toNat * (C.ty et).size))) out loc := by
  refine OpStep.pure_ (fun G w a hs' => ?_)
  have g1 := rep_ev hs' x; rw [hx] at g1
  have g2 := rep_ev hs' y; rw [hy] at g2
  have e2 := g2.int_inv
  obtain ⟨b, o, f', e1, _, _⟩ := g1.cptr_inv
  rw [e1] at g1
  simp [execOp, e1, e2, Instr.indexAt, asIntOf, run_underlying_of (und_array ht), h0, h1, run_sizeOf_ (Ty.ne_other hk), add_none, Instr.sureAddr]
  exact g1.cptr_drop _

/-! ### Loads -/
theorem run_load_of {P : Program} {w : World} {a : Addr} {v : Value} (h : w.cell? a = some v) : (load a).run P w = .ok v w := by simp [h]

theorem range_map_getD (vs : List Value) (m : Nat) (h : vs.length = m) (f : Nat → Value) (hf : ∀ i, i < m → vs[i]? = some (f i)) : (List.range m).map f = vs := by
  apply List.ext_getElem?
  intro i
  rw [List.getElem?_map]
  rcases Nat.lt_or_ge i m with hi | hi
  · rw [List.getElem?_range hi, hf i hi]; rfl
  · rw [List.getElem?_eq_none (by simp; omega), List.getElem?_eq_none (by omega)]; rfl

theorem St.loadC1 {t : TypeId} {x : Operand} {c v : AV} {tl : List AV} (hx : ev C ⟨n, p0, out, loc, env⟩ x = .cptr (c :: tl)) (hv : force c = some v) (hk : (C.ty t).d.known = true) (ha : (C.ty t).d.agg = false)
    : OpStep C { dst := d, op := .load t x, type := ty, pos := pos, after := aft, guard := gd } ⟨n, p0, out, loc, env⟩ v out loc := by
  refine OpStep.pure_ (fun G w a hs' => ?_)
  have g1 := rep_ev hs' x; rw [hx] at g1
  obtain ⟨b, o, f, e1, h1, h2⟩ := g1.cptr_inv
  have := h1 0 (by simp)
  rw [Nat.add_zero] at this
  have hc := hs'.mem.imm _ _ _ this.1
  have hr := h2 0 (by simp)
  simp [execOp, e1, Instr.loadAt, Instr.sureAddr, loadVar, run_isAgg_ (Ty.ne_other hk), ha, hc]
  rw [← force_eq hv]
  exact hr
theorem St.loadCN {t : TypeId} {x : Operand} {cells : List AV} (hx : ev C ⟨n, p0, out, loc, env⟩ x = .cptr cells) (hk : (C.ty t).d.known = true) (ha : (C.ty t).d.agg = true) (hl : cells.length = (C.ty t).size)
    : OpStep C { dst := d, op := .load t x, type := ty, pos := pos, after := aft, guard := gd } ⟨n, p0, out, loc, env⟩ (.agg cells) out loc := by
  refine OpStep.pure_ (fun G w a hs' => ?_)
  have g1 := rep_ev hs' x; rw [hx] at g1
  obtain ⟨b, o, f, e1, h1, h2⟩ := g1.cptr_inv
  have hrun := run_loadCells (P := C.P) w ⟨b, o, none⟩ (C.ty t).size f (fun j hj => by rw [add_none]; exact hs'.mem.imm _ _ _ (h1 j (by omega)).1)
  simp [execOp, e1, Instr.loadAt, Instr.sureAddr, loadVar, run_isAgg_ (Ty.ne_other hk), ha, run_sizeOf_ (Ty.ne_other hk), hrun]
  refine Rep.agg_mk (vs := (List.range (C.ty t).size).map f) (RepL.of_at (by simp [hl]) fun i c v hc hv => ?_)
  have hi : i < cells.length := lt_of_getElem? hc
  rw [List.getElem?_map, List.getElem?_range (by omega)] at hv
  cases hv
  refine ⟨?_, (h1 i hi).2⟩
  have := h2 i hi
  rwa [getD_eq, hc] at this
/-- a part of what lies there -/
theorem St.loadCT {t : TypeId} {x : Operand} {cells : List AV} (hx : ev C ⟨n, p0, out, loc, env⟩ x = .cptr cells) (hk : (C.ty t).d.known = true) (ha : (C.ty t).d.agg = true) (hl : (C.ty t).size ≤ cells.length)
    : OpStep C { dst := d, op := .load t x, type := ty, pos := pos, after := aft, guard := gd } ⟨n, p0, out, loc, env⟩ (.agg (cells.take (C.ty t).size)) out loc := by
  refine OpStep.pure_ (fun G w a hs' => ?_)
  have g1 := rep_ev hs' x; rw [hx] at g1
  obtain ⟨b, o, f, e1, h1, h2⟩ := g1.cptr_inv
  have hrun := run_loadCells (P := C.P) w ⟨b, o, none⟩ (C.ty t).size f (fun j hj => by rw [add_none]; exact hs'.mem.imm _ _ _ (h1 j (by omega)).1)
  simp [execOp, e1, Instr.loadAt, Instr.sureAddr, loadVar, run_isAgg_ (Ty.ne_other hk), ha, run_sizeOf_ (Ty.ne_other hk), hrun]
  refine Rep.agg_mk (vs := (List.range (C.ty t).size).map f) (RepL.of_at (by simp; omega) fun i c v hc hv => ?_)
  rw [List.getElem?_take] at hc
  split at hc
  · rename_i hi
    have hi' : i < cells.length := by omega
    rw [List.getElem?_map, List.getElem?_range hi] at hv
    cases hv
    refine ⟨?_, (h1 i hi').2⟩
    have := h2 i hi'
    rwa [getD_eq, hc] at this
  · cases hc

theorem row_cell {rt : TypeId} {G : Ghost} {w : World} {b : Nat} {cells : List AV} (h : ObjOk G w b (.row rt cells)) {i : Nat} {c : AV} (hc : cells[i]? = some c) : ∃ v, w.cell? ⟨b, i, none⟩ = some v ∧ Rep G c v ∧ v.oneCell' = true := by
  obtain ⟨vs, h1, h2⟩ := h
  obtain ⟨v, a, r, o⟩ := h2.at_ hc
  exact ⟨v, by simp only [World.cell?, h1]; simpa using a, r, o⟩

theorem St.loadP1 {rt : TypeId} {t : TypeId} {x : Operand} {id o : Nat} {cells : List AV} {c v : AV} (hx : ev C ⟨n, p0, out, loc, env⟩ x = .ptr id o) (ho : p0 = out.length → (out ++ loc)[id]? = some (.row rt cells)) (hc : cells[o]? = some c) (hv : force c = some v)
    (hk : (C.ty t).d.known = true) (ha : (C.ty t).d.agg = false) : OpStep C { dst := d, op := .load t x, type := ty, pos := pos, after := aft, guard := gd } ⟨n, p0, out, loc, env⟩ v out loc := by
  refine OpStep.pure_ (fun G w a hs' => ?_)
  have g1 := rep_ev hs' x; rw [hx] at g1
  obtain ⟨e1, hid⟩ := g1.ptr_inv
  obtain ⟨u, hcell, hr, _⟩ := row_cell (hs'.mem.obj id _ (ho hs'.outlen.symm)) hc
  simp [execOp, e1, Instr.loadAt, Instr.sureAddr, loadVar, run_isAgg_ (Ty.ne_other hk), ha, hcell]
  rw [← force_eq hv]
  exact hr
theorem St.loadPT {rt : TypeId} {t : TypeId} {x : Operand} {id o m : Nat} {cells l : List AV} (hx : ev C ⟨n, p0, out, loc, env⟩ x = .ptr id o) (ho : p0 = out.length → (out ++ loc)[id]? = some (.row rt cells))
    (hk : (C.ty t).d.known = true) (ha : (C.ty t).d.agg = true) (hm : (C.ty t).size = m) (hl : (cells.drop o).take m = l) (hl' : l.length = m) : OpStep C { dst := d, op := .load t x, type := ty, pos := pos, after := aft, guard := gd } ⟨n, p0, out, loc, env⟩ (.agg l) out loc := by
  refine OpStep.pure_ (fun G w a hs' => ?_)
  have g1 := rep_ev hs' x; rw [hx] at g1
  obtain ⟨e1, hid⟩ := g1.ptr_inv
  obtain ⟨vs, h1, h2⟩ := hs'.mem.obj id _ (ho hs'.outlen.symm)
  have hlen : o + m ≤ cells.length ∨ m = 0 := by rw [← hl] at hl'; simp at hl'; omega
  have hle : ∀ j, j < m → o + j < vs.toList.length := fun j hj => by rw [← h2.len]; omega
  have hrun := run_loadCells (P := C.P) w ⟨G.obj id, o, none⟩ m (fun j => vs.toList.getD (o + j) undef) (fun j hj => by
    rw [add_none]
    simp only [World.cell?, h1]
    have := hle j hj
    simp at this
    simp [getD_eq, this])
  simp [execOp, e1, Instr.loadAt, Instr.sureAddr, loadVar, run_isAgg_ (Ty.ne_other hk), ha, run_sizeOf_ (Ty.ne_other hk), hm, hrun]
  have hr := (h2.drop o).take m
  rw [hl] at hr
  have : (List.range m).map (fun j => vs.toList.getD (o + j) undef) = (vs.toList.drop o).take m := by
    refine range_map_getD _ m (by rw [← hr.len, hl']) _ (fun i hi => ?_)
    rw [List.getElem?_take, if_pos hi, List.getElem?_drop, getD_eq, List.getElem?_eq_getElem (hle i hi)]; rfl
  simp only [Array.getElem?_toList, getD_eq] at this
  rw [show (List.map (fun j => vs[o + j]?.getD undef) (List.range m)) = _ from this]
  exact Rep.agg_mk hr

/-! ### Stores -/
theorem setCells_facts (b : Nat) {fr : Nat × Nat} : ∀ (us : List Value) (o : Nat) (vs : Array Value) (t : TypeId) (w : World), w.heap[b]? = some (.cells vs t fr) →
    (w.setCells b o us).heap[b]? = some (.cells ((vs.toList.take o ++ us ++ vs.toList.drop (o + us.length)).take vs.size).toArray t fr) ∧ (∀ k, k ≠ b → (w.setCells b o us).heap[k]? = w.heap[k]?) ∧ (w.setCells b o us).heap.size = w.heap.size ∧
    (w.setCells b o us).os = w.os ∧ (w.setCells b o us).tape = w.tape ∧ (w.setCells b o us).output = w.output ∧ (w.setCells b o us).drawn = w.drawn
  | [], o, vs, t, w, h => by
    refine ⟨?_, fun _ _ => rfl, rfl, rfl, rfl, rfl, rfl⟩
    simp only [World.setCells, List.length_nil, Nat.add_zero, List.append_nil, List.take_append_drop]
    rw [h, List.take_of_length_le (by simp)]
  | u :: r, o, vs, t, w, h => by
    have h1 : (w.setCell ⟨b, o, none⟩ u).heap[b]? = some (.cells (vs.setIfInBounds o u) t fr) := by
      simp [World.setCell, Array.getElem?_modify, h]
    obtain ⟨a1, a2, a3, a4, a5, a6, a7⟩ := setCells_facts b r (o + 1) _ t _ h1
    refine ⟨?_, fun k hk => (a2 k hk).trans (Below.heap_setCell _ _ _ _ hk), ?_, a4, a5, a6, a7⟩
    · simp only [World.setCells]
      rw [a1]
      congr 2
      simp only [Array.toList_setIfInBounds, Array.size_setIfInBounds]
      congr 1
      apply List.ext_getElem?
      intro i
      simp only [List.getElem?_take, List.getElem?_append, List.getElem?_drop, List.getElem?_set, List.length_append, List.length_take, List.length_set, List.length_cons, List.getElem?_cons]
      have e1 : vs.toList.length = vs.size := by simp
      rw [e1]
      by_cases hi : i < vs.size
      · simp only [hi, if_true]
        by_cases h1 : i < o
        · have : i < min o vs.size := by omega
          have h3 : i < min o vs.size + (r.length + 1) := by omega
          have h4 : i < min (o + 1) vs.size := by omega
          have h5 : i < min (o + 1) vs.size + r.length := by omega
          simp [h1, this, h3, h4, h5, show i < o + 1 by omega, show o ≠ i by omega]
        · by_cases h2 : i = o
          · subst h2
            have g1 : ¬ i < min i vs.size := by omega
            have g2 : i < min (i + 1) vs.size := by omega
            have g3 : i < min (i + 1) vs.size + r.length := by omega
            have g4 : i < min i vs.size + (r.length + 1) := by omega
            have g5 : i - min i vs.size = 0 := by omega
            simp [g1, g2, g3, g4, g5, hi]
          · have g0 : min o vs.size = o := by omega
            have g1 : min (o + 1) vs.size = o + 1 := by omega
            rw [g0, g1]
            have g2 : ¬ i < o + 1 := by omega
            by_cases g3 : i < o + 1 + r.length
            · have g4 : i < o + (r.length + 1) := by omega
              have g5 : ¬ i - o = 0 := by omega
              simp [h1, g2, g3, g4, g5, show i - (o + 1) = i - o - 1 by omega]
            · have g4 : ¬ i < o + (r.length + 1) := by omega
              simp only [g3, g4, if_false]
              rw [show o + 1 + r.length + (i - (o + 1 + r.length)) = i by omega, show o + (r.length + 1) + (i - (o + (r.length + 1))) = i by omega]
              rw [if_neg (by omega)]
      · simp [hi]
    · simp only [World.setCells]; rw [a3]; simp

theorem St.storeP {rt : TypeId} {t : TypeId} {x y : Operand} {id o m : Nat} {cells l : List AV} {v : AV} {out' loc' : List AObj}
    (hx : ev C ⟨n, p0, out, loc, env⟩ x = .ptr id o) (hy : ev C ⟨n, p0, out, loc, env⟩ y = v) (hv : v.stor = true)
    (hk : (C.ty t).d.known = true) (hm : (C.ty t).size = m) (hvl : v.cellsOf.length = m)
    (ho : p0 = out.length → (out ++ loc)[id]? = some (.row rt cells)) (hle : o + m ≤ cells.length)
    (hl : cells.take o ++ v.cellsOf ++ cells.drop (o + m) = l)
    (hs : p0 = out.length → (out ++ loc).set id (.row rt l) = out' ++ loc') (hsl : out'.length = out.length)
    : OpStep C { dst := d, op := .store t x y, type := ty, pos := pos, after := aft, guard := gd } ⟨n, p0, out, loc, env⟩ .any out' loc' := by
  refine OpStep.mk_ hsl (fun G w a hs' => ?_)
  have g1 := rep_ev hs' x; rw [hx] at g1
  have g2 := rep_ev hs' y; rw [hy] at g2
  obtain ⟨e1, hid⟩ := g1.ptr_inv
  obtain ⟨us, e2, hus⟩ := g2.cells hv
  have hrow := ho hs'.outlen.symm
  obtain ⟨vs, h1, h2⟩ := hs'.mem.obj id _ hrow
  have hlen : us.length = m := by rw [← hus.len, hvl]
  have hvs : vs.size = cells.length := by have := h2.len; simpa using this.symm
  have hcell : ∀ j, j < us.length → (w.cell? ⟨G.obj id, o + 0 + j, none⟩).isSome = true := fun j hj => by
    simp only [World.cell?, h1]
    simp; omega
  have hfz : ∀ j, j < us.length → w.frozen? ⟨G.obj id, o + 0 + j, none⟩ = false := fun j hj => by simp [World.frozen?, h1]
  have hrun := run_storeCells_cells (P := C.P) (G.obj id) o us 0 w hcell hfz hus.mem
  have hst : (execOp a.eval { dst := d, op := .store t x y, type := ty, pos := pos, after := aft, guard := gd }).run C.P w = .ok .skip (w.setCells (G.obj id) (o + 0) us) := by
    have hsz : (a.eval y).cells.size = (C.ty t).size := by rw [e2, hm]; simpa using hlen
    simp only [execOp, e1, Instr.storeAt, Instr.sureAddr, Sem.run_bind, Sem.run_pure, Result.andThen_ok, storeVar, run_sizeOf_ (Ty.ne_other hk)]
    rw [if_neg (by rw [hsz]; simp), e2]
    rw [show (storeCells ⟨G.obj id, o, none⟩ us.toArray.toList).run C.P w = _ from hrun]; rfl
  refine ⟨.skip, undef, _, G, hst, .inr ⟨rfl, rfl⟩, .any _, ?_, Ext.refl (Nat.le_refl _)⟩
  obtain ⟨a1, a2, a3, a4, a5, a6, a7⟩ := setCells_facts (G.obj id) us o vs rt w h1
  rw [← hs hs'.outlen.symm]
  refine hs'.mem.set hrow rfl rfl a2 a3 a4 a5 a6 ⟨_, a1, ?_⟩
  have : (vs.toList.take o ++ us ++ vs.toList.drop (o + us.length)).take vs.size = vs.toList.take o ++ us ++ vs.toList.drop (o + us.length) := by
    apply List.take_of_length_le; simp; omega
  simp only [this]
  rw [← hl, hlen]
  exact ((h2.take o).append hus).append (h2.drop (o + m))

/-! ### New variables -/
theorem run_zero {C : Ctx} {t : TypeId} {z : AV} (hk : (C.ty t).d.known = true) (hz : (C.ty t).zero = some z) (w : World) : ∃ cv, (zeroValue t).run C.P w = .ok cv w ∧ ofConst cv = z := by
  obtain ⟨i, h1, h2, h3, h4⟩ := (C.ok t (Ty.ne_other hk)).size
  obtain ⟨cv, h5, h6⟩ := h4 z hz
  exact ⟨cv, by simp [zeroValue, run_typeInfo_of h1, h5], h6⟩

theorem St.new_ {t : TypeId} {o : Oper} {v : AV} {k : Nat} {loc' : List AObj} (hlen : loc.length = k) (hloc : loc ++ [.row t v.cellsOf] = loc') (hv : v.stor = true)
    (hrun : ∀ G w a, Sim C G ⟨n, p0, out, loc, env⟩ w a → ∃ cv, Rep G v cv ∧ (execOp a.eval o).run C.P w = .ok (.value (.pointer (some ⟨w.heap.size, 0, none⟩))) (w.alloc (.cells cv.cells t))) :
    OpStep C o ⟨n, p0, out, loc, env⟩ (.ptr (p0 + k) 0) out loc' := by
  refine OpStep.mk_ rfl (fun G w a hs => ?_)
  obtain ⟨cv, hr, hrun⟩ := hrun G w a hs
  obtain ⟨vs, e, hvs⟩ := hr.cells hv
  refine ⟨_, _, _, G.push w.heap.size, hrun, .inl rfl, ?_, ?_, Ext.push G _⟩
  · have hn : G.n = p0 + k := by rw [hs.mem.n, List.length_append, hs.outlen, hlen]
    have := Rep.ptr (G := G.push w.heap.size) (p0 + k) 0 (by simp only [Ghost.push]; omega)
    simp only [Ghost.push, hn, if_true] at this
    simpa [Ghost.push, hn] using this
  · rw [← hloc, ← List.append_assoc]
    refine hs.mem.push _ _ rfl ⟨vs.toArray, ?_, by simpa using hvs⟩
    rw [e]
    show (w.heap.push _)[w.heap.size]? = _
    simp

theorem St.alloc {t : TypeId} {z : AV} {k : Nat} {loc' : List AObj} (hk : (C.ty t).d.known = true) (hz : (C.ty t).zero = some z) (hv : z.stor = true)
    (hlen : loc.length = k) (hloc : loc ++ [.row t z.cellsOf] = loc') : OpStep C { dst := d, op := .alloc t, type := ty, pos := pos, after := aft, guard := gd } ⟨n, p0, out, loc, env⟩ (.ptr (p0 + k) 0) out loc' := by
  refine St.new_ hlen hloc hv (fun G w a hs => ?_)
  obtain ⟨cv, h1, h2⟩ := run_zero hk hz w
  refine ⟨cv, h2 ▸ ofConst_rep G cv, ?_⟩
  simp [execOp, Instr.alloc, h1, newVar, newRow]
theorem St.box {t : TypeId} {x : Operand} {v : AV} {k : Nat} {loc' : List AObj} (hx : force (ev C ⟨n, p0, out, loc, env⟩ x) = some v) (hv : v.stor = true)
    (hlen : loc.length = k) (hloc : loc ++ [.row t v.cellsOf] = loc') : OpStep C { dst := d, op := .box t x, type := ty, pos := pos, after := aft, guard := gd } ⟨n, p0, out, loc, env⟩ (.ptr (p0 + k) 0) out loc' := by
  refine St.new_ hlen hloc hv (fun G w a hs => ⟨a.eval x, force_eq hx ▸ rep_ev hs x, ?_⟩)
  simp [execOp, Instr.box, newVar, newRow]

end
end Go.Av
