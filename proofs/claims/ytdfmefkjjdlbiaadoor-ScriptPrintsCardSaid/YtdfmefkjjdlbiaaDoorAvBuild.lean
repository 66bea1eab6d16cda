/-
  AvBuild: composite values: structs, arrays, slice literals; make; a comparison with nil; cuts of a slice at its end.
-/
import Derived.Test.YtdfmefkjjdlbiaaDoorAvAppend
namespace Go.Av
open Go.RowKit (Below)
set_option linter.unusedVariables false
set_option linter.unusedSimpArgs false

def splice (cells : List AV) (off : Nat) (us : List AV) : List AV :=
  match us with
  | [v] => cells.set off v
  | us => cells.take off ++ us ++ cells.drop (off + us.length)
theorem splice_eq {cells us : List AV} {off : Nat} (h : off + us.length ≤ cells.length) : splice cells off us = cells.take off ++ us ++ cells.drop (off + us.length) := by
  unfold splice
  split
  · exact (set_eq (by simp at h; omega)).symm
  · rfl

def fillA (place : Nat → Option (Nat × Nat)) (cells : List AV) : List (Nat × AV) → Option (List AV)
  | [] => some cells
  | (i, v) :: r => match place i with
    | none => none
    | some (off, size) => cond (v.stor && (Nat.beq v.cellsOf.length size && Nat.ble (off + size) cells.length)) (fillA place (splice cells off v.cellsOf) r) none

theorem foldl_set (us : List Value) : ∀ (k off : Nat) (cs : Array Value), off + k + us.length ≤ cs.size →
    ((us.zipIdx k).foldl (fun (cs : Array Value) (x : Value × Nat) => cs.setIfInBounds (off + x.2) x.1) cs).toList = cs.toList.take (off + k) ++ us ++ cs.toList.drop (off + k + us.length) := by
  induction us with
  | nil => intro k off cs h; simp
  | cons u r ih =>
    intro k off cs h
    simp only [List.length_cons] at h
    simp only [List.zipIdx_cons, List.foldl_cons]
    rw [ih (k + 1) off _ (by simp; omega)]
    simp only [Array.toList_setIfInBounds, List.length_cons]
    have hl : cs.toList.length = cs.size := by simp
    apply List.ext_getElem?
    intro j
    have e1 : min (off + (k + 1)) (cs.toList.set (off + k) u).length = off + k + 1 := by simp; omega
    have e2 : min (off + k) cs.toList.length = off + k := by simp; omega
    simp only [List.append_assoc, List.getElem?_append, List.length_take, List.getElem?_take, List.getElem?_drop, List.getElem?_set, e1, e2, List.getElem?_cons, List.length_cons]
    by_cases c1 : j < off + k
    · simp [c1, show j < off + k + 1 by omega, show j < off + (k + 1) by omega, show ¬ off + k = j by omega]
    · by_cases c2 : j = off + k
      · subst c2
        simp [show off + k < off + (k + 1) by omega, show off + k < cs.size by omega]
      · have c3 : ¬ j < off + k + 1 := by omega
        have c4 : ¬ j - (off + k) = 0 := by omega
        by_cases c5 : j - (off + k + 1) < r.length
        · simp [c1, c3, c4, c5, show j - (off + k) < r.length + 1 by omega, show j - (off + k) - 1 = j - (off + k + 1) by omega]
        · have c6 : ¬ j - (off + k) < r.length + 1 := by omega
          simp only [c1, c3, c5, c6, if_false]
          rw [if_neg (by omega)]
          congr 1
          omega

theorem fill_ok {G : Ghost} (place : Nat → Option (Nat × Nat)) : ∀ (parts : List (Nat × AV)) (vals : List (Nat × Value)) (cells cells' : List AV) (cs : Array Value), fillA place cells parts = some cells' → RepL G cells cs.toList →
    parts.length = vals.length → (∀ (i : Nat) (p : Nat × AV) (v : Nat × Value), parts[i]? = some p → vals[i]? = some v → p.1 = v.1 ∧ Rep G p.2 v.2) → ∃ cs', Instr.fill place cs vals = some cs' ∧ RepL G cells' cs'.toList
  | [], [], cells, cells', cs, h, hr, _, _ => by simp [fillA] at h; subst h; exact ⟨cs, rfl, hr⟩
  | [], _ :: _, _, _, _, _, _, hl, _ => by simp at hl
  | _ :: _, [], _, _, _, _, _, hl, _ => by simp at hl
  | (i, v) :: r, (i', cv) :: vr, cells, cells', cs, h, hr, hl, hp => by
    have h0 := hp 0 (i, v) (i', cv) rfl rfl
    obtain ⟨hi, hrep⟩ := h0
    simp only at hi hrep
    subst hi
    unfold fillA at h
    split at h
    · cases h
    · rename_i off size hpl
      cases hc : (v.stor && (Nat.beq v.cellsOf.length size && Nat.ble (off + size) cells.length)) with
      | false => rw [hc] at h; cases h
      | true =>
        rw [hc] at h
        simp only [Bool.and_eq_true] at hc
        obtain ⟨h1, h2, h3⟩ := hc
        have h2 := Nat.eq_of_beq_eq_true h2
        have h3 := Nat.le_of_ble_eq_true h3
        obtain ⟨us, hus, hru⟩ := hrep.cells h1
        have hul : us.length = size := by rw [← hru.len, h2]
        have hsz : cv.cells.size = size := by rw [hus]; simpa using hul
        have hcl : cells.length = cs.size := by have := hr.len; simpa using this
        have hfold := foldl_set us 0 off cs (by omega)
        simp only [Nat.add_zero] at hfold
        have e1 : (cv.cells.zipIdx.foldl (fun cs (x : Value × Nat) => cs.setIfInBounds (off + x.2) x.1) cs).toList = cs.toList.take off ++ us ++ cs.toList.drop (off + us.length) := by
          rw [hus, ← hfold]; simp
        obtain ⟨cs', h5, h6⟩ := fill_ok place r vr _ cells' (cv.cells.zipIdx.foldl (fun cs (x : Value × Nat) => cs.setIfInBounds (off + x.2) x.1) cs) h (by
          rw [e1, splice_eq (by omega), h2, hul]
          exact ((hr.take off).append hru).append (hr.drop (off + size))) (by simpa using hl) (fun k p x hpk hxk => hp (k + 1) p x (by simpa using hpk) (by simpa using hxk))
        refine ⟨cs', ?_, h6⟩
        simp only [Instr.fill, hpl]
        rw [if_neg (by rw [hsz]; simp; omega)]
        exact h5

section
variable {C : Ctx} {n p0 : Nat} {out loc : List AObj} {env : Nat → AV}
variable {d : Option Nat} {ty : TypeId} {pos : String} {aft : Array Edge} {gd : Option (Nat × Bool)}

def partsA (E : Operand → AV) : List (Nat × Operand) → Option (List (Nat × AV))
  | [] => some []
  | (i, x) :: r => match force (E x), partsA E r with
    | some v, some l => some ((i, v) :: l)
    | _, _ => none
theorem partsA_spec {E : Operand → AV} : ∀ {l : List (Nat × Operand)} {l' : List (Nat × AV)}, partsA E l = some l' → l' = l.map fun p => (p.1, E p.2)
  | [], l', h => by simp [partsA] at h; exact h
  | (i, x) :: r, l', h => by
    unfold partsA at h
    split at h
    · rename_i v l h1 h2
      cases h
      rw [partsA_spec h2, ← force_eq h1]; rfl
    · cases h

/-- the places of a struct's fields -/
def placeS (C : Ctx) (fs : List (Nat × TypeId)) (i : Nat) : Option (Nat × Nat) :=
  match fs[i]? with
  | some (o, t) => some (o, (C.ty t).size)
  | none => none
def allKnown (C : Ctx) : List (Nat × TypeId) → Bool
  | [] => true
  | (_, t) :: r => (C.ty t).d.known && allKnown C r

theorem run_places {C : Ctx} {fields : Array Field} (h : allKnown C (fields.toList.map fun f => (f.offset, f.type)) = true) (w : World) :
    (fields.mapM (fun f => do pure (f.offset, ← sizeOf f.type) : Field → Sem (Nat × Nat))).run C.P w = .ok (fields.toList.map fun f => (f.offset, (C.ty f.type).size)).toArray w := by
  rw [Array.mapM_eq_mapM_toList]
  simp only [Sem.run_map]
  have : ∀ l : List Field, allKnown C (l.map fun f => (f.offset, f.type)) = true → (l.mapM (fun f => do pure (f.offset, ← sizeOf f.type) : Field → Sem (Nat × Nat))).run C.P w = .ok (l.map fun f => (f.offset, (C.ty f.type).size)) w := by
    intro l
    induction l with
    | nil => intro _; rfl
    | cons f r ih =>
      intro h
      simp only [List.map_cons, allKnown, Bool.and_eq_true] at h
      simp only [List.mapM_cons, Sem.run_bind, run_sizeOf_ (Ty.ne_other h.1), Result.andThen_ok, Sem.run_pure, ih h.2, List.map_cons]
  rw [this _ h]; rfl

def abuild (C : Ctx) (E : Operand → AV) (t : TypeId) (parts : List (Nat × Operand)) : Option AV :=
  match (C.ty t).zero with
  | some z => match (C.ty t).d with
    | .struct fs => cond (allKnown C fs && z.stor) (match partsA E parts with
      | some ps => match fillA (placeS C fs) z.cellsOf ps with
        | some cells => some (.agg cells)
        | none => none
      | none => none) none
    | .array m e => cond ((C.ty e).d.known && z.stor) (match partsA E parts with
      | some ps => match fillA (fun i => some (i * (C.ty e).size, (C.ty e).size)) z.cellsOf ps with
        | some cells => some (.agg cells)
        | none => none
      | none => none) none
    | _ => none
  | none => none

theorem St.build {t : TypeId} {parts : Array (Nat × Operand)} {v : AV} (h : abuild C (ev C ⟨n, p0, out, loc, env⟩) t parts.toList = some v) :
    OpStep C { dst := d, op := .build t parts, type := ty, pos := pos, after := aft, guard := gd } ⟨n, p0, out, loc, env⟩ v out loc := by
  refine OpStep.pure_ (fun G w a hs => ?_)
  unfold abuild at h
  cases hz : (C.ty t).zero with
  | none => rw [hz] at h; cases h
  | some z =>
    rw [hz] at h
    simp only at h
    have vals : ∀ ps, partsA (ev C ⟨n, p0, out, loc, env⟩) parts.toList = some ps → ps.length = (parts.map fun (i, x) => (i, a.eval x)).toList.length ∧ ∀ (i : Nat) (p : Nat × AV) (v : Nat × Value), ps[i]? = some p → (parts.map fun (i, x) => (i, a.eval x)).toList[i]? = some v → p.1 = v.1 ∧ Rep G p.2 v.2 := by
      intro ps hps
      rw [partsA_spec hps]
      refine ⟨by simp, fun i p v hp hv => ?_⟩
      simp only [Array.toList_map, List.getElem?_map] at hp hv
      cases hx : parts.toList[i]? with
      | none => rw [hx] at hp; simp at hp
      | some q =>
        rw [hx] at hp hv
        simp at hp hv
        subst hp; subst hv
        exact ⟨rfl, rep_ev hs _⟩
    have zero : ∀ (hk : (C.ty t).d.known = true), z.stor = true → ∃ cz, (zeroValue t).run C.P w = .ok cz w ∧ RepL G z.cellsOf cz.cells.toList := by
      intro hk hst
      obtain ⟨cz, h1, h2⟩ := run_zero hk hz w
      obtain ⟨us, h3, h4⟩ := (h2 ▸ ofConst_rep G cz).cells hst
      exact ⟨cz, h1, by rw [h3]; exact h4⟩
    split at h
    · rename_i fs hfs
      cases hc : (allKnown C fs && z.stor) with
      | false => rw [hc] at h; cases h
      | true =>
        rw [hc] at h
        simp only [Bool.and_eq_true] at hc
        simp only [cond_true] at h
        split at h
        · rename_i ps hps
          split at h
          · rename_i cells hfill
            cases h
            obtain ⟨cz, h1, h2⟩ := zero (by rw [hfs]; rfl) hc.2
            obtain ⟨fields, hu, hff⟩ := und_struct hfs
            obtain ⟨hl, hp⟩ := vals ps hps
            have hpl : ∀ i, ((fields.toList.map fun f => (f.offset, (C.ty f.type).size)).toArray)[i]? = placeS C fs i := by
              intro i
              simp only [placeS, hff, List.getElem?_toArray, List.getElem?_map]
              cases fields.toList[i]? <;> rfl
            obtain ⟨cs', h5, h6⟩ := fill_ok (placeS C fs) ps _ z.cellsOf cells cz.cells hfill h2 hl hp
            refine ⟨.agg cs', ?_, ?_⟩
            · simp only [execOp, Instr.build, Sem.run_bind, h1, Result.andThen_ok, run_underlying_of hu, Sem.run_pure, run_places (by rw [← hff]; exact hc.1)]
              have e9 : (fun i => ((fields.toList.map fun f => (f.offset, (C.ty f.type).size)).toArray)[i]?) = placeS C fs := funext hpl
              rw [e9, h5]; rfl
            · have := Rep.agg_mk h6
              simpa using this
          · cases h
        · cases h
    · rename_i m e hfs
      cases hc : ((C.ty e).d.known && z.stor) with
      | false => rw [hc] at h; cases h
      | true =>
        rw [hc] at h
        simp only [Bool.and_eq_true] at hc
        simp only [cond_true] at h
        split at h
        · rename_i ps hps
          split at h
          · rename_i cells hfill
            cases h
            obtain ⟨cz, h1, h2⟩ := zero (by rw [hfs]; rfl) hc.2
            obtain ⟨hl, hp⟩ := vals ps hps
            obtain ⟨cs', h5, h6⟩ := fill_ok _ ps _ z.cellsOf cells cz.cells hfill h2 hl hp
            refine ⟨.agg cs', ?_, ?_⟩
            · simp only [execOp, Instr.build, Sem.run_bind, h1, Result.andThen_ok, run_underlying_of (und_array hfs), Sem.run_pure, run_sizeOf_ (Ty.ne_other hc.1)]
              rw [h5]; rfl
            · have := Rep.agg_mk h6
              simpa using this
          · cases h
        · cases h
    · cases h

/-! ### Calls of named functions -/
theorem St.callF {fid : FuncId} {fn : Func} {args : List AV} {xs : Array Operand} {ats : Array TypeId} {v : AV}
    (hargs : forceL (xs.toList.map (ev C ⟨n, p0, out, loc, env⟩)) = some args)
    (hc : PureF C fid args v) (hfn : C.P.funcs[fid]? = some fn) (hb : fn.body.isNone = false) (hne : (fn.name == "runtime.NumGoroutine") = false) :
    OpStep C { dst := d, op := .call { callee := .value (.func fid), args := xs, argTypes := ats }, type := ty, pos := pos, after := aft, guard := gd } ⟨n, p0, out, loc, env⟩ v out loc :=
  St.callP (fs := []) (cs := []) rfl (forceL_eq hargs) (by simpa using hc) hfn hb hne
theorem St.callFR {fid : FuncId} {fn : Func} {args : List AV} {xs : Array Operand} {ats : Array TypeId} {R : AV → List AObj → Prop}
    (hargs : forceL (xs.toList.map (ev C ⟨n, p0, out, loc, env⟩)) = some args)
    (hc : ACalls C fid args (out ++ loc) R) (hfn : C.P.funcs[fid]? = some fn) (hb : fn.body.isNone = false) (hne : (fn.name == "runtime.NumGoroutine") = false) :
    OpStepR C { dst := d, op := .call { callee := .value (.func fid), args := xs, argTypes := ats }, type := ty, pos := pos, after := aft, guard := gd } ⟨n, p0, out, loc, env⟩ R :=
  St.callR (fs := []) (cs := []) rfl (forceL_eq hargs) (by simpa using hc) hfn hb hne

/-! ### Slice literals -/
def allLenB (k : Nat) : List (List AV) → Bool
  | [] => true
  | x :: r => Nat.beq x.length k && allLenB k r
theorem allLenB_ok {k : Nat} : ∀ {l : List (List AV)}, allLenB k l = true → AllLen k l
  | [], _ => AllLen.nil k
  | x :: r, h => by
    simp only [allLenB, Bool.and_eq_true] at h
    exact AllLen.cons (Nat.eq_of_beq_eq_true h.1) (allLenB_ok h.2)

theorem anyRepL {G : Ghost} (vs : List Value) (h : ∀ v, v ∈ vs → v.oneCell' = true) : RepL G (List.replicate vs.length .any) vs :=
  RepL.of_at (by simp) fun i c v hc hv => by
    rw [List.getElem?_replicate] at hc
    split at hc
    · cases hc; exact ⟨.any _, h _ (List.mem_of_getElem? hv)⟩
    · cases hc

def elemsOf : List (Nat × AV) → List (List AV)
  | [] => []
  | (_, v) :: r => v.cellsOf :: elemsOf r

theorem St.buildSlice {t et : TypeId} {m sz : Nat} {parts : Array (Nat × Operand)} {ps : List (Nat × AV)} {elems : List (List AV)} {cells : List AV} {z : AV} (ht : (C.ty t).d = .slice et) (hk : (C.ty et).d.known = true) (hz : (C.ty et).zero = some z) (hst : z.stor = true)
    (hsz : (C.ty et).size = sz) (hzl : z.cellsOf.length = sz) (hs0 : Nat.ble (m * sz) 16777216 = true) (hps : partsA (ev C ⟨n, p0, out, loc, env⟩) parts.toList = some ps) (hel : elemsOf ps = elems) (hlen : elems.length = m)
    (hfill : fillA (fun i => some (i * sz, sz)) (List.replicate (m * sz) .any) ps = some cells) (hflat : elems.flatten = cells) (hall : allLenB sz elems = true) :
    OpStep C { dst := d, op := .buildSlice t m parts, type := ty, pos := pos, after := aft, guard := gd } ⟨n, p0, out, loc, env⟩ (.slc elems .full) out loc := by
  refine OpStep.mk_ rfl (fun G w a hs => ?_)
  have hAll := allLenB_ok hall
  obtain ⟨cz, h1, h2⟩ := run_zero hk hz w
  obtain ⟨us, h3, h4⟩ := (h2 ▸ ofConst_rep G cz).cells hst
  have hul : us.length = sz := by rw [← h4.len, hzl]
  have hp : ps.length = (parts.map fun (i, x) => (i, a.eval x)).toList.length ∧ ∀ (i : Nat) (p : Nat × AV) (v : Nat × Value), ps[i]? = some p → (parts.map fun (i, x) => (i, a.eval x)).toList[i]? = some v → p.1 = v.1 ∧ Rep G p.2 v.2 := by
    rw [partsA_spec hps]
    refine ⟨by simp, fun i p v hp hv => ?_⟩
    simp only [Array.toList_map, List.getElem?_map] at hp hv
    cases hx : parts.toList[i]? with
    | none => rw [hx] at hp; simp at hp
    | some q =>
      rw [hx] at hp hv
      simp at hp hv
      subst hp; subst hv
      exact ⟨rfl, rep_ev hs _⟩
  -- the cells to begin with
  have hbase : ∃ zz : Array Value, ((if m * sz = 0 then pure #[] else (do pure (← zeroValue et).cells)) : Sem (Array Value)).run C.P w = .ok zz w ∧
      ∀ v, v ∈ ((Array.range (m * sz)).map (zz[· % zz.size]!)).toList → v.oneCell' = true := by
    by_cases h0 : m * sz = 0
    · refine ⟨#[], by rw [if_pos h0]; rfl, fun v hv => ?_⟩
      rw [h0] at hv; simp at hv
    · refine ⟨cz.cells, ?_, ?_⟩
      · rw [if_neg h0]
        simp only [Sem.run_bind, h1, Result.andThen_ok, Sem.run_pure]
      · intro v hv
        simp only [Array.toList_map, List.mem_map, Array.toList_range, List.mem_range] at hv
        obtain ⟨j, hj, rfl⟩ := hv
        have hsz0 : 0 < sz := by rcases Nat.eq_zero_or_pos sz with e | e; · subst e; simp at h0
                                 exact e
        rw [h3]
        have hlt : j % us.toArray.size < us.length := by simp only [List.size_toArray]; exact Nat.mod_lt _ (by omega)
        rw [getElem!_pos _ _ (by simpa using hlt)]
        exact h4.mem _ (by simp)
  obtain ⟨zz, hb3, hb2⟩ := hbase
  generalize hbase : (Array.range (m * sz)).map (zz[· % zz.size]!) = base at hb2
  have hb1 : base.size = m * sz := by rw [← hbase]; simp
  have hbr : RepL G (List.replicate (m * sz) .any) base.toList := by
    have := anyRepL (G := G) base.toList hb2
    have e : base.toList.length = m * sz := by simpa using hb1
    rwa [e] at this
  obtain ⟨cs', h5, h6⟩ := fill_ok _ ps _ _ cells base hfill hbr hp.1 hp.2
  obtain ⟨G', hm', hx', hn', ht', hrep, _⟩ := new_slice hs.mem (elems := elems) (sz := sz) (cap := m) (L := cs'.toList) (rest := []) et hAll (by rw [hflat]; exact h6) (by rw [hlen]; simp) (by rw [hlen]; exact Nat.le_refl _)
  refine ⟨_, .slice (some ⟨w.heap.size, 0, none⟩) m m, _, G', ?_, .inl rfl, ?_, hm', hx'⟩
  · have hble := Nat.le_of_ble_eq_true hs0
    simp only [execOp, Instr.buildSlice, Sem.run_bind, run_underlying_of (und_slice ht), Result.andThen_ok, run_sizeOf_ (Ty.ne_other hk), hsz]
    rw [if_neg (by omega)]
    have h5' : Instr.fill (fun i => some (i * sz, sz)) base (Array.map (fun x => (x.fst, a.eval x.snd)) parts).toList = some cs' := h5
    by_cases h0 : m * sz = 0
    · rw [if_pos h0] at hb3
      have ez : zz = #[] := by simp at hb3; exact hb3
      subst ez
      rw [if_pos h0]
      simp only [Sem.run_bind, Sem.run_pure, Result.andThen_ok, hbase, h5', newRow, run_newObj]
      simp
    · rw [if_neg h0] at hb3
      have ez : zz = cz.cells := by simp [h1] at hb3; exact hb3.symm
      subst ez
      rw [if_neg h0]
      simp only [Sem.run_bind, Sem.run_pure, Result.andThen_ok, h1, hbase, h5', newRow, run_newObj]
      simp
  · have := hrep G' .full (Ext.refl (Nat.le_refl _)) (by show m = elems.length; exact hlen.symm)
    rwa [hlen] at this

end
end Go.Av
