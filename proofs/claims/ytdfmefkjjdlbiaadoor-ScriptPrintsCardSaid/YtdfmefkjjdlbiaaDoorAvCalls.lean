/-
  AvCalls: what a call of a function comes to ('ACalls', 'Pure'); a function's body from its entry to its return; a call inside a body; tests; the head of a loop.
-/
import Derived.Test.YtdfmefkjjdlbiaaDoorAvMemRules
namespace Go.Av
open Go.RowKit (Below)
set_option linter.unusedVariables false
set_option linter.unusedSimpArgs false

/-! ### Ids -/
theorem mem_getD {α : Type} {l : List α} {x d : α} (h : x ∈ l) : ∃ i, i < l.length ∧ l.getD i d = x := by
  obtain ⟨i, hi, rfl⟩ := List.getElem_of_mem h
  exact ⟨i, hi, by rw [getD_eq, List.getElem?_eq_getElem hi]; rfl⟩

theorem Rep.idLt {G : Ghost} {v : AV} {cv : Value} (h : Rep G v cv) : IdLt G.n v := by
  induction h with
  | any v => exact .any
  | bool b => exact .bool b
  | int k n => exact .int k n
  | str s => exact .str s
  | ptr id off hi => exact .ptr id off hi
  | cptr cells b o f h1 r ih => exact .cptr cells fun c hc => by obtain ⟨i, hi, e⟩ := mem_getD (d := AV.any) hc; rw [← e]; exact ih i hi
  | nilptr => exact .nilptr
  | slc elems e a cap sz f hs ha ha' r hc he ih =>
    refine .slc elems e (fun x hx c hcx => ?_) (fun t n ht => by subst ht; exact he.1)
    obtain ⟨i, hi, e1⟩ := mem_getD (d := ([] : List AV)) hx
    obtain ⟨j, hj, e2⟩ := mem_getD (d := AV.any) hcx
    rw [← e2, ← e1]
    exact ih i j hi (by rw [← hs i hi, e1]; exact hj)
  | arr id off len cap hi => exact .arr id off len cap hi
  | map id hi => exact .map id hi
  | nilmap => exact .nilmap
  | func fn fs cs us ws h1 h2 r1 r2 ih1 ih2 =>
    exact .func fn fs cs (fun c hc => by obtain ⟨i, hi, e⟩ := mem_getD (d := AV.any) hc; rw [← e]; exact ih1 i hi) (fun c hc => by obtain ⟨i, hi, e⟩ := mem_getD (d := AV.any) hc; rw [← e]; exact ih2 i hi)
  | nilFunc => exact .nilFunc
  | iface t v cv r ih => exact .iface t v ih
  | nilIface => exact .nilIface
  | agg cells vs hl ho r ih => exact .agg cells fun c hc => by obtain ⟨i, hi, e⟩ := mem_getD (d := AV.any) hc; rw [← e]; exact ih i hi
  | tuple xs vs hl r ih => exact .tuple xs fun c hc => by obtain ⟨i, hi, e⟩ := mem_getD (d := AV.any) hc; rw [← e]; exact ih i hi

def ObjLt (m : Nat) : AObj → Prop
  | .row _ cells => ∀ c, c ∈ cells → IdLt m c
  | .rowF _ cells => ∀ c, c ∈ cells → IdLt m c
  | .map es _ => ∀ e, e ∈ es → IdLt m e.2.1 ∧ IdLt m e.2.2
  | .iter k _ _ _ => k < m
  | _ => True
def ObjsLt (m : Nat) (l : List AObj) : Prop := ∀ x, x ∈ l → ObjLt m x

theorem ObjOk.objLt {G : Ghost} {w : World} {b : Nat} {x : AObj} (h : ObjOk G w b x) : ObjLt G.n x := by
  cases x with
  | row rt cells =>
    obtain ⟨vs, _, hr⟩ := h
    intro c hc
    obtain ⟨i, hi, e⟩ := mem_getD (d := AV.any) hc
    rw [← e]; exact (hr.rep i hi).idLt
  | rowF rt cells =>
    obtain ⟨vs, _, _, hr⟩ := h
    intro c hc
    obtain ⟨i, hi, e⟩ := mem_getD (d := AV.any) hc
    rw [← e]; exact (hr.rep i hi).idLt
  | map es clock =>
    obtain ⟨ms, _, hl, h5⟩ := h
    intro e he
    obtain ⟨i, hi, rfl⟩ := List.getElem_of_mem he
    have hi' : i < ms.toList.length := by omega
    have := h5 i _ _ (List.getElem?_eq_getElem hi) (List.getElem?_eq_getElem hi')
    exact ⟨this.2.1.idLt, this.2.2.idLt⟩
  | iter k _ _ _ => exact h.1
  | tok _ _ => trivial
  | gone => trivial

theorem MemOk.objsLt {C : Ctx} {G : Ghost} {objs : List AObj} {w : World} (h : MemOk C G objs w) : ObjsLt objs.length objs := by
  intro x hx
  obtain ⟨i, hi, rfl⟩ := List.getElem_of_mem hx
  have := (h.obj i _ (List.getElem?_eq_getElem hi)).objLt
  rwa [h.n] at this

theorem ObjOk.trunc {G : Ghost} {w : World} {b m : Nat} {x : AObj} (h : ObjOk G w b x) (hx : ObjLt m x) : ObjOk (G.trunc m) w b x := by
  cases x with
  | row rt cells =>
    obtain ⟨vs, h1, hr⟩ := h
    exact ⟨vs, h1, hr.len, hr.one, fun i hi => (hr.rep i hi).trunc (hx _ (getD_mem hi))⟩
  | rowF rt cells =>
    obtain ⟨vs, fr, h1, hr⟩ := h
    exact ⟨vs, fr, h1, hr.len, hr.one, fun i hi => (hr.rep i hi).trunc (hx _ (getD_mem hi))⟩
  | map es clock =>
    obtain ⟨ms, h1, h2, h5⟩ := h
    refine ⟨ms, h1, h2, fun i e x he hxe => ?_⟩
    have := hx e (List.mem_of_getElem? he)
    exact ⟨(h5 i e x he hxe).1, (h5 i e x he hxe).2.1.trunc this.1, (h5 i e x he hxe).2.2.trunc this.2⟩
  | iter k _ _ _ => exact ⟨hx, h.2⟩
  | tok _ _ => trivial
  | gone => trivial

/-- The tables of the program hold plain data. -/
def Ctx.plain (C : Ctx) : Prop := ∀ g cells, C.gl g = some cells → ∀ c, c ∈ cells → IdLt 0 c

theorem MemOk.trunc {C : Ctx} (hp : C.plain) {G : Ghost} {L L' : List AObj} {w : World} (h : MemOk C G L w) (hl : L.take L'.length = L') (hx : ObjsLt L'.length L') : MemOk C (G.trunc L'.length) L' w := by
  have sub : ∀ i (x : AObj), L'[i]? = some x → L[i]? = some x := fun i x e => by
    rw [← hl, List.getElem?_take] at e
    split at e
    · exact e
    · cases e
  refine ⟨rfl, h.imm, fun i x e => (h.obj i x (sub i x e)).trunc (hx x (List.mem_of_getElem? e)), fun i j x y ei ej => h.inj i j x y (sub i x ei) (sub j y ej), fun i x e => h.lt i x (sub i x e), fun i x e => h.sep i x (sub i x e),
    fun i c s e => ⟨(h.tok i c s (sub _ _ e)).cnt, (h.tok i c s (sub _ _ e)).sz, (h.tok i c s (sub _ _ e)).free⟩, fun i j c s x ei ej => h.tokobj i j c s x (sub _ _ ei) (sub _ _ ej), fun i j c s c' s' ei ej => h.toktok i j c s c' s' (sub _ _ ei) (sub _ _ ej), h.below, h.b0, fun g cells e => ?_, h.inv⟩
  exact (h.glob g cells e).trunc (.cptr cells fun c hc => (hp g cells e c hc).le (Nat.zero_le _))

/-! ### Calls -/
def ACalls (C : Ctx) (f : FuncId) (args : List AV) (objs : List AObj) (R : AV → List AObj → Prop) : Prop :=
  ∀ G w vs, MemOk C G objs w → RepA G args vs → Calls C.P f vs.toArray w fun e w' => ∃ v r objs' G', e = .returned v ∧ Rep G' r v ∧ MemOk C G' objs' w' ∧ Ext G.n G G' ∧ R r objs'

/-- It leaves the store as it is, and answers v. -/
def PureF (C : Ctx) (f : FuncId) (args : List AV) (v : AV) : Prop := ∀ objs, ACalls C f args objs fun r o => r = v ∧ o = objs

theorem PureF.of {C : Ctx} {f : FuncId} {args : List AV} {v : AV} (h : ∀ objs, ACalls C f args objs fun r o => r = v ∧ o = objs) : PureF C f args v := h
theorem ACalls.mono {C : Ctx} {f : FuncId} {args : List AV} {objs : List AObj} {R R' : AV → List AObj → Prop} (h : ACalls C f args objs R) (hr : ∀ r o, R r o → R' r o) : ACalls C f args objs R' :=
  fun G w vs hm ha => (h G w vs hm ha).mono fun _ _ ⟨v, r, o, G', e, a, b, c, d⟩ => ⟨v, r, o, G', e, a, b, c, hr _ _ d⟩

theorem RepA.append {G : Ghost} {xs xs' : List AV} {vs vs' : List Value} (h : RepA G xs vs) (h' : RepA G xs' vs') : RepA G (xs ++ xs') (vs ++ vs') := by
  refine ⟨by simp [h.len, h'.len], fun i hi => ?_⟩
  rcases Nat.lt_or_ge i xs.length with c | c
  · have := h.rep i c
    simp only [getD_eq] at this ⊢
    rw [List.getElem?_append_left c, List.getElem?_append_left (by rw [← h.len]; exact c)]
    exact this
  · have := h'.rep (i - xs.length) (by simp at hi; omega)
    simp only [getD_eq] at this ⊢
    rw [List.getElem?_append_right c, List.getElem?_append_right (by rw [← h.len]; exact c), ← h.len]
    exact this

/-! ### A body -/
inductive ResIs (C : Ctx) (s : AState) : ResultVar → AV → Prop where
  | tmp (t : Nat) (v : AV) (h : force (ev C s (.tmp t)) = some v) : ResIs C s (.tmp t) v
  | cell1 (rt : TypeId) (t : Nat) (ty : TypeId) (id o : Nat) (cells : List AV) (c v : AV) (h : ev C s (.tmp t) = .ptr id o) (hk : (C.ty ty).d.known = true) (ha : (C.ty ty).d.agg = false)
      (ho : s.p0 = s.out.length → (s.out ++ s.loc)[id]? = some (.row rt cells)) (hc : cells[o]? = some c) (hv : force c = some v) : ResIs C s (.cell t ty) v
  | cellN (rt : TypeId) (t : Nat) (ty : TypeId) (id o m : Nat) (cells l : List AV) (h : ev C s (.tmp t) = .ptr id o) (hk : (C.ty ty).d.known = true) (ha : (C.ty ty).d.agg = true) (hm : (C.ty ty).size = m)
      (ho : s.p0 = s.out.length → (s.out ++ s.loc)[id]? = some (.row rt cells)) (hl : (cells.drop o).take m = l) (hl' : l.length = m) : ResIs C s (.cell t ty) (.agg l)

theorem loadVar_row {rt : TypeId} {C : Ctx} {G : Ghost} {objs : List AObj} {w : World} (hm : MemOk C G objs w) {id o m : Nat} {cells l : List AV} {t : TypeId} (ho : objs[id]? = some (.row rt cells)) (hk : (C.ty t).d.known = true) (ha : (C.ty t).d.agg = true)
    (hsz : (C.ty t).size = m) (hl : (cells.drop o).take m = l) (hl' : l.length = m) : ∃ vs, (loadVar t ⟨G.obj id, o, none⟩).run C.P w = .ok (.agg vs.toArray) w ∧ RepL G l vs := by
  obtain ⟨vs, h1, h2⟩ := hm.obj id _ ho
  have hlen : o + m ≤ cells.length ∨ m = 0 := by rw [← hl] at hl'; simp at hl'; omega
  have hle : ∀ j, j < m → o + j < vs.toList.length := fun j hj => by rw [← h2.len]; omega
  have hrun := run_loadCells (P := C.P) w ⟨G.obj id, o, none⟩ m (fun j => vs.toList.getD (o + j) undef) (fun j hj => by
    rw [add_none]
    simp only [World.cell?, h1]
    have := hle j hj
    simp at this
    simp [getD_eq, this])
  refine ⟨(vs.toList.drop o).take m, ?_, by rw [← hl]; exact (h2.drop o).take m⟩
  simp [loadVar, run_isAgg_ (Ty.ne_other hk), ha, run_sizeOf_ (Ty.ne_other hk), hsz, hrun]
  have hr := (h2.drop o).take m
  rw [hl] at hr
  have : (List.range m).map (fun j => vs.toList.getD (o + j) undef) = (vs.toList.drop o).take m := by
    refine range_map_getD _ m (by rw [← hr.len, hl']) _ (fun i hi => ?_)
    rw [List.getElem?_take, if_pos hi, List.getElem?_drop, getD_eq, List.getElem?_eq_getElem (hle i hi)]; rfl
  simp only [Array.getElem?_toList, getD_eq] at this
  rw [show (List.map (fun j => vs[o + j]?.getD undef) (List.range m)) = _ from this]

def readRes (tmps : Array Value) : ResultVar → Sem Value
  | .tmp t => pure (tmps.getD t undef)
  | .cell a t => do loadVar t (← asAddr (tmps.getD a undef))

theorem ResIs.run {C : Ctx} {G : Ghost} {s : AState} {w : World} {a : Act} (hs : Sim C G s w a) {x : ResultVar} {v : AV} (h : ResIs C s x v) : ∃ cv, (readRes a.tmps x).run C.P w = .ok cv w ∧ Rep G v cv := by
  cases h with
  | tmp t v h => exact ⟨a.eval (.tmp t), rfl, force_eq h ▸ rep_ev hs (.tmp t)⟩
  | cell1 rt t ty id o cells c v h hk ha ho hc hv =>
    have g1 := rep_ev hs (.tmp t); rw [h] at g1
    obtain ⟨e1, hid⟩ := g1.ptr_inv
    obtain ⟨u, hcell, hr, _⟩ := row_cell (hs.mem.obj id _ (ho hs.outlen.symm)) hc
    refine ⟨u, ?_, force_eq hv ▸ hr⟩
    have e2 : a.tmps.getD t undef = .pointer (some ⟨G.obj id, o, none⟩) := e1
    simp only [readRes, e2, asAddr, Sem.run_bind, Sem.run_pure, Result.andThen_ok, loadVar, run_isAgg_ (Ty.ne_other hk), ha]
    simp [hcell]
  | cellN rt t ty id o m cells l h hk ha hm ho hl hl' =>
    have g1 := rep_ev hs (.tmp t); rw [h] at g1
    obtain ⟨e1, hid⟩ := g1.ptr_inv
    obtain ⟨vs, hrun, hr⟩ := loadVar_row hs.mem (ho hs.outlen.symm) hk ha hm hl hl'
    refine ⟨_, ?_, Rep.agg_mk hr⟩
    have e2 : a.tmps.getD t undef = .pointer (some ⟨G.obj id, o, none⟩) := e1
    simp only [readRes, e2, asAddr, Sem.run_bind, Sem.run_pure, Result.andThen_ok, hrun]

/-- The results of a body in its last state. -/
inductive ResL (C : Ctx) (s : AState) : List ResultVar → List AV → Prop where
  | nil : ResL C s [] []
  | cons {x : ResultVar} {v : AV} {xs : List ResultVar} {vs : List AV} (h : ResIs C s x v) (t : ResL C s xs vs) : ResL C s (x :: xs) (v :: vs)
def theResult : List AV → AV
  | [v] => v
  | vs => .tuple vs

theorem ResL.run {C : Ctx} {G : Ghost} {s : AState} {w : World} {a : Act} (hs : Sim C G s w a) {xs : List ResultVar} {vs : List AV} (h : ResL C s xs vs) : ∃ us, (xs.mapM (readRes a.tmps)).run C.P w = .ok us w ∧ RepA G vs us := by
  induction h with
  | nil => exact ⟨[], rfl, rfl, fun i h => absurd h (Nat.not_lt_zero _)⟩
  | @cons x v xs vs h t ih =>
    obtain ⟨u, h1, h2⟩ := h.run hs
    obtain ⟨us, h3, h4⟩ := ih
    refine ⟨u :: us, ?_, by simp [h4.len], ?_⟩
    · simp only [List.mapM_cons, Sem.run_bind, h1, Result.andThen_ok, h3, Sem.run_pure]
    · intro i hi
      cases i with
      | zero => exact h2
      | succ i => have := h4.rep i (by simpa using hi); simpa [getD_eq] using this

theorem run_results {C : Ctx} {G : Ghost} {s : AState} {w : World} {a : Act} {fn : Func} (hs : Sim C G s w a) {vs : List AV} (h : ResL C s fn.results.toList vs) : ∃ cv, (results fn a.tmps).run C.P w = .ok cv w ∧ Rep G (theResult vs) cv := by
  obtain ⟨us, h1, h2⟩ := h.run hs
  have hm : (fn.results.mapM (readRes a.tmps)).run C.P w = .ok us.toArray w := by
    rw [Array.mapM_eq_mapM_toList]
    simp only [Sem.run_map, h1, Result.andThen_ok]
  have e2 : results fn a.tmps = (do let vs ← fn.results.mapM (readRes a.tmps); pure (if h : vs.size = 1 then vs[0] else .tuple vs)) := by
    have e : (fun | .tmp t => pure (a.tmps.getD t undef) | .cell b t => do loadVar t (← asAddr (a.tmps.getD b undef)) : ResultVar → Sem Value) = readRes a.tmps := by
      funext x; cases x <;> rfl
    rw [← e]; rfl
  rw [e2]
  simp only [Sem.run_bind, hm, Result.andThen_ok, Sem.run_pure]
  refine ⟨_, rfl, ?_⟩
  match vs, us, h2 with
  | [], [], h2 => exact Rep.tuple_mk h2
  | [v], [u], h2 => exact h2.rep 0 (by simp)
  | v :: v' :: vs, u :: u' :: us, h2 => exact Rep.tuple_mk h2
  | [], _ :: _, h2 => have := h2.len; simp at this
  | _ :: _, [], h2 => have := h2.len; simp at this
  | [_], _ :: _ :: _, h2 => have := h2.len; simp at this
  | _ :: _ :: _, [_], h2 => have := h2.len; simp at this

/-- What a body must come to. -/
def RetQ (C : Ctx) (res : List ResultVar) (objs : List AObj) (R : AV → List AObj → Prop) : Exit → AState → Prop
  | .normal, s | .ret, s => ∃ vs r objs', ResL C s res vs ∧ Le (theResult vs) r ∧ (s.out ++ s.loc).take objs'.length = objs' ∧ (IdLt objs'.length r ∨ objs' = s.out ++ s.loc) ∧ (objs' = objs ∨ objs' = s.out ++ s.loc ∨ objs.length ≤ objs'.length ∧ ObjsLt objs'.length objs') ∧ R r objs'
  | _, _ => False

theorem ACalls.enter {C : Ctx} (hp : C.plain) {f : FuncId} {fn : Func} {c : Code} {args : List AV} {objs : List AObj} {R : AV → List AObj → Prop} {res : List ResultVar} {nt : Nat} (hf : C.P.funcs[f]? = some fn) (hb : fn.body = some c) (hres : fn.results.toList = res) (hnt : fn.ntmps = nt) (hn : args.length ≤ nt)
    (h : AWp C c (RetQ C res objs R) ⟨nt, objs.length, objs, [], fun i => args.getD i .any⟩) : ACalls C f args objs R := by
  intro G w vs hm ha
  refine calls_of_wp hf hb ?_
  have hsim : Sim C G ⟨nt, objs.length, objs, [], fun i => args.getD i .any⟩ w { tmps := vs.toArray ++ Array.replicate (fn.ntmps - vs.toArray.size) undef, defers := [] } := by
    refine ⟨?_, rfl, ?_, rfl, by simpa using hm⟩
    · have := ha.len; simp [hnt]; omega
    · intro t ht
      by_cases hlt : t < args.length
      · have := ha.rep t hlt
        have h2 : t < vs.length := by rw [← ha.len]; exact hlt
        simp only [getD_eq, Array.getD_eq_getD_getElem?] at this ⊢
        rw [Array.getElem?_append_left (by simpa using h2)]
        simpa using this
      · simp only [getD_eq]
        rw [List.getElem?_eq_none (by omega)]
        exact .any _
  refine wp_mono (h G w _ hsim) ?_
  rintro e a' w' ⟨s', G', hs', hp0, hx, hq⟩
  have key : ∀ e', RetQ C res objs R e' s' → (e' = .normal ∨ e' = .ret) → a'.defers = [] ∧ ∃ v, (results fn a'.tmps).run C.P w' = .ok v w' ∧ ∃ v_1 r objs' G', Ending.returned v = Ending.returned v_1 ∧ Rep G' r v_1 ∧ MemOk C G' objs' w' ∧ Ext G.n G G' ∧ R r objs' := by
    intro e' hq he'
    have hq : ∃ vs r objs', ResL C s' res vs ∧ Le (theResult vs) r ∧ (s'.out ++ s'.loc).take objs'.length = objs' ∧ (IdLt objs'.length r ∨ objs' = s'.out ++ s'.loc) ∧ (objs' = objs ∨ objs' = s'.out ++ s'.loc ∨ objs.length ≤ objs'.length ∧ ObjsLt objs'.length objs') ∧ R r objs' := by
      rcases he' with rfl | rfl <;> exact hq
    obtain ⟨us, r, objs', h1, h2, h3, h4, h5, h6⟩ := hq
    rw [← hres] at h1
    obtain ⟨cv, hrun, hrep⟩ := run_results hs' h1
    have hlt : objs.length ≤ objs'.length ∧ ObjsLt objs'.length objs' := by
      rcases h5 with rfl | rfl | h5
      · exact ⟨Nat.le_refl _, hm.objsLt⟩
      · refine ⟨?_, hs'.mem.objsLt⟩
        have h7 := hs'.outlen
        rw [List.length_append, h7, hp0]
        exact Nat.le_add_right _ _
      · exact h5
    have h4 : IdLt objs'.length r := by
      rcases h4 with h4 | rfl
      · exact h4
      · rw [← hs'.mem.n]; exact (h2 _ _ hrep).idLt
    have hle : objs'.length ≤ G'.n := by rw [hs'.mem.n, ← h3]; simp; omega
    refine ⟨hs'.defers, cv, hrun, cv, r, objs', G'.trunc objs'.length, rfl, (h2 _ _ hrep).trunc h4, hs'.mem.trunc hp h3 hlt.2, ?_, h6⟩
    have hx' : Ext objs.length G G' := hx
    rw [hm.n]
    exact ⟨hlt.1, hx'.B0, hx'.w0, hx'.imm, hx'.obj, hx'.tok⟩
  cases e with
  | normal => exact key .normal hq (.inl rfl)
  | ret => exact key .ret hq (.inr rfl)
  | exit id => exact hq.elim
  | goto l => exact hq.elim
  | panic ch => exact hq.elim
  | outgrown => exact hq.elim

section
variable {C : Ctx} {ops : Array Oper} {rest : List Oper} {Q : Exit → AState → Prop} {n p0 : Nat} {out loc : List AObj} {env : Nat → AV}
variable {d : Option Nat} {ty : TypeId} {pos : String} {aft : Array Edge} {gd : Option (Nat × Bool)}

/-- The return of a pure function: its store is as it was. -/
theorem RetQ.same {res : List ResultVar} {objs : List AObj} {v : AV} {vs : List AV} {e : Exit} {s : AState} (he : e = .normal ∨ e = .ret) (h : ResL C s res vs) (hv : Le (theResult vs) v) (hout : s.out = objs) (hid : IdLt objs.length v) : RetQ C res objs (fun r o => r = v ∧ o = objs) e s := by
  have : (s.out ++ s.loc).take objs.length = objs := by rw [hout, List.take_left]
  rcases he with rfl | rfl <;> exact ⟨vs, v, objs, h, hv, this, .inl hid, .inl rfl, rfl, rfl⟩

/-- .. of a function whose store is as it is at the end -/
theorem RetQ.full {res : List ResultVar} {objs : List AObj} {R : AV → List AObj → Prop} {v : AV} {vs : List AV} {e : Exit} {s : AState} (he : e = .normal ∨ e = .ret) (h : ResL C s res vs) (hv : Le (theResult vs) v) (hR : R v (s.out ++ s.loc)) : RetQ C res objs R e s := by
  rcases he with rfl | rfl <;> exact ⟨vs, v, _, h, hv, List.take_length, .inr rfl, .inr (.inl rfl), hR⟩

theorem loc_at {k : Nat} {x : AObj} (h : loc[k]? = some x) (hp : p0 = out.length) : (out ++ loc)[p0 + k]? = some x := by
  subst hp; rw [List.getElem?_append_right (Nat.le_add_right _ _), Nat.add_sub_cancel_left]; exact h

/-- a store into a box of the body's own -/
theorem St.storeL {rt : TypeId} {t : TypeId} {x y : Operand} {k o m : Nat} {cells l : List AV} {v : AV} {loc' : List AObj}
    (hx : ev C ⟨n, p0, out, loc, env⟩ x = .ptr (p0 + k) o) (hy : force (ev C ⟨n, p0, out, loc, env⟩ y) = some v) (hv : v.stor = true)
    (hk : (C.ty t).d.known = true) (hm : (C.ty t).size = m) (hvl : v.cellsOf.length = m)
    (ho : loc[k]? = some (.row rt cells)) (hle : o + m ≤ cells.length)
    (hl : cells.take o ++ v.cellsOf ++ cells.drop (o + m) = l)
    (hs : loc.set k (.row rt l) = loc') :
    OpStep C { dst := d, op := .store t x y, type := ty, pos := pos, after := aft, guard := gd } ⟨n, p0, out, loc, env⟩ .any out loc' :=
  St.storeP hx (force_eq hy) hv hk hm hvl (loc_at ho) hle hl (fun hp => by
    rw [List.set_append_right _ _ (by omega), hp, Nat.add_sub_cancel_left, hs]) rfl

/-! ### Tests -/
theorem AWp.condT {c : Operand} {x y : Code} {s : AState} (hc : ev C s c = .bool true) (h : AWp C x Q s) : AWp C (.cond c x y) Q s := by
  intro G w a hs
  have g := rep_ev hs c; rw [hc] at g
  exact wp_cond_true g.bool_inv (h G w a hs)
theorem AWp.condF {c : Operand} {x y : Code} {s : AState} (hc : ev C s c = .bool false) (h : AWp C y Q s) : AWp C (.cond c x y) Q s := by
  intro G w a hs
  have g := rep_ev hs c; rw [hc] at g
  exact wp_cond_false g.bool_inv (h G w a hs)
theorem AWp.cond {c : Operand} {x y : Code} {s : AState} {b : Bool} (hc : ev C s c = .bool b) (h1 : b = true → AWp C x Q s) (h2 : b = false → AWp C y Q s) : AWp C (.cond c x y) Q s := by
  cases b with
  | true => exact AWp.condT hc (h1 rfl)
  | false => exact AWp.condF hc (h2 rfl)

/-! ### The state made simpler: what is no longer wanted is forgotten, boxes behind the last that is wanted fall away -/
def ofL (l : List (Nat × AV)) : Nat → AV := fun i => match l with
  | [] => .any
  | (j, v) :: r => cond (Nat.beq i j) v (ofL r i)

theorem ofL_rep {G : Ghost} {l : List (Nat × AV)} {i : Nat} {cv : Value} (h : ∀ p, p ∈ l → p.1 = i → Rep G p.2 cv) : Rep G (ofL l i) cv := by
  induction l with
  | nil => exact .any _
  | cons p r ih =>
    obtain ⟨j, v⟩ := p
    unfold ofL
    cases hb : Nat.beq i j with
    | true => exact h (j, v) (List.mem_cons_self ..) (Nat.eq_of_beq_eq_true hb).symm
    | false => exact ih fun p hp => h p (List.mem_cons_of_mem _ hp)

theorem AWp.head {c : Code} {l : List (Nat × AV)} {loc' : List AObj} (hp : C.plain)
    (hl : loc.take loc'.length = loc') (hx : ∀ x, x ∈ loc' → ObjLt (p0 + loc'.length) x)
    (hout : loc' = loc ∨ ObjsLt (p0 + loc'.length) out)
    (he : ∀ p, p ∈ l → Le (env p.1) p.2 ∧ IdLt (p0 + loc'.length) p.2)
    (h : AWp C c Q ⟨n, p0, out, loc', ofL l⟩) : AWp C c Q ⟨n, p0, out, loc, env⟩ := by
  intro G w a hs
  have hol : out.length = p0 := hs.outlen
  have hout' : ObjsLt (p0 + loc'.length) out := by
    rcases hout with rfl | h
    · have := hs.mem.objsLt
      simp only [List.length_append, hol] at this
      exact fun x hx => this x (List.mem_append_left _ hx)
    · exact h
  have hlen : (out ++ loc').length = p0 + loc'.length := by simp [hol]
  have hm := hs.mem.trunc hp (L' := out ++ loc') (by rw [hlen, ← hol, List.take_length_add_append, hl]) (by
    rw [hlen]; intro x hx'
    rcases List.mem_append.1 hx' with h1 | h1
    · exact hout' x h1
    · exact hx x h1)
  have hsim : Sim C (G.trunc (out ++ loc').length) ⟨n, p0, out, loc', ofL l⟩ w a := by
    refine ⟨hs.size, hs.defers, fun t ht => ?_, hol, hm⟩
    refine ofL_rep fun p hp' e => ?_
    have := he p hp'
    rw [hlen]
    refine (this.1 G _ ?_).trunc this.2
    rw [e]
    exact hs.env t ht
  refine wp_mono (h _ w a hsim) fun e a' w' p => p.ofExt ?_
  refine ⟨by simp only [Ghost.trunc, hlen]; omega, rfl, rfl, fun _ _ _ h => h, fun _ _ => rfl, fun _ _ => .inl rfl⟩

/-- The same as a relation between states. -/
structure Wk (C : Ctx) (s s' : AState) : Prop where
  p0 : s'.p0 = s.p0
  sim : ∀ G w a, Sim C G s w a → ∃ G', Sim C G' s' w a ∧ Ext s.p0 G G'
def WkL (env : Nat → AV) (m : Nat) : List (Nat × AV) → Prop
  | [] => True
  | p :: r => (Le (env p.1) p.2 ∧ IdLt m p.2) ∧ WkL env m r
theorem WkL.at_ {env : Nat → AV} {m : Nat} : ∀ {l : List (Nat × AV)}, WkL env m l → ∀ p, p ∈ l → Le (env p.1) p.2 ∧ IdLt m p.2
  | [], _, _, h => by cases h
  | q :: r, h, p, hp => by
    rcases List.mem_cons.1 hp with rfl | hp
    · exact h.1
    · exact WkL.at_ h.2 p hp
theorem Wk.mk_ {l : List (Nat × AV)} {loc' : List AObj} (hp : C.plain) (hl : loc.take loc'.length = loc') (hx : ∀ x, x ∈ loc' → ObjLt (p0 + loc'.length) x) (hout : loc' = loc ∨ ObjsLt (p0 + loc'.length) out)
    (he : WkL env (p0 + loc'.length) l) : Wk C ⟨n, p0, out, loc, env⟩ ⟨n, p0, out, loc', ofL l⟩ := by
  refine ⟨rfl, fun G w a hs => ?_⟩
  have hol : out.length = p0 := hs.outlen
  have hout' : ObjsLt (p0 + loc'.length) out := by
    rcases hout with rfl | h
    · have := hs.mem.objsLt
      simp only [List.length_append, hol] at this
      exact fun x hx => this x (List.mem_append_left _ hx)
    · exact h
  have hlen : (out ++ loc').length = p0 + loc'.length := by simp [hol]
  have hm := hs.mem.trunc hp (L' := out ++ loc') (by rw [hlen, ← hol, List.take_length_add_append, hl]) (by
    rw [hlen]; intro x hx'
    rcases List.mem_append.1 hx' with h1 | h1
    · exact hout' x h1
    · exact hx x h1)
  refine ⟨G.trunc (out ++ loc').length, ⟨hs.size, hs.defers, fun t ht => ?_, hol, hm⟩, ⟨by simp only [Ghost.trunc, hlen]; omega, rfl, rfl, fun _ _ _ h => h, fun _ _ => rfl, fun _ _ => .inl rfl⟩⟩
  refine ofL_rep fun p hp' e => ?_
  have := he.at_ p hp'
  rw [hlen]
  refine (this.1 G _ ?_).trunc this.2
  rw [e]
  exact hs.env t ht

theorem AWp.wk {c : Code} {s s' : AState} (hw : Wk C s s') (h : AWp C c Q s') : AWp C c Q s := by
  intro G w a hs
  obtain ⟨G', hs', hx⟩ := hw.sim G w a hs
  refine wp_mono (h G' w a hs') fun e a' w' p => ?_
  rw [hw.p0] at p
  exact p.ofExt hx

/-- A loop, by the states at its head. -/
theorem AWp.loopI {ι : Type} {c : Code} {s : AState} (St : ι → AState) (Pr : ι → Prop) (μ : ι → Nat) (i0 : ι) (h0 : Pr i0) (hw : Wk C s (St i0)) (hp0 : ∀ i, (St i).p0 = s.p0)
    (round : ∀ i, Pr i → AWp C c (AThen (fun s'' => ∃ j, μ j < μ i ∧ Pr j ∧ Wk C s'' (St j)) Q) (St i)) : AWp C (.loop c) Q s := by
  intro G w a hs
  obtain ⟨G0, hs0, hx0⟩ := hw.sim G w a hs
  refine wp_loop_ghost (fun k a w => ∃ i G', k = μ i ∧ Pr i ∧ Sim C G' (St i) w a ∧ Ext s.p0 G G') (μ i0) ⟨i0, G0, rfl, h0, hs0, hx0⟩ ?_
  rintro k a' w' ⟨i, G', rfl, hPr, hs', hx⟩
  refine wp_mono (round i hPr G' w' a' hs') ?_
  rintro e a'' w'' ⟨s'', G'', hs'', hp, hx', hq⟩
  rw [hp0 i] at hp hx'
  have hx'' := hx.trans hx' (Nat.le_refl _)
  cases e with
  | normal =>
    obtain ⟨j, hj, hPj, hwk⟩ := hq
    obtain ⟨G3, hs3, hx3⟩ := hwk.sim G'' w'' a'' hs''
    rw [hp] at hx3
    exact ⟨μ j, hj, j, G3, rfl, hPj, hs3, hx''.trans hx3 (Nat.le_refl _)⟩
  | exit id => exact ⟨s'', G'', hs'', hp, hx'', hq⟩
  | goto l => exact ⟨s'', G'', hs'', hp, hx'', hq⟩
  | ret => exact ⟨s'', G'', hs'', hp, hx'', hq⟩
  | panic ch => exact ⟨s'', G'', hs'', hp, hx'', hq⟩
  | outgrown => exact ⟨s'', G'', hs'', hp, hx'', hq⟩

theorem athen_n {next : AState → Prop} {s : AState} (h : next s) : AThen next Q .normal s := h
theorem athen_e {next : AState → Prop} {s : AState} {id : Nat} (h : Q (.exit id) s) : AThen next Q (.exit id) s := h
theorem athen_r {next : AState → Prop} {s : AState} (h : Q .ret s) : AThen next Q .ret s := h
theorem ablock_n {s : AState} {id : Nat} (h : Q .normal s) : ABlock id Q .normal s := h
theorem ablock_r {s : AState} {id : Nat} (h : Q .ret s) : ABlock id Q .ret s := h
theorem ablock_e {s : AState} {id : Nat} (h : Q .normal s) : ABlock id Q (.exit id) s := by simp only [ABlock, if_true]; exact h
theorem ablock_o {s : AState} {id id' : Nat} (hne : Nat.beq id' id = false) (h : Q (.exit id') s) : ABlock id Q (.exit id') s := by
  simp only [ABlock]; rw [if_neg (fun e => by subst e; rw [Nat.beq_refl] at hne; cases hne)]; exact h

/-! ### Plain data -/
def Plain (cells : List AV) : Prop := ∀ m c, c ∈ cells → IdLt m c
theorem idLt_slc {m : Nat} {elems : List (List AV)} {e : SEnd} (h : ∀ x, x ∈ elems → Plain x) (he : ∀ t k, e ≠ .tok t k) : IdLt m (.slc elems e) := .slc elems e (fun x hx c hc => h x hx m c hc) fun t k e' => absurd e' (he t k)
theorem idLt_map {α : Type} {m : Nat} {l : List α} {enc : α → List AV} (h : ∀ x, Plain (enc x)) : IdLt m (.slc (l.map enc) .unk) :=
  idLt_slc (fun x hx => by obtain ⟨y, _, rfl⟩ := List.mem_map.1 hx; exact h y) (fun _ _ e => by cases e)

/-! ### A call -/
theorem St.callR {f : Operand} {fid : FuncId} {fn : Func} {fs cs args : List AV} {xs : Array Operand} {ats : Array TypeId} {R : AV → List AObj → Prop}
    (hf : ev C ⟨n, p0, out, loc, env⟩ f = .func fid fs cs) (hargs : xs.toList.map (ev C ⟨n, p0, out, loc, env⟩) = args)
    (hc : ACalls C fid (fs ++ args ++ cs) (out ++ loc) R) (hfn : C.P.funcs[fid]? = some fn) (hb : fn.body.isNone = false) (hne : (fn.name == "runtime.NumGoroutine") = false) :
    OpStepR C { dst := d, op := .call { callee := .value f, args := xs, argTypes := ats }, type := ty, pos := pos, after := aft, guard := gd } ⟨n, p0, out, loc, env⟩ R := by
  intro G w a hs next Q' K
  have g := rep_ev hs f; rw [hf] at g
  generalize ha : a.eval f = cf at g
  cases g with
  | func _ _ _ us ws h1 h2 r1 r2 =>
    have hrun : (execOp a.eval { dst := d, op := .call { callee := .value f, args := xs, argTypes := ats }, type := ty, pos := pos, after := aft, guard := gd }).run C.P w = .ok (.enter fid (us.toArray ++ xs.map a.eval ++ ws.toArray)) w := by
      simp only [execOp, resolve, ha, Deferred.ofValue, Sem.run_bind, Sem.run_pure, Result.andThen_ok, invoke, callFunc, run_program, hfn, hne, hb]
      rfl
    unfold Oper.wp
    rw [hrun, Oper.upon_enter]
    have hA : RepA G (fs ++ args ++ cs) (us ++ (xs.toList.map a.eval) ++ ws) := by
      have l1 : args.length = (xs.toList.map a.eval).length := by rw [← hargs]; simp
      refine ((RepA.append ⟨h1, r1⟩ ⟨l1, fun i hi => ?_⟩).append ⟨h2, r2⟩)
      have hlt : i < xs.toList.length := by rw [← hargs] at hi; simpa using hi
      rw [← hargs, getD_eq, getD_eq, List.getElem?_map, List.getElem?_map, List.getElem?_eq_getElem hlt]
      exact rep_ev hs _
    have hcall := hc G w _ hs.mem hA
    have earr : (us ++ (xs.toList.map a.eval) ++ ws).toArray = us.toArray ++ xs.map a.eval ++ ws.toArray := by simp
    rw [earr] at hcall
    refine hcall.mono ?_
    rintro e w' ⟨v, r, objs', G', rfl, hr, hm', hx, hR⟩
    exact K r objs' v w' G' hR hr hm' hx

theorem St.callP {f : Operand} {fid : FuncId} {fn : Func} {fs cs args : List AV} {xs : Array Operand} {ats : Array TypeId} {v : AV}
    (hf : ev C ⟨n, p0, out, loc, env⟩ f = .func fid fs cs) (hargs : xs.toList.map (ev C ⟨n, p0, out, loc, env⟩) = args)
    (hc : PureF C fid (fs ++ args ++ cs) v) (hfn : C.P.funcs[fid]? = some fn) (hb : fn.body.isNone = false) (hne : (fn.name == "runtime.NumGoroutine") = false) :
    OpStep C { dst := d, op := .call { callee := .value f, args := xs, argTypes := ats }, type := ty, pos := pos, after := aft, guard := gd } ⟨n, p0, out, loc, env⟩ v out loc :=
  ⟨rfl, St.callR hf hargs (hc _) hfn hb hne⟩

end
end Go.Av
