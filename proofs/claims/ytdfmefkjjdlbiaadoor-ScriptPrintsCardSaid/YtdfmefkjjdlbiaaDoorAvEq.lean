/-
  AvEq: values held against each other: nil, bools, structs, arrays.
-/
import Derived.Test.YtdfmefkjjdlbiaaDoorAvBuild
import Derived.Laws.StructEq
import Derived.DeepKeys
namespace Go.Av
open Go.RowKit (Below)
set_option linter.unusedVariables false
set_option linter.unusedSimpArgs false

theorem und_ptr' {C : Ctx} {t e : TypeId} (h : (C.ty t).d = .ptr e) : C.P.underlying t = some (.pointer e) := by
  obtain ⟨d, h1, h2⟩ := (C.ok t (by rw [h]; simp)).desc
  rw [h] at h2; cases d <;> simp [tyFits] at h2; subst h2; exact h1
theorem und_func' {C : Ctx} {t : TypeId} (h : (C.ty t).d = .func) : ∃ a b c, C.P.underlying t = some (.func a b c) := by
  obtain ⟨d, h1, h2⟩ := (C.ok t (by rw [h]; simp)).desc
  rw [h] at h2; cases d <;> simp [tyFits] at h2; exact ⟨_, _, _, h1⟩
theorem und_iface' {C : Ctx} {t : TypeId} {b : Bool} (h : (C.ty t).d = .iface b) : ∃ ms, C.P.underlying t = some (.interface ms) := by
  obtain ⟨d, h1, h2⟩ := (C.ok t (by rw [h]; simp)).desc
  rw [h] at h2; cases d <;> simp [tyFits] at h2; exact ⟨_, h1⟩
theorem und_strT {C : Ctx} {t : TypeId} (h : (C.ty t).d = .str) : C.P.underlying t = some .string := by
  obtain ⟨d, h1, h2⟩ := (C.ok t (by rw [h]; simp)).desc
  rw [h] at h2; cases d <;> simp [tyFits] at h2; exact h1
theorem und_intT {C : Ctx} {t : TypeId} {k : IntKind} (h : (C.ty t).d = .int k) : C.P.underlying t = some (.int k) := by
  obtain ⟨d, h1, h2⟩ := (C.ok t (by rw [h]; simp)).desc
  rw [h] at h2; cases d <;> simp [tyFits] at h2; subst h2; exact h1

/-- Is a value nil? -/
def aNilEq : Ty → AV → AV → Option Bool
  | .ptr _, .nilptr, .nilptr => some true
  | .ptr _, .nilptr, .ptr _ _ => some false
  | .ptr _, .nilptr, .cptr _ => some false
  | .ptr _, .ptr _ _, .nilptr => some false
  | .ptr _, .cptr _, .nilptr => some false
  | .iface _, .nilIface, .nilIface => some true
  | .iface _, .nilIface, .iface _ _ => some false
  | .iface _, .iface _ _, .nilIface => some false
  | .func, .nilFunc, .nilFunc => some true
  | .func, .nilFunc, .func _ _ _ => some false
  | .func, .func _ _ _, .nilFunc => some false
  | .map _ _, .nilmap, .nilmap => some true
  | .map _ _, .nilmap, .map _ => some false
  | .map _ _, .map _, .nilmap => some false
  | .slice _, .slc [] .nil, .slc [] .nil => some true
  | .slice _, .slc (_ :: _) _, .slc [] .nil => some false
  | _, _, _ => none
/-- of what has one cell -/
def aEq1 (t : Ty) (x y : AV) : Option Bool :=
  match t, x, y with
  | .bool, .bool a, .bool b => some (cond a b (!b))
  | .int _, .int k a, .int k' b => cond (kEq k k') (some (eqI a b)) none
  | .str, .str a, .str b => some (eqS a b)
  | t, x, y => aNilEq t x y
def aPart (C : Ctx) (t : TypeId) (cells : List AV) (o : Nat) : Option AV :=
  cond (C.ty t).d.known (cond (C.ty t).d.agg (some (.agg ((cells.drop o).take (C.ty t).size))) (match cells[o]? with | some c => force c | none => none)) none
def aEqF (C : Ctx) (eq : TypeId → AV → AV → Option Bool) (xs ys : List AV) : List (Nat × TypeId) → Option Bool
  | [] => some true
  | (o, t) :: r => match aPart C t xs o, aPart C t ys o with
    | some a, some b => match eq t a b, aEqF C eq xs ys r with
      | some p, some q => some (cond p q false)
      | _, _ => none
    | _, _ => none
/-- d: how deep -/
def aEqIn (C : Ctx) : Nat → TypeId → AV → AV → Option Bool
  | 0, t, x, y => aEq1 (C.ty t).d x y
  | d + 1, t, x, y => match (C.ty t).d, x, y with
    | .struct fs, .agg xs, .agg ys => aEqF C (aEqIn C d) xs ys fs
    | t, x, y => aEq1 t x y

def eqReady (P : Program) : Nat → TypeId → Bool
  | 0, _ => true
  | d + 1, t => match P.underlying t with
    | some (.struct fs) => !P.stoodInHeld t && fs.toList.all fun f => (f.name != "_") && eqReady P d f.type
    | _ => true

theorem run_part {C : Ctx} {G : Ghost} {t : TypeId} {cells : List AV} {vs : List Value} {o : Nat} {v : AV} (hr : RepL G cells vs) (h : aPart C t cells o = some v) (w : World) :
    ∃ cv, (part t vs.toArray o).run C.P w = .ok cv w ∧ Rep G v cv := by
  unfold aPart at h
  cases hk : (C.ty t).d.known with
  | false => rw [hk] at h; cases h
  | true =>
    rw [hk] at h
    cases ha : (C.ty t).d.agg with
    | true =>
      rw [ha] at h
      cases h
      refine ⟨_, by simp [part, run_isAgg_ (Ty.ne_other hk), ha, run_sizeOf_ (Ty.ne_other hk)]; rfl, ?_⟩
      exact Rep.agg_mk ((hr.drop o).take (C.ty t).size)
    | false =>
      rw [ha] at h
      simp only [cond_true, cond_false] at h
      split at h
      · rename_i c hc
        obtain ⟨u, h1, h2, _⟩ := hr.at_ hc
        refine ⟨u, by simp [part, run_isAgg_ (Ty.ne_other hk), ha, h1], force_eq h ▸ h2⟩
      · cases h

theorem run_nilEq {C : Ctx} {G : Ghost} {t : TypeId} {T : Ty} {x y : AV} {cx cy : Value} {b : Bool} (hd : (C.ty t).d = T) (h : aNilEq T x y = some b) (hx : Rep G x cx) (hy : Rep G y cy) (N : Nat) (w : World) :
    (Op.equalIn (N + 1) t cx cy).run C.P w = .ok b w := by
  unfold aNilEq at h
  split at h
  all_goals cases h
  all_goals first
    | (cases hx; cases hy; simp only [Op.equalIn, Sem.run_bind, run_underlying (und_ptr' hd), Result.andThen_ok]; rfl)
    | (cases hx; cases hy; obtain ⟨ms, hu⟩ := und_iface' hd; simp only [Op.equalIn, Sem.run_bind, run_underlying hu, Result.andThen_ok]; rfl)
    | (cases hx; cases hy; obtain ⟨_, _, _, hu⟩ := und_func' hd; simp only [Op.equalIn, Sem.run_bind, run_underlying hu, Result.andThen_ok]; rfl)
    | (cases hx; cases hy; simp only [Op.equalIn, Sem.run_bind, run_underlying (und_map hd), Result.andThen_ok]; rfl)
    | skip
  · cases hx with | slc _ _ a cap sz f _ _ _ _ _ he =>
    cases hy with | slc _ _ a' cap' sz' f' _ _ _ _ _ he' =>
    obtain ⟨rfl, rfl⟩ := he; obtain ⟨rfl, rfl⟩ := he'
    simp [Op.equalIn, run_underlying (und_slice hd)]
  · cases hx with | slc _ _ a cap sz f _ ha _ _ _ he =>
    cases hy with | slc _ _ a' cap' sz' f' _ _ _ _ _ he' =>
    obtain ⟨rfl, rfl⟩ := he'
    obtain ⟨b0, o0, rfl, _⟩ := ha (by simp)
    simp [Op.equalIn, run_underlying (und_slice hd)]

theorem run_eq1 {C : Ctx} {G : Ghost} {t : TypeId} {x y : AV} {cx cy : Value} {b : Bool} (h : aEq1 (C.ty t).d x y = some b) (hx : Rep G x cx) (hy : Rep G y cy) (N : Nat) (w : World) :
    (Op.equalIn (N + 1) t cx cy).run C.P w = .ok b w := by
  unfold aEq1 at h
  split at h
  · rename_i a b' hd
    cases h
    rw [hx.bool_inv, hy.bool_inv]
    simp [Op.equalIn, run_underlying (und_bool hd)]
    cases a <;> cases b' <;> rfl
  · rename_i k0 k a k' b' hd
    cases hk : kEq k k' with
    | false => rw [hk] at h; cases h
    | true =>
      rw [hk] at h; cases h
      have := kEq_eq hk; subst this
      rw [hx.int_inv, hy.int_inv]
      simp [Op.equalIn, run_underlying (und_intT hd), eqI_def]
      rfl
  · rename_i a b' hd
    cases h
    rw [hx.str_inv, hy.str_inv]
    rw [run_equalIn_string w N t _ _ (und_strT hd), eqS_def, ByteArray.toList_eq, ByteArray.toList_eq]
    have e : ((a == b') : Bool) = decide (a = b') := by rw [Bool.eq_iff_iff]; simp
    rw [← e]
  · exact run_nilEq rfl h hx hy N w

theorem run_eqF {C : Ctx} {G : Ghost} {eq : TypeId → AV → AV → Option Bool} {N : Nat} {xs ys : List AV} {vs us : List Value} (hx : RepL G xs vs) (hy : RepL G ys us)
    (ih : ∀ (t : TypeId) (x y : AV) (b : Bool) (cx cy : Value), eqReady C.P N t = true → eq t x y = some b → Rep G x cx → Rep G y cy → ∀ M, N ≤ M → ∀ w, (Op.equalIn (M + 1) t cx cy).run C.P w = .ok b w) {M : Nat} (hM : N ≤ M) :
    ∀ (fs : List Field) (b : Bool), fs.all (fun f => (f.name != "_") && eqReady C.P N f.type) = true → aEqF C eq xs ys (fs.map fun f => (f.offset, f.type)) = some b → ∀ w, (Op.eqFields (M + 1) vs.toArray us.toArray fs).run C.P w = .ok b w
  | [], b, _, h, w => by simp [aEqF] at h; subst h; simp [Op.eqFields]
  | f :: r, b, hr, h, w => by
    simp only [List.all_cons, Bool.and_eq_true] at hr
    obtain ⟨⟨hn, hrd⟩, hr⟩ := hr
    simp only [List.map_cons, aEqF] at h
    split at h
    · rename_i a a' h1 h2
      split at h
      · rename_i p q h3 h4
        cases h
        obtain ⟨ca, e1, r1⟩ := run_part hx h1 w
        obtain ⟨cb, e2, r2⟩ := run_part hy h2 w
        have e3 := ih _ _ _ _ _ _ hrd h3 r1 r2 M hM w
        have e4 := run_eqF hx hy ih hM r q hr h4 w
        have hn' : f.name ≠ "_" := by simpa using hn
        simp only [Op.eqFields, if_pos hn', Sem.run_bind, e1, Result.andThen_ok, e2, e3]
        cases p with
        | true => simpa using e4
        | false => simp
      · cases h
    · cases h

theorem run_eqIn {C : Ctx} {G : Ghost} : ∀ (d : Nat) (t : TypeId) (x y : AV) (b : Bool) (cx cy : Value), eqReady C.P d t = true → aEqIn C d t x y = some b → Rep G x cx → Rep G y cy → ∀ M, d ≤ M → ∀ w, (Op.equalIn (M + 1) t cx cy).run C.P w = .ok b w
  | 0, t, x, y, b, cx, cy, _, h, hx, hy, M, _, w => run_eq1 h hx hy M w
  | d + 1, t, x, y, b, cx, cy, hr, h, hx, hy, M, hM, w => by
    unfold aEqIn at h
    split at h
    · rename_i fs xs ys hd
      obtain ⟨vs, rfl, hvs⟩ := hx.agg_inv
      obtain ⟨us, rfl, hus⟩ := hy.agg_inv
      obtain ⟨fields, hu, hff⟩ := und_struct hd
      have hfo : C.P.fieldsOf t = fields := by simp [Program.fieldsOf, hu]
      unfold eqReady at hr
      rw [hu] at hr
      simp only [Bool.and_eq_true, Bool.not_eq_true'] at hr
      rw [run_equalIn_struct w M t _ _ (by rw [hfo]; exact hu) hr.1, hfo]
      obtain ⟨M', rfl⟩ : ∃ M', M = M' + 1 := ⟨M - 1, by omega⟩
      exact run_eqF hvs hus (fun t x y b cx cy h1 h2 h3 h4 => run_eqIn d t x y b cx cy h1 h2 h3 h4) (by omega) fields.toList b hr.2 (by rw [← hff]; exact h) w
    · exact run_eq1 h hx hy M w

section
variable {C : Ctx} {n p0 : Nat} {out loc : List AObj} {env : Nat → AV}
variable {d : Option Nat} {ty : TypeId} {pos : String} {aft : Array Edge} {gd : Option (Nat × Bool)}

def isConstOp : Operand → Bool
  | .const _ => true
  | _ => false
/-- may the model's guard of '==' pass? -/
def eqPass (x y : Operand) : AV → AV → Bool
  | .nilIface, .nilIface => isConstOp x || isConstOp y
  | .agg _, _ => false
  | .any, _ => false
  | .int _ _, _ => false
  | .str _, _ => false
  | .tuple _, _ => false
  | _, _ => true
def aEqR (op : BinOp) (b : Bool) : Option AV :=
  match op with
  | .eql => some (.bool b)
  | .neq => some (.bool (!b))
  | _ => none
def aEqOp (C : Ctx) (E : Operand → AV) : Op → Option AV
  | .binOp op t x y _ => cond (eqPass x y (E x) (E y)) (match aEq1 (C.ty t).d (E x) (E y) with | some b => aEqR op b | none => none) none
  | _ => none

def eqHead : Value → Bool
  | .bool _ | .pointer _ | .slice _ _ _ | .map _ | .func _ _ _ | .nilFunc | .iface _ _ | .nilIface => true
  | _ => false
theorem binOp_eql {t : TypeId} {cx cy : Value} (h : eqHead cx = true) : binOp .eql t cx cy = (do pure (.bool (← Op.equal t cx cy))) := by
  cases cx <;> first | rfl | cases h
theorem binOp_neq {t : TypeId} {cx cy : Value} (h : eqHead cx = true) : binOp .neq t cx cy = (do pure (.bool (!(← Op.equal t cx cy)))) := by
  cases cx <;> first | rfl | cases h
theorem eqPass_head {x y : Operand} {vx vy : AV} {cx : Value} {G : Ghost} (h : eqPass x y vx vy = true) (hx : Rep G vx cx) : eqHead cx = true := by
  cases hx <;> first | rfl | (simp [eqPass] at h)
theorem eqGuard_pass {op : BinOp} {t : TypeId} {x y : Operand} {vx vy : AV} {cx cy : Value} {G : Ghost} (h : eqPass x y vx vy = true) (hx : Rep G vx cx) (hy : Rep G vy cy) (b : Bool) (hb : aEq1 (C.ty t).d vx vy = some b) (w : World) : (eqGuard op t x y cx cy).run C.P w = .ok () w := by
  have hn : (∀ a, cx ≠ .agg a) := by
    intro a ha; subst ha; cases hx <;> simp [eqPass] at h
  by_cases hnn : cx = .nilIface ∧ cy = .nilIface
  · obtain ⟨rfl, rfl⟩ := hnn
    have hc : isConstOp x || isConstOp y = true := by
      cases hx <;> cases hy <;> simp_all [eqPass, aEq1, aNilEq]
    cases op <;> simp [eqGuard] <;> (cases x <;> cases y <;> simp_all [isConstOp])
  · cases op <;> simp only [eqGuard] <;> first | rfl | skip
    all_goals (
      cases cx <;> first | (exact absurd rfl (hn _)) | skip
      all_goals (cases cy <;> first | rfl | (exact absurd ⟨rfl, rfl⟩ hnn)))

theorem St.eqSc {op : Op} {v : AV} (h : aEqOp C (ev C ⟨n, p0, out, loc, env⟩) op = some v) : OpStep C { dst := d, op := op, type := ty, pos := pos, after := aft, guard := gd } ⟨n, p0, out, loc, env⟩ v out loc := by
  unfold aEqOp at h
  split at h
  · rename_i bop t x y yt
    cases hp : eqPass x y (ev C ⟨n, p0, out, loc, env⟩ x) (ev C ⟨n, p0, out, loc, env⟩ y) with
    | false => rw [hp] at h; cases h
    | true =>
      rw [hp] at h
      simp only [cond_true] at h
      split at h
      · rename_i b hb
        refine OpStep.pure_ (fun G w a hs => ?_)
        have h1 := rep_ev hs x
        have h2 := rep_ev hs y
        have hg := eqGuard_pass (C := C) (op := bop) hp h1 h2 b hb w
        have he := run_eq1 hb h1 h2 9999 w
        have hh := eqPass_head hp h1
        unfold aEqR at h
        split at h
        · cases h
          refine ⟨.bool b, ?_, .bool b⟩
          simp [execOp, hg, binOp_eql hh, binOp_neq hh, Op.equal, Op.maxDepth, he]
        · cases h
          refine ⟨.bool (!b), ?_, .bool _⟩
          simp [execOp, hg, binOp_eql hh, binOp_neq hh, Op.equal, Op.maxDepth, he]
        · cases h
      · cases h
  · cases h

def aEqAgg (C : Ctx) (E : Operand → AV) : Op → Option AV
  | .binOp op t x y _ => match E x, E y with
    | .agg xs, .agg ys => match aEqIn C 6 t (.agg xs) (.agg ys) with | some b => aEqR op b | none => none
    | _, _ => none
  | _ => none
def eqT : Op → TypeId
  | .binOp _ t _ _ _ => t
  | _ => 0
theorem St.eqAgg {op : Op} {v : AV} (h : aEqAgg C (ev C ⟨n, p0, out, loc, env⟩) op = some v) (hr : eqReady C.P 6 (eqT op) = true) (hg : C.P.eqGuardType C.P.depth (eqT op) = false) :
    OpStep C { dst := d, op := op, type := ty, pos := pos, after := aft, guard := gd } ⟨n, p0, out, loc, env⟩ v out loc := by
  unfold aEqAgg at h
  split at h
  · rename_i bop t x y yt
    split at h
    · rename_i xs ys hx hy
      split at h
      · rename_i b hb
        refine OpStep.pure_ (fun G w a hs => ?_)
        have h1 := rep_ev hs x; rw [hx] at h1
        have h2 := rep_ev hs y; rw [hy] at h2
        have he := run_eqIn 6 t _ _ b _ _ hr hb h1 h2 9999 (by omega) w
        obtain ⟨vs, e1, _⟩ := h1.agg_inv
        obtain ⟨us, e2, _⟩ := h2.agg_inv
        rw [e1, e2] at he
        unfold aEqR at h
        split at h
        · cases h
          refine ⟨.bool b, ?_, .bool b⟩
          have hg' := run_eqGuard_agg (P := C.P) w .eql t x y vs.toArray us.toArray hg
          simp [execOp, e1, e2, hg', run_eql_struct, he]
        · cases h
          refine ⟨.bool (!b), ?_, .bool _⟩
          have hg' := run_eqGuard_agg (P := C.P) w .neq t x y vs.toArray us.toArray hg
          simp [execOp, e1, e2, hg', run_neq_struct, he]
        · cases h
      · cases h
    · cases h
  · cases h
end
end Go.Av
