/-
  AvRules: a rule for each operation that leaves the store alone.
-/
import Derived.Test.YtdfmefkjjdlbiaaDoorAvOps
import Derived.Laws.Strings
namespace Go.Av
open Go.RowKit (Below)
set_option linter.unusedVariables false
set_option linter.unusedSimpArgs false

section
variable {C : Ctx} {ops : Array Oper} {rest : List Oper} {Q : Exit → AState → Prop} {n p0 : Nat} {out loc : List AObj} {env : Nat → AV}
variable {d : Option Nat} {ty : TypeId} {pos : String} {aft : Array Edge} {gd : Option (Nat × Bool)}

/-- A value, its head laid bare. -/
def force : AV → Option AV
  | .any => some .any
  | .bool b => some (.bool b)
  | .int k n => some (.int k n)
  | .str s => some (.str s)
  | .ptr i o => some (.ptr i o)
  | .cptr c => some (.cptr c)
  | .nilptr => some .nilptr
  | .slc x e => some (.slc x e)
  | .arr i o l c => some (.arr i o l c)
  | .map i => some (.map i)
  | .nilmap => some .nilmap
  | .func f a b => some (.func f a b)
  | .nilFunc => some .nilFunc
  | .iface t v => some (.iface t v)
  | .nilIface => some .nilIface
  | .agg c => some (.agg c)
  | .tuple v => some (.tuple v)
theorem force_eq {x v : AV} (h : force x = some v) : x = v := by cases x <;> (simp only [force, Option.some.injEq] at h; exact h)

theorem Rep.bool_inv {G : Ghost} {b : Bool} {cv : Value} (h : Rep G (.bool b) cv) : cv = .bool b := by cases h; rfl
theorem Rep.int_inv {G : Ghost} {k : IntKind} {a : Int} {cv : Value} (h : Rep G (.int k a) cv) : cv = .int k a := by cases h; rfl
theorem Rep.str_inv {G : Ghost} {s : List UInt8} {cv : Value} (h : Rep G (.str s) cv) : cv = .string ⟨⟨s⟩⟩ := by cases h; rfl

theorem St.move {x : Operand} {v : AV} (hx : force (ev C ⟨n, p0, out, loc, env⟩ x) = some v) : OpStep C { dst := d, op := .move x, type := ty, pos := pos, after := aft, guard := gd } ⟨n, p0, out, loc, env⟩ v out loc :=
  OpStep.pure_ (fun G w a hs => ⟨a.eval x, rfl, force_eq hx ▸ rep_ev hs x⟩)
theorem St.assign {x : Operand} {v : AV} (hx : force (ev C ⟨n, p0, out, loc, env⟩ x) = some v) : OpStep C { dst := d, op := .assign x, type := ty, pos := pos, after := aft, guard := gd } ⟨n, p0, out, loc, env⟩ v out loc :=
  OpStep.pure_ (fun G w a hs => ⟨a.eval x, rfl, force_eq hx ▸ rep_ev hs x⟩)
/-- the same where the value's head isn't known -/
theorem St.move' {x : Operand} : OpStep C { dst := d, op := .move x, type := ty, pos := pos, after := aft, guard := gd } ⟨n, p0, out, loc, env⟩ (ev C ⟨n, p0, out, loc, env⟩ x) out loc :=
  OpStep.pure_ (fun G w a hs => ⟨a.eval x, rfl, rep_ev hs x⟩)
theorem St.assign' {x : Operand} : OpStep C { dst := d, op := .assign x, type := ty, pos := pos, after := aft, guard := gd } ⟨n, p0, out, loc, env⟩ (ev C ⟨n, p0, out, loc, env⟩ x) out loc :=
  OpStep.pure_ (fun G w a hs => ⟨a.eval x, rfl, rep_ev hs x⟩)

/-! ### Guards -/
theorem WpL.guardO {o : Oper} {j : Nat} {b : Bool} {oj : Oper} {t : Nat} {c : Bool} (hg : o.guard = some (j, b)) (hj : ops[j]? = some oj) (ht : oj.dst = some t) (htn : t < n)
    (hc : env t = .bool c)
    (K1 : c = b → WpL C ops ({ o with guard := none } :: rest) Q ⟨n, p0, out, loc, upd (some t) (.bool b) env⟩)
    (K2 : c = (!b) → WpL C ops rest Q ⟨n, p0, out, loc, upd o.dst (.tuple []) (upd (some t) (.bool (!b)) env)⟩) : WpL C ops (o :: rest) Q ⟨n, p0, out, loc, env⟩ := by
  intro G w a hs
  have hr := hs.env t htn
  simp only at hr
  rw [hc] at hr
  have hcv := hr.bool_inv
  have hy : yielded ops a.tmps j = some c := by
    simp only [yielded, hj, Option.bind_some, ht]
    have : a.tmps[t]? = some (.bool c) := by
      have hlt : t < a.tmps.size := by rw [hs.size]; exact htn
      rw [Array.getD_eq_getD_getElem?, Array.getElem?_eq_getElem hlt] at hcv
      rw [Array.getElem?_eq_getElem hlt]
      simpa using hcv
    rw [this]
  have hsim : ∀ b', c = b' → Sim C G ⟨n, p0, out, loc, upd (some t) (.bool b') env⟩ w a := by
    intro b' e
    refine ⟨hs.size, hs.defers, ?_, hs.outlen, hs.mem⟩
    intro i hi
    simp only [upd]
    cases hb : Nat.beq i t with
    | true => have := Nat.eq_of_beq_eq_true hb; subst this; simp only [cond_true]; rw [hcv, e]; exact .bool b'
    | false => exact hs.env i hi
  simp only [wpOpers, Region.wanted, hg, hy]
  cases hcb : (c == b) with
  | true =>
    have e : c = b := by simpa using hcb
    have := K1 e G w a (hsim b e)
    simp only [wpOpers, Region.wanted] at this
    have hw : ∀ nx, Oper.wp C.P { o with guard := none } a w nx (Post C Q G p0) = Oper.wp C.P o a w nx (Post C Q G p0) := fun nx => by cases o; rfl
    rw [if_pos trivial, hw] at this
    simpa [e] using this
  | false =>
    have e : c = !b := by cases c <;> cases b <;> simp_all
    have hs' := hsim _ e
    have := K2 e G w (a.put o.dst undef) ⟨?_, ?_, ?_, hs.outlen, hs.mem⟩
    · simpa [e] using this
    · cases hd : o.dst <;> simpa [Act.put] using hs.size
    · cases hd : o.dst <;> simpa [Act.put] using hs.defers
    · exact upd_put (env := upd (some t) (.bool (!b)) env) hs.size hs'.env o.dst (Rep.tuple (G := G) [] [] rfl (fun i h => absurd h (Nat.not_lt_zero _)))

/-- the test itself was passed by -/
theorem WpL.guardU {o : Oper} {j : Nat} {b : Bool} {oj : Oper} {t : Nat} (hg : o.guard = some (j, b)) (hj : ops[j]? = some oj) (ht : oj.dst = some t) (htn : t < n)
    (hc : env t = .tuple [])
    (K2 : WpL C ops rest Q ⟨n, p0, out, loc, upd o.dst (.tuple []) env⟩) : WpL C ops (o :: rest) Q ⟨n, p0, out, loc, env⟩ := by
  intro G w a hs
  have hr := hs.env t htn
  simp only at hr
  rw [hc] at hr
  have hcv : a.tmps.getD t undef = .tuple #[] := by
    generalize a.tmps.getD t undef = v at hr
    cases hr with
    | tuple _ vs hl _ => have := List.eq_nil_of_length_eq_zero hl.symm; subst this; rfl
  have hy : yielded ops a.tmps j = none := by
    simp only [yielded, hj, Option.bind_some, ht]
    have : a.tmps[t]? = some (.tuple #[]) := by
      have hlt : t < a.tmps.size := by rw [hs.size]; exact htn
      rw [Array.getD_eq_getD_getElem?, Array.getElem?_eq_getElem hlt] at hcv
      rw [Array.getElem?_eq_getElem hlt]
      simpa using hcv
    rw [this]
  have := K2 G w (a.put o.dst undef) ⟨?_, ?_, ?_, hs.outlen, hs.mem⟩
  · simp only [wpOpers, Region.wanted, hg, hy]
    simpa using this
  · cases hd : o.dst <;> simpa [Act.put] using hs.size
  · cases hd : o.dst <;> simpa [Act.put] using hs.defers
  · exact upd_put (env := env) hs.size hs.env o.dst (Rep.tuple (G := G) [] [] rfl (fun i h => absurd h (Nat.not_lt_zero _)))

variable {op : Op}
/-- a guard whose test is known: the operation is carried out -/
theorem WpL.gTake {j t : Nat} {b : Bool} (hj : (ops[j]?).bind (·.dst) = some t) (htn : t < n) (hc : env t = .bool b)
    (K : WpL C ops ({ dst := d, op := op, type := ty, pos := pos, after := aft, guard := none } :: rest) Q ⟨n, p0, out, loc, env⟩) :
    WpL C ops ({ dst := d, op := op, type := ty, pos := pos, after := aft, guard := some (j, b) } :: rest) Q ⟨n, p0, out, loc, env⟩ := by
  cases ho : ops[j]? with
  | none => rw [ho] at hj; simp at hj
  | some oj =>
    rw [ho] at hj
    refine WpL.guardO rfl ho (by simpa using hj) htn hc (fun _ => ?_) (fun e => absurd e (by cases b <;> simp))
    have e : upd (some t) (.bool b) env = env := by
      funext u
      by_cases hu : u = t
      · subst hu; simp [upd, Nat.beq_refl, hc]
      · simp only [upd]
        cases hb : Nat.beq u t with
        | true => exact absurd (Nat.eq_of_beq_eq_true hb) hu
        | false => rfl
    rw [e]; exact K
/-- .. it is passed by -/
theorem WpL.gSkip {j t : Nat} {b : Bool} (hj : (ops[j]?).bind (·.dst) = some t) (htn : t < n) (hc : env t = .bool (!b))
    (K : WpL C ops rest Q ⟨n, p0, out, loc, upd d (.tuple []) env⟩) :
    WpL C ops ({ dst := d, op := op, type := ty, pos := pos, after := aft, guard := some (j, b) } :: rest) Q ⟨n, p0, out, loc, env⟩ := by
  cases ho : ops[j]? with
  | none => rw [ho] at hj; simp at hj
  | some oj =>
    rw [ho] at hj
    refine WpL.guardO rfl ho (by simpa using hj) htn hc (fun e => absurd e (by cases b <;> simp)) (fun _ => ?_)
    have e : upd (some t) (.bool (!b)) env = env := by
      funext u
      by_cases hu : u = t
      · subst hu; simp [upd, Nat.beq_refl, hc]
      · simp only [upd]
        cases hb : Nat.beq u t with
        | true => exact absurd (Nat.eq_of_beq_eq_true hb) hu
        | false => rfl
    rw [e]; exact K
/-- .. it isn't known: both ways -/
theorem WpL.gSplit {j t : Nat} {b c : Bool} {o : Oper} (hj : (ops[j]?).bind (·.dst) = some t) (htn : t < n) (hc : env t = .bool c) (ho : o = { dst := d, op := op, type := ty, pos := pos, after := aft, guard := some (j, b) })
    (K1 : c = true → WpL C ops (o :: rest) Q ⟨n, p0, out, loc, upd (some t) (.bool true) env⟩) (K2 : c = false → WpL C ops (o :: rest) Q ⟨n, p0, out, loc, upd (some t) (.bool false) env⟩) :
    WpL C ops ({ dst := d, op := op, type := ty, pos := pos, after := aft, guard := some (j, b) } :: rest) Q ⟨n, p0, out, loc, env⟩ := by
  have e : ∀ b, c = b → upd (some t) (.bool b) env = env := by
    intro b hc'
    funext u
    by_cases hu : u = t
    · subst hu; simp [upd, Nat.beq_refl, hc, hc']
    · simp only [upd]
      cases hb : Nat.beq u t with
      | true => exact absurd (Nat.eq_of_beq_eq_true hb) hu
      | false => rfl
  subst ho
  cases hc' : c with
  | true => have := K1 hc'; rwa [e true hc'] at this
  | false => have := K2 hc'; rwa [e false hc'] at this

/-! ### Whole numbers -/
/-- Tests on whole numbers, behind names that the unifier doesn't open. -/
@[irreducible] def ltI (a b : Int) : Bool := decide (a < b)
@[irreducible] def leI (a b : Int) : Bool := decide (a ≤ b)
@[irreducible] def eqI (a b : Int) : Bool := decide (a = b)
@[irreducible] def eqS (a b : List UInt8) : Bool := decide (a = b)
@[irreducible] def ltS (a b : List UInt8) : Bool := Op.bytesLess a b
theorem ltI_def (a b : Int) : ltI a b = decide (a < b) := by unfold ltI; rfl
theorem leI_def (a b : Int) : leI a b = decide (a ≤ b) := by unfold leI; rfl
theorem eqI_def (a b : Int) : eqI a b = decide (a = b) := by unfold eqI; rfl
theorem eqS_def (a b : List UInt8) : eqS a b = decide (a = b) := by unfold eqS; rfl
theorem ltS_def (a b : List UInt8) : ltS a b = Op.bytesLess a b := by unfold ltS; rfl
theorem ltI_t {a b : Int} : ltI a b = true ↔ a < b := by rw [ltI_def]; simp
theorem ltI_f {a b : Int} : ltI a b = false ↔ b ≤ a := by rw [ltI_def]; simp
theorem leI_t {a b : Int} : leI a b = true ↔ a ≤ b := by rw [leI_def]; simp
theorem leI_f {a b : Int} : leI a b = false ↔ b < a := by rw [leI_def]; simp
theorem eqI_t {a b : Int} : eqI a b = true ↔ a = b := by rw [eqI_def]; simp
theorem eqI_f {a b : Int} : eqI a b = false ↔ a ≠ b := by rw [eqI_def]; simp
theorem eqS_t {a b : List UInt8} : eqS a b = true ↔ a = b := by rw [eqS_def]; simp
theorem eqS_f {a b : List UInt8} : eqS a b = false ↔ a ≠ b := by rw [eqS_def]; simp
def aInt (op : BinOp) (k : IntKind) (a b : Int) : Option AV :=
  match op with
  | .add => some (.int k (k.wrap (a + b)))
  | .sub => some (.int k (k.wrap (a - b)))
  | .mul => some (.int k (k.wrap (a * b)))
  | .and => some (.int k (k.wrap (BitVec.ofInt k.bits a &&& BitVec.ofInt k.bits b).toNat))
  | .or => some (.int k (k.wrap (BitVec.ofInt k.bits a ||| BitVec.ofInt k.bits b).toNat))
  | .xor => some (.int k (k.wrap (BitVec.ofInt k.bits a ^^^ BitVec.ofInt k.bits b).toNat))
  | .andNot => some (.int k (k.wrap (BitVec.ofInt k.bits a &&& ~~~ BitVec.ofInt k.bits b).toNat))
  | .eql => some (.bool (eqI a b))
  | .neq => some (.bool (!eqI a b))
  | .lss => some (.bool (ltI a b))
  | .leq => some (.bool (leI a b))
  | .gtr => some (.bool (ltI b a))
  | .geq => some (.bool (leI b a))
  | _ => none

theorem St.bin {op : BinOp} {xt yt : TypeId} {x y : Operand} {k : IntKind} {p q : Int} {v : AV} (hx : ev C ⟨n, p0, out, loc, env⟩ x = .int k p) (hy : ev C ⟨n, p0, out, loc, env⟩ y = .int k q)
    (hv : aInt op k p q = some v) : OpStep C { dst := d, op := .binOp op xt x y yt, type := ty, pos := pos, after := aft, guard := gd } ⟨n, p0, out, loc, env⟩ v out loc := by
  refine OpStep.pure_ (fun G w a hs => ?_)
  have h1 := rep_ev hs x; rw [hx] at h1
  have h2 := rep_ev hs y; rw [hy] at h2
  have e1 := h1.int_inv; have e2 := h2.int_inv
  cases op <;> simp only [aInt, Option.some.injEq, reduceCtorEq] at hv <;> subst hv <;>
    simp [execOp, e1, e2, eqGuard, binOp, Op.intArith, Op.intBits, Op.intCmp, ltI_def, leI_def, eqI_def] <;> first
    | exact .int _ _
    | (have hh := Rep.bool (G := G) (decide (p = q)); simpa [beq_iff_eq] using hh)
    | (have hh := Rep.bool (G := G) (!decide (p = q)); simpa [bne] using hh)
    | exact .bool _

theorem St.quo {xt yt : TypeId} {x y : Operand} {k : IntKind} {p q : Int} (hx : ev C ⟨n, p0, out, loc, env⟩ x = .int k p) (hy : ev C ⟨n, p0, out, loc, env⟩ y = .int k q)
    (hq : q ≠ 0) : OpStep C { dst := d, op := .binOp .quo xt x y yt, type := ty, pos := pos, after := aft, guard := gd } ⟨n, p0, out, loc, env⟩ (.int k (k.wrap (p.tdiv q))) out loc := by
  refine OpStep.pure_ (fun G w a hs => ?_)
  have h1 := rep_ev hs x; rw [hx] at h1
  have h2 := rep_ev hs y; rw [hy] at h2
  have e1 := h1.int_inv; have e2 := h2.int_inv
  simp [execOp, e1, e2, eqGuard, binOp, Op.intDiv, hq]
  exact .int _ _
theorem St.rem {xt yt : TypeId} {x y : Operand} {k : IntKind} {p q : Int} (hx : ev C ⟨n, p0, out, loc, env⟩ x = .int k p) (hy : ev C ⟨n, p0, out, loc, env⟩ y = .int k q)
    (hq : q ≠ 0) : OpStep C { dst := d, op := .binOp .rem xt x y yt, type := ty, pos := pos, after := aft, guard := gd } ⟨n, p0, out, loc, env⟩ (.int k (p.tmod q)) out loc := by
  refine OpStep.pure_ (fun G w a hs => ?_)
  have h1 := rep_ev hs x; rw [hx] at h1
  have h2 := rep_ev hs y; rw [hy] at h2
  have e1 := h1.int_inv; have e2 := h2.int_inv
  simp [execOp, e1, e2, eqGuard, binOp, Op.intDiv, hq]
  exact .int _ _
theorem St.shl {xt yt : TypeId} {x y : Operand} {k k' : IntKind} {p q : Int} (hx : ev C ⟨n, p0, out, loc, env⟩ x = .int k p) (hy : ev C ⟨n, p0, out, loc, env⟩ y = .int k' q)
    (hq : 0 ≤ q) : OpStep C { dst := d, op := .binOp .shl xt x y yt, type := ty, pos := pos, after := aft, guard := gd } ⟨n, p0, out, loc, env⟩ (.int k (k.wrap (p * 2 ^ (min q.toNat k.bits)))) out loc := by
  refine OpStep.pure_ (fun G w a hs => ?_)
  have h1 := rep_ev hs x; rw [hx] at h1
  have h2 := rep_ev hs y; rw [hy] at h2
  have e1 := h1.int_inv; have e2 := h2.int_inv
  have hq' : ¬ q < 0 := by omega
  simp [execOp, e1, e2, eqGuard, binOp, Op.shift, hq']
  exact .int _ _
theorem St.shr {xt yt : TypeId} {x y : Operand} {k k' : IntKind} {p q : Int} (hx : ev C ⟨n, p0, out, loc, env⟩ x = .int k p) (hy : ev C ⟨n, p0, out, loc, env⟩ y = .int k' q)
    (hq : 0 ≤ q) : OpStep C { dst := d, op := .binOp .shr xt x y yt, type := ty, pos := pos, after := aft, guard := gd } ⟨n, p0, out, loc, env⟩ (.int k (p.fdiv (2 ^ (min q.toNat k.bits)))) out loc := by
  refine OpStep.pure_ (fun G w a hs => ?_)
  have h1 := rep_ev hs x; rw [hx] at h1
  have h2 := rep_ev hs y; rw [hy] at h2
  have e1 := h1.int_inv; have e2 := h2.int_inv
  have hq' : ¬ q < 0 := by omega
  simp [execOp, e1, e2, eqGuard, binOp, Op.shift, hq']
  exact .int _ _

def aUn (op : UnOp) : AV → Option AV
  | .bool b => match op with | .not => some (.bool (!b)) | _ => none
  | .int k q => match op with
    | .neg => some (.int k (k.wrap (0 - q)))
    | .xor => some (.int k (k.wrap (BitVec.ofInt k.bits (if k.signed then -1 else k.max) ^^^ BitVec.ofInt k.bits q).toNat))
    | _ => none
  | _ => none
theorem St.un {op : UnOp} {xt : TypeId} {x : Operand} {v : AV} (hv : aUn op (ev C ⟨n, p0, out, loc, env⟩ x) = some v) : OpStep C { dst := d, op := .unOp op xt x, type := ty, pos := pos, after := aft, guard := gd } ⟨n, p0, out, loc, env⟩ v out loc := by
  refine OpStep.pure_ (fun G w a hs => ?_)
  have h1 := rep_ev hs x
  generalize ev C ⟨n, p0, out, loc, env⟩ x = u at *
  cases u with
  | bool b =>
    have e1 := h1.bool_inv
    cases op <;> simp only [aUn, Option.some.injEq, reduceCtorEq] at hv
    subst hv
    simp [execOp, e1, Op.unary]
    exact .bool _
  | int k q =>
    have e1 := h1.int_inv
    cases op <;> simp only [aUn, Option.some.injEq, reduceCtorEq] at hv <;> subst hv <;> simp [execOp, e1, Op.unary, Op.intArith, Op.intBits]
    · rw [show -q = 0 - q by omega]; exact .int _ _
    · exact .int _ _
  | _ => cases op <;> simp [aUn] at hv

/-! ### pick -/
theorem St.pickT {c x y : Operand} {v : AV} (hc : ev C ⟨n, p0, out, loc, env⟩ c = .bool true) (hx : force (ev C ⟨n, p0, out, loc, env⟩ x) = some v) : OpStep C { dst := d, op := .pick c x y, type := ty, pos := pos, after := aft, guard := gd } ⟨n, p0, out, loc, env⟩ v out loc := by
  refine OpStep.pure_ (fun G w a hs => ?_)
  have h1 := rep_ev hs c; rw [hc] at h1
  have e1 := h1.bool_inv
  simp [execOp, e1, asBool]
  exact force_eq hx ▸ rep_ev hs x
theorem St.pickF {c x y : Operand} {v : AV} (hc : ev C ⟨n, p0, out, loc, env⟩ c = .bool false) (hx : force (ev C ⟨n, p0, out, loc, env⟩ y) = some v) : OpStep C { dst := d, op := .pick c x y, type := ty, pos := pos, after := aft, guard := gd } ⟨n, p0, out, loc, env⟩ v out loc := by
  refine OpStep.pure_ (fun G w a hs => ?_)
  have h1 := rep_ev hs c; rw [hc] at h1
  have e1 := h1.bool_inv
  simp [execOp, e1, asBool]
  exact force_eq hx ▸ rep_ev hs y
theorem St.pickB {c x y : Operand} {b p q : Bool} (hc : ev C ⟨n, p0, out, loc, env⟩ c = .bool b) (hx : ev C ⟨n, p0, out, loc, env⟩ x = .bool p) (hy : ev C ⟨n, p0, out, loc, env⟩ y = .bool q)
    : OpStep C { dst := d, op := .pick c x y, type := ty, pos := pos, after := aft, guard := gd } ⟨n, p0, out, loc, env⟩ (.bool (cond b p q)) out loc := by
  refine OpStep.pure_ (fun G w a hs => ?_)
  have h1 := rep_ev hs c; rw [hc] at h1
  have h2 := rep_ev hs x; rw [hx] at h2
  have h3 := rep_ev hs y; rw [hy] at h3
  have e1 := h1.bool_inv; have e2 := h2.bool_inv; have e3 := h3.bool_inv
  cases b <;> simp [execOp, e1, e2, e3, asBool] <;> exact .bool _

/-! ### Conversions of whole numbers -/
theorem run_ty {t : TypeId} (C : Ctx) (h : (C.ty t).d ≠ .other) (w : World) : ∃ dd, C.P.underlying t = some dd ∧ tyFits (C.ty t).d dd = true := (C.ok t h).desc
theorem und_int {C : Ctx} {t : TypeId} {k : IntKind} (h : (C.ty t).d = .int k) : C.P.underlying t = some (.int k) := by
  obtain ⟨dd, h1, h2⟩ := (C.ok t (by rw [h]; simp)).desc
  rw [h] at h2
  cases dd <;> simp [tyFits] at h2
  rw [h1, h2]
theorem und_str {C : Ctx} {t : TypeId} (h : (C.ty t).d = .str) : C.P.underlying t = some .string := by
  obtain ⟨dd, h1, h2⟩ := (C.ok t (by rw [h]; simp)).desc
  rw [h] at h2
  cases dd <;> simp [tyFits] at h2
  exact h1
theorem und_bool {C : Ctx} {t : TypeId} (h : (C.ty t).d = .bool) : C.P.underlying t = some .bool := by
  obtain ⟨dd, h1, h2⟩ := (C.ok t (by rw [h]; simp)).desc
  rw [h] at h2
  cases dd <;> simp [tyFits] at h2
  exact h1
theorem und_slice {C : Ctx} {t e : TypeId} (h : (C.ty t).d = .slice e) : C.P.underlying t = some (.slice e) := by
  obtain ⟨dd, h1, h2⟩ := (C.ok t (by rw [h]; simp)).desc
  rw [h] at h2
  cases dd <;> simp [tyFits] at h2
  rw [h1, h2]
theorem und_ptr {C : Ctx} {t e : TypeId} (h : (C.ty t).d = .ptr e) : C.P.underlying t = some (.pointer e) := by
  obtain ⟨dd, h1, h2⟩ := (C.ok t (by rw [h]; simp)).desc
  rw [h] at h2
  cases dd <;> simp [tyFits] at h2
  rw [h1, h2]
theorem und_array {C : Ctx} {t e : TypeId} {m : Nat} (h : (C.ty t).d = .array m e) : C.P.underlying t = some (.array m e) := by
  obtain ⟨dd, h1, h2⟩ := (C.ok t (by rw [h]; simp)).desc
  rw [h] at h2
  cases dd <;> simp [tyFits] at h2
  rw [h1, h2.1, h2.2]
theorem und_map {C : Ctx} {t k e : TypeId} (h : (C.ty t).d = .map k e) : C.P.underlying t = some (.map k e) := by
  obtain ⟨dd, h1, h2⟩ := (C.ok t (by rw [h]; simp)).desc
  rw [h] at h2
  cases dd <;> simp [tyFits] at h2
  rw [h1, h2.1, h2.2]
theorem und_struct {C : Ctx} {t : TypeId} {fs : List (Nat × TypeId)} (h : (C.ty t).d = .struct fs) : ∃ fields, C.P.underlying t = some (.struct fields) ∧ fs = fields.toList.map fun f => (f.offset, f.type) := by
  obtain ⟨dd, h1, h2⟩ := (C.ok t (by rw [h]; simp)).desc
  rw [h] at h2
  cases dd <;> simp [tyFits] at h2
  exact ⟨_, h1, h2⟩
theorem und_iface {C : Ctx} {t : TypeId} {b : Bool} (h : (C.ty t).d = .iface b) : ∃ ms, C.P.underlying t = some (.interface ms) ∧ b = ms.isEmpty := by
  obtain ⟨dd, h1, h2⟩ := (C.ok t (by rw [h]; simp)).desc
  rw [h] at h2
  cases dd <;> simp [tyFits] at h2
  exact ⟨_, h1, by simpa using h2⟩

theorem run_underlying_of {P : Program} {t : TypeId} {dd : TypeDesc} (h : P.underlying t = some dd) (w : World) : (underlying t).run P w = .ok dd w := by
  simp [underlying, h]
theorem run_typeInfo_of {P : Program} {t : TypeId} {i : TypeInfo} (h : P.info? t = some i) (w : World) : (typeInfo t).run P w = .ok i w := by
  simp [typeInfo, h]
theorem run_sizeOf_ {C : Ctx} {t : TypeId} (h : (C.ty t).d ≠ .other) (w : World) : (sizeOf t).run C.P w = .ok (C.ty t).size w := by
  obtain ⟨i, h1, h2, _⟩ := (C.ok t h).size
  simp [sizeOf, run_typeInfo_of h1, h2]
theorem run_isAgg_ {C : Ctx} {t : TypeId} (h : (C.ty t).d ≠ .other) (w : World) : (isAgg t).run C.P w = .ok (C.ty t).d.agg w := by
  obtain ⟨dd, h1, h2⟩ := (C.ok t h).desc
  simp only [isAgg, Sem.run_bind, run_underlying_of h1, Result.andThen_ok]
  cases dd <;> cases hd : (C.ty t).d <;> simp [hd, tyFits] at h2 <;> rfl

theorem St.conv {src dst : TypeId} {x : Operand} {k k' : IntKind} {p : Int} (hx : ev C ⟨n, p0, out, loc, env⟩ x = .int k p) (hs : (C.ty src).d = .int k) (ht : (C.ty dst).d = .int k')
    : OpStep C { dst := d, op := .convert src dst x, type := ty, pos := pos, after := aft, guard := gd } ⟨n, p0, out, loc, env⟩ (.int k' (k'.wrap p)) out loc := by
  refine OpStep.pure_ (fun G w a hs' => ?_)
  have h1 := rep_ev hs' x; rw [hx] at h1
  have e1 := h1.int_inv
  simp [execOp, e1, convert, run_underlying_of (und_int hs), run_underlying_of (und_int ht), Conv.intToInt]
  exact .int _ _
theorem St.convStr {src dst : TypeId} {x : Operand} {s : List UInt8} (hx : ev C ⟨n, p0, out, loc, env⟩ x = .str s) (hs : (C.ty src).d = .str) (ht : (C.ty dst).d = .str)
    : OpStep C { dst := d, op := .convert src dst x, type := ty, pos := pos, after := aft, guard := gd } ⟨n, p0, out, loc, env⟩ (.str s) out loc := by
  refine OpStep.pure_ (fun G w a hs' => ?_)
  have h1 := rep_ev hs' x; rw [hx] at h1
  have e1 := h1.str_inv
  simp [execOp, e1, convert, run_underlying_of (und_str hs), run_underlying_of (und_str ht)]
  exact .str _

end
end Go.Av
