/-
  AvMore: parts of values, strings, cuts of slices, lengths, composites, function values, interface values.
-/
import Derived.Test.YtdfmefkjjdlbiaaDoorAvCalls
namespace Go.Av
open Go.RowKit (Below)
set_option linter.unusedVariables false
set_option linter.unusedSimpArgs false

section
variable {C : Ctx} {ops : Array Oper} {rest : List Oper} {Q : Exit → AState → Prop} {n p0 : Nat} {out loc : List AObj} {env : Nat → AV}
variable {d : Option Nat} {ty : TypeId} {pos : String} {aft : Array Edge} {gd : Option (Nat × Bool)}

theorem St.extract {x : Operand} {k : Nat} {xs : List AV} {c v : AV} (hx : ev C ⟨n, p0, out, loc, env⟩ x = .tuple xs) (hc : xs[k]? = some c) (hv : force c = some v) : OpStep C { dst := d, op := .extract x k, type := ty, pos := pos, after := aft, guard := gd } ⟨n, p0, out, loc, env⟩ v out loc := by
  refine OpStep.pure_ (fun G w a hs => ?_)
  have g := rep_ev hs x; rw [hx] at g
  obtain ⟨vs, e, hr⟩ := g.tuple_inv
  obtain ⟨u, h1, h2⟩ := hr.at_ hc
  refine ⟨u, ?_, force_eq hv ▸ h2⟩
  simp [execOp, e, Instr.extract, h1]

/-- a struct's field, of a value -/
theorem St.field1 {s : TypeId} {x : Operand} {k fo : Nat} {ft : TypeId} {fs : List (Nat × TypeId)} {cells : List AV} {c v : AV} (hx : ev C ⟨n, p0, out, loc, env⟩ x = .agg cells) (hs : (C.ty s).d = .struct fs) (hf : fs[k]? = some (fo, ft))
    (hk : (C.ty ft).d.known = true) (ha : (C.ty ft).d.agg = false) (hc : cells[fo]? = some c) (hv : force c = some v) : OpStep C { dst := d, op := .field s x k, type := ty, pos := pos, after := aft, guard := gd } ⟨n, p0, out, loc, env⟩ v out loc := by
  refine OpStep.pure_ (fun G w a hs' => ?_)
  have g := rep_ev hs' x; rw [hx] at g
  obtain ⟨vs, e, hr⟩ := g.agg_inv
  obtain ⟨fields, hu, hfs⟩ := und_struct hs
  obtain ⟨f, hf1, hf2, hf3⟩ := struct_field hfs hf
  subst hf3
  obtain ⟨u, h1, h2, _⟩ := hr.at_ hc
  refine ⟨u, ?_, force_eq hv ▸ h2⟩
  simp [execOp, e, Instr.field, run_underlying_of hu, hf1, asAgg, part, run_isAgg_ (Ty.ne_other hk), ha, hf2, h1]
theorem extract_list (vs : List Value) (i j : Nat) : vs.toArray.extract i j = ((vs.drop i).take (j - i)).toArray := by
  apply Array.ext'
  simp [List.extract_eq_take_drop]
theorem St.fieldN {s : TypeId} {x : Operand} {k fo m : Nat} {ft : TypeId} {fs : List (Nat × TypeId)} {cells l : List AV} (hx : ev C ⟨n, p0, out, loc, env⟩ x = .agg cells) (hs : (C.ty s).d = .struct fs) (hf : fs[k]? = some (fo, ft))
    (hk : (C.ty ft).d.known = true) (ha : (C.ty ft).d.agg = true) (hm : (C.ty ft).size = m) (hl : (cells.drop fo).take m = l) : OpStep C { dst := d, op := .field s x k, type := ty, pos := pos, after := aft, guard := gd } ⟨n, p0, out, loc, env⟩ (.agg l) out loc := by
  refine OpStep.pure_ (fun G w a hs' => ?_)
  have g := rep_ev hs' x; rw [hx] at g
  obtain ⟨vs, e, hr⟩ := g.agg_inv
  obtain ⟨fields, hu, hfs⟩ := und_struct hs
  obtain ⟨f, hf1, hf2, hf3⟩ := struct_field hfs hf
  subst hf3
  refine ⟨.agg (vs.toArray.extract fo (fo + m)), ?_, ?_⟩
  · simp [execOp, e, Instr.field, run_underlying_of hu, hf1, asAgg, part, run_isAgg_ (Ty.ne_other hk), ha, hf2, run_sizeOf_ (Ty.ne_other hk), hm]
  · rw [extract_list, show fo + m - fo = m by omega, ← hl]
    exact Rep.agg_mk ((hr.drop fo).take m)

/-! ### Strings -/
def byteAt (s : List UInt8) (i : Int) : Int := ((s.getD i.toNat 0).toNat : Int)
theorem St.indexStr {t : TypeId} {x y : Operand} {k : IntKind} {i : Int} {s : List UInt8} (hx : ev C ⟨n, p0, out, loc, env⟩ x = .str s) (hy : ev C ⟨n, p0, out, loc, env⟩ y = .int k i) (ht : (C.ty t).d = .str)
    (h0 : 0 ≤ i) (h1 : i < s.length) : OpStep C { dst := d, op := .index t x y, type := ty, pos := pos, after := aft, guard := gd } ⟨n, p0, out, loc, env⟩ (.int .u8 (byteAt s i)) out loc := by
  refine OpStep.pure_ (fun G w a hs' => ?_)
  have g := rep_ev hs' x; rw [hx] at g
  have g2 := rep_ev hs' y; rw [hy] at g2
  have e1 := g.str_inv; have e2 := g2.int_inv
  have hlt : i.toNat < s.length := by omega
  have hb : (⟨⟨s⟩⟩ : ByteArray)[i.toNat]? = some s[i.toNat] := by
    have hsz : i.toNat < (⟨⟨s⟩⟩ : ByteArray).size := hlt
    exact getElem?_pos (⟨⟨s⟩⟩ : ByteArray) i.toNat hsz
  refine ⟨.int .u8 ((s[i.toNat]'hlt).toNat : Int), ?_, ?_⟩
  · simp [execOp, e1, e2, Instr.index, asIntOf, run_underlying_of (und_str ht), h0, hb]
  · have : byteAt s i = ((s[i.toNat]'hlt).toNat : Int) := by simp [byteAt, getD_eq, List.getElem?_eq_getElem hlt]
    rw [this]; exact .int _ _

def aStr (op : BinOp) (x y : List UInt8) : Option AV :=
  match op with
  | .eql => some (.bool (eqS x y))
  | .neq => some (.bool (!eqS x y))
  | .lss => some (.bool (ltS x y))
  | .leq => some (.bool (ltS x y || eqS x y))
  | .gtr => some (.bool (!(ltS x y || eqS x y)))
  | .geq => some (.bool (!ltS x y))
  | _ => none
theorem St.strOp {op : BinOp} {xt yt : TypeId} {x y : Operand} {p q : List UInt8} {v : AV} (hx : ev C ⟨n, p0, out, loc, env⟩ x = .str p) (hy : ev C ⟨n, p0, out, loc, env⟩ y = .str q)
    (hv : aStr op p q = some v) : OpStep C { dst := d, op := .binOp op xt x y yt, type := ty, pos := pos, after := aft, guard := gd } ⟨n, p0, out, loc, env⟩ v out loc := by
  refine OpStep.pure_ (fun G w a hs => ?_)
  have h1 := rep_ev hs x; rw [hx] at h1
  have h2 := rep_ev hs y; rw [hy] at h2
  have e1 := h1.str_inv; have e2 := h2.str_inv
  have hd : (p == q) = eqS p q := by rw [eqS_def, Bool.eq_iff_iff]; simp
  cases op <;> simp only [aStr, Option.some.injEq, reduceCtorEq] at hv <;> subst hv <;>
    simp [execOp, e1, e2, eqGuard, binOp, Op.stringOp, ByteArray.toList_eq, ltS_def, ← hd] <;> exact .bool _
theorem St.strAdd {xt yt : TypeId} {x y : Operand} {p q : List UInt8} (hx : ev C ⟨n, p0, out, loc, env⟩ x = .str p) (hy : ev C ⟨n, p0, out, loc, env⟩ y = .str q)
    (hl : p.length + q.length ≤ 9223372036854775807) : OpStep C { dst := d, op := .binOp .add xt x y yt, type := ty, pos := pos, after := aft, guard := gd } ⟨n, p0, out, loc, env⟩ (.str (p ++ q)) out loc := by
  refine OpStep.pure_ (fun G w a hs => ?_)
  have h1 := rep_ev hs x; rw [hx] at h1
  have h2 := rep_ev hs y; rw [hy] at h2
  have e1 := h1.str_inv; have e2 := h2.str_inv
  have hsz : ¬ (((⟨⟨p⟩⟩ : ByteArray).size + (⟨⟨q⟩⟩ : ByteArray).size : Nat) : Int) > IntKind.i64.max := by
    have : IntKind.i64.max = 9223372036854775807 := by decide
    rw [this]
    show ¬ (((p.length + q.length : Nat) : Int) > _)
    omega
  refine ⟨.string (⟨⟨p⟩⟩ ++ ⟨⟨q⟩⟩), ?_, ?_⟩
  · simp only [execOp, e1, e2, Sem.run_bind, eqGuard, binOp, Op.stringOp]
    simp only [show (!(BinOp.add matches .eql | .neq)) = true from rfl, if_true, Sem.run_pure, Result.andThen_ok]
    rw [if_neg hsz]; rfl
  · have : (⟨⟨p⟩⟩ ++ ⟨⟨q⟩⟩ : ByteArray) = ⟨⟨p ++ q⟩⟩ := by
      apply ByteArray.ext
      simp
    rw [this]; exact .str _

/-- s[lo:hi] of a string -/
def cutStr (s : List UInt8) (lo hi : Nat) : List UInt8 := (s.take hi).drop lo
theorem run_bound {P : Program} {x : Value} {k : IntKind} {i : Int} {y : Nat} {code : BoundsCode} (hx : x = .int k i) (h0 : 0 ≤ i) (h1 : i ≤ y) (w : World) : (Instr.sliceBound x y code).run P w = .ok i.toNat w := by
  subst hx; simp [Instr.sliceBound, asIntOf, h0, h1]

/-- The bounds of a cut, as operands tell them. -/
inductive BoundIs (C : Ctx) (s : AState) : Option Operand → Nat → Nat → Prop where
  | none (dflt : Nat) : BoundIs C s none dflt dflt
  | some (x : Operand) (k : IntKind) (i : Int) (dflt : Nat) (h : ev C s x = .int k i) (h0 : 0 ≤ i) : BoundIs C s (some x) dflt i.toNat

theorem St.sliceStr {t : TypeId} {x : Operand} {lo hi : Option Operand} {l h : Nat} {s : List UInt8} (hx : ev C ⟨n, p0, out, loc, env⟩ x = .str s) (ht : (C.ty t).d = .str)
    (hh : BoundIs C ⟨n, p0, out, loc, env⟩ hi s.length h) (hl : BoundIs C ⟨n, p0, out, loc, env⟩ lo 0 l) (h1 : h ≤ s.length) (h2 : l ≤ h)
    : OpStep C { dst := d, op := .slice t x lo hi none, type := ty, pos := pos, after := aft, guard := gd } ⟨n, p0, out, loc, env⟩ (.str (cutStr s l h)) out loc := by
  refine OpStep.pure_ (fun G w a hs' => ?_)
  have g := rep_ev hs' x; rw [hx] at g
  have e1 := g.str_inv
  have hsz : (⟨⟨s⟩⟩ : ByteArray).size = s.length := rfl
  have hb : (Instr.sliceBounds false s.length s.length (lo.map a.eval) (hi.map a.eval) none).run C.P w = .ok (l, h, s.length) w := by
    simp only [Instr.sliceBounds, Option.isSome_none]
    cases hh with
    | none =>
      cases hl with
      | none => simp
      | some y k i _ hy h0 =>
        have g2 := rep_ev hs' y; rw [hy] at g2
        simp [run_bound g2.int_inv h0 (show i ≤ (s.length : Int) by omega)]
    | some z k j _ hz hj0 =>
      have g3 := rep_ev hs' z; rw [hz] at g3
      cases hl with
      | none => simp [run_bound g3.int_inv hj0 (show j ≤ (s.length : Int) by omega)]
      | some y k i _ hy h0 =>
        have g2 := rep_ev hs' y; rw [hy] at g2
        simp [run_bound g3.int_inv hj0 (show j ≤ (s.length : Int) by omega), run_bound g2.int_inv h0 (show i ≤ ((j.toNat : Nat) : Int) by omega)]
  refine ⟨.string ((⟨⟨s⟩⟩ : ByteArray).extract l h), ?_, ?_⟩
  · simp only [execOp, Instr.sliceAt, Sem.run_bind, run_underlying_of (und_str ht), Result.andThen_ok, Instr.slice, e1, Option.map_none, Option.isSome_none, hsz]
    simp [hb]
  · have : (⟨⟨s⟩⟩ : ByteArray).extract l h = ⟨⟨cutStr s l h⟩⟩ := by
      apply ByteArray.ext
      simp only [ByteArray.data_extract]
      apply Array.ext'
      simp [cutStr, List.extract_eq_take_drop, List.drop_take]
    rw [this]; exact .str _

/-! ### Cuts of slices -/
/-- What is known of a cut's end. -/
def endCut (e : SEnd) (whole : Bool) : SEnd := if whole then (match e with | .nil => .nil | .full => .full | .tok t k => .tok t k | .unk => .unk) else .unk

theorem St.sliceSlc {t et : TypeId} {x : Operand} {lo hi : Option Operand} {l h : Nat} {elems elems' : List (List AV)} {e : SEnd} (hx : ev C ⟨n, p0, out, loc, env⟩ x = .slc elems e) (ht : (C.ty t).d = .slice et) (hk : (C.ty et).d.known = true)
    (hsz : ∀ el, el ∈ elems → el.length = (C.ty et).size)
    (hh : BoundIs C ⟨n, p0, out, loc, env⟩ hi elems.length h) (hl : BoundIs C ⟨n, p0, out, loc, env⟩ lo 0 l) (h1 : h ≤ elems.length) (h2 : l ≤ h) (he : (elems.take h).drop l = elems')
    : OpStep C { dst := d, op := .slice t x lo hi none, type := ty, pos := pos, after := aft, guard := gd } ⟨n, p0, out, loc, env⟩ (.slc elems' .unk) out loc := by
  refine OpStep.pure_ (fun G w a hs' => ?_)
  have g := rep_ev hs' x; rw [hx] at g
  obtain ⟨A, cap, sz, f, e1, hs, ha, hsp, hr, hc, _⟩ := g.slc_inv
  have hb : (Instr.sliceBounds true elems.length cap (lo.map a.eval) (hi.map a.eval) none).run C.P w = .ok (l, h, cap) w := by
    simp only [Instr.sliceBounds, Option.isSome_none]
    cases hh with
    | none =>
      cases hl with
      | none => simp
      | some y k i _ hy h0 =>
        have g2 := rep_ev hs' y; rw [hy] at g2
        simp [run_bound g2.int_inv h0 (show i ≤ (elems.length : Int) by omega)]
    | some z k j _ hz hj0 =>
      have g3 := rep_ev hs' z; rw [hz] at g3
      cases hl with
      | none => simp [run_bound g3.int_inv hj0 (show j ≤ (cap : Int) by omega)]
      | some y k i _ hy h0 =>
        have g2 := rep_ev hs' y; rw [hy] at g2
        simp [run_bound g3.int_inv hj0 (show j ≤ (cap : Int) by omega), run_bound g2.int_inv h0 (show i ≤ ((j.toNat : Nat) : Int) by omega)]
  refine ⟨.slice (if cap = l then A else A.map (·.add (l * (C.ty et).size))) (h - l) (cap - l), ?_, ?_⟩
  · simp only [execOp, Instr.sliceAt, Sem.run_bind, run_underlying_of (und_slice ht), Result.andThen_ok, Instr.slice, e1, Option.map_none]
    simp [hb, run_sizeOf_ (Ty.ne_other hk)]
  · have hlen : elems'.length = h - l := by rw [← he]; simp; omega
    have hat : ∀ i, i < h - l → elems'.getD i [] = elems.getD (l + i) [] := fun i hi => by
      rw [← he]; simp only [getD_eq, List.getElem?_drop, List.getElem?_take]; rw [if_pos (by omega)]
    rw [← hlen]
    have hszA : 0 < elems.length → sz = (C.ty et).size := fun hp => by rw [← hs 0 hp]; exact hsz _ (getD_mem hp)
    refine .slc elems' .unk _ (cap - l) (C.ty et).size (fun j => f (l * (C.ty et).size + j)) (fun i hi => ?_) (fun hp => ?_) (fun y hy => ?_) (fun i j hi hj => ?_) (by omega) trivial
    · rw [hat i (by omega)]; exact hsz _ (getD_mem (by omega))
    · have hpos : 0 < elems.length := by omega
      obtain ⟨b, o, rfl, hcell⟩ := ha hpos
      have hne : ¬ cap = l := by omega
      refine ⟨b, o + l * (C.ty et).size, by rw [if_neg hne]; simp [add_none], fun j hj => ?_⟩
      have hjj : l * (C.ty et).size + j < elems.length * sz := by
        rw [hszA hpos, hlen] at *
        have : l * (C.ty et).size + (h - l) * (C.ty et).size ≤ elems.length * (C.ty et).size := by rw [← Nat.add_mul]; exact Nat.mul_le_mul_right _ (by omega)
        omega
      have := hcell _ hjj
      rwa [← Nat.add_assoc] at this
    · split at hy
      · exact hsp y hy
      · cases A with
        | none => simp at hy
        | some z =>
          simp at hy; subst hy
          have := hsp z rfl
          unfold Addr.add; split <;> simp_all
    · have hpos : 0 < elems.length := by omega
      rw [hat i (by omega)]
      have := hr (l + i) j (by omega) (by rw [hszA hpos]; exact hj)
      rw [hszA hpos] at this
      rw [show l * (C.ty et).size + (i * (C.ty et).size + j) = (l + i) * (C.ty et).size + j by rw [Nat.add_mul]; omega]
      exact this

/-! ### Lengths -/
theorem St.lenSlc {x : Operand} {t et : TypeId} {elems : List (List AV)} {e : SEnd} (hx : ev C ⟨n, p0, out, loc, env⟩ x = .slc elems e) (ht : (C.ty t).d = .slice et)
    : OpStep C { dst := d, op := .call { callee := .builtin .len, args := #[x], argTypes := #[t] }, type := ty, pos := pos, after := aft, guard := gd } ⟨n, p0, out, loc, env⟩ (.int .i64 elems.length) out loc := by
  refine OpStep.pure_ (fun G w a hs' => ?_)
  have g := rep_ev hs' x; rw [hx] at g
  obtain ⟨A, cap, sz, f, e1, _⟩ := g.slc_inv
  refine ⟨.int .i64 elems.length, ?_, .int _ _⟩
  simp [execOp, resolve, invoke, builtin, Builtin.len_, run_underlying_of (und_slice ht), e1, goInt]
theorem St.lenStr {x : Operand} {t : TypeId} {s : List UInt8} (hx : ev C ⟨n, p0, out, loc, env⟩ x = .str s) (ht : (C.ty t).d = .str)
    : OpStep C { dst := d, op := .call { callee := .builtin .len, args := #[x], argTypes := #[t] }, type := ty, pos := pos, after := aft, guard := gd } ⟨n, p0, out, loc, env⟩ (.int .i64 s.length) out loc := by
  refine OpStep.pure_ (fun G w a hs' => ?_)
  have g := rep_ev hs' x; rw [hx] at g
  have e1 := g.str_inv
  refine ⟨.int .i64 s.length, ?_, .int _ _⟩
  simp [execOp, resolve, invoke, builtin, Builtin.len_, run_underlying_of (und_str ht), e1, goInt]
  rfl

/-! ### nil checks, function values, interface values -/
theorem St.nilCheckPtr {x : Operand} {id o : Nat} (hx : ev C ⟨n, p0, out, loc, env⟩ x = .ptr id o) : OpStep C { dst := d, op := .nilCheck x, type := ty, pos := pos, after := aft, guard := gd } ⟨n, p0, out, loc, env⟩ (.ptr id o) out loc := by
  refine OpStep.pure_ (fun G w a hs' => ?_)
  have g := rep_ev hs' x; rw [hx] at g
  obtain ⟨e1, hid⟩ := g.ptr_inv
  exact ⟨.pointer (some ⟨G.obj id, o, none⟩), by simp [execOp, e1], .ptr id o hid⟩
theorem St.nilCheckCptr {x : Operand} {cells : List AV} (hx : ev C ⟨n, p0, out, loc, env⟩ x = .cptr cells) : OpStep C { dst := d, op := .nilCheck x, type := ty, pos := pos, after := aft, guard := gd } ⟨n, p0, out, loc, env⟩ (.cptr cells) out loc := by
  refine OpStep.pure_ (fun G w a hs' => ?_)
  have g := rep_ev hs' x; rw [hx] at g
  obtain ⟨b, o, f, e1, _, _⟩ := g.cptr_inv
  exact ⟨.pointer (some ⟨b, o, none⟩), by simp [execOp, e1], e1 ▸ g⟩
theorem St.nilCheckFunc {x : Operand} {f : FuncId} {fs cs : List AV} (hx : ev C ⟨n, p0, out, loc, env⟩ x = .func f fs cs) : OpStep C { dst := d, op := .nilCheck x, type := ty, pos := pos, after := aft, guard := gd } ⟨n, p0, out, loc, env⟩ (.func f fs cs) out loc := by
  refine OpStep.pure_ (fun G w a hs' => ?_)
  have g := rep_ev hs' x; rw [hx] at g
  generalize ha : a.eval x = cf at g
  have g' := g
  cases g with
  | func _ _ _ us ws h1 h2 r1 r2 => exact ⟨_, by simp only [execOp, ha]; rfl, g'⟩

theorem repA_map {G : Ghost} {s : AState} {w : World} {a : Act} (hs : Sim C G s w a) (xs : List Operand) : RepA G (xs.map (ev C s)) (xs.map a.eval) := by
  refine ⟨by simp, fun i hi => ?_⟩
  have hlt : i < xs.length := by simpa using hi
  rw [getD_eq, getD_eq, List.getElem?_map, List.getElem?_map, List.getElem?_eq_getElem hlt]
  exact rep_ev hs _

theorem St.makeFunc {f : FuncId} {xs ys : Array Operand} {fs cs : List AV} (hx : xs.toList.map (ev C ⟨n, p0, out, loc, env⟩) = fs) (hy : ys.toList.map (ev C ⟨n, p0, out, loc, env⟩) = cs)
    : OpStep C { dst := d, op := .makeFunc (.func f) xs ys, type := ty, pos := pos, after := aft, guard := gd } ⟨n, p0, out, loc, env⟩ (.func f fs cs) out loc := by
  refine OpStep.pure_ (fun G w a hs' => ?_)
  have h1 := repA_map hs' xs.toList
  have h2 := repA_map hs' ys.toList
  rw [hx] at h1; rw [hy] at h2
  refine ⟨.func (.func f) (xs.map a.eval) (ys.map a.eval), rfl, ?_⟩
  have := Rep.func f fs cs _ _ h1.len h2.len h1.rep h2.rep
  have e : ∀ zs : Array Operand, (List.map a.eval zs.toList).toArray = Array.map a.eval zs := fun zs => by apply Array.ext'; simp
  rwa [e, e] at this

theorem St.makeIface {xt : TypeId} {x : Operand} {v : AV} (hx : force (ev C ⟨n, p0, out, loc, env⟩ x) = some v) (hk : (C.ty xt).d.known = true) (hi : ∀ b, (C.ty xt).d ≠ .iface b)
    : OpStep C { dst := d, op := .makeInterface xt x, type := ty, pos := pos, after := aft, guard := gd } ⟨n, p0, out, loc, env⟩ (.iface xt v) out loc := by
  refine OpStep.pure_ (fun G w a hs' => ?_)
  obtain ⟨dd, h1, h2⟩ := (C.ok xt (Ty.ne_other hk)).desc
  refine ⟨.iface xt (a.eval x), ?_, .iface xt v _ (force_eq hx ▸ rep_ev hs' x)⟩
  simp only [execOp, Instr.makeInterface, Sem.run_bind, run_underlying_of h1, Result.andThen_ok]
  cases dd <;> first | rfl | (cases hd : (C.ty xt).d <;> simp [hd, tyFits] at h2; exact absurd hd (hi _))

/-! ### Held against nil -/
def aNil (op : BinOp) (b : Bool) : Option AV :=
  match op with
  | .eql => some (.bool b)
  | .neq => some (.bool (!b))
  | _ => none
/-- is it nil, as far as its head tells? -/
def isNil : AV → Option Bool
  | .nilptr | .nilIface | .nilFunc | .nilmap => some true
  | .ptr _ _ | .cptr _ | .func _ _ _ | .iface _ _ | .map _ => some false
  | _ => none

end
end Go.Av
