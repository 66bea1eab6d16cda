/-
  AvNat: whole numbers that aren't negative and don't wrap.
-/
import Derived.Test.YtdfmefkjjdlbiaaDoorAvTok
namespace Go.Av
open Go.RowKit (Below)
set_option linter.unusedVariables false
set_option linter.unusedSimpArgs false

section
variable {C : Ctx} {n p0 : Nat} {out loc : List AObj} {env : Nat → AV}
variable {d : Option Nat} {ty : TypeId} {pos : String} {aft : Array Edge} {gd : Option (Nat × Bool)}
variable {xt yt : TypeId} {x y : Operand}
/-- numbers of whichever sign that don't wrap -/
theorem St.intAdd {p q : Int} (hx : ev C ⟨n, p0, out, loc, env⟩ x = .int .i64 p) (hy : ev C ⟨n, p0, out, loc, env⟩ y = .int .i64 q) (h : -9223372036854775808 ≤ p + q) (h2 : p + q ≤ 9223372036854775807) :
    OpStep C { dst := d, op := .binOp .add xt x y yt, type := ty, pos := pos, after := aft, guard := gd } ⟨n, p0, out, loc, env⟩ (.int .i64 (p + q)) out loc := by
  have := St.bin (d := d) (ty := ty) (pos := pos) (aft := aft) (gd := gd) (xt := xt) (yt := yt) (op := .add) hx hy rfl
  rwa [wrap_i64 h h2] at this
theorem St.intSub {p q : Int} (hx : ev C ⟨n, p0, out, loc, env⟩ x = .int .i64 p) (hy : ev C ⟨n, p0, out, loc, env⟩ y = .int .i64 q) (h : -9223372036854775808 ≤ p - q) (h2 : p - q ≤ 9223372036854775807) :
    OpStep C { dst := d, op := .binOp .sub xt x y yt, type := ty, pos := pos, after := aft, guard := gd } ⟨n, p0, out, loc, env⟩ (.int .i64 (p - q)) out loc := by
  have := St.bin (d := d) (ty := ty) (pos := pos) (aft := aft) (gd := gd) (xt := xt) (yt := yt) (op := .sub) hx hy rfl
  rwa [wrap_i64 h h2] at this
theorem St.intMul {p q : Int} (hx : ev C ⟨n, p0, out, loc, env⟩ x = .int .i64 p) (hy : ev C ⟨n, p0, out, loc, env⟩ y = .int .i64 q) (h : -9223372036854775808 ≤ p * q) (h2 : p * q ≤ 9223372036854775807) :
    OpStep C { dst := d, op := .binOp .mul xt x y yt, type := ty, pos := pos, after := aft, guard := gd } ⟨n, p0, out, loc, env⟩ (.int .i64 (p * q)) out loc := by
  have := St.bin (d := d) (ty := ty) (pos := pos) (aft := aft) (gd := gd) (xt := xt) (yt := yt) (op := .mul) hx hy rfl
  rwa [wrap_i64 h h2] at this
theorem St.intRem {p q : Int} (hx : ev C ⟨n, p0, out, loc, env⟩ x = .int .i64 p) (hy : ev C ⟨n, p0, out, loc, env⟩ y = .int .i64 q) (h : 0 ≤ p) (h2 : 0 < q) :
    OpStep C { dst := d, op := .binOp .rem xt x y yt, type := ty, pos := pos, after := aft, guard := gd } ⟨n, p0, out, loc, env⟩ (.int .i64 (p % q)) out loc := by
  have := St.rem (d := d) (ty := ty) (pos := pos) (aft := aft) (gd := gd) (xt := xt) (yt := yt) hx hy (by omega)
  rwa [Int.tmod_eq_emod_of_nonneg h] at this
theorem St.intQuo {p q : Int} (hx : ev C ⟨n, p0, out, loc, env⟩ x = .int .i64 p) (hy : ev C ⟨n, p0, out, loc, env⟩ y = .int .i64 q) (h : 0 ≤ p) (h2 : 0 < q) (h3 : p ≤ 9223372036854775807) :
    OpStep C { dst := d, op := .binOp .quo xt x y yt, type := ty, pos := pos, after := aft, guard := gd } ⟨n, p0, out, loc, env⟩ (.int .i64 (p / q)) out loc := by
  have := St.quo (d := d) (ty := ty) (pos := pos) (aft := aft) (gd := gd) (xt := xt) (yt := yt) hx hy (by omega)
  have h4 : p / q ≤ p := Int.ediv_le_self _ h
  have h5 : 0 ≤ p / q := Int.ediv_nonneg h (by omega)
  have hw : IntKind.wrap .i64 (p.tdiv q) = p / q := by
    rw [Int.tdiv_eq_ediv_of_nonneg h]; exact wrap_i64 (by omega) (by omega)
  rwa [hw] at this
end
end Go.Av
