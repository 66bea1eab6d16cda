/-
  AvOmega: tests that what is known decides.
-/
import Derived.Test.YtdfmefkjjdlbiaaDoorAvBld
namespace Go.Av
open Go.RowKit (Below)
set_option linter.unusedVariables false
set_option linter.unusedSimpArgs false

theorem not_t {b : Bool} (h : b = false) : (!b) = true := by rw [h]; rfl
theorem not_f {b : Bool} (h : b = true) : (!b) = false := by rw [h]; rfl
theorem cond_ft {b c : Bool} (h : c = true) : (cond b true c) = true := by cases b <;> simp [h]

section
variable {C : Ctx} {n p0 : Nat} {out loc : List AObj} {env : Nat → AV} {Q : Exit → AState → Prop} {ops : Array Oper} {rest : List Oper}
variable {d : Option Nat} {ty : TypeId} {pos : String} {aft : Array Edge} {op : Op}

theorem AWp.kT {c : Operand} {x y : Code} {s : AState} {b : Bool} (hc : ev C s c = .bool b) (hb : b = true) (h : AWp C x Q s) : AWp C (.cond c x y) Q s := AWp.condT (hc.trans (by rw [hb])) h
theorem AWp.kF {c : Operand} {x y : Code} {s : AState} {b : Bool} (hc : ev C s c = .bool b) (hb : b = false) (h : AWp C y Q s) : AWp C (.cond c x y) Q s := AWp.condF (hc.trans (by rw [hb])) h
/-- a guard whose test what is known decides -/
theorem WpL.gT {j t : Nat} {b c : Bool} {o : Oper} (hj : (ops[j]?).bind (·.dst) = some t) (htn : t < n) (hc : env t = .bool c) (ho : o = { dst := d, op := op, type := ty, pos := pos, after := aft, guard := some (j, b) }) (hb : c = true)
    (K1 : WpL C ops (o :: rest) Q ⟨n, p0, out, loc, upd (some t) (.bool true) env⟩) :
    WpL C ops ({ dst := d, op := op, type := ty, pos := pos, after := aft, guard := some (j, b) } :: rest) Q ⟨n, p0, out, loc, env⟩ :=
  WpL.gSplit hj htn hc ho (fun _ => K1) (fun h => by rw [hb] at h; cases h)
theorem WpL.gF {j t : Nat} {b c : Bool} {o : Oper} (hj : (ops[j]?).bind (·.dst) = some t) (htn : t < n) (hc : env t = .bool c) (ho : o = { dst := d, op := op, type := ty, pos := pos, after := aft, guard := some (j, b) }) (hb : c = false)
    (K1 : WpL C ops (o :: rest) Q ⟨n, p0, out, loc, upd (some t) (.bool false) env⟩) :
    WpL C ops ({ dst := d, op := op, type := ty, pos := pos, after := aft, guard := some (j, b) } :: rest) Q ⟨n, p0, out, loc, env⟩ :=
  WpL.gSplit hj htn hc ho (fun h => by rw [hb] at h; cases h) (fun _ => K1)
end
end Go.Av
