/-
  AvOps: the type table, operands, and one rule for each operation that touches no memory of the call's own.
-/
import Derived.Test.YtdfmefkjjdlbiaaDoorAvCore
namespace Go.Av
open Go.RowKit (Below)
set_option linter.unusedVariables false
set_option linter.unusedSimpArgs false

/-! ### Operands -/
def upd (d : Option Nat) (v : AV) (env : Nat → AV) : Nat → AV :=
  match d with
  | some d => fun i => cond (Nat.beq i d) v (env i)
  | none => env
def AState.put (s : AState) (d : Option Nat) (v : AV) : AState := { s with env := upd d v s.env }

def ev (C : Ctx) (s : AState) : Operand → AV
  | .tmp t => cond (Nat.blt t s.n) (s.env t) .any
  | .const v => ofConst v
  | .global g => match C.gl g with
    | some cells => .cptr cells
    | none => .any
  | .func f => .func f [] []

theorem rep_ev {C : Ctx} {G : Ghost} {s : AState} {w : World} {a : Act} (h : Sim C G s w a) (x : Operand) : Rep G (ev C s x) (a.eval x) := by
  cases x with
  | tmp t =>
    simp only [ev]
    cases hb : Nat.blt t s.n with
    | true => exact h.env t (by simpa [Nat.blt_eq] using hb)
    | false => exact .any _
  | const v => exact ofConst_rep G v
  | global g =>
    simp only [ev]
    cases hg : C.gl g with
    | none => exact .any _
    | some cells => exact h.mem.glob g cells hg
  | func f => exact .func f [] [] [] [] rfl rfl (fun i h => absurd h (Nat.not_lt_zero _)) (fun i h => absurd h (Nat.not_lt_zero _))

theorem upd_put {G : Ghost} {n : Nat} {env : Nat → AV} {a : Act} (hsz : a.tmps.size = n) (h : ∀ t, t < n → Rep G (env t) (a.tmps.getD t undef)) (d : Option Nat) {v : AV} {cv : Value} (r : Rep G v cv) :
    ∀ t, t < n → Rep G (upd d v env t) ((a.put d cv).tmps.getD t undef) := by
  intro t ht
  cases d with
  | none => exact h t ht
  | some d =>
    simp only [upd, Act.put]
    by_cases e : t = d
    · subst e
      rw [Nat.beq_refl]
      simp only [cond_true, Array.getD_eq_getD_getElem?, Array.getElem?_setIfInBounds_self]
      rw [if_pos (by omega)]
      exact r
    · have hb : Nat.beq t d = false := by
        cases h : Nat.beq t d with
        | false => rfl
        | true => exact absurd (Nat.eq_of_beq_eq_true h) e
      rw [hb]
      simp only [cond_false, Array.getD_eq_getD_getElem?]
      rw [Array.getElem?_setIfInBounds_ne (fun e' => e e'.symm)]
      simpa [Array.getD_eq_getD_getElem?] using h t ht

/-! ### A list of operations, in order -/
def wpOpers (P : Program) (ops : Array Oper) (Q : Exit → Act → World → Prop) : List Oper → Act → World → Prop
  | [], a, w => Q .normal a w
  | o :: rest, a, w => if Region.wanted o (yielded ops a.tmps) then o.wp P a w (wpOpers P ops Q rest) Q else wpOpers P ops Q rest (a.put o.dst undef) w

theorem Oper.upon_mono {P : Program} {o : Oper} {a : Act} {next next' : Act → World → Prop} {Q : Exit → Act → World → Prop} (h : ∀ a w, next a w → next' a w) {r : Result Next} (u : o.upon P a next Q r) : o.upon P a next' Q r := by
  unfold Oper.upon at *
  split
  · exact h _ _ u
  · exact h _ _ u
  · exact h _ _ u
  · refine Calls.mono u ?_
    intro e w'
    cases e <;> first | exact h _ _ | exact id
  · exact Rows.mono u fun v w' => h _ _
  · exact u
  · rename_i x1 x2 x3 x4 x5 x6
    revert u
    split
    · rename_i a' w'; exact fun _ => x1 a' w' rfl
    · rename_i w'; exact fun _ => x2 w' rfl
    · rename_i d w'; exact fun _ => x3 d w' rfl
    · rename_i f args w'; exact fun _ => x4 f args w' rfl
    · rename_i row args w'; exact fun _ => x5 row args w' rfl
    · rename_i v w'; exact fun _ => x6 v w' rfl
    · exact id

theorem wpOps_of_opers {P : Program} {ops : Array Oper} {Q : Exit → Act → World → Prop} (m k : Nat) (hk : k + m = ops.size) : ∀ (a : Act) (w : World), wpOpers P ops Q (ops.toList.drop k) a w → wpOps P ops Q (List.range' k m) a w := by
  induction m generalizing k with
  | zero =>
    intro a w h
    rw [List.drop_eq_nil_of_le (by simp; omega)] at h
    exact h
  | succ m ih =>
    intro a w h
    have hlt : k < ops.toList.length := by simp; omega
    rw [List.drop_eq_getElem_cons hlt] at h
    simp only [List.range', wpOps]
    have he : ops[k]? = some (ops.toList[k]) := by simp at hlt; simp [hlt]
    rw [he]
    simp only [wpOpers] at h
    simp only
    split
    · rename_i hw
      rw [if_pos hw] at h
      exact .inl (Oper.upon_mono (fun a w => ih (k + 1) (by omega) a w) h)
    · rename_i hw
      rw [if_neg hw] at h
      exact ih (k + 1) (by omega) _ _ h

def WpL (C : Ctx) (ops : Array Oper) (l : List Oper) (Q : Exit → AState → Prop) (s : AState) : Prop :=
  ∀ G w a, Sim C G s w a → wpOpers C.P ops (Post C Q G s.p0) l a w

theorem AWp.region {C : Ctx} {Q : Exit → AState → Prop} {s : AState} {id : Nat} {ops : Array Oper} {l : List Oper} (hl : ops.toList = l) (h : WpL C ops l Q s) : AWp C (.region id ops false) Q s := by
  intro G w a hs
  refine wp_region ?_
  rw [List.range_eq_range']
  refine wpOps_of_opers ops.size 0 (by omega) a w ?_
  rw [List.drop_zero, hl]
  exact h G w a hs

theorem WpL.nil {C : Ctx} {ops : Array Oper} {Q : Exit → AState → Prop} {s : AState} (h : Q .normal s) : WpL C ops [] Q s :=
  fun G w a hs => ⟨s, G, hs, rfl, Ext.refl hs.p0_le, h⟩

theorem wanted_none {o : Oper} (h : o.guard = none) (y : Nat → Option Bool) : Region.wanted o y = true := by simp [Region.wanted, h]

theorem wpOpers_ofExt {P : Program} {C : Ctx} {ops : Array Oper} {Q : Exit → AState → Prop} {G G' : Ghost} {p0 : Nat} (h : Ext p0 G G') (l : List Oper) : ∀ a w, wpOpers P ops (Post C Q G' p0) l a w → wpOpers P ops (Post C Q G p0) l a w := by
  have key : ∀ (o : Oper) (a : Act) (n n' : Act → World → Prop) (r : Result Next), (∀ a w, n a w → n' a w) → o.upon P a n (Post C Q G' p0) r → o.upon P a n' (Post C Q G p0) r := by
    intro o a n n' r hn u
    unfold Oper.upon at *
    split
    · exact hn _ _ u
    · exact hn _ _ u
    · exact hn _ _ u
    · refine Calls.mono u ?_
      intro e w'
      cases e with
      | returned v => exact hn _ _
      | panicked c => exact fun p => p.ofExt h
      | outgrown => exact fun ⟨a, w, p⟩ => ⟨a, w, p.ofExt h⟩
    · exact Rows.mono u fun v w' => hn _ _
    · exact u.ofExt h
    · rename_i x1 x2 x3 x4 x5 x6
      revert u
      split
      · rename_i a' w'; exact fun _ => x1 a' w' rfl
      · rename_i w'; exact fun _ => x2 w' rfl
      · rename_i d w'; exact fun _ => x3 d w' rfl
      · rename_i f args w'; exact fun _ => x4 f args w' rfl
      · rename_i row args w'; exact fun _ => x5 row args w' rfl
      · rename_i v w'; exact fun _ => x6 v w' rfl
      · exact id
  induction l with
  | nil => exact fun a w p => Post.ofExt h p
  | cons o rest ih =>
    intro a w p
    simp only [wpOpers] at *
    split
    · rename_i hw
      rw [if_pos hw] at p
      exact key o a _ _ _ ih p
    · rename_i hw
      rw [if_neg hw] at p
      exact ih _ _ p

/-- ONE OPERATION, carried out in a state: what it yields, and what the store then is. -/
def OpStepR (C : Ctx) (o : Oper) (s : AState) (R : AV → List AObj → Prop) : Prop :=
  ∀ G w a, Sim C G s w a → ∀ (next : Act → World → Prop) (Q' : Exit → Act → World → Prop), (∀ v objs cv w' G', R v objs → Rep G' v cv → MemOk C G' objs w' → Ext G.n G G' → next (a.put o.dst cv) w') → o.wp C.P a w next Q'
def OpStep (C : Ctx) (o : Oper) (s : AState) (v : AV) (out' loc' : List AObj) : Prop :=
  out'.length = s.out.length ∧ OpStepR C o s fun r objs => r = v ∧ objs = out' ++ loc'

theorem OpStep.mk_ {C : Ctx} {o : Oper} {s : AState} {v : AV} {out' loc' : List AObj} (hl : out'.length = s.out.length)
    (h : ∀ G w a, Sim C G s w a → ∃ nx cv w' G', (execOp a.eval o).run C.P w = .ok nx w' ∧ (nx = .value cv ∨ nx = .skip ∧ cv = undef) ∧ Rep G' v cv ∧ MemOk C G' (out' ++ loc') w' ∧ Ext G.n G G') : OpStep C o s v out' loc' := by
  refine ⟨hl, fun G w a hs next Q' hk => ?_⟩
  obtain ⟨nx, cv, w', G', hrun, hnx, hrep, hmem, hext⟩ := h G w a hs
  have := hk v (out' ++ loc') cv w' G' ⟨rfl, rfl⟩ hrep hmem hext
  unfold Oper.wp
  rw [hrun]
  rcases hnx with rfl | ⟨rfl, rfl⟩ <;> exact this

/-- One that leaves the store alone. -/
theorem OpStep.pure_ {C : Ctx} {o : Oper} {n p0 : Nat} {out loc : List AObj} {env : Nat → AV} {v : AV}
    (h : ∀ G w a, Sim C G ⟨n, p0, out, loc, env⟩ w a → ∃ cv, (execOp a.eval o).run C.P w = .ok (.value cv) w ∧ Rep G v cv) : OpStep C o ⟨n, p0, out, loc, env⟩ v out loc :=
  OpStep.mk_ rfl fun G w a hs => let ⟨cv, hr, hv⟩ := h G w a hs; ⟨_, cv, w, G, hr, .inl rfl, hv, hs.mem, Ext.refl (Nat.le_refl _)⟩

theorem sim_put {C : Ctx} {G G' : Ghost} {n p0 : Nat} {out loc out' loc' : List AObj} {env : Nat → AV} {w w' : World} {a : Act} (hs : Sim C G ⟨n, p0, out, loc, env⟩ w a) {d : Option Nat} {v : AV} {cv : Value}
    (hl : out'.length = out.length) (hr : Rep G' v cv) (hm : MemOk C G' (out' ++ loc') w') (hx : Ext G.n G G') : Sim C G' ⟨n, p0, out', loc', upd d v env⟩ w' (a.put d cv) := by
  refine ⟨?_, ?_, ?_, hl.trans hs.outlen, hm⟩
  · cases d <;> simpa [Act.put] using hs.size
  · cases d <;> simpa [Act.put] using hs.defers
  · exact upd_put hs.size (fun t ht => (hs.env t ht).mono hx) d hr

theorem WpL.consR {C : Ctx} {ops : Array Oper} {o : Oper} {rest : List Oper} {Q : Exit → AState → Prop} {n p0 : Nat} {out loc : List AObj} {env : Nat → AV} {R : AV → List AObj → Prop} (hg : o.guard = none) (h : OpStepR C o ⟨n, p0, out, loc, env⟩ R)
    (K : ∀ r objs', R r objs' → ∃ out' loc', objs' = out' ++ loc' ∧ out'.length = out.length ∧ WpL C ops rest Q ⟨n, p0, out', loc', upd o.dst r env⟩) : WpL C ops (o :: rest) Q ⟨n, p0, out, loc, env⟩ := by
  intro G w a hs
  simp only [wpOpers]
  rw [if_pos (wanted_none hg _)]
  refine h G w a hs _ _ fun v objs cv w' G' hR hr hm hx => ?_
  obtain ⟨out', loc', rfl, hl, hk⟩ := K v objs hR
  exact wpOpers_ofExt (P := C.P) (ops := ops) (Q := Q) (hx.le hs.p0_le) rest _ _ (hk G' w' _ (sim_put hs hl hr hm hx))
theorem WpL.cons {C : Ctx} {ops : Array Oper} {rest : List Oper} {Q : Exit → AState → Prop} {n p0 : Nat} {out loc out' loc' : List AObj} {env : Nat → AV} {v : AV} {d : Option Nat} {op : Op} {ty : TypeId} {pos : String} {aft : Array Edge}
    (h : OpStep C { dst := d, op := op, type := ty, pos := pos, after := aft, guard := none } ⟨n, p0, out, loc, env⟩ v out' loc')
    (K : WpL C ops rest Q ⟨n, p0, out', loc', upd d v env⟩) : WpL C ops ({ dst := d, op := op, type := ty, pos := pos, after := aft, guard := none } :: rest) Q ⟨n, p0, out, loc, env⟩ :=
  WpL.consR rfl h.2 fun r objs ⟨e1, e2⟩ => ⟨out', loc', e2, h.1, e1 ▸ K⟩

end Go.Av
