/-
  AvDraw: a region that draws its order: what its operations come to one behind the other they come to in each order that the edges allow.
-/
import Derived.Test.YtdfmefkjjdlbiaaDoorAvMore
import Derived.Orders
namespace Go.Av
open Go.RowKit (Below)
set_option linter.unusedVariables false
set_option linter.unusedSimpArgs false

/-! ### Who must lie ahead of whom -/
def maskOf (o : Oper) (acc : List Nat) : Nat := o.after.toList.foldl (fun s e => cond (Region.binds .any e) (s ||| 2 ^ e.on ||| acc.getD e.on 0) s) 0
def ancL : List Oper → List Nat → List Nat
  | [], acc => acc
  | o :: r, acc => ancL r (acc ++ [maskOf o acc])

theorem mask_bit {acc : List Nat} {k : Nat} : ∀ (l : List Edge) (s : Nat), (l.foldl (fun s e => cond (Region.binds .any e) (s ||| 2 ^ e.on ||| acc.getD e.on 0) s) s).testBit k = true →
    s.testBit k = true ∨ ∃ e, e ∈ l ∧ Region.binds .any e = true ∧ (k = e.on ∨ (acc.getD e.on 0).testBit k = true)
  | [], s, h => .inl h
  | e :: l, s, h => by
    simp only [List.foldl_cons] at h
    rcases mask_bit l _ h with h | ⟨e', h1, h2⟩
    · cases hb : Region.binds .any e with
      | false => rw [hb] at h; exact .inl h
      | true =>
        rw [hb] at h
        simp only [cond_true, Nat.testBit_or, Bool.or_eq_true] at h
        rcases h with (h | h) | h
        · exact .inl h
        · rw [Nat.testBit_two_pow] at h
          exact .inr ⟨e, List.mem_cons_self .., hb, .inl (of_decide_eq_true h).symm⟩
        · exact .inr ⟨e, List.mem_cons_self .., hb, .inr h⟩
    · exact .inr ⟨e', List.mem_cons_of_mem _ h1, h2⟩

/-- A set of places that is closed under the edges. -/
def Closed (ops : List Oper) (D : Nat → Bool) : Prop := ∀ j o e, ops[j]? = some o → e ∈ o.after.toList → Region.binds .any e = true → D j = true → D e.on = true

theorem ancL_closed {D : Nat → Bool} : ∀ (l done : List Oper) (acc : List Nat), acc.length = done.length → Closed (done ++ l) D →
    (∀ j k, j < acc.length → (acc.getD j 0).testBit k = true → D j = true → D k = true) → ∀ j k, ((ancL l acc).getD j 0).testBit k = true → D j = true → D k = true
  | [], done, acc, hl, hc, h, j, k, hb, hd => by
    simp only [ancL] at hb
    rcases Nat.lt_or_ge j acc.length with hj | hj
    · exact h j k hj hb hd
    · rw [getD_eq, List.getElem?_eq_none hj] at hb; simp at hb
  | o :: l, done, acc, hl, hc, h, j, k, hb, hd => by
    simp only [ancL] at hb
    refine ancL_closed l (done ++ [o]) (acc ++ [maskOf o acc]) (by simp [hl]) (by simpa using hc) ?_ j k hb hd
    intro j k hj hb hd
    rcases Nat.lt_or_ge j acc.length with hj' | hj'
    · rw [getD_eq, List.getElem?_append_left hj', ← getD_eq] at hb; exact h j k hj' hb hd
    · have : j = acc.length := by simp at hj; omega
      subst this
      rw [getD_eq, List.getElem?_append_right (Nat.le_refl _)] at hb
      simp at hb
      rcases mask_bit _ _ hb with hb | ⟨e, he, hbi, hk⟩
      · simp at hb
      · have hDe := hc acc.length o e (by rw [hl]; simp) he hbi hd
        rcases hk with rfl | hk
        · exact hDe
        · rcases Nat.lt_or_ge e.on acc.length with he' | he'
          · exact h e.on k he' hk hDe
          · rw [getD_eq, List.getElem?_eq_none he'] at hk; simp at hk

theorem anc_closed {ops : List Oper} {D : Nat → Bool} (hc : Closed ops D) {j k : Nat} (hb : ((ancL ops []).getD j 0).testBit k = true) (hd : D j = true) : D k = true :=
  ancL_closed ops [] [] rfl (by simpa using hc) (fun j k h => absurd h (Nat.not_lt_zero _)) j k hb hd

/-! ### What an operation looks at -/
def tmpsOf : List Operand → List Nat
  | [] => []
  | .tmp t :: r => t :: tmpsOf r
  | _ :: r => tmpsOf r
def looks (ops : Array Oper) (o : Oper) : List Nat :=
  match o.guard with
  | some (j, _) => match (ops[j]?).bind (·.dst) with
    | some t => t :: tmpsOf o.op.operands.toList
    | none => tmpsOf o.op.operands.toList
  | none => tmpsOf o.op.operands.toList
def memN (t : Nat) : List Nat → Bool
  | [] => false
  | u :: r => cond (Nat.beq t u) true (memN t r)
theorem memN_iff {t : Nat} : ∀ {l : List Nat}, memN t l = true ↔ t ∈ l
  | [] => by simp [memN]
  | u :: r => by
    cases h : Nat.beq t u with
    | true => have := Nat.eq_of_beq_eq_true h; simp [memN, h, this]
    | false =>
      have : t ≠ u := fun e => by rw [e, Nat.beq_refl] at h; cases h
      simp [memN, h, this, memN_iff (l := r)]
def restr (ts : List Nat) (env : Nat → AV) : Nat → AV := fun t => cond (memN t ts) (env t) .any

/-- Each two of which one writes what the other names are in order; each edge goes back. -/
def pairOk (A : List Nat) (ops : Array Oper) (i : Nat) (oi : Oper) (j : Nat) (oj : Oper) : Bool :=
  match oj.dst with
  | none => true
  | some t => Nat.beq i j || !(memN t (looks ops oi) || (match oi.dst with | some u => Nat.beq t u | none => false)) || (cond (Nat.blt i j) ((A.getD j 0).testBit i) ((A.getD i 0).testBit j))
def rowOk (A : List Nat) (ops : Array Oper) (i : Nat) (oi : Oper) : Nat → List Oper → Bool
  | _, [] => true
  | j, oj :: r => pairOk A ops i oi j oj && rowOk A ops i oi (j + 1) r
def allOk (A : List Nat) (ops : Array Oper) : Nat → List Oper → Bool
  | _, [] => true
  | i, oi :: r => rowOk A ops i oi 0 ops.toList && oi.after.toList.all (fun e => !Region.binds .any e || Nat.blt e.on i) && allOk A ops (i + 1) r
def drawOk (ops : Array Oper) : Bool := allOk (ancL ops.toList []) ops 0 ops.toList

theorem rowOk_at {A : List Nat} {ops : Array Oper} {i : Nat} {oi : Oper} : ∀ {l : List Oper} {j0 k : Nat} {oj : Oper}, rowOk A ops i oi j0 l = true → l[k]? = some oj → pairOk A ops i oi (j0 + k) oj = true
  | [], _, _, _, _, h => by simp at h
  | o :: r, j0, 0, oj, h, e => by simp [rowOk] at h; simp at e; subst e; exact h.1
  | o :: r, j0, k + 1, oj, h, e => by
    simp [rowOk] at h
    have := rowOk_at (k := k) h.2 (by simpa using e)
    rwa [show j0 + 1 + k = j0 + (k + 1) by omega] at this
theorem allOk_at {A : List Nat} {ops : Array Oper} : ∀ {l : List Oper} {i0 k : Nat} {oi : Oper}, allOk A ops i0 l = true → l[k]? = some oi →
    rowOk A ops (i0 + k) oi 0 ops.toList = true ∧ ∀ e, e ∈ oi.after.toList → Region.binds .any e = true → e.on < i0 + k
  | [], _, _, _, _, h => by simp at h
  | o :: r, i0, 0, oi, h, e => by
    simp only [allOk, Bool.and_eq_true] at h
    simp at e; subst e
    refine ⟨h.1.1, fun e he hb => ?_⟩
    have := List.all_eq_true.1 h.1.2 e he
    rw [hb] at this
    simpa [Nat.blt_eq] using this
  | o :: r, i0, k + 1, oi, h, e => by
    simp only [allOk, Bool.and_eq_true] at h
    have := allOk_at (k := k) h.2 (by simpa using e)
    rwa [show i0 + 1 + k = i0 + (k + 1) by omega] at this

/-! ### The frame, by who is done -/
def addN (D : Nat → Bool) (i : Nat) : Nat → Bool := fun k => cond (Nat.beq k i) true (D k)
def dstAt (ops : List Oper) (i : Nat) : Option Nat := (ops[i]?).bind (·.dst)
def envOf (ops : List Oper) (V : Nat → AV) (env0 : Nat → AV) (D : Nat → Bool) : Nat → (Nat → AV)
  | 0 => env0
  | k + 1 => cond (D k) (upd (dstAt ops k) (V k) (envOf ops V env0 D k)) (envOf ops V env0 D k)

theorem upd_ne {d : Option Nat} {v : AV} {env : Nat → AV} {t : Nat} (h : d ≠ some t) : upd d v env t = env t := by
  cases d with
  | none => rfl
  | some u =>
    simp only [upd]
    cases hb : Nat.beq t u with
    | true => exact absurd (by rw [Nat.eq_of_beq_eq_true hb]) h
    | false => rfl
theorem upd_eq {t : Nat} {v : AV} {env : Nat → AV} : upd (some t) v env t = v := by simp [upd, Nat.beq_refl]

theorem envOf_agree {ops : List Oper} {V : Nat → AV} {env0 : Nat → AV} {D D' : Nat → Bool} {t : Nat} : ∀ (k : Nat), (∀ j, j < k → dstAt ops j = some t → D j = D' j) → envOf ops V env0 D k t = envOf ops V env0 D' k t
  | 0, _ => rfl
  | k + 1, h => by
    have ih := envOf_agree (V := V) (env0 := env0) k fun j hj => h j (by omega)
    simp only [envOf]
    by_cases hd : dstAt ops k = some t
    · rw [h k (by omega) hd]
      cases D' k with
      | true => simp only [cond_true]; rw [hd, upd_eq, upd_eq]
      | false => exact ih
    · cases D k <;> cases D' k <;> simp only [cond_true, cond_false, upd_ne hd] <;> exact ih
theorem envOf_skip {ops : List Oper} {V : Nat → AV} {env0 : Nat → AV} {D : Nat → Bool} {t i : Nat} : ∀ (k : Nat), i ≤ k → (∀ j, i ≤ j → j < k → dstAt ops j = some t → D j = false) → envOf ops V env0 D k t = envOf ops V env0 D i t
  | 0, h, _ => by rw [Nat.le_zero.1 h]
  | k + 1, h, hj => by
    rcases Nat.lt_or_ge k i with c | c
    · rw [show i = k + 1 by omega]
    · rw [← envOf_skip k c fun j h1 h2 => hj j h1 (by omega)]
      simp only [envOf]
      by_cases hd : dstAt ops k = some t
      · rw [hj k c (by omega) hd]; rfl
      · cases D k <;> simp only [cond_true, cond_false, upd_ne hd]

/-- Lexically: the frame ahead of place i. -/
def lexEnv (ops : List Oper) (V : Nat → AV) (env0 : Nat → AV) (i : Nat) : Nat → AV := envOf ops V env0 (fun _ => true) i

structure DrawStep (C : Ctx) (ops : Array Oper) (n p0 : Nat) (S : (Nat → Bool) → List AObj × List AObj) (i : Nat) (o : Oper) (env : Nat → AV) (v : AV) : Prop where
  cases :
    ((o.guard = none ∨ ∃ j b t, o.guard = some (j, b) ∧ (ops[j]?).bind (·.dst) = some t ∧ t < n ∧ env t = .bool b) ∧
      ∀ D, Closed ops.toList D → Closed ops.toList (addN D i) → D i = false → OpStep C o ⟨n, p0, (S D).1, (S D).2, restr (looks ops o) env⟩ v (S (addN D i)).1 (S (addN D i)).2) ∨
    ((∃ j b t, o.guard = some (j, b) ∧ (ops[j]?).bind (·.dst) = some t ∧ t < n ∧ env t = .bool (!b)) ∧ v = .any ∧ ∀ D, S (addN D i) = S D)

theorem pairOk_spec {A : List Nat} {ops : Array Oper} {i j t : Nat} {oi oj : Oper} (h : pairOk A ops i oi j oj = true) (ht : oj.dst = some t) (hne : i ≠ j) (hm : t ∈ looks ops oi ∨ oi.dst = some t) :
    (i < j → (A.getD j 0).testBit i = true) ∧ (j < i → (A.getD i 0).testBit j = true) := by
  have hb : Nat.beq i j = false := by
    cases hb : Nat.beq i j with
    | false => rfl
    | true => exact absurd (Nat.eq_of_beq_eq_true hb) hne
  have h2 : (memN t (looks ops oi) || (match oi.dst with | some u => Nat.beq t u | none => false)) = true := by
    rcases hm with hm | hm
    · rw [memN_iff.2 hm]; rfl
    · rw [hm]; simp [Nat.beq_refl]
  simp only [pairOk, ht, hb, h2, Bool.not_true, Bool.or_false, Bool.false_or] at h
  constructor
  · intro hlt
    rw [show Nat.blt i j = true from by rw [Nat.blt_eq]; exact hlt] at h
    exact h
  · intro hlt
    rw [show Nat.blt i j = false from Bool.eq_false_iff.2 fun e => by rw [Nat.blt_eq] at e; omega] at h
    exact h

theorem restr_sim {C : Ctx} {G : Ghost} {n p0 : Nat} {out loc : List AObj} {env env' : Nat → AV} {w : World} {a : Act} {ts : List Nat} (hs : Sim C G ⟨n, p0, out, loc, env⟩ w a) (h : ∀ t, t ∈ ts → env t = env' t) : Sim C G ⟨n, p0, out, loc, restr ts env'⟩ w a := by
  refine ⟨hs.size, hs.defers, fun t ht => ?_, hs.outlen, hs.mem⟩
  simp only [restr]
  cases hb : memN t ts with
  | true => simp only [cond_true]; rw [← h t (memN_iff.1 hb)]; exact hs.env t ht
  | false => exact .any _

section
variable {C : Ctx} {ops : Array Oper} {n p0 : Nat} {S : (Nat → Bool) → List AObj × List AObj} {V : Nat → AV} {env0 : Nat → AV} {Q : Exit → AState → Prop}

/-- One more place is done. -/
theorem envOf_add {ops : List Oper} {V : Nat → AV} {env0 : Nat → AV} {D : Nat → Bool} {i m : Nat} (hi : i < m) (hD : D i = false)
    (hord : ∀ j, j ≠ i → ∀ t, dstAt ops j = some t → dstAt ops i = some t → (j < i → D j = true) ∧ (i < j → D j = false)) (t : Nat) :
    envOf ops V env0 (addN D i) m t = upd (dstAt ops i) (V i) (envOf ops V env0 D m) t := by
  by_cases ht : dstAt ops i = some t
  · rw [ht, upd_eq]
    have h1 : envOf ops V env0 (addN D i) m t = envOf ops V env0 (addN D i) (i + 1) t := envOf_skip m (by omega) fun j h1 h2 hj => by
      have hne : j ≠ i := by omega
      have := (hord j hne t hj ht).2 (by omega)
      simp only [addN]
      cases hb : Nat.beq j i with
      | true => exact absurd (Nat.eq_of_beq_eq_true hb) hne
      | false => exact this
    rw [h1]
    simp only [envOf]
    rw [show addN D i i = true by simp [addN, Nat.beq_refl], ht]
    simp only [cond_true, upd_eq]
  · rw [upd_ne ht]
    refine envOf_agree m fun j hj hdj => ?_
    simp only [addN]
    cases hb : Nat.beq j i with
    | true => have := Nat.eq_of_beq_eq_true hb; subst this; exact absurd hdj ht
    | false => rfl

theorem draw_any (hok : drawOk ops = true) (H : ∀ i o, ops.toList[i]? = some o → DrawStep C ops n p0 S i o (lexEnv ops.toList V env0 i) (V i))
    {G : Ghost} (hQ : ∀ G' D w a, (∀ i, i < ops.size → D i = true) → Ext p0 G G' → Sim C G' ⟨n, p0, (S D).1, (S D).2, envOf ops.toList V env0 D ops.size⟩ w a → Post C Q G p0 .normal a w) :
    ∀ (fuel : Nat) (listed : Array Bool) (G' : Ghost) (w : World) (a : Act), listed.size = ops.size → (listed.toList.countP (· == false)) = fuel →
      Closed ops.toList (fun i => listed.getD i false) → Ext p0 G G' →
      Sim C G' ⟨n, p0, (S fun i => listed.getD i false).1, (S fun i => listed.getD i false).2, envOf ops.toList V env0 (fun i => listed.getD i false) ops.size⟩ w a →
      wpAny C.P .any ops (Post C Q G p0) fuel listed a w := by
  have ready_spec : ∀ (listed : Array Bool), listed.size = ops.size → ∀ i, i ∈ Region.ready .any ops listed ↔ i < ops.size ∧ listed.getD i false = false ∧ ∀ o e, ops.toList[i]? = some o → e ∈ o.after.toList → Region.binds .any e = true → listed.getD e.on false = true := by
    intro listed hsz i
    simp only [Region.ready, List.mem_filter, List.mem_range, Bool.and_eq_true]
    constructor
    · rintro ⟨h1, h2, h3⟩
      refine ⟨h1, ?_, fun o e ho he hb => ?_⟩
      · have hlt : i < listed.size := by omega
        simp only [Array.getD_eq_getD_getElem?, Array.getElem?_eq_getElem hlt, Option.getD_some] at h2 ⊢
        simpa using h2
      · have ho' : ops[i]? = some o := by simpa using ho
        rw [ho'] at h3
        simp only [Option.map_some, Option.getD_some, Array.all_eq_true'] at h3
        have := h3 e (by simpa using he)
        rw [hb] at this
        simpa using this
    · rintro ⟨h1, h2, h3⟩
      have hlt : i < listed.size := by omega
      refine ⟨h1, ?_, ?_⟩
      · simp only [Array.getD_eq_getD_getElem?, Array.getElem?_eq_getElem hlt, Option.getD_some] at h2 ⊢
        simpa using h2
      · have ho : ops[i]? = some ops[i] := Array.getElem?_eq_getElem h1
        rw [ho]
        simp only [Option.map_some, Option.getD_some, Array.all_eq_true']
        intro e he
        cases hb : Region.binds .any e with
        | false => rfl
        | true => simpa using h3 ops[i] e (by simp) (by simpa using he) hb
  have all_done : ∀ (listed : Array Bool), listed.size = ops.size → Region.ready .any ops listed = [] → ∀ i, i < ops.size → listed.getD i false = true := by
    intro listed hsz hr
    have key : ∀ m i, i < m → i < ops.size → listed.getD i false = true := by
      intro m
      induction m with
      | zero => intro i h; omega
      | succ m ih =>
        intro i him hi
        cases hl : listed.getD i false with
        | true => rfl
        | false =>
          have : i ∈ Region.ready .any ops listed := (ready_spec listed hsz i).2 ⟨hi, hl, fun o e ho he hb => by
            have := (allOk_at hok ho).2 e he hb
            exact ih e.on (by omega) (by omega)⟩
          rw [hr] at this; cases this
    exact fun i hi => key (i + 1) i (by omega) hi
  intro fuel
  induction fuel with
  | zero =>
    intro listed G' w a hsz hcount hcl hx hs
    have hall : ∀ i, i < ops.size → listed.getD i false = true := by
      intro i hi
      have hlt : i < listed.toList.length := by simp; omega
      rw [List.countP_eq_zero] at hcount
      have := hcount listed.toList[i] (List.getElem_mem hlt)
      have hlt' : i < listed.size := by omega
      simp only [Array.getD_eq_getD_getElem?, Array.getElem?_eq_getElem hlt', Option.getD_some]
      simpa using this
    refine ⟨?_, hQ G' _ w a hall hx hs⟩
    apply List.eq_nil_iff_forall_not_mem.2
    intro i hi
    have := (ready_spec listed hsz i).1 hi
    rw [hall i this.1] at this
    simp at this
  | succ fuel ih =>
    intro listed G' w a hsz hcount hcl hx hs
    refine ⟨fun hr => hQ G' _ w a (all_done listed hsz hr) hx hs, fun i hi => ?_⟩
    obtain ⟨hi1, hi2, hi3⟩ := (ready_spec listed hsz i).1 hi
    have ho : ops[i]? = some ops[i] := Array.getElem?_eq_getElem hi1
    have ho' : ops.toList[i]? = some ops[i] := by simp
    -- order
    have hpair : ∀ j oj t, j ≠ i → ops.toList[j]? = some oj → oj.dst = some t → (t ∈ looks ops ops[i] ∨ ops[i].dst = some t) → (j < i → listed.getD j false = true) ∧ (i < j → listed.getD j false = false) := by
      intro j oj t hne hoj ht hm
      have hrow := rowOk_at (allOk_at hok ho').1 hoj
      rw [Nat.zero_add, Nat.zero_add] at hrow
      obtain ⟨h1, h2⟩ := pairOk_spec hrow ht (Ne.symm hne) hm
      constructor
      · intro hlt
        have hb := h2 hlt
        -- the set with i added is closed
        have hcl' : Closed ops.toList (addN (fun k => listed.getD k false) i) := by
          intro k o e hk he hb' hd
          simp only [addN] at hd ⊢
          cases hki : Nat.beq k i with
          | true =>
            have := Nat.eq_of_beq_eq_true hki
            subst this
            rw [hi3 o e hk he hb']
            cases Nat.beq e.on k <;> rfl
          | false =>
            rw [hki] at hd
            have h9 : listed.getD e.on false = true := hcl k o e hk he hb' hd
            rw [h9]
            cases Nat.beq e.on i <;> rfl
        have := anc_closed hcl' hb (by simp [addN, Nat.beq_refl])
        simp only [addN] at this
        cases hji : Nat.beq j i with
        | true => exact absurd (Nat.eq_of_beq_eq_true hji) hne
        | false => rw [hji] at this; exact this
      · intro hlt
        cases hl : listed.getD j false with
        | false => rfl
        | true => have h9 : listed.getD i false = true := anc_closed hcl (h1 hlt) hl; rw [hi2] at h9; cases h9
    have hlex : ∀ t, t ∈ looks ops ops[i] → envOf ops.toList V env0 (fun k => listed.getD k false) ops.size t = lexEnv ops.toList V env0 i t := by
      intro t ht
      have e1 : envOf ops.toList V env0 (fun k => listed.getD k false) ops.size t = envOf ops.toList V env0 (fun k => listed.getD k false) i t := by
        refine envOf_skip ops.size (by omega) fun j h1 h2 hj => ?_
        by_cases hji : j = i
        · subst hji; exact hi2
        · simp only [dstAt] at hj
          cases hoj : ops.toList[j]? with
          | none => rw [hoj] at hj; simp at hj
          | some oj =>
            rw [hoj] at hj
            exact (hpair j oj t hji hoj (by simpa using hj) (.inl ht)).2 (by omega)
      rw [e1]
      refine envOf_agree i fun j hj hdj => ?_
      simp only [dstAt] at hdj
      cases hoj : ops.toList[j]? with
      | none => rw [hoj] at hdj; simp at hdj
      | some oj =>
        rw [hoj] at hdj
        exact (hpair j oj t (by omega) hoj (by simpa using hdj) (.inl ht)).1 hj
    have hset : (fun k => (listed.setIfInBounds i true).getD k false) = addN (fun k => listed.getD k false) i := by
      funext k
      simp only [addN, Array.getD_eq_getD_getElem?]
      by_cases hk : k = i
      · subst hk
        rw [Array.getElem?_setIfInBounds_self, if_pos (by omega), Nat.beq_refl]; rfl
      · rw [Array.getElem?_setIfInBounds_ne (fun e => hk e.symm)]
        cases hb : Nat.beq k i with
        | true => exact absurd (Nat.eq_of_beq_eq_true hb) hk
        | false => rfl
    have hclN : Closed ops.toList (addN (fun k => listed.getD k false) i) := by
      intro k o e hk he hb hd
      simp only [addN] at hd ⊢
      cases hki : Nat.beq k i with
      | true =>
        have := Nat.eq_of_beq_eq_true hki
        subst this
        rw [hi3 o e hk he hb]
        cases Nat.beq e.on k <;> rfl
      | false =>
        rw [hki] at hd
        have h9 : listed.getD e.on false = true := hcl k o e hk he hb hd
        rw [h9]
        cases Nat.beq e.on i <;> rfl
    have hnext : ∀ (v : AV) (cv : Value) (w' : World) (G'' : Ghost), v = V i → Rep G'' v cv → MemOk C G'' ((S (addN (fun k => listed.getD k false) i)).1 ++ (S (addN (fun k => listed.getD k false) i)).2) w' → Ext G'.n G' G'' → (S (addN (fun k => listed.getD k false) i)).1.length = (S fun k => listed.getD k false).1.length →
        wpAny C.P .any ops (Post C Q G p0) fuel (listed.setIfInBounds i true) (a.put ops[i].dst cv) w' := by
      intro v cv w' G'' hv hr hm hx' hlen
      have hsim := sim_put hs hlen hr hm hx' (d := ops[i].dst)
      refine ih _ G'' w' _ (by simpa using hsz) ?_ ?_ (hx.trans (hx'.le hs.p0_le) (Nat.le_refl _)) ?_
      · have hlt : i < listed.toList.length := by simp; omega
        rw [Array.toList_setIfInBounds]
        have h0 : listed.toList[i] = false := by
          have hlt' : i < listed.size := by omega
          simp only [Array.getD_eq_getD_getElem?, Array.getElem?_eq_getElem hlt', Option.getD_some] at hi2
          simpa using hi2
        have := List.countP_set (p := (· == false)) (a := true) hlt
        rw [h0, hcount] at this
        simpa using this
      · rw [hset]; exact hclN
      · rw [hset]
        refine ⟨hsim.size, hsim.defers, fun t ht => ?_, hsim.outlen, hsim.mem⟩
        have := hsim.env t ht
        simp only at this ⊢
        rw [envOf_add hi1 hi2]
        · have hd : dstAt ops.toList i = ops[i].dst := by simp [dstAt, ho']
          rw [hd, ← hv]
          exact this
        · intro j hne t hdj hdi
          simp only [dstAt] at hdj hdi
          rw [ho'] at hdi
          cases hoj : ops.toList[j]? with
          | none => rw [hoj] at hdj; simp at hdj
          | some oj =>
            rw [hoj] at hdj
            exact hpair j oj t hne hoj (by simpa using hdj) (.inr (by simpa using hdi))
    have hstep := (H i ops[i] ho').cases
    simp only [wpOp, ho]
    have hyield : ∀ j t b, (ops[j]?).bind (·.dst) = some t → t < n → envOf ops.toList V env0 (fun k => listed.getD k false) ops.size t = .bool b → yielded ops a.tmps j = some b := by
      intro j t b hj ht hb
      have hr := hs.env t ht
      simp only at hr
      rw [hb] at hr
      have hcv := hr.bool_inv
      have hlt : t < a.tmps.size := by rw [hs.size]; exact ht
      rw [Array.getD_eq_getD_getElem?, Array.getElem?_eq_getElem hlt] at hcv
      simp only [yielded, hj, Option.bind_some, Array.getElem?_eq_getElem hlt]
      simp only [Option.getD_some] at hcv
      rw [hcv]
    have hlookg : ∀ j b t, ops[i].guard = some (j, b) → (ops[j]?).bind (·.dst) = some t → t ∈ looks ops ops[i] := by
      intro j b t hg ht
      unfold looks
      rw [hg]
      simp only [ht]
      exact List.mem_cons_self ..
    rcases hstep with ⟨hg, hop⟩ | ⟨⟨j, b, t, hg, hj, ht, hb⟩, hv, hS⟩
    · have hw : Region.wanted ops[i] (yielded ops a.tmps) = true := by
        rcases hg with hg | ⟨j, b, t, hg, hj, ht, hb⟩
        · exact wanted_none hg _
        · have := hyield j t b hj ht (by rw [hlex t (hlookg j b t hg hj)]; exact hb)
          simp [Region.wanted, hg, this]
      rw [if_pos hw]
      left
      have hst := hop (fun k => listed.getD k false) hcl hclN hi2
      refine hst.2 G' w a (restr_sim hs hlex) _ _ fun v objs cv w' G'' hR hr hm hx' => ?_
      obtain ⟨rfl, rfl⟩ := hR
      exact hnext _ cv w' G'' rfl hr hm hx' hst.1
    · have hw : Region.wanted ops[i] (yielded ops a.tmps) = false := by
        have := hyield j t (!b) hj ht (by rw [hlex t (hlookg j b t hg hj)]; exact hb)
        simp only [Region.wanted, hg, this]
        cases b <;> rfl
      rw [hw]
      simp only [Bool.false_eq_true, if_false]
      refine hnext .any undef w G' hv.symm (.any _) ?_ (Ext.refl (Nat.le_refl _)) (by rw [hS])
      rw [hS]; exact hs.mem

/-- The operations of a drawing region, one behind the other. -/
def DrawL (C : Ctx) (ops : Array Oper) (n p0 : Nat) (S : (Nat → Bool) → List AObj × List AObj) : Nat → List Oper → (Nat → AV) → ((Nat → AV) → Prop) → Prop
  | _, [], env, K => K env
  | i, o :: rest, env, K => ∃ v, DrawStep C ops n p0 S i o env v ∧ DrawL C ops n p0 S (i + 1) rest (upd o.dst v env) K

theorem DrawL.vals {K : (Nat → AV) → Prop} : ∀ (l done : List Oper) (Vd : Nat → AV), ops.toList = done ++ l → (∀ i o, i < done.length → ops.toList[i]? = some o → DrawStep C ops n p0 S i o (lexEnv ops.toList Vd env0 i) (Vd i)) →
    DrawL C ops n p0 S done.length l (lexEnv ops.toList Vd env0 done.length) K →
    ∃ V, (∀ i o, ops.toList[i]? = some o → DrawStep C ops n p0 S i o (lexEnv ops.toList V env0 i) (V i)) ∧ K (lexEnv ops.toList V env0 ops.size)
  | [], done, Vd, he, hd, hK => by
    have hlen : done.length = ops.size := by have := congrArg List.length he; simpa using this.symm
    refine ⟨Vd, fun i o ho => hd i o ?_ ho, ?_⟩
    · have := lt_of_getElem? ho; simp at this; omega
    · rw [← hlen]; exact hK
  | o :: rest, done, Vd, he, hd, hK => by
    obtain ⟨v, hst, hr⟩ := hK
    have hlexeq : ∀ (V V' : Nat → AV) (k : Nat), (∀ j, j < k → V j = V' j) → lexEnv ops.toList V env0 k = lexEnv ops.toList V' env0 k := by
      intro V V' k
      induction k with
      | zero => intro _; rfl
      | succ k ih =>
        intro h
        simp only [lexEnv, envOf, cond_true]
        have := ih fun j hj => h j (by omega)
        simp only [lexEnv] at this
        rw [this, h k (by omega)]
    have ho : ops.toList[done.length]? = some o := by rw [he]; simp
    let V' : Nat → AV := fun i => if i = done.length then v else Vd i
    have hV' : ∀ j, j < done.length → V' j = Vd j := fun j hj => by simp only [V']; rw [if_neg (by omega)]
    have hlen : (done ++ [o]).length = done.length + 1 := by simp
    refine DrawL.vals rest (done ++ [o]) V' (by simp [he]) (fun i o' hi ho' => ?_) ?_
    · rw [hlen] at hi
      rcases Nat.lt_or_ge i done.length with c | c
      · rw [hlexeq V' Vd i fun j hj => hV' j (by omega), hV' i c]; exact hd i o' c ho'
      · have : i = done.length := by omega
        subst this
        rw [ho] at ho'; cases ho'
        rw [hlexeq V' Vd _ hV']
        have : V' done.length = v := by simp only [V']; rw [if_pos trivial]
        rw [this]; exact hst
    · rw [hlen]
      have e1 : lexEnv ops.toList V' env0 (done.length + 1) = upd o.dst v (lexEnv ops.toList Vd env0 done.length) := by
        simp only [lexEnv, envOf, cond_true]
        have := hlexeq V' Vd done.length hV'
        simp only [lexEnv] at this
        rw [this]
        have e2 : V' done.length = v := by simp only [V']; rw [if_pos trivial]
        have e3 : dstAt ops.toList done.length = o.dst := by simp [dstAt, ho]
        rw [e2, e3]
      rw [e1]; exact hr

theorem AWp.drawS (hm : C.P.follows .mixedOrders = true) {id : Nat} {l : List Oper} {out loc : List AObj} (hok : drawOk ops = true) (hl : ops.toList = l) (h0 : S (fun _ => false) = (out, loc))
    (hext : ∀ D D', (∀ i, i < ops.size → D i = D' i) → S D = S D')
    (H : DrawL C ops n p0 S 0 l env0 fun env => Q .normal ⟨n, p0, (S fun _ => true).1, (S fun _ => true).2, env⟩) : AWp C (.region id ops true) Q ⟨n, p0, out, loc, env0⟩ := by
  intro G w a hs
  obtain ⟨V, hV, hQ⟩ := DrawL.vals (ops := ops) (env0 := env0) l [] (fun _ => .any) (by simpa using hl) (fun i o h => absurd h (Nat.not_lt_zero _)) H
  refine wp_region_any hm ?_
  have hfalse : (fun i => (Array.replicate ops.size false).getD i false) = fun _ => false := by
    funext i
    simp only [Array.getD_eq_getD_getElem?, Array.getElem?_replicate]
    split <;> rfl
  have henv0 : envOf ops.toList V env0 (fun _ => false) ops.size = env0 := by
    have : ∀ k, envOf ops.toList V env0 (fun _ => false) k = env0 := by
      intro k
      induction k with
      | zero => rfl
      | succ k ih => simp only [envOf, cond_false]; exact ih
    exact this _
  have hm' : MemOk C G (out ++ loc) { w with drawn := w.drawn + 1 } := hs.mem.of_heap rfl rfl rfl rfl
  refine draw_any hok hV (G := G) ?_ ops.size _ G _ a (by simp) (by rw [Array.toList_replicate, List.countP_replicate]; simp) ?_ (Ext.refl hs.p0_le) ?_
  · intro G' D w' a' hD hx hs'
    have e1 : S D = S fun _ => true := hext _ _ fun i hi => hD i hi
    have e2 : envOf ops.toList V env0 D ops.size = lexEnv ops.toList V env0 ops.size := by
      funext t
      exact envOf_agree ops.size fun j hj _ => hD j hj
    rw [e1, e2] at hs'
    exact ⟨_, G', hs', rfl, hx, hQ⟩
  · intro j o e _ _ _ hd
    simp only [Array.getD_eq_getD_getElem?, Array.getElem?_replicate] at hd
    split at hd <;> simp at hd
  · rw [hfalse, henv0, h0]
    exact ⟨hs.size, hs.defers, hs.env, hs.outlen, hm'⟩

/-- A drawing region that leaves the store as it is. -/
theorem AWp.draw (hm : C.P.follows .mixedOrders = true) {id : Nat} {l : List Oper} {out loc : List AObj} (hok : drawOk ops = true) (hl : ops.toList = l)
    (H : DrawL C ops n p0 (fun _ => (out, loc)) 0 l env0 fun env => Q .normal ⟨n, p0, out, loc, env⟩) : AWp C (.region id ops true) Q ⟨n, p0, out, loc, env0⟩ :=
  AWp.drawS hm hok hl rfl (fun _ _ _ => rfl) H

theorem DrawL.nil {i : Nat} {env : Nat → AV} {K : (Nat → AV) → Prop} (h : K env) : DrawL C ops n p0 S i [] env K := h
variable {d : Option Nat} {op : Op} {ty : TypeId} {pos : String} {aft : Array Edge}
/-- an operation without a guard -/
theorem DrawL.cons {i : Nat} {rest : List Oper} {ts : List Nat} {env : Nat → AV} {K : (Nat → AV) → Prop} {v : AV} {out loc : List AObj} (hts : tmpsOf op.operands.toList = ts)
    (h : OpStep C { dst := d, op := op, type := ty, pos := pos, after := aft, guard := none } ⟨n, p0, out, loc, restr ts env⟩ v out loc) (hr : DrawL C ops n p0 (fun _ => (out, loc)) (i + 1) rest (upd d v env) K) :
    DrawL C ops n p0 (fun _ => (out, loc)) i ({ dst := d, op := op, type := ty, pos := pos, after := aft, guard := none } :: rest) env K :=
  ⟨v, ⟨.inl ⟨.inl rfl, fun _ _ _ _ => by
    have : looks ops { dst := d, op := op, type := ty, pos := pos, after := aft, guard := none } = ts := by simp only [looks, hts]
    rw [this]; exact h⟩⟩, hr⟩
theorem DrawL.take {i j t : Nat} {b : Bool} {rest : List Oper} {ts : List Nat} {env : Nat → AV} {K : (Nat → AV) → Prop} {v : AV} {out loc : List AObj} (hj : (ops[j]?).bind (·.dst) = some t) (ht : t < n) (hb : env t = .bool b) (hts : tmpsOf op.operands.toList = ts)
    (h : OpStep C { dst := d, op := op, type := ty, pos := pos, after := aft, guard := some (j, b) } ⟨n, p0, out, loc, restr (t :: ts) env⟩ v out loc) (hr : DrawL C ops n p0 (fun _ => (out, loc)) (i + 1) rest (upd d v env) K) :
    DrawL C ops n p0 (fun _ => (out, loc)) i ({ dst := d, op := op, type := ty, pos := pos, after := aft, guard := some (j, b) } :: rest) env K :=
  ⟨v, ⟨.inl ⟨.inr ⟨j, b, t, rfl, hj, ht, hb⟩, fun _ _ _ _ => by
    have : looks ops { dst := d, op := op, type := ty, pos := pos, after := aft, guard := some (j, b) } = t :: ts := by simp only [looks, hj, hts]
    rw [this]; exact h⟩⟩, hr⟩
theorem DrawL.skip {i j t : Nat} {b : Bool} {rest : List Oper} {env : Nat → AV} {K : (Nat → AV) → Prop} {out loc : List AObj} (hj : (ops[j]?).bind (·.dst) = some t) (ht : t < n) (hb : env t = .bool (!b))
    (hr : DrawL C ops n p0 (fun _ => (out, loc)) (i + 1) rest (upd d .any env) K) : DrawL C ops n p0 (fun _ => (out, loc)) i ({ dst := d, op := op, type := ty, pos := pos, after := aft, guard := some (j, b) } :: rest) env K :=
  ⟨.any, ⟨.inr ⟨⟨j, b, t, rfl, hj, ht, hb⟩, rfl, fun _ => rfl⟩⟩, hr⟩
/-- a guard that isn't known: both ways -/
theorem DrawL.split {i t : Nat} {c : Bool} {l : List Oper} {env : Nat → AV} {K : (Nat → AV) → Prop} (hb : env t = .bool c)
    (h1 : c = true → DrawL C ops n p0 S i l (upd (some t) (.bool true) env) K) (h2 : c = false → DrawL C ops n p0 S i l (upd (some t) (.bool false) env) K) : DrawL C ops n p0 S i l env K := by
  have e : ∀ b, c = b → upd (some t) (.bool b) env = env := by
    intro b hc
    funext u
    by_cases hu : u = t
    · subst hu; rw [upd_eq, hb, hc]
    · exact upd_ne (fun e => hu (Option.some.inj e).symm)
  cases hc : c with
  | true => have := h1 hc; rwa [e true hc] at this
  | false => have := h2 hc; rwa [e false hc] at this
theorem DrawL.gSplit {i j t : Nat} {b c : Bool} {o : Oper} {rest : List Oper} {env : Nat → AV} {K : (Nat → AV) → Prop} (hj : (ops[j]?).bind (·.dst) = some t) (hb : env t = .bool c) (ho : o = { dst := d, op := op, type := ty, pos := pos, after := aft, guard := some (j, b) })
    (h1 : c = true → DrawL C ops n p0 S i (o :: rest) (upd (some t) (.bool true) env) K) (h2 : c = false → DrawL C ops n p0 S i (o :: rest) (upd (some t) (.bool false) env) K) :
    DrawL C ops n p0 S i ({ dst := d, op := op, type := ty, pos := pos, after := aft, guard := some (j, b) } :: rest) env K := ho ▸ DrawL.split hb h1 h2
end
end Go.Av
