/-
  AvDraw2: drawing regions in which one or two operations change the store.
-/
import Derived.Test.YtdfmefkjjdlbiaaDoorAvConv
namespace Go.Av
open Go.RowKit (Below)
set_option linter.unusedVariables false
set_option linter.unusedSimpArgs false

theorem OpStep.ofR {C : Ctx} {o : Oper} {s : AState} {R : AV → List AObj → Prop} {v : AV} {out' loc' : List AObj} (h : OpStepR C o s R) (hl : out'.length = s.out.length) (hR : ∀ r ob, R r ob → r = v ∧ ob = out' ++ loc') : OpStep C o s v out' loc' :=
  ⟨hl, fun G w a hs next Q' hk => h G w a hs next Q' fun r objs cv w' G' hr => hk r objs cv w' G' (hR r objs hr)⟩

theorem PureF.on {C : Ctx} {f : FuncId} {args : List AV} {v : AV} (h : PureF C f args v) (objs : List AObj) : ACalls C f args objs fun r o => r = v ∧ o = objs := h objs

def sel1 (k : Nat) (a b : List AObj × List AObj) (D : Nat → Bool) : List AObj × List AObj := cond (D k) b a
def sel2 (k l : Nat) (a b c d : List AObj × List AObj) (D : Nat → Bool) : List AObj × List AObj := cond (D k) (cond (D l) d b) (cond (D l) c a)

theorem addN_self (D : Nat → Bool) (i : Nat) : addN D i i = true := by simp [addN, Nat.beq_refl]
theorem addN_ne (D : Nat → Bool) {i k : Nat} (h : k ≠ i) : addN D i k = D k := by
  simp only [addN]
  cases hb : Nat.beq k i with
  | true => exact absurd (Nat.eq_of_beq_eq_true hb) h
  | false => rfl

section
variable {C : Ctx} {n p0 : Nat} {ops : Array Oper} {d : Option Nat} {ty : TypeId} {pos : String} {aft : Array Edge} {gd : Option (Nat × Bool)} {op : Op}

theorem gOk_spec {us : List Nat} {env : Nat → AV} (hg : gOk ops n env gd = some us) : gd = none ∧ us = [] ∨ ∃ j b t, gd = some (j, b) ∧ us = [t] ∧ (ops[j]?).bind (·.dst) = some t ∧ t < n ∧ env t = .bool b := by
  unfold gOk at hg
  split at hg
  · cases hg; exact .inl ⟨rfl, rfl⟩
  · rename_i j b
    split at hg
    · rename_i t ht
      cases hb : Nat.blt t n with
      | false => rw [hb] at hg; cases hg
      | true =>
        rw [hb] at hg
        simp only [cond_true] at hg
        split at hg
        · rename_i c hc
          cases hcb : (c == b) with
          | false => rw [hcb] at hg; cases hg
          | true =>
            rw [hcb] at hg
            cases hg
            have : c = b := by simpa using hcb
            subst this
            exact .inr ⟨j, c, t, rfl, rfl, ht, by rw [Nat.blt_eq] at hb; exact hb, hc⟩
        · cases hg
    · cases hg
theorem gNo_spec {env : Nat → AV} (hg : gNo ops n env gd = true) : ∃ j b t, gd = some (j, b) ∧ (ops[j]?).bind (·.dst) = some t ∧ t < n ∧ env t = .bool (!b) := by
  unfold gNo at hg
  split at hg
  · cases hg
  · rename_i j b
    split at hg
    · rename_i t ht
      cases hb : Nat.blt t n with
      | false => rw [hb] at hg; cases hg
      | true =>
        rw [hb] at hg
        simp only [cond_true] at hg
        split at hg
        · rename_i c hc
          have : c = !b := by simpa using hg
          subst this
          exact ⟨j, b, t, rfl, ht, by rw [Nat.blt_eq] at hb; exact hb, hc⟩
        · cases hg
    · cases hg

theorem DrawL.goS {S : (Nat → Bool) → List AObj × List AObj} {i : Nat} {rest : List Oper} {ts us : List Nat} {env : Nat → AV} {K : (Nat → AV) → Prop} {v : AV} (hg : gOk ops n env gd = some us) (hts : us ++ tmpsOf op.operands.toList = ts)
    (h : ∀ D, Closed ops.toList D → Closed ops.toList (addN D i) → D i = false → OpStep C { dst := d, op := op, type := ty, pos := pos, after := aft, guard := gd } ⟨n, p0, (S D).1, (S D).2, restr ts env⟩ v (S (addN D i)).1 (S (addN D i)).2) (hr : DrawL C ops n p0 S (i + 1) rest (upd d v env) K) :
    DrawL C ops n p0 S i ({ dst := d, op := op, type := ty, pos := pos, after := aft, guard := gd } :: rest) env K := by
  rcases gOk_spec hg with ⟨rfl, rfl⟩ | ⟨j, b, t, rfl, rfl, hj, ht, hb⟩
  · refine ⟨v, ⟨.inl ⟨.inl rfl, fun D hc hc' hD => ?_⟩⟩, hr⟩
    have : looks ops { dst := d, op := op, type := ty, pos := pos, after := aft, guard := none } = ts := by
      rw [← hts]; simp only [looks, List.nil_append]
    rw [this]; exact h D hc hc' hD
  · refine ⟨v, ⟨.inl ⟨.inr ⟨j, b, t, rfl, hj, ht, hb⟩, fun D hc hc' hD => ?_⟩⟩, hr⟩
    have : looks ops { dst := d, op := op, type := ty, pos := pos, after := aft, guard := some (j, b) } = ts := by
      rw [← hts]; simp only [looks, hj]; rfl
    rw [this]; exact h D hc hc' hD

theorem DrawL.passS {S : (Nat → Bool) → List AObj × List AObj} {i : Nat} {rest : List Oper} {env : Nat → AV} {K : (Nat → AV) → Prop} (hg : gNo ops n env gd = true) (hS : ∀ D, S (addN D i) = S D) (hr : DrawL C ops n p0 S (i + 1) rest (upd d .any env) K) :
    DrawL C ops n p0 S i ({ dst := d, op := op, type := ty, pos := pos, after := aft, guard := gd } :: rest) env K := by
  obtain ⟨j, b, t, rfl, hj, ht, hb⟩ := gNo_spec hg
  exact ⟨.any, ⟨.inr ⟨⟨j, b, t, rfl, hj, ht, hb⟩, rfl, hS⟩⟩, hr⟩

/-! ### one operation, k, turns the store -/
theorem DrawL.go1 {k : Nat} {a b : List AObj × List AObj} {i : Nat} {rest : List Oper} {ts us : List Nat} {env : Nat → AV} {K : (Nat → AV) → Prop} {v : AV} (hk : Nat.beq k i = false) (hg : gOk ops n env gd = some us) (hts : us ++ tmpsOf op.operands.toList = ts)
    (h0 : OpStep C { dst := d, op := op, type := ty, pos := pos, after := aft, guard := gd } ⟨n, p0, a.1, a.2, restr ts env⟩ v a.1 a.2)
    (h1 : OpStep C { dst := d, op := op, type := ty, pos := pos, after := aft, guard := gd } ⟨n, p0, b.1, b.2, restr ts env⟩ v b.1 b.2) (hr : DrawL C ops n p0 (sel1 k a b) (i + 1) rest (upd d v env) K) :
    DrawL C ops n p0 (sel1 k a b) i ({ dst := d, op := op, type := ty, pos := pos, after := aft, guard := gd } :: rest) env K :=
  DrawL.goS hg hts (fun D _ _ _ => by
    have hne : k ≠ i := fun e => by subst e; rw [Nat.beq_refl] at hk; cases hk
    simp only [sel1, addN_ne D hne]
    cases D k
    · exact h0
    · exact h1) hr
theorem DrawL.chg1 {k : Nat} {a b : List AObj × List AObj} {rest : List Oper} {ts us : List Nat} {env : Nat → AV} {K : (Nat → AV) → Prop} {v : AV} (hg : gOk ops n env gd = some us) (hts : us ++ tmpsOf op.operands.toList = ts)
    (h : OpStep C { dst := d, op := op, type := ty, pos := pos, after := aft, guard := gd } ⟨n, p0, a.1, a.2, restr ts env⟩ v b.1 b.2) (hr : DrawL C ops n p0 (sel1 k a b) (k + 1) rest (upd d v env) K) :
    DrawL C ops n p0 (sel1 k a b) k ({ dst := d, op := op, type := ty, pos := pos, after := aft, guard := gd } :: rest) env K :=
  DrawL.goS hg hts (fun D _ _ hD => by simp only [sel1, addN_self, hD, cond_true, cond_false]; exact h) hr
theorem DrawL.pass1 {k : Nat} {a b : List AObj × List AObj} {i : Nat} {rest : List Oper} {env : Nat → AV} {K : (Nat → AV) → Prop} (hk : Nat.beq k i = false) (hg : gNo ops n env gd = true) (hr : DrawL C ops n p0 (sel1 k a b) (i + 1) rest (upd d .any env) K) :
    DrawL C ops n p0 (sel1 k a b) i ({ dst := d, op := op, type := ty, pos := pos, after := aft, guard := gd } :: rest) env K :=
  DrawL.passS hg (fun D => by
    have hne : k ≠ i := fun e => by subst e; rw [Nat.beq_refl] at hk; cases hk
    simp only [sel1, addN_ne D hne]) hr

/-! ### two, k and l -/
theorem DrawL.go2 {k l : Nat} {s00 s10 s01 s11 : List AObj × List AObj} {i : Nat} {rest : List Oper} {ts us : List Nat} {env : Nat → AV} {K : (Nat → AV) → Prop} {v : AV} (hk : (Nat.beq k i || Nat.beq l i) = false) (hg : gOk ops n env gd = some us) (hts : us ++ tmpsOf op.operands.toList = ts)
    (h0 : OpStep C { dst := d, op := op, type := ty, pos := pos, after := aft, guard := gd } ⟨n, p0, s00.1, s00.2, restr ts env⟩ v s00.1 s00.2)
    (h1 : OpStep C { dst := d, op := op, type := ty, pos := pos, after := aft, guard := gd } ⟨n, p0, s10.1, s10.2, restr ts env⟩ v s10.1 s10.2)
    (h2 : OpStep C { dst := d, op := op, type := ty, pos := pos, after := aft, guard := gd } ⟨n, p0, s01.1, s01.2, restr ts env⟩ v s01.1 s01.2)
    (h3 : OpStep C { dst := d, op := op, type := ty, pos := pos, after := aft, guard := gd } ⟨n, p0, s11.1, s11.2, restr ts env⟩ v s11.1 s11.2) (hr : DrawL C ops n p0 (sel2 k l s00 s10 s01 s11) (i + 1) rest (upd d v env) K) :
    DrawL C ops n p0 (sel2 k l s00 s10 s01 s11) i ({ dst := d, op := op, type := ty, pos := pos, after := aft, guard := gd } :: rest) env K :=
  DrawL.goS hg hts (fun D _ _ _ => by
    simp only [Bool.or_eq_false_iff] at hk
    have hne : k ≠ i := fun e => by have := hk.1; subst e; rw [Nat.beq_refl] at this; cases this
    have hne' : l ≠ i := fun e => by have := hk.2; subst e; rw [Nat.beq_refl] at this; cases this
    simp only [sel2, addN_ne D hne, addN_ne D hne']
    cases D k <;> cases D l
    · exact h0
    · exact h2
    · exact h1
    · exact h3) hr
theorem DrawL.chg2a {k l : Nat} {s00 s10 s01 s11 : List AObj × List AObj} {rest : List Oper} {ts us : List Nat} {env : Nat → AV} {K : (Nat → AV) → Prop} {v : AV} (hk : Nat.beq l k = false) (hg : gOk ops n env gd = some us) (hts : us ++ tmpsOf op.operands.toList = ts)
    (h0 : OpStep C { dst := d, op := op, type := ty, pos := pos, after := aft, guard := gd } ⟨n, p0, s00.1, s00.2, restr ts env⟩ v s10.1 s10.2)
    (h1 : OpStep C { dst := d, op := op, type := ty, pos := pos, after := aft, guard := gd } ⟨n, p0, s01.1, s01.2, restr ts env⟩ v s11.1 s11.2) (hr : DrawL C ops n p0 (sel2 k l s00 s10 s01 s11) (k + 1) rest (upd d v env) K) :
    DrawL C ops n p0 (sel2 k l s00 s10 s01 s11) k ({ dst := d, op := op, type := ty, pos := pos, after := aft, guard := gd } :: rest) env K :=
  DrawL.goS hg hts (fun D _ _ hD => by
    have hne : l ≠ k := fun e => by subst e; rw [Nat.beq_refl] at hk; cases hk
    simp only [sel2, addN_self, hD, addN_ne D hne, cond_true, cond_false]
    cases D l
    · exact h0
    · exact h1) hr
theorem DrawL.chg2b {k l : Nat} {s00 s10 s01 s11 : List AObj × List AObj} {rest : List Oper} {ts us : List Nat} {env : Nat → AV} {K : (Nat → AV) → Prop} {v : AV} (hk : Nat.beq k l = false) (hg : gOk ops n env gd = some us) (hts : us ++ tmpsOf op.operands.toList = ts)
    (h0 : OpStep C { dst := d, op := op, type := ty, pos := pos, after := aft, guard := gd } ⟨n, p0, s00.1, s00.2, restr ts env⟩ v s01.1 s01.2)
    (h1 : OpStep C { dst := d, op := op, type := ty, pos := pos, after := aft, guard := gd } ⟨n, p0, s10.1, s10.2, restr ts env⟩ v s11.1 s11.2) (hr : DrawL C ops n p0 (sel2 k l s00 s10 s01 s11) (l + 1) rest (upd d v env) K) :
    DrawL C ops n p0 (sel2 k l s00 s10 s01 s11) l ({ dst := d, op := op, type := ty, pos := pos, after := aft, guard := gd } :: rest) env K :=
  DrawL.goS hg hts (fun D _ _ hD => by
    have hne : k ≠ l := fun e => by subst e; rw [Nat.beq_refl] at hk; cases hk
    simp only [sel2, addN_self, hD, addN_ne D hne, cond_true, cond_false]
    cases D k
    · exact h0
    · exact h1) hr

/-! ### two, k and behind it l -/
def sel3 (k l : Nat) (a b c : List AObj × List AObj) (D : Nat → Bool) : List AObj × List AObj := cond (D k) (cond (D l) c b) a
def behind (ops : Array Oper) (l k : Nat) : Bool := ((ancL ops.toList []).getD l 0).testBit k
theorem behind_at {D : Nat → Bool} (hc : Closed ops.toList D) {l k : Nat} (h : behind ops l k = true) (hl : D l = true) : D k = true := anc_closed hc h hl
theorem DrawL.go3 {k l : Nat} {s0 s1 s2 : List AObj × List AObj} {i : Nat} {rest : List Oper} {ts us : List Nat} {env : Nat → AV} {K : (Nat → AV) → Prop} {v : AV} (hk : (Nat.beq k i || Nat.beq l i) = false) (hg : gOk ops n env gd = some us) (hts : us ++ tmpsOf op.operands.toList = ts)
    (h0 : OpStep C { dst := d, op := op, type := ty, pos := pos, after := aft, guard := gd } ⟨n, p0, s0.1, s0.2, restr ts env⟩ v s0.1 s0.2)
    (h1 : OpStep C { dst := d, op := op, type := ty, pos := pos, after := aft, guard := gd } ⟨n, p0, s1.1, s1.2, restr ts env⟩ v s1.1 s1.2)
    (h2 : OpStep C { dst := d, op := op, type := ty, pos := pos, after := aft, guard := gd } ⟨n, p0, s2.1, s2.2, restr ts env⟩ v s2.1 s2.2) (hr : DrawL C ops n p0 (sel3 k l s0 s1 s2) (i + 1) rest (upd d v env) K) :
    DrawL C ops n p0 (sel3 k l s0 s1 s2) i ({ dst := d, op := op, type := ty, pos := pos, after := aft, guard := gd } :: rest) env K :=
  DrawL.goS hg hts (fun D _ _ _ => by
    simp only [Bool.or_eq_false_iff] at hk
    have hne : k ≠ i := fun e => by have := hk.1; subst e; rw [Nat.beq_refl] at this; cases this
    have hne' : l ≠ i := fun e => by have := hk.2; subst e; rw [Nat.beq_refl] at this; cases this
    simp only [sel3, addN_ne D hne, addN_ne D hne']
    cases D k
    · exact h0
    · cases D l
      · exact h1
      · exact h2) hr
/-- one that waits for k -/
theorem DrawL.go3k {k l : Nat} {s0 s1 s2 : List AObj × List AObj} {i : Nat} {rest : List Oper} {ts us : List Nat} {env : Nat → AV} {K : (Nat → AV) → Prop} {v : AV} (hk : (Nat.beq k i || Nat.beq l i) = false) (hb : behind ops i k = true) (hg : gOk ops n env gd = some us) (hts : us ++ tmpsOf op.operands.toList = ts)
    (h1 : OpStep C { dst := d, op := op, type := ty, pos := pos, after := aft, guard := gd } ⟨n, p0, s1.1, s1.2, restr ts env⟩ v s1.1 s1.2)
    (h2 : OpStep C { dst := d, op := op, type := ty, pos := pos, after := aft, guard := gd } ⟨n, p0, s2.1, s2.2, restr ts env⟩ v s2.1 s2.2) (hr : DrawL C ops n p0 (sel3 k l s0 s1 s2) (i + 1) rest (upd d v env) K) :
    DrawL C ops n p0 (sel3 k l s0 s1 s2) i ({ dst := d, op := op, type := ty, pos := pos, after := aft, guard := gd } :: rest) env K :=
  DrawL.goS hg hts (fun D _ hc' _ => by
    simp only [Bool.or_eq_false_iff] at hk
    have hne : k ≠ i := fun e => by have := hk.1; subst e; rw [Nat.beq_refl] at this; cases this
    have hne' : l ≠ i := fun e => by have := hk.2; subst e; rw [Nat.beq_refl] at this; cases this
    have hDk : D k = true := by have := behind_at hc' hb (addN_self D i); rwa [addN_ne D hne] at this
    simp only [sel3, addN_ne D hne, addN_ne D hne', hDk, cond_true]
    cases D l
    · exact h1
    · exact h2) hr
/-- one for which k waits -/
theorem DrawL.go3p {k l : Nat} {s0 s1 s2 : List AObj × List AObj} {i : Nat} {rest : List Oper} {ts us : List Nat} {env : Nat → AV} {K : (Nat → AV) → Prop} {v : AV} (hk : (Nat.beq k i || Nat.beq l i) = false) (hb : behind ops k i = true) (hg : gOk ops n env gd = some us) (hts : us ++ tmpsOf op.operands.toList = ts)
    (h0 : OpStep C { dst := d, op := op, type := ty, pos := pos, after := aft, guard := gd } ⟨n, p0, s0.1, s0.2, restr ts env⟩ v s0.1 s0.2) (hr : DrawL C ops n p0 (sel3 k l s0 s1 s2) (i + 1) rest (upd d v env) K) :
    DrawL C ops n p0 (sel3 k l s0 s1 s2) i ({ dst := d, op := op, type := ty, pos := pos, after := aft, guard := gd } :: rest) env K :=
  DrawL.goS hg hts (fun D hc _ hD => by
    simp only [Bool.or_eq_false_iff] at hk
    have hne : k ≠ i := fun e => by have := hk.1; subst e; rw [Nat.beq_refl] at this; cases this
    have hne' : l ≠ i := fun e => by have := hk.2; subst e; rw [Nat.beq_refl] at this; cases this
    have hDk : D k = false := by
      cases h : D k with
      | false => rfl
      | true => have := behind_at hc hb h; rw [hD] at this; cases this
    simp only [sel3, addN_ne D hne, addN_ne D hne', hDk, cond_false]
    exact h0) hr
/-- one for which l waits -/
theorem DrawL.go3q {k l : Nat} {s0 s1 s2 : List AObj × List AObj} {i : Nat} {rest : List Oper} {ts us : List Nat} {env : Nat → AV} {K : (Nat → AV) → Prop} {v : AV} (hk : (Nat.beq k i || Nat.beq l i) = false) (hb : behind ops l i = true) (hg : gOk ops n env gd = some us) (hts : us ++ tmpsOf op.operands.toList = ts)
    (h0 : OpStep C { dst := d, op := op, type := ty, pos := pos, after := aft, guard := gd } ⟨n, p0, s0.1, s0.2, restr ts env⟩ v s0.1 s0.2)
    (h1 : OpStep C { dst := d, op := op, type := ty, pos := pos, after := aft, guard := gd } ⟨n, p0, s1.1, s1.2, restr ts env⟩ v s1.1 s1.2) (hr : DrawL C ops n p0 (sel3 k l s0 s1 s2) (i + 1) rest (upd d v env) K) :
    DrawL C ops n p0 (sel3 k l s0 s1 s2) i ({ dst := d, op := op, type := ty, pos := pos, after := aft, guard := gd } :: rest) env K :=
  DrawL.goS hg hts (fun D hc _ hD => by
    simp only [Bool.or_eq_false_iff] at hk
    have hne : k ≠ i := fun e => by have := hk.1; subst e; rw [Nat.beq_refl] at this; cases this
    have hne' : l ≠ i := fun e => by have := hk.2; subst e; rw [Nat.beq_refl] at this; cases this
    have hDl : D l = false := by
      cases h : D l with
      | false => rfl
      | true => have := behind_at hc hb h; rw [hD] at this; cases this
    simp only [sel3, addN_ne D hne, addN_ne D hne', hDl, cond_false]
    cases D k
    · exact h0
    · exact h1) hr
/-- the same where one operation turns the store -/
theorem DrawL.go1p {k : Nat} {a b : List AObj × List AObj} {i : Nat} {rest : List Oper} {ts us : List Nat} {env : Nat → AV} {K : (Nat → AV) → Prop} {v : AV} (hk : Nat.beq k i = false) (hb : behind ops k i = true) (hg : gOk ops n env gd = some us) (hts : us ++ tmpsOf op.operands.toList = ts)
    (h0 : OpStep C { dst := d, op := op, type := ty, pos := pos, after := aft, guard := gd } ⟨n, p0, a.1, a.2, restr ts env⟩ v a.1 a.2) (hr : DrawL C ops n p0 (sel1 k a b) (i + 1) rest (upd d v env) K) :
    DrawL C ops n p0 (sel1 k a b) i ({ dst := d, op := op, type := ty, pos := pos, after := aft, guard := gd } :: rest) env K :=
  DrawL.goS hg hts (fun D hc _ hD => by
    have hne : k ≠ i := fun e => by subst e; rw [Nat.beq_refl] at hk; cases hk
    have hDk : D k = false := by
      cases h : D k with
      | false => rfl
      | true => have := behind_at hc hb h; rw [hD] at this; cases this
    simp only [sel1, addN_ne D hne, hDk, cond_false]
    exact h0) hr
theorem DrawL.go1q {k : Nat} {a b : List AObj × List AObj} {i : Nat} {rest : List Oper} {ts us : List Nat} {env : Nat → AV} {K : (Nat → AV) → Prop} {v : AV} (hk : Nat.beq k i = false) (hb : behind ops i k = true) (hg : gOk ops n env gd = some us) (hts : us ++ tmpsOf op.operands.toList = ts)
    (h1 : OpStep C { dst := d, op := op, type := ty, pos := pos, after := aft, guard := gd } ⟨n, p0, b.1, b.2, restr ts env⟩ v b.1 b.2) (hr : DrawL C ops n p0 (sel1 k a b) (i + 1) rest (upd d v env) K) :
    DrawL C ops n p0 (sel1 k a b) i ({ dst := d, op := op, type := ty, pos := pos, after := aft, guard := gd } :: rest) env K :=
  DrawL.goS hg hts (fun D _ hc' _ => by
    have hne : k ≠ i := fun e => by subst e; rw [Nat.beq_refl] at hk; cases hk
    have hDk : D k = true := by have := behind_at hc' hb (addN_self D i); rwa [addN_ne D hne] at this
    simp only [sel1, addN_ne D hne, hDk, cond_true]
    exact h1) hr
theorem DrawL.chg3a {k l : Nat} {s0 s1 s2 : List AObj × List AObj} {rest : List Oper} {ts us : List Nat} {env : Nat → AV} {K : (Nat → AV) → Prop} {v : AV} (hk : Nat.beq l k = false) (hb : behind ops l k = true) (hg : gOk ops n env gd = some us) (hts : us ++ tmpsOf op.operands.toList = ts)
    (h0 : OpStep C { dst := d, op := op, type := ty, pos := pos, after := aft, guard := gd } ⟨n, p0, s0.1, s0.2, restr ts env⟩ v s1.1 s1.2) (hr : DrawL C ops n p0 (sel3 k l s0 s1 s2) (k + 1) rest (upd d v env) K) :
    DrawL C ops n p0 (sel3 k l s0 s1 s2) k ({ dst := d, op := op, type := ty, pos := pos, after := aft, guard := gd } :: rest) env K :=
  DrawL.goS hg hts (fun D hc _ hD => by
    have hne : l ≠ k := fun e => by subst e; rw [Nat.beq_refl] at hk; cases hk
    have hl : D l = false := by
      cases h : D l with
      | false => rfl
      | true => have := behind_at hc hb h; rw [hD] at this; cases this
    simp only [sel3, addN_self, hD, addN_ne D hne, hl, cond_true, cond_false]
    exact h0) hr
theorem DrawL.chg3b {k l : Nat} {s0 s1 s2 : List AObj × List AObj} {rest : List Oper} {ts us : List Nat} {env : Nat → AV} {K : (Nat → AV) → Prop} {v : AV} (hk : Nat.beq k l = false) (hb : behind ops l k = true) (hg : gOk ops n env gd = some us) (hts : us ++ tmpsOf op.operands.toList = ts)
    (h0 : OpStep C { dst := d, op := op, type := ty, pos := pos, after := aft, guard := gd } ⟨n, p0, s1.1, s1.2, restr ts env⟩ v s2.1 s2.2) (hr : DrawL C ops n p0 (sel3 k l s0 s1 s2) (l + 1) rest (upd d v env) K) :
    DrawL C ops n p0 (sel3 k l s0 s1 s2) l ({ dst := d, op := op, type := ty, pos := pos, after := aft, guard := gd } :: rest) env K :=
  DrawL.goS hg hts (fun D _ hc' hD => by
    have hne : k ≠ l := fun e => by subst e; rw [Nat.beq_refl] at hk; cases hk
    have hDk : D k = true := by have := behind_at hc' hb (addN_self D l); rwa [addN_ne D hne] at this
    simp only [sel3, addN_self, hD, addN_ne D hne, hDk, cond_true, cond_false]
    exact h0) hr
theorem sel3_ext {k l m : Nat} (a b c : List AObj × List AObj) (hk : k < m) (hl : l < m) (D D' : Nat → Bool) (h : ∀ i, i < m → D i = D' i) : sel3 k l a b c D = sel3 k l a b c D' := by simp only [sel3, h k hk, h l hl]

theorem sel1_ext {k m : Nat} (a b : List AObj × List AObj) (hk : k < m) (D D' : Nat → Bool) (h : ∀ i, i < m → D i = D' i) : sel1 k a b D = sel1 k a b D' := by simp only [sel1, h k hk]
theorem sel2_ext {k l m : Nat} (a b c d : List AObj × List AObj) (hk : k < m) (hl : l < m) (D D' : Nat → Bool) (h : ∀ i, i < m → D i = D' i) : sel2 k l a b c d D = sel2 k l a b c d D' := by simp only [sel2, h k hk, h l hl]

variable {Q : Exit → AState → Prop} {env0 : Nat → AV}
/-- A drawing region in which operation k turns the store from a to b. -/
theorem AWp.draw1 (hm : C.P.follows .mixedOrders = true) {id : Nat} {l : List Oper} {out loc : List AObj} (k : Nat) (out' loc' : List AObj) (hok : drawOk ops = true) (hl : ops.toList = l) (hk : Nat.blt k ops.size = true)
    (H : DrawL C ops n p0 (sel1 k (out, loc) (out', loc')) 0 l env0 fun env => Q .normal ⟨n, p0, out', loc', env⟩) : AWp C (.region id ops true) Q ⟨n, p0, out, loc, env0⟩ :=
  AWp.drawS (S := sel1 k (out, loc) (out', loc')) hm hok hl rfl (fun D D' h => sel1_ext _ _ (by rw [Nat.blt_eq] at hk; exact hk) D D' h) H
/-- .. k, and behind it j. -/
theorem AWp.draw3 (hm : C.P.follows .mixedOrders = true) {id : Nat} {l : List Oper} {out loc : List AObj} (k j : Nat) (s1 s2 : List AObj × List AObj) (hok : drawOk ops = true) (hl : ops.toList = l) (hk : Nat.blt k ops.size = true) (hj : Nat.blt j ops.size = true)
    (H : DrawL C ops n p0 (sel3 k j (out, loc) s1 s2) 0 l env0 fun env => Q .normal ⟨n, p0, s2.1, s2.2, env⟩) : AWp C (.region id ops true) Q ⟨n, p0, out, loc, env0⟩ :=
  AWp.drawS (S := sel3 k j (out, loc) s1 s2) hm hok hl rfl (fun D D' h => sel3_ext _ _ _ (by rw [Nat.blt_eq] at hk; exact hk) (by rw [Nat.blt_eq] at hj; exact hj) D D' h) H
/-- .. two. -/
theorem AWp.draw2 (hm : C.P.follows .mixedOrders = true) {id : Nat} {l : List Oper} {out loc : List AObj} (k j : Nat) (s10 s01 s11 : List AObj × List AObj) (hok : drawOk ops = true) (hl : ops.toList = l) (hk : Nat.blt k ops.size = true) (hj : Nat.blt j ops.size = true)
    (H : DrawL C ops n p0 (sel2 k j (out, loc) s10 s01 s11) 0 l env0 fun env => Q .normal ⟨n, p0, s11.1, s11.2, env⟩) : AWp C (.region id ops true) Q ⟨n, p0, out, loc, env0⟩ :=
  AWp.drawS (S := sel2 k j (out, loc) s10 s01 s11) hm hok hl rfl (fun D D' h => sel2_ext _ _ _ _ (by rw [Nat.blt_eq] at hk; exact hk) (by rw [Nat.blt_eq] at hj; exact hj) D D' h) H
end
end Go.Av
