/-
  AvExec: the operations whose outcome can be computed from the operands' values: one function for all of them, and one rule.
-/
import Derived.Test.YtdfmefkjjdlbiaaDoorAvDraw
namespace Go.Av
open Go.RowKit (Below)
set_option linter.unusedVariables false
set_option linter.unusedSimpArgs false

def forceL : List AV → Option (List AV)
  | [] => some []
  | v :: r => match force v, forceL r with
    | some v, some r => some (v :: r)
    | _, _ => none
theorem forceL_eq : ∀ {l l' : List AV}, forceL l = some l' → l = l'
  | [], l', h => by simp [forceL] at h; exact h.symm
  | v :: r, l', h => by
    unfold forceL at h
    split at h
    · rename_i a b h1 h2
      cases h
      rw [force_eq h1, forceL_eq h2]
    · cases h

def aQuo (op : BinOp) (k : IntKind) (a b : Int) : Option AV :=
  match b with
  | .ofNat (m + 1) => match op with
    | .quo => some (.int k (k.wrap (a.tdiv (.ofNat (m + 1)))))
    | .rem => some (.int k (a.tmod (.ofNat (m + 1))))
    | _ => none
  | _ => none
def aShf (op : BinOp) (k : IntKind) (a b : Int) : Option AV :=
  match b with
  | .ofNat m => match op with
    | .shl => some (.int k (k.wrap (a * 2 ^ (min m k.bits))))
    | .shr => some (.int k (a.fdiv (2 ^ (min m k.bits))))
    | _ => none
  | _ => none
def kEq : IntKind → IntKind → Bool
  | .i8, .i8 | .i16, .i16 | .i32, .i32 | .i64, .i64 | .u8, .u8 | .u16, .u16 | .u32, .u32 | .u64, .u64 => true
  | _, _ => false
theorem kEq_eq {a b : IntKind} (h : kEq a b = true) : a = b := by cases a <;> cases b <;> first | rfl | cases h

def aBin (op : BinOp) : AV → AV → Option AV
  | .int k a, .int k' b => match op with
    | .quo | .rem => cond (kEq k k') (aQuo op k a b) none
    | .shl | .shr => aShf op k a b
    | op => cond (kEq k k') (aInt op k a b) none
  | .str a, .str b => aStr op a b
  | _, _ => none
def Ty.kOf : Ty → Option IntKind
  | .int k => some k
  | _ => none
def Ty.notIface : Ty → Bool
  | .iface _ | .other => false
  | _ => true

/-- What an operation that leaves the store alone yields. -/
def aop (C : Ctx) (E : Operand → AV) : Op → Option AV
  | .move x | .assign x => force (E x)
  | .pick c x y => match E c with
    | .bool b => match E x, E y with
      | .bool p, .bool q => some (.bool (cond b p q))
      | u, v => cond b (force u) (force v)
    | _ => none
  | .binOp op _ x y _ => aBin op (E x) (E y)
  | .unOp op _ x => aUn op (E x)
  | .convert src dst x => match E x, (C.ty src).d, (C.ty dst).d with
    | .int k p, .int k1, .int k' => cond (kEq k k1) (some (.int k' (k'.wrap p))) none
    | .str s, .str, .str => some (.str s)
    | _, _, _ => none
  | .makeInterface xt x => cond (C.ty xt).d.notIface (match force (E x) with | some v => some (.iface xt v) | none => none) none
  | .makeFunc (.func f) xs ys => match forceL (xs.toList.map E), forceL (ys.toList.map E) with
    | some a, some b => some (.func f a b)
    | _, _ => none
  | .fieldAddr s x k => match (C.ty s).d with
    | .struct fs => match fs[k]? with
      | some (fo, ft) => cond ((C.ty ft).d.known && !Nat.beq (C.ty ft).size 0) (match E x with
        | .ptr id o => some (.ptr id (o + fo))
        | .cptr cells => some (.cptr (cells.drop fo))
        | _ => none) none
      | none => none
    | _ => none
  | .field s x k => match (C.ty s).d, E x with
    | .struct fs, .agg cells => match fs[k]? with
      | some (fo, ft) => cond (C.ty ft).d.known (cond (C.ty ft).d.agg (some (.agg ((cells.drop fo).take (C.ty ft).size))) (match cells[fo]? with | some c => force c | none => none)) none
      | none => none
    | _, _ => none
  | .load t x => match E x with
    | .cptr cells => cond (C.ty t).d.known (cond (C.ty t).d.agg (cond (Nat.beq cells.length (C.ty t).size) (some (.agg cells)) (cond (Nat.ble (C.ty t).size cells.length) (some (.agg (cells.take (C.ty t).size))) none)) (match cells with | c :: _ => force c | [] => none)) none
    | _ => none
  | .nilCheck x => match E x with
    | .ptr i o => some (.ptr i o)
    | .cptr c => some (.cptr c)
    | .func f a b => some (.func f a b)
    | _ => none
  | .extract x k => match E x with
    | .tuple xs => match xs[k]? with | some c => force c | none => none
    | _ => none
  | .call { callee := .builtin .len, args := ⟨[x]⟩, argTypes := ⟨[t]⟩ } => match E x, (C.ty t).d with
    | .slc elems _, .slice _ => some (.int .i64 elems.length)
    | .str s, .str => some (.int .i64 s.length)
    | _, _ => none
  | _ => none

section
variable {C : Ctx} {n p0 : Nat} {out loc : List AObj} {env : Nat → AV}
variable {d : Option Nat} {ty : TypeId} {pos : String} {aft : Array Edge} {gd : Option (Nat × Bool)}

theorem aBin_step {op : BinOp} {xt yt : TypeId} {x y : Operand} {v : AV} (h : aBin op (ev C ⟨n, p0, out, loc, env⟩ x) (ev C ⟨n, p0, out, loc, env⟩ y) = some v) :
    OpStep C { dst := d, op := .binOp op xt x y yt, type := ty, pos := pos, after := aft, guard := gd } ⟨n, p0, out, loc, env⟩ v out loc := by
  unfold aBin at h
  split at h
  · rename_i k a k' b hx hy
    have shf : ∀ op', (op' = .shl ∨ op' = .shr) → op = op' → aShf op k a b = some v → OpStep C { dst := d, op := .binOp op xt x y yt, type := ty, pos := pos, after := aft, guard := gd } ⟨n, p0, out, loc, env⟩ v out loc := by
      intro op' ho he h
      subst he
      unfold aShf at h
      cases b with
      | negSucc m => simp at h
      | ofNat m =>
        have hm : (Int.ofNat m).toNat = m := rfl
        rcases ho with rfl | rfl
        · simp only [Option.some.injEq] at h; subst h
          have := St.shl (d := d) (ty := ty) (pos := pos) (aft := aft) (gd := gd) (xt := xt) (yt := yt) hx hy (Int.natCast_nonneg m)
          rwa [hm] at this
        · simp only [Option.some.injEq] at h; subst h
          have := St.shr (d := d) (ty := ty) (pos := pos) (aft := aft) (gd := gd) (xt := xt) (yt := yt) hx hy (Int.natCast_nonneg m)
          rwa [hm] at this
    have quo : cond (kEq k k') (aQuo op k a b) none = some v → (op = .quo ∨ op = .rem) → OpStep C { dst := d, op := .binOp op xt x y yt, type := ty, pos := pos, after := aft, guard := gd } ⟨n, p0, out, loc, env⟩ v out loc := by
      intro h9 ho
      cases hk : kEq k k' with
      | false => rw [hk] at h9; cases h9
      | true =>
        rw [hk] at h9
        have := kEq_eq hk; subst this
        clear h
        have h : aQuo op k a b = some v := h9
        unfold aQuo at h
        split at h
        · rename_i m
          rcases ho with rfl | rfl
          · simp only [Option.some.injEq] at h; subst h; exact St.quo hx hy (by simp; omega)
          · simp only [Option.some.injEq] at h; subst h; exact St.rem hx hy (by simp; omega)
        · cases h
    have oth : cond (kEq k k') (aInt op k a b) none = some v → OpStep C { dst := d, op := .binOp op xt x y yt, type := ty, pos := pos, after := aft, guard := gd } ⟨n, p0, out, loc, env⟩ v out loc := by
      intro h9
      cases hk : kEq k k' with
      | false => rw [hk] at h9; cases h9
      | true =>
        rw [hk] at h9
        have := kEq_eq hk; subst this
        exact St.bin hx hy h9
    cases op <;> first | exact shf _ (.inl rfl) rfl h | exact shf _ (.inr rfl) rfl h | exact quo h (.inl rfl) | exact quo h (.inr rfl) | exact oth h
  · rename_i a b hx hy
    exact St.strOp hx hy h
  · cases h

theorem St.exec {op : Op} {v : AV} (h : aop C (ev C ⟨n, p0, out, loc, env⟩) op = some v) : OpStep C { dst := d, op := op, type := ty, pos := pos, after := aft, guard := gd } ⟨n, p0, out, loc, env⟩ v out loc := by
  unfold aop at h
  split at h
  · exact St.move h
  · exact St.assign h
  · rename_i c x y
    split at h
    · rename_i b hc
      split at h
      · rename_i p q hx hy
        cases h
        exact St.pickB hc hx hy
      · cases b with
        | true => exact St.pickT hc h
        | false => exact St.pickF hc h
    · cases h
  · exact aBin_step h
  · exact St.un h
  · split at h
    · rename_i k p k1 k' hx h1 h2
      cases hk : kEq k k1 with
      | false => rw [hk] at h; cases h
      | true =>
        rw [hk] at h
        have := kEq_eq hk; subst this
        cases h
        exact St.conv hx h1 h2
    · rename_i s hx h1 h2
      cases h
      exact St.convStr hx h1 h2
    · cases h
  · rename_i xt x
    cases hn : (C.ty xt).d.notIface with
    | false => rw [hn] at h; cases h
    | true =>
      rw [hn] at h
      simp only [cond_true] at h
      split at h
      · rename_i u hu
        cases h
        refine St.makeIface hu ?_ ?_
        · cases hd : (C.ty xt).d <;> simp_all [Ty.notIface, Ty.known]
        · intro b hb; rw [hb] at hn; simp [Ty.notIface] at hn
      · cases h
  · split at h
    · rename_i a b h1 h2
      cases h
      exact St.makeFunc (forceL_eq h1) (forceL_eq h2)
    · cases h
  · split at h
    · rename_i fs hs
      split at h
      · rename_i fo ft hf
        cases hk : ((C.ty ft).d.known && !Nat.beq (C.ty ft).size 0) with
        | false => rw [hk] at h; cases h
        | true =>
          rw [hk] at h
          simp only [Bool.and_eq_true, Bool.not_eq_true'] at hk
          obtain ⟨m, hm⟩ : ∃ m, (C.ty ft).size = m + 1 := by
            cases hz : (C.ty ft).size with
            | zero => rw [hz] at hk; simp at hk
            | succ m => exact ⟨m, rfl⟩
          simp only [cond_true] at h
          split at h
          · rename_i id o hx; cases h; exact St.fieldPtr hx hs hf hk.1 hm
          · rename_i cells hx; cases h; exact St.fieldCptr hx hs hf hk.1 hm
          · cases h
      · cases h
    · cases h
  · split at h
    · rename_i fs cells hs hx
      split at h
      · rename_i fo ft hf
        cases hk : (C.ty ft).d.known with
        | false => rw [hk] at h; cases h
        | true =>
          rw [hk] at h
          cases ha : (C.ty ft).d.agg with
          | true =>
            rw [ha] at h
            simp only [cond_true, Option.some.injEq] at h
            subst h
            exact St.fieldN hx hs hf hk ha rfl rfl
          | false =>
            rw [ha] at h
            simp only [cond_true, cond_false] at h
            split at h
            · rename_i c hc; exact St.field1 hx hs hf hk ha hc h
            · cases h
      · cases h
    · cases h
  · rename_i t x
    split at h
    · rename_i cells hx
      cases hk : (C.ty t).d.known with
      | false => rw [hk] at h; cases h
      | true =>
        rw [hk] at h
        cases ha : (C.ty t).d.agg with
        | true =>
          rw [ha] at h
          simp only [cond_true] at h
          cases hl : Nat.beq cells.length (C.ty t).size with
          | true =>
            rw [hl] at h
            cases h
            exact St.loadCN hx hk ha (Nat.eq_of_beq_eq_true hl)
          | false =>
            rw [hl] at h
            simp only [cond_false] at h
            cases hl' : Nat.ble (C.ty t).size cells.length with
            | true =>
              rw [hl'] at h
              cases h
              exact St.loadCT hx hk ha (Nat.le_of_ble_eq_true hl')
            | false => rw [hl'] at h; cases h
        | false =>
          rw [ha] at h
          simp only [cond_true, cond_false] at h
          split at h
          · rename_i c tl; exact St.loadC1 hx h hk ha
          · cases h
    · cases h
  · split at h
    · rename_i i o hx; cases h; exact St.nilCheckPtr hx
    · rename_i c hx; cases h; exact St.nilCheckCptr hx
    · rename_i f a b hx; cases h; exact St.nilCheckFunc hx
    · cases h
  · split at h
    · rename_i xs hx
      split at h
      · rename_i c hc; exact St.extract hx hc h
      · cases h
    · cases h
  · split at h
    · rename_i elems e et hx ht; cases h; exact St.lenSlc hx ht
    · rename_i s hx ht; cases h; exact St.lenStr hx ht
    · cases h
  · cases h

/-! ### New boxes; boxes of the body's own -/
def anew (C : Ctx) (E : Operand → AV) : Op → Option AV
  | .alloc t => cond (C.ty t).d.known (C.ty t).zero none
  | .box _ x => force (E x)
  | _ => none
def anewT : Op → TypeId
  | .alloc t => t
  | .box t _ => t
  | _ => 0
theorem St.newV {op : Op} {v : AV} {k : Nat} {loc' : List AObj} (h : anew C (ev C ⟨n, p0, out, loc, env⟩) op = some v) (hv : v.stor = true) (hk : loc.length = k) (hl : loc ++ [.row (anewT op) v.cellsOf] = loc') :
    OpStep C { dst := d, op := op, type := ty, pos := pos, after := aft, guard := gd } ⟨n, p0, out, loc, env⟩ (.ptr (p0 + k) 0) out loc' := by
  unfold anew at h
  split at h
  · rename_i t
    cases hkn : (C.ty t).d.known with
    | false => rw [hkn] at h; cases h
    | true => rw [hkn] at h; exact St.alloc hkn h hv hk hl
  · exact St.box h hv hk hl
  · cases h

/-- what lies in a box at a place -/
def aload (C : Ctx) (t : TypeId) (cells : List AV) (o : Nat) : Option AV :=
  cond (C.ty t).d.known (cond (C.ty t).d.agg (cond (Nat.beq ((cells.drop o).take (C.ty t).size).length (C.ty t).size) (some (.agg ((cells.drop o).take (C.ty t).size))) none) (match cells[o]? with | some c => force c | none => none)) none
theorem St.loadO {rt : TypeId} {t : TypeId} {x : Operand} {id o : Nat} {cells : List AV} {v : AV} (hx : ev C ⟨n, p0, out, loc, env⟩ x = .ptr id o) (ho : p0 = out.length → (out ++ loc)[id]? = some (.row rt cells)) (h : aload C t cells o = some v) :
    OpStep C { dst := d, op := .load t x, type := ty, pos := pos, after := aft, guard := gd } ⟨n, p0, out, loc, env⟩ v out loc := by
  unfold aload at h
  cases hk : (C.ty t).d.known with
  | false => rw [hk] at h; cases h
  | true =>
    rw [hk] at h
    cases ha : (C.ty t).d.agg with
    | true =>
      rw [ha] at h
      simp only [cond_true] at h
      cases hl : Nat.beq ((cells.drop o).take (C.ty t).size).length (C.ty t).size with
      | true =>
        rw [hl] at h
        cases h
        exact St.loadPT hx ho hk ha rfl rfl (Nat.eq_of_beq_eq_true hl)
      | false => rw [hl] at h; cases h
    | false =>
      rw [ha] at h
      simp only [cond_true, cond_false] at h
      split at h
      · rename_i c hc; exact St.loadP1 hx ho hc h hk ha
      · cases h
theorem St.loadL {rt : TypeId} {t : TypeId} {x : Operand} {k o : Nat} {cells : List AV} {v : AV} (hx : ev C ⟨n, p0, out, loc, env⟩ x = .ptr (p0 + k) o) (ho : loc[k]? = some (.row rt cells)) (h : aload C t cells o = some v) :
    OpStep C { dst := d, op := .load t x, type := ty, pos := pos, after := aft, guard := gd } ⟨n, p0, out, loc, env⟩ v out loc :=
  St.loadO hx (loc_at ho) h

/-- a box with a part written anew -/
def astore (C : Ctx) (t : TypeId) (cells : List AV) (o : Nat) (v : AV) : Option (List AV) :=
  cond ((C.ty t).d.known && (v.stor && (Nat.beq v.cellsOf.length (C.ty t).size && Nat.ble (o + (C.ty t).size) cells.length)))
    (some (cond (Nat.beq (C.ty t).size cells.length) v.cellsOf (match v with | .agg l => cells.take o ++ l ++ cells.drop (o + (C.ty t).size) | v => cells.set o v))) none

theorem set_eq {α : Type} {l : List α} {o : Nat} {v : α} (h : o < l.length) : l.take o ++ [v] ++ l.drop (o + 1) = l.set o v := by
  rw [List.set_eq_take_append_cons_drop, if_pos h]; simp
theorem St.storeO {rt : TypeId} {t : TypeId} {x y : Operand} {id o : Nat} {cells l : List AV} {v : AV} {out' loc' : List AObj}
    (hx : ev C ⟨n, p0, out, loc, env⟩ x = .ptr id o) (hy : force (ev C ⟨n, p0, out, loc, env⟩ y) = some v) (ho : p0 = out.length → (out ++ loc)[id]? = some (.row rt cells)) (h : astore C t cells o v = some l)
    (hs : p0 = out.length → (out ++ loc).set id (.row rt l) = out' ++ loc') (hsl : out'.length = out.length) :
    OpStep C { dst := d, op := .store t x y, type := ty, pos := pos, after := aft, guard := gd } ⟨n, p0, out, loc, env⟩ .any out' loc' := by
  unfold astore at h
  cases hc : ((C.ty t).d.known && (v.stor && (Nat.beq v.cellsOf.length (C.ty t).size && Nat.ble (o + (C.ty t).size) cells.length))) with
  | false => rw [hc] at h; cases h
  | true =>
    rw [hc] at h
    simp only [Bool.and_eq_true] at hc
    obtain ⟨hk, hst, hl, hle⟩ := hc
    have hl := Nat.eq_of_beq_eq_true hl
    have hle := Nat.le_of_ble_eq_true hle
    simp only [cond_true, Option.some.injEq] at h
    refine St.storeP (v := v) (cells := cells) (l := l) hx (force_eq hy) hst hk rfl hl ho hle ?_ hs hsl
    rw [← h]
    cases hb : Nat.beq (C.ty t).size cells.length with
    | true =>
      have := Nat.eq_of_beq_eq_true hb
      have h0 : o = 0 := by omega
      subst h0
      simp [this]
    | false =>
      have hne : (C.ty t).size ≠ cells.length := fun e => by rw [e, Nat.beq_refl] at hb; cases hb
      simp only [cond_false]
      cases v with
      | agg l' => rfl
      | _ =>
        have h1 : (C.ty t).size = 1 := by rw [← hl]; rfl
        simp only [AV.cellsOf, h1]
        exact set_eq (by omega)
theorem St.stoL {rt : TypeId} {t : TypeId} {x y : Operand} {k o : Nat} {cells l : List AV} {v : AV} {loc' : List AObj}
    (hx : ev C ⟨n, p0, out, loc, env⟩ x = .ptr (p0 + k) o) (hy : force (ev C ⟨n, p0, out, loc, env⟩ y) = some v) (ho : loc[k]? = some (.row rt cells)) (h : astore C t cells o v = some l)
    (hs : loc.set k (.row rt l) = loc') :
    OpStep C { dst := d, op := .store t x y, type := ty, pos := pos, after := aft, guard := gd } ⟨n, p0, out, loc, env⟩ .any out loc' :=
  St.storeO hx hy (loc_at ho) h (fun hp => by rw [List.set_append_right _ _ (by omega), hp, Nat.add_sub_cancel_left, hs]) rfl

/-! ### Operations of a drawing region: with a guard or without -/
def gOk (ops : Array Oper) (n : Nat) (env : Nat → AV) : Option (Nat × Bool) → Option (List Nat)
  | none => some []
  | some (j, b) => match (ops[j]?).bind (·.dst) with
    | some t => cond (Nat.blt t n) (match env t with
      | .bool c => cond (c == b) (some [t]) none
      | _ => none) none
    | none => none
def gNo (ops : Array Oper) (n : Nat) (env : Nat → AV) : Option (Nat × Bool) → Bool
  | none => false
  | some (j, b) => match (ops[j]?).bind (·.dst) with
    | some t => cond (Nat.blt t n) (match env t with
      | .bool c => c == (!b)
      | _ => false) false
    | none => false
theorem DrawL.go {ops : Array Oper} {i : Nat} {rest : List Oper} {ts us : List Nat} {K : (Nat → AV) → Prop} {v : AV} {op : Op} (hg : gOk ops n env gd = some us) (hts : us ++ tmpsOf op.operands.toList = ts)
    (h : OpStep C { dst := d, op := op, type := ty, pos := pos, after := aft, guard := gd } ⟨n, p0, out, loc, restr ts env⟩ v out loc) (hr : DrawL C ops n p0 (fun _ => (out, loc)) (i + 1) rest (upd d v env) K) :
    DrawL C ops n p0 (fun _ => (out, loc)) i ({ dst := d, op := op, type := ty, pos := pos, after := aft, guard := gd } :: rest) env K := by
  unfold gOk at hg
  split at hg
  · cases hg; exact DrawL.cons hts h hr
  · rename_i j b
    split at hg
    · rename_i t ht
      cases hb : Nat.blt t n with
      | false => rw [hb] at hg; cases hg
      | true =>
        rw [hb] at hg
        simp only [cond_true] at hg
        split at hg
        · rename_i c hc
          cases hcb : (c == b) with
          | false => rw [hcb] at hg; cases hg
          | true =>
            rw [hcb] at hg
            cases hg
            have : c = b := by simpa using hcb
            subst this
            exact DrawL.take ht (by rw [Nat.blt_eq] at hb; exact hb) hc rfl (by have e : t :: tmpsOf op.operands.toList = ts := hts; rw [e]; exact h) hr
        · cases hg
    · cases hg
theorem DrawL.pass {ops : Array Oper} {i : Nat} {rest : List Oper} {K : (Nat → AV) → Prop} {op : Op} (hg : gNo ops n env gd = true) (hr : DrawL C ops n p0 (fun _ => (out, loc)) (i + 1) rest (upd d .any env) K) :
    DrawL C ops n p0 (fun _ => (out, loc)) i ({ dst := d, op := op, type := ty, pos := pos, after := aft, guard := gd } :: rest) env K := by
  unfold gNo at hg
  split at hg
  · cases hg
  · rename_i j b
    split at hg
    · rename_i t ht
      cases hb : Nat.blt t n with
      | false => rw [hb] at hg; cases hg
      | true =>
        rw [hb] at hg
        simp only [cond_true] at hg
        split at hg
        · rename_i c hc
          have : c = !b := by simpa using hg
          subst this
          exact DrawL.skip ht (by rw [Nat.blt_eq] at hb; exact hb) hc hr
        · cases hg
    · cases hg
theorem WpL.go {ops : Array Oper} {rest : List Oper} {Q : Exit → AState → Prop} {op : Op} {us : List Nat} (hg : gOk ops n env gd = some us) (K : WpL C ops ({ dst := d, op := op, type := ty, pos := pos, after := aft, guard := none } :: rest) Q ⟨n, p0, out, loc, env⟩) :
    WpL C ops ({ dst := d, op := op, type := ty, pos := pos, after := aft, guard := gd } :: rest) Q ⟨n, p0, out, loc, env⟩ := by
  unfold gOk at hg
  split at hg
  · exact K
  · rename_i j b
    split at hg
    · rename_i t ht
      cases hb : Nat.blt t n with
      | false => rw [hb] at hg; cases hg
      | true =>
        rw [hb] at hg
        simp only [cond_true] at hg
        split at hg
        · rename_i c hc
          cases hcb : (c == b) with
          | false => rw [hcb] at hg; cases hg
          | true =>
            have : c = b := by simpa using hcb
            subst this
            exact WpL.gTake ht (by rw [Nat.blt_eq] at hb; exact hb) hc K
        · cases hg
    · cases hg
def gNoU (ops : Array Oper) (n : Nat) (env : Nat → AV) : Option (Nat × Bool) → Bool
  | none => false
  | some (j, b) => match (ops[j]?).bind (·.dst) with
    | some t => cond (Nat.blt t n) (match env t with
      | .bool c => c == (!b)
      | .tuple [] => true
      | _ => false) false
    | none => false
theorem WpL.pass {ops : Array Oper} {rest : List Oper} {Q : Exit → AState → Prop} {op : Op} (hg : gNoU ops n env gd = true) (K : WpL C ops rest Q ⟨n, p0, out, loc, upd d (.tuple []) env⟩) :
    WpL C ops ({ dst := d, op := op, type := ty, pos := pos, after := aft, guard := gd } :: rest) Q ⟨n, p0, out, loc, env⟩ := by
  unfold gNoU at hg
  split at hg
  · cases hg
  · rename_i j b
    split at hg
    · rename_i t ht
      cases hb : Nat.blt t n with
      | false => rw [hb] at hg; cases hg
      | true =>
        rw [hb] at hg
        simp only [cond_true] at hg
        split at hg
        · rename_i c hc
          have : c = !b := by simpa using hg
          subst this
          exact WpL.gSkip ht (by rw [Nat.blt_eq] at hb; exact hb) hc K
        · rename_i hc
          cases ho : ops[j]? with
          | none => rw [ho] at ht; simp at ht
          | some oj =>
            rw [ho] at ht
            exact WpL.guardU rfl ho (by simpa using ht) (by rw [Nat.blt_eq] at hb; exact hb) hc K
        · cases hg
    · cases hg

theorem wrap_i64 {x : Int} (h1 : -9223372036854775808 ≤ x) (h2 : x ≤ 9223372036854775807) : IntKind.wrap .i64 x = x := by
  unfold IntKind.wrap
  simp only [IntKind.bits, IntKind.signed, Bool.true_and]
  split <;> simp_all <;> omega
end
end Go.Av
