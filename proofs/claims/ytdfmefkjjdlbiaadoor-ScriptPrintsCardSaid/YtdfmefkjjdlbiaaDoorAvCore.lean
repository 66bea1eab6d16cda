/-
  AvCore: abstract values and an abstract store over the model's worlds; what is related to what ('Rep', 'MemOk', 'Sim'); the logic's triples ('AWp', 'WpL', 'ACalls') and the rules for control.
  Own work of this seat.
-/
import Derived.Below
import Derived.Deep.LoopGhost
import Derived.KernelRfl
namespace Go.Av
open Go.RowKit (Below)
set_option linter.unusedVariables false
set_option linter.unusedSimpArgs false

/-- What is known of the end of a slice's block. -/
inductive SEnd where
  | nil | full | unk | tok (t n : Nat)

/-- Abstract values. -/
inductive AV where
  | any
  | bool (b : Bool)
  | int (k : IntKind) (n : Int)
  | str (s : List UInt8)
  | ptr (id off : Nat)
  | cptr (cells : List AV)
  | nilptr
  | slc (elems : List (List AV)) (e : SEnd)
  | arr (id off len cap : Nat)
  | map (id : Nat)
  | nilmap
  | func (f : FuncId) (first captured : List AV)
  | nilFunc
  | iface (t : TypeId) (v : AV)
  | nilIface
  | agg (cells : List AV)
  | tuple (vs : List AV)
deriving Inhabited

/-- A token's state: how many elements lie ahead of the frontier, an element's size, the frontier's place, where the free space ends. -/
structure TokSt where
  cnt : Nat
  sz : Nat
  blk : Nat
  off : Nat
  lim : Nat

structure Ghost where
  n : Nat
  B0 : Nat
  w0 : World
  imm : Nat → Nat → Option Value
  obj : Nat → Nat
  tok : Nat → TokSt

/-- What a slice's end says. -/
def EndOk (G : Ghost) : SEnd → Option Addr → (len cap sz : Nat) → Prop
  | .nil, a, _, cap, _ => a = none ∧ cap = 0
  | .full, _, len, cap, _ => cap = len
  | .unk, _, _, _, _ => True
  | .tok t n, a, len, cap, sz => t < G.n ∧ n ≤ (G.tok t).cnt ∧ (n = (G.tok t).cnt → cap = len ∨
      ∃ b o, a = some ⟨b, o, none⟩ ∧ sz = (G.tok t).sz ∧ (G.tok t).blk = b ∧ (G.tok t).off = o + len * sz ∧ o + cap * sz ≤ (G.tok t).lim)

inductive Rep (G : Ghost) : AV → Value → Prop where
  | any (v : Value) : Rep G .any v
  | bool (b : Bool) : Rep G (.bool b) (.bool b)
  | int (k : IntKind) (n : Int) : Rep G (.int k n) (.int k n)
  | str (s : List UInt8) : Rep G (.str s) (.string ⟨⟨s⟩⟩)
  | ptr (id off : Nat) (h : id < G.n) : Rep G (.ptr id off) (.pointer (some ⟨G.obj id, off, none⟩))
  | cptr (cells : List AV) (b o : Nat) (f : Nat → Value)
      (h : ∀ i, i < cells.length → G.imm b (o + i) = some (f i) ∧ (f i).oneCell' = true)
      (r : ∀ i, i < cells.length → Rep G (cells.getD i .any) (f i)) : Rep G (.cptr cells) (.pointer (some ⟨b, o, none⟩))
  | nilptr : Rep G .nilptr (.pointer none)
  | slc (elems : List (List AV)) (e : SEnd) (a : Option Addr) (cap sz : Nat) (f : Nat → Value)
      (hs : ∀ i, i < elems.length → (elems.getD i []).length = sz)
      (ha : 0 < elems.length → ∃ b o, a = some ⟨b, o, none⟩ ∧ ∀ j, j < elems.length * sz → G.imm b (o + j) = some (f j) ∧ (f j).oneCell' = true)
      (ha' : ∀ x, a = some x → x.spot = none)
      (r : ∀ i j, i < elems.length → j < sz → Rep G ((elems.getD i []).getD j .any) (f (i * sz + j)))
      (hc : elems.length ≤ cap) (he : EndOk G e a elems.length cap sz) : Rep G (.slc elems e) (.slice a elems.length cap)
  | arr (id off len cap : Nat) (h : id < G.n) : Rep G (.arr id off len cap) (.slice (some ⟨G.obj id, off, none⟩) len cap)
  | map (id : Nat) (h : id < G.n) : Rep G (.map id) (.map (some (G.obj id)))
  | nilmap : Rep G .nilmap (.map none)
  | func (fn : FuncId) (fs cs : List AV) (us ws : List Value)
      (h1 : fs.length = us.length) (h2 : cs.length = ws.length)
      (r1 : ∀ i, i < fs.length → Rep G (fs.getD i .any) (us.getD i undef))
      (r2 : ∀ i, i < cs.length → Rep G (cs.getD i .any) (ws.getD i undef)) : Rep G (.func fn fs cs) (.func (.func fn) us.toArray ws.toArray)
  | nilFunc : Rep G .nilFunc .nilFunc
  | iface (t : TypeId) (v : AV) (cv : Value) (r : Rep G v cv) : Rep G (.iface t v) (.iface t cv)
  | nilIface : Rep G .nilIface .nilIface
  | agg (cells : List AV) (vs : List Value) (h : cells.length = vs.length)
      (ho : ∀ i, i < cells.length → (vs.getD i undef).oneCell' = true)
      (r : ∀ i, i < cells.length → Rep G (cells.getD i .any) (vs.getD i undef)) : Rep G (.agg cells) (.agg vs.toArray)
  | tuple (xs : List AV) (vs : List Value) (h : xs.length = vs.length)
      (r : ∀ i, i < xs.length → Rep G (xs.getD i .any) (vs.getD i undef)) : Rep G (.tuple xs) (.tuple vs.toArray)

/-- Cells that stand for abstract cells. -/
structure RepL (G : Ghost) (cells : List AV) (vs : List Value) : Prop where
  len : cells.length = vs.length
  one : ∀ i, i < cells.length → (vs.getD i undef).oneCell' = true
  rep : ∀ i, i < cells.length → Rep G (cells.getD i .any) (vs.getD i undef)

/-- The same without 'one cell'. -/
structure RepA (G : Ghost) (xs : List AV) (vs : List Value) : Prop where
  len : xs.length = vs.length
  rep : ∀ i, i < xs.length → Rep G (xs.getD i .any) (vs.getD i undef)

structure Ext (m : Nat) (G G' : Ghost) : Prop where
  n : m ≤ G'.n
  B0 : G'.B0 = G.B0
  w0 : G'.w0 = G.w0
  imm : ∀ b o v, G.imm b o = some v → G'.imm b o = some v
  obj : ∀ id, id < m → G'.obj id = G.obj id
  tok : ∀ id, id < m → G'.tok id = G.tok id ∨ ((G.tok id).cnt < (G'.tok id).cnt)

theorem Ext.refl {G : Ghost} {m : Nat} (h : m ≤ G.n) : Ext m G G := ⟨h, rfl, rfl, fun _ _ _ h => h, fun _ _ => rfl, fun _ _ => .inl rfl⟩
theorem Ext.trans {m m' : Nat} {G G' G'' : Ghost} (h : Ext m G G') (h' : Ext m' G' G'') (hm : m ≤ m') : Ext m G G'' where
  n := Nat.le_trans hm h'.n
  B0 := h'.B0.trans h.B0
  w0 := h'.w0.trans h.w0
  imm := fun b o v e => h'.imm b o v (h.imm b o v e)
  obj := fun id hi => (h'.obj id (Nat.lt_of_lt_of_le hi hm)).trans (h.obj id hi)
  tok := fun id hi => by
    rcases h.tok id hi with e | e <;> rcases h'.tok id (Nat.lt_of_lt_of_le hi hm) with e' | e'
    · exact .inl (e'.trans e)
    · rw [e] at e'; exact .inr e'
    · rw [← e'] at e; exact .inr e
    · exact .inr (Nat.lt_trans e e')
theorem Ext.le {m m' : Nat} {G G' : Ghost} (h : Ext m G G') (hm : m' ≤ m) : Ext m' G G' :=
  ⟨Nat.le_trans hm h.n, h.B0, h.w0, h.imm, fun id hi => h.obj id (Nat.lt_of_lt_of_le hi hm), fun id hi => h.tok id (Nat.lt_of_lt_of_le hi hm)⟩

theorem EndOk.mono {G G' : Ghost} (h : Ext G.n G G') {e : SEnd} {a : Option Addr} {len cap sz : Nat} (k : EndOk G e a len cap sz) : EndOk G' e a len cap sz := by
  cases e with
  | tok t n =>
    obtain ⟨h1, h2, h3⟩ := k
    refine ⟨Nat.lt_of_lt_of_le h1 h.n, ?_, ?_⟩
    · rcases h.tok t h1 with e | e
      · rw [e]; exact h2
      · omega
    · intro hn
      rcases h.tok t h1 with e | e
      · rw [e] at hn ⊢; exact h3 hn
      · omega
  | _ => exact k

theorem Rep.mono {G G' : Ghost} (h : Ext G.n G G') {v : AV} {cv : Value} (r : Rep G v cv) : Rep G' v cv := by
  induction r with
  | any v => exact .any v
  | bool b => exact .bool b
  | int k n => exact .int k n
  | str s => exact .str s
  | ptr id off hi => rw [← h.obj id hi]; exact .ptr id off (Nat.lt_of_lt_of_le hi h.n)
  | cptr cells b o f h1 r ih => exact .cptr cells b o f (fun i hi => ⟨h.imm _ _ _ (h1 i hi).1, (h1 i hi).2⟩) ih
  | nilptr => exact .nilptr
  | slc elems e a cap sz f hs ha ha' r hc he ih =>
    exact .slc elems e a cap sz f hs (fun hp => let ⟨b, o, e1, h2⟩ := ha hp; ⟨b, o, e1, fun j hj => ⟨h.imm _ _ _ (h2 j hj).1, (h2 j hj).2⟩⟩) ha' ih hc (he.mono h)
  | arr id off len cap hi => rw [← h.obj id hi]; exact .arr id off len cap (Nat.lt_of_lt_of_le hi h.n)
  | map id hi => rw [← h.obj id hi]; exact .map id (Nat.lt_of_lt_of_le hi h.n)
  | nilmap => exact .nilmap
  | func fn fs cs us ws h1 h2 r1 r2 ih1 ih2 => exact .func fn fs cs us ws h1 h2 ih1 ih2
  | nilFunc => exact .nilFunc
  | iface t v cv r ih => exact .iface t v cv ih
  | nilIface => exact .nilIface
  | agg cells vs hl ho r ih => exact .agg cells vs hl ho ih
  | tuple xs vs hl r ih => exact .tuple xs vs hl ih

theorem RepL.mono {G G' : Ghost} (h : Ext G.n G G') {cells : List AV} {vs : List Value} (r : RepL G cells vs) : RepL G' cells vs := ⟨r.len, r.one, fun i hi => (r.rep i hi).mono h⟩
theorem RepA.mono {G G' : Ghost} (h : Ext G.n G G') {cells : List AV} {vs : List Value} (r : RepA G cells vs) : RepA G' cells vs := ⟨r.len, fun i hi => (r.rep i hi).mono h⟩

/-! ### Ids below a number -/
inductive IdLt (m : Nat) : AV → Prop where
  | any : IdLt m .any
  | bool (b : Bool) : IdLt m (.bool b)
  | int (k : IntKind) (n : Int) : IdLt m (.int k n)
  | str (s : List UInt8) : IdLt m (.str s)
  | ptr (id off : Nat) (h : id < m) : IdLt m (.ptr id off)
  | cptr (cells : List AV) (h : ∀ c, c ∈ cells → IdLt m c) : IdLt m (.cptr cells)
  | nilptr : IdLt m .nilptr
  | slc (elems : List (List AV)) (e : SEnd) (h : ∀ x, x ∈ elems → ∀ c, c ∈ x → IdLt m c) (he : ∀ t n, e = .tok t n → t < m) : IdLt m (.slc elems e)
  | arr (id off len cap : Nat) (h : id < m) : IdLt m (.arr id off len cap)
  | map (id : Nat) (h : id < m) : IdLt m (.map id)
  | nilmap : IdLt m .nilmap
  | func (f : FuncId) (fs cs : List AV) (h1 : ∀ c, c ∈ fs → IdLt m c) (h2 : ∀ c, c ∈ cs → IdLt m c) : IdLt m (.func f fs cs)
  | nilFunc : IdLt m .nilFunc
  | iface (t : TypeId) (v : AV) (h : IdLt m v) : IdLt m (.iface t v)
  | nilIface : IdLt m .nilIface
  | agg (cells : List AV) (h : ∀ c, c ∈ cells → IdLt m c) : IdLt m (.agg cells)
  | tuple (xs : List AV) (h : ∀ c, c ∈ xs → IdLt m c) : IdLt m (.tuple xs)

theorem IdLt.le {m m' : Nat} (hm : m ≤ m') {v : AV} (h : IdLt m v) : IdLt m' v := by
  induction h with
  | any => exact .any
  | bool b => exact .bool b
  | int k n => exact .int k n
  | str s => exact .str s
  | ptr id off h => exact .ptr id off (Nat.lt_of_lt_of_le h hm)
  | cptr cells _ ih => exact .cptr cells ih
  | nilptr => exact .nilptr
  | slc elems e _ he ih => exact .slc elems e ih fun t n e => Nat.lt_of_lt_of_le (he t n e) hm
  | arr id off len cap h => exact .arr id off len cap (Nat.lt_of_lt_of_le h hm)
  | map id h => exact .map id (Nat.lt_of_lt_of_le h hm)
  | nilmap => exact .nilmap
  | func f fs cs _ _ ih1 ih2 => exact .func f fs cs ih1 ih2
  | nilFunc => exact .nilFunc
  | iface t v _ ih => exact .iface t v ih
  | nilIface => exact .nilIface
  | agg cells _ ih => exact .agg cells ih
  | tuple xs _ ih => exact .tuple xs ih

def Ghost.trunc (G : Ghost) (m : Nat) : Ghost := { G with n := m }

theorem getD_mem {α : Type} {l : List α} {i : Nat} {d : α} (h : i < l.length) : l.getD i d ∈ l := by
  rw [List.getD_eq_getElem?_getD, List.getElem?_eq_getElem h]; exact List.getElem_mem h

theorem Rep.trunc {G : Ghost} {m : Nat} {v : AV} {cv : Value} (r : Rep G v cv) (h : IdLt m v) : Rep (G.trunc m) v cv := by
  induction r with
  | any v => exact .any v
  | bool b => exact .bool b
  | int k n => exact .int k n
  | str s => exact .str s
  | ptr id off hi => cases h with | ptr _ _ h => exact .ptr (G := G.trunc m) id off h
  | cptr cells b o f h1 r ih => cases h with | cptr _ h => exact .cptr cells b o f h1 fun i hi => ih i hi (h _ (getD_mem hi))
  | nilptr => exact .nilptr
  | slc elems e a cap sz f hs ha ha' r hc he ih =>
    cases h with
    | slc _ _ h h' =>
      refine .slc elems e a cap sz f hs ha ha' (fun i j hi hj => ih i j hi hj (h _ (getD_mem hi) _ (getD_mem (by rw [hs i hi]; exact hj)))) hc ?_
      cases e with
      | tok t n => exact ⟨h' t n rfl, he.2⟩
      | _ => exact he
  | arr id off len cap hi => cases h with | arr _ _ _ _ h => exact .arr (G := G.trunc m) id off len cap h
  | map id hi => cases h with | map _ h => exact .map (G := G.trunc m) id h
  | nilmap => exact .nilmap
  | func fn fs cs us ws h1 h2 r1 r2 ih1 ih2 => cases h with | func _ _ _ a b => exact .func fn fs cs us ws h1 h2 (fun i hi => ih1 i hi (a _ (getD_mem hi))) (fun i hi => ih2 i hi (b _ (getD_mem hi)))
  | nilFunc => exact .nilFunc
  | iface t v cv r ih => cases h with | iface _ _ h => exact .iface t v cv (ih h)
  | nilIface => exact .nilIface
  | agg cells vs hl ho r ih => cases h with | agg _ h => exact .agg cells vs hl ho fun i hi => ih i hi (h _ (getD_mem hi))
  | tuple xs vs hl r ih => cases h with | tuple _ h => exact .tuple xs vs hl fun i hi => ih i hi (h _ (getD_mem hi))

/-- What a value is weakened to: each world in which the first is a reading of a value, the second is one. -/
def Le (v v' : AV) : Prop := ∀ G cv, Rep G v cv → Rep G v' cv
theorem Le.refl (v : AV) : Le v v := fun _ _ h => h
theorem Le.any (v : AV) : Le v .any := fun _ _ _ => .any _
theorem Le.of_eq {v v' : AV} (h : v = v') : Le v v' := h ▸ Le.refl v
theorem Le.unk (elems : List (List AV)) (e : SEnd) : Le (.slc elems e) (.slc elems .unk) := by
  intro G cv h
  cases h with
  | slc _ _ a cap sz f hs ha ha' r hc he => exact .slc elems .unk a cap sz f hs ha ha' r hc trivial

/-! ### The store -/
inductive AObj where
  | row (rt : TypeId) (cells : List AV)
  | rowF (rt : TypeId) (cells : List AV)
  | map (es : List (Nat × AV × AV)) (clock : Nat)
  | iter (m since : Nat) (seen : List Nat) (last : Nat)
  | tok (cnt sz : Nat)
  | gone
deriving Inhabited

/-! ### Constants -/
def ofScalar : Value → AV
  | .bool b => .bool b
  | .int k n => .int k n
  | .string s => .str s.data.toList
  | .pointer none => .nilptr
  | .slice none 0 0 => .slc [] .nil
  | .nilFunc => .nilFunc
  | .nilIface => .nilIface
  | .map none => .nilmap
  | _ => .any
def ofConst : Value → AV
  | .agg cs => if cs.toList.all (·.oneCell') then .agg (cs.toList.map ofScalar) else .any
  | v => ofScalar v

theorem ofScalar_rep (G : Ghost) (v : Value) : Rep G (ofScalar v) v := by
  cases v with
  | bool b => exact .bool b
  | int k n => exact .int k n
  | string s => exact .str s.data.toList
  | pointer a => cases a with
    | none => exact .nilptr
    | some a => exact .any _
  | slice a n c =>
    cases a with
    | some a => exact .any _
    | none =>
      cases n with
      | succ n => exact .any _
      | zero =>
        cases c with
        | succ c => exact .any _
        | zero => exact .slc [] .nil none 0 0 (fun _ => undef) (fun i h => absurd h (Nat.not_lt_zero _)) (fun h => absurd h (Nat.lt_irrefl _)) (fun _ h => by cases h) (fun i j h => absurd h (Nat.not_lt_zero _)) (Nat.le_refl _) ⟨rfl, rfl⟩
  | nilFunc => exact .nilFunc
  | nilIface => exact .nilIface
  | map r => cases r with
    | none => exact .nilmap
    | some r => exact .any _
  | _ => exact .any _

theorem ofConst_rep (G : Ghost) (v : Value) : Rep G (ofConst v) v := by
  cases v with
  | agg cs =>
    unfold ofConst
    simp only
    split
    · rename_i h
      obtain ⟨l⟩ := cs
      refine .agg _ l (by simp) (fun i hi => ?_) (fun i hi => ?_)
      · simp only [List.length_map] at hi
        exact List.all_eq_true.1 h _ (getD_mem hi)
      · simp only [List.length_map] at hi
        rw [List.getD_eq_getElem?_getD, List.getD_eq_getElem?_getD, List.getElem?_map, List.getElem?_eq_getElem hi]
        exact ofScalar_rep G _
    · exact .any _
  | _ => unfold ofConst; exact ofScalar_rep G _

/-! ### The type table -/
inductive Ty where
  | int (k : IntKind) | bool | str | ptr (e : TypeId)
  | slice (e : TypeId) | array (len : Nat) (e : TypeId) | map (k e : TypeId)
  | struct (fs : List (Nat × TypeId))
  | func | iface (empty : Bool) | other
deriving DecidableEq, Inhabited
structure TyI where
  d : Ty
  size : Nat
  bytes : Nat
  zero : Option AV
deriving Inhabited

def Ty.agg : Ty → Bool
  | .struct _ | .array _ _ => true
  | _ => false

def tyFits : Ty → TypeDesc → Bool
  | .int k, .int k' => k == k'
  | .bool, .bool => true
  | .str, .string => true
  | .ptr e, .pointer e' => e == e'
  | .slice e, .slice e' => e == e'
  | .array n e, .array n' e' => n == n' && e == e'
  | .map k e, .map k' e' => k == k' && e == e'
  | .struct fs, .struct fs' => fs == fs'.toList.map fun f => (f.offset, f.type)
  | .func, .func .. => true
  | .iface b, .interface ms => b == ms.isEmpty
  | _, _ => false

structure TyOk (P : Program) (t : TypeId) (i : TyI) : Prop where
  size : ∃ info, P.info? t = some info ∧ info.size = i.size ∧ info.bytes = i.bytes ∧ ∀ z, i.zero = some z → ∃ cv, info.zero = some cv ∧ ofConst cv = z
  desc : ∃ d, P.underlying t = some d ∧ tyFits i.d d = true

structure Ctx where
  P : Program
  gl : Nat → Option (List AV)
  ty : Nat → TyI
  ok : ∀ t, (ty t).d ≠ .other → TyOk P t (ty t)
  inv : World → Prop

def AObj.isTok : AObj → Bool
  | .tok _ _ => true
  | _ => false

/-- A map's entries: when it was born, the key, the value. -/
def MapL (G : Ghost) (es : List (Nat × AV × AV)) (ms : List MapEntry) : Prop :=
  es.length = ms.length ∧ ∀ (i : Nat) (e : Nat × AV × AV) (x : MapEntry), es[i]? = some e → ms[i]? = some x → x.born = e.1 ∧ Rep G e.2.1 x.key ∧ Rep G e.2.2 x.val
theorem MapL.mono {G G' : Ghost} (h : Ext G.n G G') {es : List (Nat × AV × AV)} {ms : List MapEntry} (r : MapL G es ms) : MapL G' es ms :=
  ⟨r.1, fun i e x a b => ⟨(r.2 i e x a b).1, (r.2 i e x a b).2.1.mono h, (r.2 i e x a b).2.2.mono h⟩⟩

/-- What an object of the store is in the world. -/
def ObjOk (G : Ghost) (w : World) (b : Nat) : AObj → Prop
  | .row rt cells => ∃ vs, w.heap[b]? = some (.cells vs rt (0, 0)) ∧ RepL G cells vs.toList
  | .rowF rt cells => ∃ vs fr, w.heap[b]? = some (.cells vs rt fr) ∧ RepL G cells vs.toList
  | .map es clock => ∃ ms, w.heap[b]? = some (.map ms clock) ∧ MapL G es ms.toList
  | .iter m since seen last => m < G.n ∧ w.heap[b]? = some (.mapIter (some (G.obj m)) since seen.toArray last)
  | .tok _ _ => True
  | .gone => True

structure TokOk (G : Ghost) (w : World) (t : Nat) (cnt sz : Nat) : Prop where
  cnt : (G.tok t).cnt = cnt
  sz : (G.tok t).sz = sz
  free : (G.tok t).off < (G.tok t).lim → (∃ vs ty fr, w.heap[(G.tok t).blk]? = some (.cells vs ty fr) ∧ (G.tok t).lim ≤ vs.size ∧ fr.2 ≤ (G.tok t).off) ∧ G.B0 ≤ (G.tok t).blk ∧ ∀ o, (G.tok t).off ≤ o → G.imm (G.tok t).blk o = none

structure MemOk (C : Ctx) (G : Ghost) (objs : List AObj) (w : World) : Prop where
  n : G.n = objs.length
  imm : ∀ b o v, G.imm b o = some v → w.cell? ⟨b, o, none⟩ = some v
  obj : ∀ id x, objs[id]? = some x → ObjOk G w (G.obj id) x
  inj : ∀ i j x y, objs[i]? = some x → objs[j]? = some y → x.isTok = false → y.isTok = false → i ≠ j → G.obj i ≠ G.obj j
  lt : ∀ i x, objs[i]? = some x → x.isTok = false → G.obj i < w.heap.size ∧ G.B0 ≤ G.obj i
  sep : ∀ i x, objs[i]? = some x → x.isTok = false → ∀ o, G.imm (G.obj i) o = none
  tok : ∀ i cnt sz, objs[i]? = some (.tok cnt sz) → TokOk G w i cnt sz
  tokobj : ∀ i j cnt sz x, objs[i]? = some (.tok cnt sz) → objs[j]? = some x → x.isTok = false → (G.tok i).off < (G.tok i).lim → (G.tok i).blk ≠ G.obj j
  toktok : ∀ i j cnt sz cnt' sz', objs[i]? = some (.tok cnt sz) → objs[j]? = some (.tok cnt' sz') → i ≠ j → (G.tok i).off < (G.tok i).lim → (G.tok j).off < (G.tok j).lim → (G.tok i).blk ≠ (G.tok j).blk
  below : Below G.B0 G.w0 w
  b0 : G.B0 ≤ w.heap.size
  glob : ∀ g cells, C.gl g = some cells → Rep G (.cptr cells) (.pointer (some ⟨g, 0, none⟩))
  inv : ∀ w', Below G.B0 G.w0 w' → C.inv w'

structure AState where
  n : Nat
  p0 : Nat
  out : List AObj
  loc : List AObj
  env : Nat → AV

structure Sim (C : Ctx) (G : Ghost) (s : AState) (w : World) (a : Act) : Prop where
  size : a.tmps.size = s.n
  defers : a.defers = []
  env : ∀ t, t < s.n → Rep G (s.env t) (a.tmps.getD t undef)
  outlen : s.out.length = s.p0
  mem : MemOk C G (s.out ++ s.loc) w

/-! ### The logic -/
def Post (C : Ctx) (Q : Exit → AState → Prop) (G : Ghost) (p0 : Nat) : Exit → Act → World → Prop :=
  fun e a w => ∃ s' G', Sim C G' s' w a ∧ s'.p0 = p0 ∧ Ext p0 G G' ∧ Q e s'

def AWp (C : Ctx) (c : Code) (Q : Exit → AState → Prop) (s : AState) : Prop :=
  ∀ G w a, Sim C G s w a → c.wp C.P (Post C Q G s.p0) a w

theorem Sim.p0_le {C : Ctx} {G : Ghost} {s : AState} {w : World} {a : Act} (h : Sim C G s w a) : s.p0 ≤ G.n := by
  rw [h.mem.n, List.length_append, h.outlen]; omega

theorem Post.ofExt {C : Ctx} {Q : Exit → AState → Prop} {G G' : Ghost} {p0 : Nat} (h : Ext p0 G G') {e : Exit} {a : Act} {w : World} (p : Post C Q G' p0 e a w) : Post C Q G p0 e a w :=
  let ⟨s', G'', hs, hp, hx, hq⟩ := p; ⟨s', G'', hs, hp, h.trans hx (Nat.le_refl _), hq⟩

theorem Post.mono {C : Ctx} {Q Q' : Exit → AState → Prop} {G : Ghost} {p0 : Nat} (h : ∀ e s, Q e s → Q' e s) {e : Exit} {a : Act} {w : World} (p : Post C Q G p0 e a w) : Post C Q' G p0 e a w :=
  let ⟨s', G'', hs, hp, hx, hq⟩ := p; ⟨s', G'', hs, hp, hx, h _ _ hq⟩

theorem AWp.mono {C : Ctx} {c : Code} {Q Q' : Exit → AState → Prop} {s : AState} (h : AWp C c Q s) (hq : ∀ e s, Q e s → Q' e s) : AWp C c Q' s :=
  fun G w a hs => wp_mono (h G w a hs) fun _ _ _ p => p.mono hq

/-- What comes behind an end of this kind. -/
def AThen (next : AState → Prop) (Q : Exit → AState → Prop) : Exit → AState → Prop
  | .normal, s => next s
  | e, s => Q e s

theorem AWp.skip {C : Ctx} {Q : Exit → AState → Prop} {s : AState} (h : Q .normal s) : AWp C .skip Q s :=
  fun G w a hs => wp_skip ⟨s, G, hs, rfl, Ext.refl hs.p0_le, h⟩
theorem AWp.exit {C : Ctx} {Q : Exit → AState → Prop} {s : AState} {id : Nat} (h : Q (.exit id) s) : AWp C (.exit id) Q s :=
  fun G w a hs => wp_exit ⟨s, G, hs, rfl, Ext.refl hs.p0_le, h⟩
theorem AWp.ret {C : Ctx} {Q : Exit → AState → Prop} {s : AState} (h : Q .ret s) : AWp C .ret Q s :=
  fun G w a hs => wp_ret ⟨s, G, hs, rfl, Ext.refl hs.p0_le, h⟩
theorem AWp.label {C : Ctx} {Q : Exit → AState → Prop} {s : AState} {l : Nat} (h : Q .normal s) : AWp C (.label l) Q s :=
  fun G w a hs => wp_label ⟨s, G, hs, rfl, Ext.refl hs.p0_le, h⟩

theorem AWp.seq {C : Ctx} {Q : Exit → AState → Prop} {s : AState} {x y : Code} (h : AWp C x (AThen (AWp C y Q) Q) s) : AWp C (.seq x y) Q s := by
  intro G w a hs
  refine wp_seq (wp_mono (h G w a hs) ?_)
  rintro e a' w' ⟨s', G', hs', hp, hx, hq⟩
  cases e with
  | normal =>
    refine wp_mono (hq G' w' a' hs') fun _ _ _ p => ?_
    rw [hp] at p
    exact p.ofExt hx
  | exit id => exact ⟨s', G', hs', hp, hx, hq⟩
  | goto l => exact ⟨s', G', hs', hp, hx, hq⟩
  | ret => exact ⟨s', G', hs', hp, hx, hq⟩
  | panic ch => exact ⟨s', G', hs', hp, hx, hq⟩
  | outgrown => exact ⟨s', G', hs', hp, hx, hq⟩

def ABlock (id : Nat) (Q : Exit → AState → Prop) : Exit → AState → Prop
  | .exit id', s => if id' = id then Q .normal s else Q (.exit id') s
  | e, s => Q e s

theorem AWp.block {C : Ctx} {Q : Exit → AState → Prop} {s : AState} {id : Nat} {c : Code} (h : AWp C c (ABlock id Q) s) : AWp C (.block id c) Q s := by
  intro G w a hs
  refine wp_block (wp_mono (h G w a hs) ?_)
  rintro e a' w' ⟨s', G', hs', hp, hx, hq⟩
  cases e with
  | exit id' =>
    simp only [Exit.inBlock, ABlock] at *
    split
    · rename_i e; rw [if_pos e] at hq; exact ⟨s', G', hs', hp, hx, hq⟩
    · rename_i e; rw [if_neg e] at hq; exact ⟨s', G', hs', hp, hx, hq⟩
  | normal => exact ⟨s', G', hs', hp, hx, hq⟩
  | goto l => exact ⟨s', G', hs', hp, hx, hq⟩
  | ret => exact ⟨s', G', hs', hp, hx, hq⟩
  | panic ch => exact ⟨s', G', hs', hp, hx, hq⟩
  | outgrown => exact ⟨s', G', hs', hp, hx, hq⟩

/-- A loop: the states at its head, by a number that each round lowers. -/
theorem AWp.loop {C : Ctx} {Q : Exit → AState → Prop} {c : Code} (I : Nat → AState → Prop) (n₀ : Nat) {s : AState} (h₀ : I n₀ s)
    (hp0 : ∀ n s', I n s' → s'.p0 = s.p0)
    (round : ∀ n s', I n s' → AWp C c (AThen (fun s'' => ∃ m, m < n ∧ I m s'') Q) s') : AWp C (.loop c) Q s := by
  intro G w a hs
  refine wp_loop_ghost (fun n a w => ∃ s' G', Sim C G' s' w a ∧ Ext s.p0 G G' ∧ I n s') n₀ ⟨s, G, hs, Ext.refl hs.p0_le, h₀⟩ ?_
  rintro n a' w' ⟨s', G', hs', hx, hI⟩
  refine wp_mono (round n s' hI G' w' a' hs') ?_
  rintro e a'' w'' ⟨s'', G'', hs'', hp, hx', hq⟩
  have hp' := hp0 n s' hI
  rw [hp'] at hp hx'
  have hx'' := hx.trans hx' (Nat.le_refl _)
  cases e with
  | normal => obtain ⟨m, hm, hI'⟩ := hq; exact ⟨m, hm, s'', G'', hs'', hx'', hI'⟩
  | exit id => exact ⟨s'', G'', hs'', hp, hx'', hq⟩
  | goto l => exact ⟨s'', G'', hs'', hp, hx'', hq⟩
  | ret => exact ⟨s'', G'', hs'', hp, hx'', hq⟩
  | panic ch => exact ⟨s'', G'', hs'', hp, hx'', hq⟩
  | outgrown => exact ⟨s'', G'', hs'', hp, hx'', hq⟩

end Go.Av
