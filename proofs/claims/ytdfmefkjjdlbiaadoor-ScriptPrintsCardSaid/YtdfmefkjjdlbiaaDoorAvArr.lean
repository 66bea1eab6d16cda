/-
  AvArr: slices over a row that may be written; the operations of strings.Builder; calls that only lay new blocks; a store known less of.
-/
import Derived.Test.YtdfmefkjjdlbiaaDoorAvMap
import Derived.Lib.UnsafeStr
import Derived.Laws.Externs
namespace Go.Av
open Go.RowKit (Below)
set_option linter.unusedVariables false
set_option linter.unusedSimpArgs false

/-! ### A world that has grown -/
theorem MemOk.grown {C : Ctx} {G : Ghost} {objs : List AObj} {w w' : World} (h : MemOk C G objs w) (hb : Below w.heap.size w w') : MemOk C G objs w' where
  n := h.n
  imm := fun b o v e => (cell?_of_heap (hb.block b (block_lt (h.imm b o v e)))).trans (h.imm b o v e)
  obj := fun id x e => by
    cases hx : x.isTok with
    | true => cases x <;> simp [AObj.isTok] at hx; trivial
    | false => exact (h.obj id x e).mono (Ext.refl (Nat.le_refl _)) (hb.block _ (h.lt id x e hx).1)
  inj := h.inj
  lt := fun i x e hx => ⟨Nat.lt_of_lt_of_le (h.lt i x e hx).1 hb.size, (h.lt i x e hx).2⟩
  sep := h.sep
  tok := fun i cnt sz e => ⟨(h.tok i cnt sz e).cnt, (h.tok i cnt sz e).sz, fun h1 => by
    obtain ⟨⟨vs, tt, fr, hv, hl⟩, r⟩ := (h.tok i cnt sz e).free h1
    exact ⟨⟨vs, tt, fr, (hb.block _ (lt_of_heap hv)).trans hv, hl⟩, r⟩⟩
  tokobj := h.tokobj
  toktok := h.toktok
  below := h.below.trans (hb.mono h.b0)
  b0 := Nat.le_trans h.b0 hb.size
  glob := h.glob
  inv := h.inv

/-- A call of which a contract is known that lays new blocks alone. -/
theorem PureF.ofCalls {C : Ctx} {f : FuncId} {args : List AV} {v : AV}
    (h : ∀ (G : Ghost) (objs : List AObj) (w : World) (vs : List Value), MemOk C G objs w → RepA G args vs → Calls C.P f vs.toArray w fun e w' => ∃ cv, e = .returned cv ∧ Below w.heap.size w w' ∧ Rep G v cv) : PureF C f args v := by
  intro objs G w vs hm ha
  refine (h G objs w vs hm ha).mono ?_
  rintro e w' ⟨cv, rfl, hb, hr⟩
  exact ⟨cv, v, objs, G, rfl, hr, hm.grown hb, Ext.refl (Nat.le_refl _), rfl, rfl⟩

theorem ACalls.of {C : Ctx} {f : FuncId} {args : List AV} {objs : List AObj} {R : AV → List AObj → Prop}
    (h : ∀ G w vs, MemOk C G objs w → RepA G args vs → Calls C.P f vs.toArray w fun e w' => ∃ v r objs' G', e = .returned v ∧ Rep G' r v ∧ MemOk C G' objs' w' ∧ Ext G.n G G' ∧ R r objs') : ACalls C f args objs R := h
theorem repA1 {G : Ghost} {a : AV} {vs : List Value} (h : RepA G [a] vs) : ∃ c, vs = [c] ∧ Rep G a c := by
  have hl := h.len
  match vs, hl with
  | [c], _ => exact ⟨c, rfl, h.rep 0 (by simp)⟩
theorem repA2 {G : Ghost} {a b : AV} {vs : List Value} (h : RepA G [a, b] vs) : ∃ c d, vs = [c, d] ∧ Rep G a c ∧ Rep G b d := by
  have hl := h.len
  match vs, hl with
  | [c, d], _ => exact ⟨c, d, rfl, h.rep 0 (by simp), h.rep 1 (by simp)⟩
theorem ACalls.withLt {C : Ctx} {f : FuncId} {args : List AV} {objs : List AObj} {R : AV → List AObj → Prop} (h : ObjsLt objs.length objs → ACalls C f args objs R) : ACalls C f args objs R := fun G w vs hm ha => h hm.objsLt G w vs hm ha
theorem RetQ.to {C : Ctx} {res : List ResultVar} {objs objs' : List AObj} {R : AV → List AObj → Prop} {v : AV} {vs : List AV} {e : Exit} {s : AState} (he : e = .normal ∨ e = .ret) (h : ResL C s res vs) (hv : Le (theResult vs) v) (ht : (s.out ++ s.loc).take objs'.length = objs') (hid : IdLt objs'.length v)
    (hl : objs.length ≤ objs'.length) (hlt : ObjsLt objs'.length objs') (hR : R v objs') : RetQ C res objs R e s := by
  rcases he with rfl | rfl <;> exact ⟨vs, v, objs', h, hv, ht, .inl hid, .inr (.inr ⟨hl, hlt⟩), hR⟩
theorem ACalls.withArgs {C : Ctx} {f : FuncId} {args : List AV} {objs : List AObj} {R : AV → List AObj → Prop} (h : (∀ a, a ∈ args → IdLt objs.length a) → ACalls C f args objs R) : ACalls C f args objs R := fun G w vs hm ha => h (fun a h0 => by
  obtain ⟨i, hi, rfl⟩ := List.getElem_of_mem h0
  have := (ha.rep i hi).idLt
  rw [hm.n, getD_eq, List.getElem?_eq_getElem hi] at this
  exact this) G w vs hm ha
theorem ObjsLt.set {m : Nat} {l : List AObj} (h : ObjsLt m l) (i : Nat) {x : AObj} (hx : ObjLt m x) : ObjsLt m (l.set i x) := fun y hy => by
  rcases List.mem_or_eq_of_mem_set hy with h' | rfl
  · exact h y h'
  · exact hx
theorem ObjsLt.append {m : Nat} {l l' : List AObj} (h : ObjsLt m l) (h' : ObjsLt m l') : ObjsLt m (l ++ l') := fun y hy => (List.mem_append.1 hy).elim (h y) (h' y)
theorem ObjLt.le {m m' : Nat} (hm : m ≤ m') {x : AObj} (h : ObjLt m x) : ObjLt m' x := by
  cases x with
  | row t c => exact fun c hc => (h c hc).le hm
  | rowF t c => exact fun c hc => (h c hc).le hm
  | map es k => exact fun e he => ⟨(h e he).1.le hm, (h e he).2.le hm⟩
  | iter k a b c => exact Nat.lt_of_lt_of_le h hm
  | tok _ _ => trivial
  | gone => trivial
theorem ObjsLt.le {m m' : Nat} (hm : m ≤ m') {l : List AObj} (h : ObjsLt m l) : ObjsLt m' l := fun x hx => (h x hx).le hm
theorem flatten_single {α : Type} (f : α → AV) : ∀ l : List α, (l.map fun p => [f p]).flatten = l.map f
  | [] => rfl
  | a :: r => by simp [flatten_single f r]

/-! ### A store known less of -/
def ObjLe (x x' : AObj) : Prop := x.isTok = false ∧ x'.isTok = false ∧ ∀ G w b, ObjOk G w b x → ObjOk G w b x'
theorem ObjLe.gone {x : AObj} (h : x.isTok = false) : ObjLe x .gone := ⟨h, rfl, fun _ _ _ _ => trivial⟩
theorem ObjLe.rowF (t : TypeId) (cells : List AV) : ObjLe (.row t cells) (.rowF t cells) := ⟨rfl, rfl, fun _ _ _ ⟨vs, h1, h2⟩ => ⟨vs, (0, 0), h1, h2⟩⟩
theorem MemOk.weak {C : Ctx} {G : Ghost} {objs : List AObj} {w : World} (h : MemOk C G objs w) {id : Nat} {x x' : AObj} (hid : objs[id]? = some x) (hx : ObjLe x x') : MemOk C G (objs.set id x') w :=
  h.set hid hx.1 hx.2.1 (fun _ _ => rfl) rfl rfl rfl rfl (hx.2.2 _ _ _ (h.obj id x hid))
theorem ACalls.weak {C : Ctx} {f : FuncId} {args : List AV} {objs : List AObj} {R : AV → List AObj → Prop} {id : Nat} {x x' : AObj} (hid : objs[id]? = some x) (hx : ObjLe x x') (h : ACalls C f args (objs.set id x') R) : ACalls C f args objs R :=
  fun G w vs hm ha => h G w vs (hm.weak hid hx) ha
theorem AWp.weak {C : Ctx} {c : Code} {Q : Exit → AState → Prop} {n p0 : Nat} {out loc out' loc' : List AObj} {env : Nat → AV} {id : Nat} {x x' : AObj} (hid : p0 = out.length → (out ++ loc)[id]? = some x) (hx : ObjLe x x')
    (hs : p0 = out.length → (out ++ loc).set id x' = out' ++ loc') (hl : out'.length = out.length) (h : AWp C c Q ⟨n, p0, out', loc', env⟩) : AWp C c Q ⟨n, p0, out, loc, env⟩ := by
  intro G w a hsim
  refine h G w a ⟨hsim.size, hsim.defers, hsim.env, hl.trans hsim.outlen, ?_⟩
  show MemOk C G (out' ++ loc') w
  rw [← hs hsim.outlen.symm]
  exact hsim.mem.weak (hid hsim.outlen.symm) hx

/-- The same state, said more plainly. -/
def WkS (env : Nat → AV) : List (Nat × AV) → Prop
  | [] => True
  | p :: r => Le (env p.1) p.2 ∧ WkS env r
theorem WkS.at_ {env : Nat → AV} : ∀ {l : List (Nat × AV)}, WkS env l → ∀ p, p ∈ l → Le (env p.1) p.2
  | [], _, _, h => by cases h
  | q :: r, h, p, hp => by
    rcases List.mem_cons.1 hp with rfl | hp
    · exact h.1
    · exact WkS.at_ h.2 p hp
theorem Wk.same {C : Ctx} {n p0 : Nat} {out loc loc' : List AObj} {env : Nat → AV} {l : List (Nat × AV)} (hl : loc = loc') (he : WkS env l) : Wk C ⟨n, p0, out, loc, env⟩ ⟨n, p0, out, loc', ofL l⟩ := by
  subst hl
  refine ⟨rfl, fun G w a hs => ⟨G, ⟨hs.size, hs.defers, fun t ht => ?_, hs.outlen, hs.mem⟩, Ext.refl hs.p0_le⟩⟩
  refine ofL_rep fun p hp e => ?_
  refine he.at_ p hp G _ ?_
  rw [e]
  exact hs.env t ht
theorem WpL.wk {C : Ctx} {ops : Array Oper} {rest : List Oper} {Q : Exit → AState → Prop} {s s' : AState} (hw : Wk C s s') (h : WpL C ops rest Q s') : WpL C ops rest Q s := by
  intro G w a hs
  obtain ⟨G', hs', hx⟩ := hw.sim G w a hs
  have := h G' w a hs'
  rw [hw.p0] at this
  exact wpOpers_ofExt hx rest a w this

section
variable {C : Ctx} {n p0 : Nat} {out loc : List AObj} {env : Nat → AV}
variable {d : Option Nat} {ty : TypeId} {pos : String} {aft : Array Edge} {gd : Option (Nat × Bool)}

theorem Rep.arr_inv {G : Ghost} {id off len cap : Nat} {cv : Value} (h : Rep G (.arr id off len cap) cv) : cv = .slice (some ⟨G.obj id, off, none⟩) len cap ∧ id < G.n := by cases h with | arr _ _ _ _ h => exact ⟨rfl, h⟩

theorem St.lenArr {x : Operand} {t et : TypeId} {id off len cap : Nat} (hx : ev C ⟨n, p0, out, loc, env⟩ x = .arr id off len cap) (ht : (C.ty t).d = .slice et) :
    OpStep C { dst := d, op := .call { callee := .builtin .len, args := #[x], argTypes := #[t] }, type := ty, pos := pos, after := aft, guard := gd } ⟨n, p0, out, loc, env⟩ (.int .i64 len) out loc := by
  refine OpStep.pure_ (fun G w a hs => ?_)
  have g := rep_ev hs x; rw [hx] at g
  obtain ⟨e1, _⟩ := g.arr_inv
  refine ⟨.int .i64 len, ?_, .int _ _⟩
  simp [execOp, resolve, invoke, builtin, Builtin.len_, run_underlying_of (und_slice ht), e1, goInt]

theorem zeroCells_one {z : Array Value} (h : ∀ v, v ∈ z.toList → v.oneCell' = true) (m : Nat) : ∀ v, v ∈ (Builtin.zeroCells z m).toList → v.oneCell' = true := by
  intro v hv
  simp only [Builtin.zeroCells, Array.toList_map, List.mem_map, Array.toList_range, List.mem_range] at hv
  obtain ⟨j, hj, rfl⟩ := hv
  have hs : 0 < z.size := by
    rcases Nat.eq_zero_or_pos z.size with e | e
    · rw [e] at hj; simp at hj
    · exact e
  have hlt : j % z.size < z.size := Nat.mod_lt _ hs
  rw [getElem!_pos z _ hlt]
  exact h _ (by simp)

/-- append onto a slice over a row, from that row's head on -/
theorem St.appendArr {x y : Operand} {t t2 et id len cap : Nat} {cells : List AV} {ys : List (List AV)} {sz by_ : Nat} {z : AV}
    (hx : ev C ⟨n, p0, out, loc, env⟩ x = .arr id 0 len cap) (hy : aSrc (ev C ⟨n, p0, out, loc, env⟩ y) (C.ty t2).d = some ys) (ht : (C.ty t).d = .slice et) (hk : (C.ty et).d.known = true) (hz : (C.ty et).zero = some z) (hzl : z.cellsOf.length = (C.ty et).size)
    (hzs : z.stor = true) (hsz : (C.ty et).size = sz) (hby : (C.ty et).bytes = by_) (hb0 : 0 < by_) (hsy : AllLen sz ys) (hfit : (len + ys.length) * by_ ≤ 140737488355328)
    (ho : p0 = out.length → (out ++ loc)[id]? = some (.row et cells)) (hcl : cells.length = cap * sz) (hlc : len ≤ cap) :
    OpStepR C { dst := d, op := .call { callee := .builtin .append, args := #[x, y], argTypes := #[t, t2] }, type := ty, pos := pos, after := aft, guard := gd } ⟨n, p0, out, loc, env⟩
      (fun r objs => ∃ id' cap' cells', r = .arr id' 0 (len + ys.length) cap' ∧ len + ys.length ≤ cap' ∧ cells'.length = cap' * sz ∧ cells'.take ((len + ys.length) * sz) = cells.take (len * sz) ++ ys.flatten ∧
        (id' = id ∧ objs = (out ++ loc).set id (.row et cells') ∨ id' = (out ++ loc).length ∧ objs = out ++ loc ++ [.row et cells'])) := by
  intro G w a hs next Q' K
  have g1 := rep_ev hs x; rw [hx] at g1
  have g2 := rep_ev hs y
  have hobj := ho hs.outlen.symm
  obtain ⟨news, d2, hsrc, hnews, hu, hd⟩ := src_of hs.mem g2 hy hsy
  obtain ⟨e1, hid⟩ := g1.arr_inv
  obtain ⟨vs, hv, hr⟩ := hs.mem.obj id _ hobj
  obtain ⟨i, hi1, hi2, hi3, hi4⟩ := (C.ok et (Ty.ne_other hk)).size
  obtain ⟨cz, hz1, hz2⟩ := hi4 z hz
  have hvl : vs.size = cap * sz := by have := hr.len; simp at this; omega
  have hnl : news.length = ys.length * sz := hsrc.size
  have hlm : len * sz ≤ cap * sz := Nat.mul_le_mul_right _ hlc
  have hflat : ys.flatten.length = ys.length * sz := flatten_len hsy
  by_cases hroom : len + ys.length ≤ cap
  · have hcs : len * sz + ys.length * sz ≤ cap * sz := by rw [← Nat.add_mul]; exact Nat.mul_le_mul_right _ hroom
    have hrun := run_append_room_ (P := C.P) (w := w) (ty := ty) (t := t) (t2 := t2) (b := G.obj id) (o := 0) (sLen := len) (sCap := cap) (x := a.eval y) (und_slice ht) hu hd hi1 (by rw [hi2, hsz]; exact hsrc) hroom (fun j hj => by
      rw [hi2, hsz]
      have : 0 + len * sz + j < vs.size := by omega
      constructor
      · simp only [World.cell?, hv]; simp; omega
      · simp [World.frozen?, hv]) hnews.mem
    obtain ⟨a1, a2, a3, a4, a5, a6, a7⟩ := setCells_facts (G.obj id) news (0 + len * sz) vs et w hv
    have hcells' : (cells.take (len * sz) ++ ys.flatten ++ cells.drop (len * sz + ys.flatten.length)).length = cap * sz := by
      simp only [List.length_append, List.length_take, List.length_drop, hflat]; omega
    have hm2 : MemOk C G ((out ++ loc).set id (.row et (cells.take (len * sz) ++ ys.flatten ++ cells.drop (len * sz + ys.flatten.length)))) (w.setCells (G.obj id) (0 + len * sz) news) := by
      refine hs.mem.set hobj rfl rfl a2 a3 a4 a5 a6 ⟨_, a1, ?_⟩
      have e9 : (vs.toList.take (0 + len * sz) ++ news ++ vs.toList.drop (0 + len * sz + news.length)).take vs.size = vs.toList.take (len * sz) ++ news ++ vs.toList.drop (len * sz + news.length) := by
        rw [Nat.zero_add]
        apply List.take_of_length_le; simp; omega
      simp only [e9]
      have hnf : news.length = ys.flatten.length := by rw [hflat, hnl]
      rw [hnf]
      exact ((hr.take (len * sz)).append hnews).append (hr.drop _)
    unfold Oper.wp
    rw [run_builtin_append (v := .slice (some ⟨G.obj id, 0, none⟩) (len + ys.length) cap) (w' := w.setCells (G.obj id) (0 + len * sz) news) (by rw [e1, hrun, hi2, hsz])]
    refine K _ _ _ _ G ⟨id, cap, _, rfl, hroom, hcells', ?_, .inl ⟨rfl, rfl⟩⟩ (.arr id 0 _ _ hid) hm2 (Ext.refl (Nat.le_refl _))
    rw [Nat.add_mul]
    rw [List.take_append_of_le_length (by simp only [List.length_append, List.length_take, hflat]; omega), List.take_of_length_le (by simp only [List.length_append, List.length_take, hflat]; omega)]
  · have hrun := run_append_new_ (P := C.P) (w := w) (ty := ty) (t := t) (t2 := t2) (x := a.eval y) (base := some ⟨G.obj id, 0, none⟩) (sLen := len) (sCap := cap) (n := ys.length) (olds := vs.toList.take (len * sz)) (und_slice ht) hu hd hi1 hz1 (by rw [hi2, hsz]; exact hsrc) (by omega)
      (fun w' hw => by
        rw [hi2, hsz]
        simp only [Builtin.firstCells]
        have := run_loadCells (P := C.P) w' ⟨G.obj id, 0, none⟩ (len * sz) (fun j => vs.toList.getD j undef) (fun j hj => by
          have hjl : j < vs.size := by omega
          rw [add_none]
          simp only [World.cell?, hw, hv, Nat.zero_add]
          simp [getD_eq, hjl])
        rw [this]
        congr 1
        have e8 := range_map_getD (vs.toList.take (len * sz)) (len * sz) (by simp; omega) (fun j => vs.toList.getD j undef) (fun j hj => by
          rw [List.getElem?_take, if_pos hj, getD_eq, List.getElem?_eq_getElem (by simp; omega)]; rfl)
        rw [e8]) (by rw [hi3, hby]; exact hb0) (by rw [hi3, hby]; exact hfit)
    have hgc : len + ys.length ≤ grownCap w (len + ys.length) cap et := by simp only [grownCap, Question.cut]; omega
    have hzc : cz.cells.size = sz := by
      have := hz2 ▸ ofConst_rep G cz
      obtain ⟨vs', h1, h2⟩ := this.cells hzs
      rw [h1, ← hsz, ← hzl]; simpa using h2.len.symm
    have hmd : MemOk C G (out ++ loc) w.drew := hs.mem.of_heap rfl rfl rfl rfl
    generalize hCP : grownCap w (len + ys.length) cap et = CP at hrun hgc
    have hrl : (Builtin.zeroCells cz.cells (CP - (len + ys.length))).toList.length = (CP - (len + ys.length)) * sz := by rw [zeroCells_len, hzc]
    have hro : ∀ v, v ∈ (Builtin.zeroCells cz.cells (CP - (len + ys.length))).toList → v.oneCell' = true := by
      obtain ⟨us, h1, h2⟩ := (hz2 ▸ ofConst_rep G cz).cells hzs
      exact zeroCells_one (by rw [h1]; exact h2.mem) _
    generalize (Builtin.zeroCells cz.cells (CP - (len + ys.length))).toList = rest at hrun hrl hro
    have hrest := anyRepL (G := G) rest hro
    have hL : RepL G (cells.take (len * sz) ++ ys.flatten ++ List.replicate rest.length .any) (vs.toList.take (len * sz) ++ news ++ rest) := ((hr.take _).append hnews).append hrest
    unfold Oper.wp
    rw [run_builtin_append (by rw [e1]; exact hrun)]
    have hlen2 : (out ++ loc).length = G.n := hs.mem.n.symm
    have hrp := Rep.arr (G := G.push w.drew.heap.size) G.n 0 (len + ys.length) CP (by simp [Ghost.push])
    simp only [Ghost.push, if_true] at hrp
    refine K (.arr (out ++ loc).length 0 (len + ys.length) CP) _ _ _ (G.push w.drew.heap.size) ⟨_, CP, _, rfl, hgc, ?_, ?_, .inr ⟨rfl, rfl⟩⟩ (by rw [hlen2]; exact hrp) (hmd.push _ _ rfl ⟨_, ?_, hL⟩) (Ext.push G _)
    · simp only [List.length_append, List.length_take, List.length_replicate, hflat, hrl]
      have := Nat.sub_mul CP (len + ys.length) sz
      have h5 : (len + ys.length) * sz ≤ CP * sz := Nat.mul_le_mul_right _ hgc
      rw [Nat.add_mul] at h5 this
      omega
    · rw [Nat.add_mul, List.take_append_of_le_length (by simp only [List.length_append, List.length_take, hflat]; omega), List.take_of_length_le (by simp only [List.length_append, List.length_take, hflat]; omega)]
    · show (w.drew.heap.push _)[w.drew.heap.size]? = _
      exact Array.getElem?_push_size

/-- append onto nil, into a row -/
theorem St.appendNilArr {x y : Operand} {t t2 et : Nat} {ys : List (List AV)} {sz by_ : Nat} {z : AV}
    (hx : ev C ⟨n, p0, out, loc, env⟩ x = .slc [] .nil) (hy : aSrc (ev C ⟨n, p0, out, loc, env⟩ y) (C.ty t2).d = some ys) (ht : (C.ty t).d = .slice et) (hk : (C.ty et).d.known = true) (hz : (C.ty et).zero = some z) (hzl : z.cellsOf.length = (C.ty et).size)
    (hzs : z.stor = true) (hsz : (C.ty et).size = sz) (hby : (C.ty et).bytes = by_) (hb0 : 0 < by_) (hsy : AllLen sz ys) (hfit : ys.length * by_ ≤ 140737488355328) :
    OpStepR C { dst := d, op := .call { callee := .builtin .append, args := #[x, y], argTypes := #[t, t2] }, type := ty, pos := pos, after := aft, guard := gd } ⟨n, p0, out, loc, env⟩
      (fun r objs => ys = [] ∧ r = .slc [] .nil ∧ objs = out ++ loc ∨ ∃ cap' cells', ys ≠ [] ∧ r = .arr (out ++ loc).length 0 ys.length cap' ∧ ys.length ≤ cap' ∧ cells'.length = cap' * sz ∧ cells'.take (ys.length * sz) = ys.flatten ∧ objs = out ++ loc ++ [.row et cells']) := by
  intro G w a hs next Q' K
  have g1 := rep_ev hs x; rw [hx] at g1
  have g2 := rep_ev hs y
  obtain ⟨news, d2, hsrc, hnews, hu, hd⟩ := src_of hs.mem g2 hy hsy
  obtain ⟨i, hi1, hi2, hi3, hi4⟩ := (C.ok et (Ty.ne_other hk)).size
  obtain ⟨cz, hz1, hz2⟩ := hi4 z hz
  have e1 : a.eval x = .slice none 0 0 := by
    cases hax : a.eval x with
    | slice A l c =>
      rw [hax] at g1
      obtain ⟨a', cap, sz', f, e, _, _, _, _, _, he⟩ := g1.slc_inv
      cases e
      obtain ⟨rfl, rfl⟩ := he
      rfl
    | _ => rw [hax] at g1; cases g1
  have hnl : news.length = ys.length * sz := hsrc.size
  have hflat : ys.flatten.length = ys.length * sz := flatten_len hsy
  by_cases hy0 : ys.length = 0
  · have hys : ys = [] := List.eq_nil_of_length_eq_zero hy0
    subst hys
    unfold Oper.wp
    rw [run_builtin_append (v := .slice none 0 0) (w' := w) ?_]
    · exact K _ _ _ _ G (.inl ⟨rfl, rfl, rfl⟩) (by rw [← e1]; exact g1) hs.mem (Ext.refl (Nat.le_refl _))
    · have hzz : (d2 matches .int _) = false := by cases d2 <;> first | rfl | exact absurd rfl (hd _)
      have hnil : news = [] := List.eq_nil_of_length_eq_zero (by simpa using hnl)
      have hf := hsrc.first w rfl
      rw [hnil] at hf
      rw [e1]
      simp only [Builtin.append_, List.getElem?_toArray, List.getElem?_cons_zero, List.getElem?_cons_succ, Sem.run_bind, run_underlying_of (und_slice ht), run_underlying_of hu, Result.andThen_ok, sizeOf, run_typeInfo_of hi1, Sem.run_pure, hzz, Bool.false_eq_true, if_false, hsrc.len, Bool.not_false, if_true]
      rw [if_pos (show 0 + ([] : List (List AV)).length ≤ 0 from Nat.le_refl _)]
      rw [← hsz, ← hi2] at hf
      simp only [Sem.run_bind, hf, Result.andThen_ok, Sem.run_pure]
      simp
  · have hrun := run_append_new_ (P := C.P) (w := w) (ty := ty) (t := t) (t2 := t2) (x := a.eval y) (base := none) (sLen := 0) (sCap := 0) (n := ys.length) (olds := []) (und_slice ht) hu hd hi1 hz1 (by rw [hi2, hsz]; exact hsrc) (by omega)
      (fun w' hw => by simp [Builtin.firstCells]) (by rw [hi3, hby]; exact hb0) (by rw [hi3, hby]; simpa using hfit)
    have hgc : 0 + ys.length ≤ grownCap w (0 + ys.length) 0 et := by simp only [grownCap, Question.cut]; omega
    have hzc : cz.cells.size = sz := by
      have := hz2 ▸ ofConst_rep G cz
      obtain ⟨vs', h1, h2⟩ := this.cells hzs
      rw [h1, ← hsz, ← hzl]; simpa using h2.len.symm
    have hmd : MemOk C G (out ++ loc) w.drew := hs.mem.of_heap rfl rfl rfl rfl
    rw [Nat.zero_add] at hrun hgc
    generalize hCP : grownCap w ys.length 0 et = CP at hrun hgc
    have hrl : (Builtin.zeroCells cz.cells (CP - ys.length)).toList.length = (CP - ys.length) * sz := by rw [zeroCells_len, hzc]
    have hro : ∀ v, v ∈ (Builtin.zeroCells cz.cells (CP - ys.length)).toList → v.oneCell' = true := by
      obtain ⟨us, h1, h2⟩ := (hz2 ▸ ofConst_rep G cz).cells hzs
      exact zeroCells_one (by rw [h1]; exact h2.mem) _
    generalize (Builtin.zeroCells cz.cells (CP - ys.length)).toList = rest at hrun hrl hro
    have hL : RepL G (ys.flatten ++ List.replicate rest.length .any) ([] ++ news ++ rest) := hnews.append (anyRepL rest hro)
    unfold Oper.wp
    rw [run_builtin_append (by rw [e1]; exact hrun)]
    have hlen2 : (out ++ loc).length = G.n := hs.mem.n.symm
    have hrp := Rep.arr (G := G.push w.drew.heap.size) G.n 0 ys.length CP (by simp [Ghost.push])
    simp only [Ghost.push, if_true] at hrp
    refine K (.arr (out ++ loc).length 0 ys.length CP) _ _ _ (G.push w.drew.heap.size) (.inr ⟨CP, _, (fun h => hy0 (by rw [h]; rfl)), rfl, hgc, ?_, ?_, rfl⟩) (by rw [hlen2]; exact hrp) (hmd.push _ _ rfl ⟨_, ?_, hL⟩) (Ext.push G _)
    · simp only [List.length_append, List.length_replicate, hflat, hrl]
      rw [← Nat.add_mul]; congr 1; omega
    · rw [List.take_append_of_le_length (by omega), List.take_of_length_le (by omega)]
    · show (w.drew.heap.push _)[w.drew.heap.size]? = _
      exact Array.getElem?_push_size

/-! ### What strings.Builder does -/
theorem shape_row {w : World} {b : Nat} {vs : Array Value} {t : TypeId} {fr : Nat × Nat} (h : w.heap[b]? = some (.cells vs t fr)) : w.shape? b = some (t, vs.size) := by simp [World.shape?, h]

theorem St.toUnsafe {src dst e id : TypeId} {x : Operand} {rt : TypeId} {cells : List AV} (hx : ev C ⟨n, p0, out, loc, env⟩ x = .ptr id 0) (hs1 : (C.ty src).d = .ptr e) (hk : (C.ty e).d.known = true) (hz : Nat.beq (C.ty e).size 0 = false) (hd : C.P.underlying dst = some .unsafePointer)
    (ho : p0 = out.length → (out ++ loc)[id]? = some (.row rt cells)) (hc : 0 < cells.length) :
    OpStep C { dst := d, op := .convert src dst x, type := ty, pos := pos, after := aft, guard := gd } ⟨n, p0, out, loc, env⟩ (.ptr id 0) out loc := by
  refine OpStep.pure_ (fun G w a hs => ?_)
  have g := rep_ev hs x; rw [hx] at g
  have e1 := g.ptr_inv'
  obtain ⟨vs, hv, hr⟩ := hs.mem.obj id _ (ho hs.outlen.symm)
  have hsh := shape_row hv
  have hn : ¬ vs.size ≤ 0 := by have := hr.len; simp at this; omega
  have hz' : (C.ty e).size ≠ 0 := fun e => by rw [e] at hz; cases hz
  have hne : vs ≠ #[] := fun h => by subst h; simp at hn
  refine ⟨.pointer (some ⟨G.obj id, 0, none⟩), ?_, e1 ▸ g⟩
  simp [execOp, e1, convert, run_underlying (und_ptr' hs1), run_underlying hd, Conv.unsafePointer, Conv.seenAt, viewAt, cellsIn, hsh, run_sizeOf_ (Ty.ne_other hk), hz', hn, hne]

theorem St.fromUnsafe {src dst u id : TypeId} {x : Operand} {rt : TypeId} {cells : List AV} (hx : ev C ⟨n, p0, out, loc, env⟩ x = .ptr id 0) (hs1 : C.P.underlying src = some .unsafePointer) (hd : (C.ty dst).d = .ptr u) (hk : (C.ty u).d.known = true)
    (ho : p0 = out.length → (out ++ loc)[id]? = some (.row rt cells)) (hl : liesAt C.P C.P.depth rt (cells.length / C.P.cellsOf rt) 0 u 1 = true) :
    OpStep C { dst := d, op := .convert src dst x, type := ty, pos := pos, after := aft, guard := gd } ⟨n, p0, out, loc, env⟩ (.ptr id 0) out loc := by
  refine OpStep.pure_ (fun G w a hs => ?_)
  have g := rep_ev hs x; rw [hx] at g
  have e1 := g.ptr_inv'
  obtain ⟨vs, hv, hr⟩ := hs.mem.obj id _ (ho hs.outlen.symm)
  have hsh := shape_row hv
  have hn : vs.size = cells.length := by have := hr.len; simp at this; omega
  refine ⟨.pointer (some ⟨G.obj id, 0, none⟩), ?_, e1 ▸ g⟩
  rw [← hn] at hl
  simp [execOp, e1, convert, run_underlying (und_ptr' hd), run_underlying hs1, Conv.unsafePointer, Conv.seenAt, viewAt, cellsIn, hsh, run_sizeOf_ (Ty.ne_other hk), variablesAt, hl]

/-- a call of a function without a body that hands its argument back -/
theorem St.callSame {fid : FuncId} {fn : Func} {x : Operand} {ats : Array TypeId} {v : AV} (hx : force (ev C ⟨n, p0, out, loc, env⟩ x) = some v) (hfn : C.P.funcs[fid]? = some fn) (hname : (fn.name == "runtime.NumGoroutine") = false)
    (hb : fn.body.isNone = true) (hn : Extern.findNext fn = none) (he : Extern.find fn = some Extern.AbiNoEscape.same) :
    OpStep C { dst := d, op := .call { callee := .value (.func fid), args := #[x], argTypes := ats }, type := ty, pos := pos, after := aft, guard := gd } ⟨n, p0, out, loc, env⟩ v out loc := by
  refine OpStep.pure_ (fun G w a hs => ⟨a.eval x, ?_, force_eq hx ▸ rep_ev hs x⟩)
  have h1 := run_callFunc_extern hfn hname hb hn he #[a.eval x] w
  have h2 : a.eval (.func fid) = .func (.func fid) #[] #[] := rfl
  have h3 : (#[] ++ #[x].map a.eval ++ #[] : Array Value) = #[a.eval x] := by simp
  simp only [execOp, resolve, h2, Deferred.ofValue, Sem.run_bind, Sem.run_pure, Result.andThen_ok, invoke, h3]
  have h4 : (Extern.AbiNoEscape.same #[a.eval x]).run C.P w = .ok (a.eval x) w := rfl
  rw [h4] at h1
  first
    | exact h1
    | (simp only [Result.andThen_ok] at h1; simpa using h1)

theorem run_eqSame {t e : TypeId} (ht : (C.ty t).d = .ptr e) (hk : (C.ty e).d.known = true) (hz' : (C.ty e).size ≠ 0) (N : Nat) (b : Addr) (w : World) : (Op.equalIn (N + 1) t (.pointer (some b)) (.pointer (some b))).run C.P w = .ok true w := by
  simp only [Op.equalIn, Sem.run_bind, run_underlying (und_ptr' ht), Result.andThen_ok, run_sizeOf_ (Ty.ne_other hk)]
  rw [if_pos hz']
  simp [sameAddr]
/-- the same place twice -/
theorem St.eqSame {op : BinOp} {t yt e id o : TypeId} {x y : Operand} {v : AV} (hx : ev C ⟨n, p0, out, loc, env⟩ x = .ptr id o) (hy : ev C ⟨n, p0, out, loc, env⟩ y = .ptr id o) (ht : (C.ty t).d = .ptr e) (hk : (C.ty e).d.known = true) (hz : Nat.beq (C.ty e).size 0 = false) (hv : aEqR op true = some v) :
    OpStep C { dst := d, op := .binOp op t x y yt, type := ty, pos := pos, after := aft, guard := gd } ⟨n, p0, out, loc, env⟩ v out loc := by
  refine OpStep.pure_ (fun G w a hs => ?_)
  have g1 := rep_ev hs x; rw [hx] at g1
  have g2 := rep_ev hs y; rw [hy] at g2
  have e1 := g1.ptr_inv'
  have e2 := g2.ptr_inv'
  have hz' : (C.ty e).size ≠ 0 := fun e => by rw [e] at hz; cases hz
  have he : (Op.equalIn (9999 + 1) t (a.eval x) (a.eval y)).run C.P w = .ok true w := by
    rw [e1, e2]
    exact run_eqSame ht hk hz' 9999 _ w
  have hg : (eqGuard op t x y (a.eval x) (a.eval y)).run C.P w = .ok () w := by rw [e1, e2]; cases op <;> rfl
  have hh : eqHead (a.eval x) = true := by rw [e1]; rfl
  unfold aEqR at hv
  split at hv
  · cases hv
    exact ⟨.bool true, by simp [execOp, hg, binOp_eql hh, Op.equal, Op.maxDepth, he], .bool _⟩
  · cases hv
    exact ⟨.bool (!true), by simp [execOp, hg, binOp_neq hh, Op.equal, Op.maxDepth, he], .bool _⟩
  · cases hv

theorem run_builtin1 {a : Act} {b : Builtin} {xs : Array Operand} {ts : Array TypeId} {w w' : World} {v : Value} {f : Array TypeId → TypeId → Array Value → Sem Value} (hb : ∀ ts ty cs args, builtin b ts ty cs args = (do pure (.value (← f ts ty args)))) (h : (f ts ty (xs.map a.eval)).run C.P w = .ok v w') :
    (execOp a.eval { dst := d, op := .call { callee := .builtin b, args := xs, argTypes := ts }, type := ty, pos := pos, after := aft, guard := gd }).run C.P w = .ok (.value v) w' := by
  simp only [execOp, resolve, Sem.run_bind, Sem.run_pure, Result.andThen_ok, invoke, hb, h]

theorem St.sliceDataArr {x : Operand} {t id len cap : Nat} (hx : ev C ⟨n, p0, out, loc, env⟩ x = .arr id 0 len cap) (hc : 0 < cap) :
    OpStep C { dst := d, op := .call { callee := .builtin .unsafeSliceData, args := #[x], argTypes := #[t] }, type := ty, pos := pos, after := aft, guard := gd } ⟨n, p0, out, loc, env⟩ (.ptr id 0) out loc := by
  refine OpStep.pure_ (fun G w a hs => ?_)
  have g := rep_ev hs x; rw [hx] at g
  obtain ⟨e1, hid⟩ := g.arr_inv
  refine ⟨.pointer (some ⟨G.obj id, 0, none⟩), ?_, .ptr id 0 hid⟩
  refine run_builtin1 (f := Builtin.unsafeSliceData_) (fun _ _ _ _ => rfl) ?_
  simp only [List.map_toArray, List.map_cons, List.map_nil, e1]
  exact Lib.run_unsafeSliceData_row w _ _ _ _ _ (by omega)
theorem St.sliceDataNil {x : Operand} {t : Nat} (hx : ev C ⟨n, p0, out, loc, env⟩ x = .slc [] .nil) :
    OpStep C { dst := d, op := .call { callee := .builtin .unsafeSliceData, args := #[x], argTypes := #[t] }, type := ty, pos := pos, after := aft, guard := gd } ⟨n, p0, out, loc, env⟩ .nilptr out loc := by
  refine OpStep.pure_ (fun G w a hs => ?_)
  have g := rep_ev hs x; rw [hx] at g
  obtain ⟨a', cap, sz', f, e, _, _, _, _, _, he⟩ := g.slc_inv
  obtain ⟨rfl, rfl⟩ := he
  refine ⟨.pointer none, ?_, .nilptr⟩
  refine run_builtin1 (f := Builtin.unsafeSliceData_) (fun _ _ _ _ => rfl) ?_
  simp only [List.map_toArray, List.map_cons, List.map_nil, e]
  exact Lib.run_unsafeSliceData_nil w _ _ _ _
/-- no byte -/
theorem St.unsafeStr0 {x y : Operand} {t t2 : Nat} {v : AV} (hx : ev C ⟨n, p0, out, loc, env⟩ x = v) (hv : v = .nilptr ∨ ∃ i o, v = .ptr i o) (hy : ev C ⟨n, p0, out, loc, env⟩ y = .int .i64 0) :
    OpStep C { dst := d, op := .call { callee := .builtin .unsafeString, args := #[x, y], argTypes := #[t, t2] }, type := ty, pos := pos, after := aft, guard := gd } ⟨n, p0, out, loc, env⟩ (.str []) out loc := by
  refine OpStep.pure_ (fun G w a hs => ?_)
  have g := rep_ev hs x; rw [hx] at g
  have g2 := rep_ev hs y; rw [hy] at g2
  have e2 := g2.int_inv
  refine ⟨.string ⟨⟨[]⟩⟩, ?_, .str []⟩
  refine run_builtin1 (f := Builtin.unsafeString_) (fun _ _ _ _ => rfl) ?_
  have e1 : ∃ p, a.eval x = .pointer p := by
    rcases hv with rfl | ⟨i, o, rfl⟩
    · cases hax : a.eval x with
      | pointer p => exact ⟨p, rfl⟩
      | _ => rw [hax] at g; cases g
    · exact ⟨_, g.ptr_inv'⟩
  obtain ⟨p, e1⟩ := e1
  simp only [List.map_toArray, List.map_cons, List.map_nil, e1, e2]
  exact Lib.run_unsafeString_none w _ _ _ _

theorem freeze_heap_ne (w : World) (b k n : Nat) (h : k ≠ b) : (w.freeze ⟨b, 0, none⟩ n).heap[k]? = w.heap[k]? := by
  unfold World.freeze
  split
  · rfl
  · simp only [Array.getElem?_modify]
    rw [if_neg (by omega)]
theorem freeze_heap_eq (w : World) (b n : Nat) {vs : Array Value} {t : TypeId} {fr : Nat × Nat} (h : w.heap[b]? = some (.cells vs t fr)) : ∃ fr', (w.freeze ⟨b, 0, none⟩ n).heap[b]? = some (.cells vs t fr') := by
  unfold World.freeze
  split
  · exact ⟨fr, h⟩
  · obtain ⟨lo, hi⟩ := fr
    refine ⟨if lo == hi then (0, 0 + n) else (min lo 0, max hi (0 + n)), ?_⟩
    simp only [Array.getElem?_modify, if_true, h, Option.map_some]
theorem freeze_size (w : World) (a : Addr) (n : Nat) : (w.freeze a n).heap.size = w.heap.size := by unfold World.freeze; split <;> simp
theorem freeze_os (w : World) (a : Addr) (n : Nat) : (w.freeze a n).os = w.os ∧ (w.freeze a n).tape = w.tape ∧ (w.freeze a n).output = w.output := by unfold World.freeze; split <;> exact ⟨rfl, rfl, rfl⟩

/-- the bytes at a row's head, frozen or not -/
theorem St.unsafeStr {x y : Operand} {t t2 e id len : Nat} {cells : List AV} {l : List UInt8} (hx : ev C ⟨n, p0, out, loc, env⟩ x = .ptr id 0) (hy : ev C ⟨n, p0, out, loc, env⟩ y = .int .i64 len) (hp : (C.ty t).d = .ptr e) (hc : C.P.cellsOf e = 1)
    (ho : p0 = out.length → (out ++ loc)[id]? = some (.rowF e cells)) (hl : cells.take len = l.map fun b => AV.int .u8 b.toNat) (hlen : l.length = len) (h63 : len ≤ 9223372036854775807) (h0 : 0 < len) :
    OpStep C { dst := d, op := .call { callee := .builtin .unsafeString, args := #[x, y], argTypes := #[t, t2] }, type := ty, pos := pos, after := aft, guard := gd } ⟨n, p0, out, loc, env⟩ (.str l) out loc := by
  refine OpStep.mk_ rfl (fun G w a hs => ?_)
  have g := rep_ev hs x; rw [hx] at g
  have g2 := rep_ev hs y; rw [hy] at g2
  have e1 := g.ptr_inv'
  have e2 := g2.int_inv
  have hobj := ho hs.outlen.symm
  obtain ⟨vs, fr, hv, hr⟩ := hs.mem.obj id _ hobj
  have hsh := shape_row hv
  have hcl : len ≤ vs.size := by
    have h1 := hr.len
    have h2 : (cells.take len).length = l.length := by rw [hl]; simp
    simp at h1 h2; omega
  have hcell : ∀ j b, l[j]? = some b → w.cell? ((⟨G.obj id, 0, none⟩ : Addr).add j) = some (.int .u8 b.toNat) := by
    intro j b hj
    have hjl := lt_of_getElem? hj
    have h3 : cells[j]? = some (.int .u8 b.toNat) := by
      have h4 : (cells.take len)[j]? = some (.int .u8 b.toNat) := by rw [hl, List.getElem?_map, hj]; rfl
      rw [List.getElem?_take, if_pos (by omega)] at h4; exact h4
    obtain ⟨u, h5, h6, _⟩ := hr.at_ h3
    have h7 := h6.int_inv
    subst h7
    rw [add_none]
    simp only [World.cell?, hv, Nat.zero_add]
    simpa using h5
  have hrun := Lib.run_unsafeString_row (P := C.P) w t t2 ty e (und_ptr' hp) hc (G.obj id) vs.size hsh l (by intro h; rw [h] at hlen; simp at hlen; omega) (by omega) (by omega) hcell
  refine ⟨_, .string ⟨l.toArray⟩, w.freeze ⟨G.obj id, 0, none⟩ l.length, G, run_builtin1 (f := Builtin.unsafeString_) (fun _ _ _ _ => rfl) (by
    simp only [List.map_toArray, List.map_cons, List.map_nil, e1, e2, ← hlen]; exact hrun), .inl rfl, .str l, ?_, Ext.refl (Nat.le_refl _)⟩
  obtain ⟨fr', hf⟩ := freeze_heap_eq w (G.obj id) l.length hv
  obtain ⟨f1, f2, f3⟩ := freeze_os w ⟨G.obj id, 0, none⟩ l.length
  have := hs.mem.set (x' := .rowF e cells) hobj rfl rfl (fun k hk => freeze_heap_ne w _ k _ hk) (freeze_size _ _ _) f1 f2 f3 ⟨vs, fr', hf, hr⟩
  rwa [set_self hobj] at this

/-- a part of an array -/
theorem St.indexAgg {t e m : TypeId} {x y : Operand} {k : IntKind} {i : Int} {cells : List AV} {v : AV} (hx : ev C ⟨n, p0, out, loc, env⟩ x = .agg cells) (hy : ev C ⟨n, p0, out, loc, env⟩ y = .int k i) (ht : (C.ty t).d = .array m e) (hk : (C.ty e).d.known = true)
    (h0 : 0 ≤ i) (h1 : i < m) (hv : aPart C e cells (i.toNat * (C.ty e).size) = some v) : OpStep C { dst := d, op := .index t x y, type := ty, pos := pos, after := aft, guard := gd } ⟨n, p0, out, loc, env⟩ v out loc := by
  refine OpStep.pure_ (fun G w a hs => ?_)
  have g := rep_ev hs x; rw [hx] at g
  have g2 := rep_ev hs y; rw [hy] at g2
  obtain ⟨vs, e1, hr⟩ := g.agg_inv
  have e2 := g2.int_inv
  obtain ⟨cv, h3, h4⟩ := run_part hr hv w
  refine ⟨cv, ?_, h4⟩
  simp [execOp, e1, e2, Instr.index, asIntOf, run_underlying_of (und_array ht), h0, h1, run_sizeOf_ (Ty.ne_other hk), h3]
end
end Go.Av
