/-
  AvAppend: the rules for append, slice literals and make.
-/
import Derived.Test.YtdfmefkjjdlbiaaDoorAvSlices
namespace Go.Av
open Go.RowKit (Below)
set_option linter.unusedVariables false
set_option linter.unusedSimpArgs false

def strElems (s : List UInt8) : List (List AV) := s.map fun b => [.int .u8 b.toNat]
theorem strElems_len (s : List UInt8) : (strElems s).length = s.length := by simp [strElems]
theorem strElems_all (s : List UInt8) : AllLen 1 (strElems s) := AllLen.map fun _ => rfl

theorem strElems_flat : ∀ s : List UInt8, (strElems s).flatten = s.map fun b => AV.int .u8 b.toNat
  | [] => rfl
  | b :: r => by
    have := strElems_flat r
    simp only [strElems, List.map_cons, List.flatten_cons, List.singleton_append] at this ⊢
    rw [this]
/-- What append takes from. -/
def aSrc : AV → Ty → Option (List (List AV))
  | .slc ys _, .slice _ => some ys
  | .str s, .str => some (strElems s)
  | _, _ => none

theorem src_of {C : Ctx} {G : Ghost} {objs : List AObj} {w : World} (hm : MemOk C G objs w) {v : AV} {cv : Value} {t2 : TypeId} {ys : List (List AV)} {sz : Nat} (h : Rep G v cv) (ha : aSrc v (C.ty t2).d = some ys) (hs : AllLen sz ys) :
    ∃ news d2, Src C.P w sz ys.length cv news ∧ RepL G ys.flatten news ∧ C.P.underlying t2 = some d2 ∧ ∀ k, d2 ≠ .int k := by
  unfold aSrc at ha
  split at ha
  · rename_i ys' e et ht
    cases ha
    obtain ⟨a, cap, L, rfl, hc, hr, hf, _⟩ := slc_open hm h hs
    refine ⟨L, _, ⟨fun w' => rfl, fun w' hw => hf w' hw cap, by rw [← hr.len, flatten_len hs]⟩, hr, und_slice ht, fun k hk => by cases hk⟩
  · rename_i s ht
    cases ha
    have e1 := h.str_inv
    subst e1
    have hflat := strElems_flat s
    have hlen : (strElems s).length = s.length := strElems_len s
    have hsz : s ≠ [] → sz = 1 := fun hne => by
      cases s with
      | nil => exact absurd rfl hne
      | cons b r => exact (hs [.int .u8 b.toNat] (by simp [strElems])).symm
    refine ⟨s.map fun b => Value.int .u8 b.toNat, _, ⟨fun w' => by rw [hlen]; rfl, fun w' hw => ?_, ?_⟩, ?_, und_str ht, fun k hk => by cases hk⟩
    · have : (⟨⟨s⟩⟩ : ByteArray).extract 0 (strElems s).length = ⟨⟨s⟩⟩ := by
        apply ByteArray.ext
        rw [hlen]
        simp only [ByteArray.data_extract]
        apply Array.ext'
        simp
      simp only [Builtin.firstCells, this, Sem.run_pure]
      simp
    · rw [hlen]
      by_cases hne : s = []
      · subst hne; simp
      · rw [hsz hne]; simp
    · rw [hflat]
      refine RepL.of_at (by simp) fun i c v hc hv => ?_
      rw [List.getElem?_map] at hc hv
      cases hb : s[i]? with
      | none => rw [hb] at hc; simp at hc
      | some b => rw [hb] at hc hv; simp at hc hv; subst hc; subst hv; exact ⟨.int _ _, rfl⟩
  · cases ha

section
variable {C : Ctx} {n p0 : Nat} {out loc : List AObj} {env : Nat → AV}
variable {d : Option Nat} {ty : TypeId} {pos : String} {aft : Array Edge} {gd : Option (Nat × Bool)}

theorem run_builtin_append {a : Act} {x y : Operand} {t t2 : TypeId} {w w' : World} {v : Value} (h : (Builtin.append_ #[t, t2] ty #[a.eval x, a.eval y]).run C.P w = .ok v w') :
    (execOp a.eval { dst := d, op := .call { callee := .builtin .append, args := #[x, y], argTypes := #[t, t2] }, type := ty, pos := pos, after := aft, guard := gd }).run C.P w = .ok (.value v) w' := by
  simp only [execOp, resolve, Sem.run_bind, Sem.run_pure, Result.andThen_ok, invoke, builtin]
  have : (#[x, y].map a.eval) = #[a.eval x, a.eval y] := by simp
  rw [this, h]; rfl

/-- A slice in a new block: what append, a literal or make lays. -/
theorem new_slice {C : Ctx} {G : Ghost} {objs : List AObj} {w : World} (hm : MemOk C G objs w) {elems : List (List AV)} {sz cap : Nat} {L rest : List Value} (et : TypeId) (hs : AllLen sz elems) (hr : RepL G elems.flatten L) (hrl : rest.length = (cap - elems.length) * sz) (hc : elems.length ≤ cap) :
    ∃ G', MemOk C G' objs (w.alloc (.cells (L ++ rest).toArray et)) ∧ Ext G.n G G' ∧ G'.n = G.n ∧ G'.tok = G.tok ∧ (∀ G'' e, Ext G'.n G' G'' → EndOk G'' e (some ⟨w.heap.size, 0, none⟩) elems.length cap sz → Rep G'' (.slc elems e) (.slice (some ⟨w.heap.size, 0, none⟩) elems.length cap)) ∧
      (∀ (i : Nat) (cnt : Nat), TokFit G' objs (w.alloc (.cells (L ++ rest).toArray et)) i ⟨cnt, sz, w.heap.size, elems.length * sz, cap * sz⟩) := by
  have hL : L.length = elems.length * sz := by rw [← hr.len, flatten_len hs]
  obtain ⟨hm', hx⟩ := hm.fix (L ++ rest) et (elems.length * sz)
  refine ⟨_, hm', hx, rfl, rfl, fun G'' e hx'' he => ?_, fun i cnt => ⟨fun hf => ⟨⟨(L ++ rest).toArray, et, (0, 0), ?_, ?_, Nat.zero_le _⟩, hm.b0, fun o ho => ?_⟩, fun hf j x hj hxt => ?_, fun hf j c s hj hne hfj => ?_⟩⟩
  · refine slc_mk hs ((hr.mono hx).mono hx'') (fun j v hv => hx''.imm _ _ _ ?_) hc he
    have hj := lt_of_getElem? hv
    simp only [Ghost.fix, Nat.zero_add]
    rw [if_pos trivial, if_pos (by omega), List.getElem?_append_left hj]; exact hv
  · show (w.heap.push _)[w.heap.size]? = _
    simp
  · simp only [List.size_toArray, List.length_append, hL, hrl]
    rw [← Nat.add_mul]; exact Nat.mul_le_mul_right _ (by omega)
  · simp only [Ghost.fix] at ho ⊢
    rw [if_pos trivial, if_neg (by omega)]
  · have := (hm.lt j x hj hxt).1
    show w.heap.size ≠ G.obj j
    omega
  · obtain ⟨⟨vs, ty', _, hv, _⟩, _⟩ := (hm.tok j c s hj).free hfj
    have := lt_of_heap hv
    show w.heap.size ≠ (G.tok j).blk
    omega

theorem set_self {α : Type} {l : List α} {i : Nat} {x : α} (h : l[i]? = some x) : l.set i x = l := by
  apply List.ext_getElem?
  intro j
  rw [List.getElem?_set]
  split
  · rename_i e; subst e; rw [if_pos (lt_of_getElem? h), h]
  · rfl
theorem zeroCells_len (z : Array Value) (m : Nat) : (Builtin.zeroCells z m).toList.length = m * z.size := by simp [Builtin.zeroCells]

/-- append onto a slice that has no room to spare, nil or not: new memory, a new token -/
theorem St.appendN {x y : Operand} {t t2 et : TypeId} {en : SEnd} {xs ys : List (List AV)} {k len sz by_ : Nat} {z : AV} {loc' : List AObj}
    (hx : ev C ⟨n, p0, out, loc, env⟩ x = .slc xs en) (hen : en = .nil ∨ en = .full) (hy : aSrc (ev C ⟨n, p0, out, loc, env⟩ y) (C.ty t2).d = some ys) (ht : (C.ty t).d = .slice et) (hk : (C.ty et).d.known = true) (hz : (C.ty et).zero = some z) (hzl : z.cellsOf.length = (C.ty et).size)
    (hzs : z.stor = true) (hsz : (C.ty et).size = sz) (hby : (C.ty et).bytes = by_) (hb0 : 0 < by_) (hsx : AllLen sz xs) (hsy : AllLen sz ys) (hfit : (xs.length + ys.length) * by_ ≤ 140737488355328)
    (hlen : xs.length + ys.length = len) (hkk : loc.length = k) (hl : loc ++ [.tok len sz] = loc') :
    OpStep C { dst := d, op := .call { callee := .builtin .append, args := #[x, y], argTypes := #[t, t2] }, type := ty, pos := pos, after := aft, guard := gd } ⟨n, p0, out, loc, env⟩ (.slc (xs ++ ys) (.tok (p0 + k) len)) out loc' := by
  refine OpStep.mk_ rfl (fun G w a hs => ?_)
  have g1 := rep_ev hs x; rw [hx] at g1
  have g2 := rep_ev hs y
  obtain ⟨news, d2, hsrc, hnews, hu, hd⟩ := src_of hs.mem g2 hy hsy
  obtain ⟨A, cap, olds, e1, hcap, holds, hfirst, hat, hspot, sz', hend, hszz⟩ := slc_open hs.mem g1 hsx
  have hcl : cap = xs.length := by
    rcases hen with rfl | rfl
    · obtain ⟨h1, h2⟩ := hend; subst h2; omega
    · exact hend
  obtain ⟨i, hi1, hi2, hi3, hi4⟩ := (C.ok et (Ty.ne_other hk)).size
  obtain ⟨cz, hz1, hz2⟩ := hi4 z hz
  have hn : G.n = p0 + k := by rw [hs.mem.n, List.length_append, hs.outlen, hkk]
  by_cases hy0 : ys.length = 0
  · -- nothing is added
    have hys : ys = [] := List.eq_nil_of_length_eq_zero hy0
    subst hys
    have hlen' : xs.length = len := by simpa using hlen
    have hnil : news = [] := by have := hsrc.size; simp at this; exact this
    obtain ⟨hm', hx'⟩ := hs.mem.newTok ⟨len, sz, 0, 0, 0⟩ ⟨fun h => absurd h (Nat.lt_irrefl _), fun h => absurd h (Nat.lt_irrefl _), fun h => absurd h (Nat.lt_irrefl _)⟩
    have hrep : Rep (G.newTok ⟨len, sz, 0, 0, 0⟩) (.slc (xs ++ []) (.tok (p0 + k) len)) (.slice A xs.length cap) := by
      have g1' := g1.mono hx'
      rw [e1] at g1'
      cases g1' with
      | slc _ _ _ _ sz2 f b1 b2 b3 b4 b5 b6 =>
        rw [List.append_nil]
        refine .slc xs _ A cap sz2 f b1 b2 b3 b4 b5 ⟨?_, ?_, fun _ => .inl hcl⟩
        · simp only [Ghost.newTok]; omega
        · simp only [Ghost.newTok]; rw [if_pos hn.symm]; exact Nat.le_refl _
    refine ⟨_, _, w, _, run_builtin_append (v := .slice A xs.length cap) ?_, .inl rfl, hrep, ?_, hx'⟩
    · rw [e1]
      have hle : xs.length + 0 ≤ cap := by omega
      cases A with
      | some ad =>
        obtain ⟨b, o, sp⟩ := ad
        have := hspot ⟨b, o, sp⟩ rfl
        simp only at this; subst this
        have := run_append_room_ (P := C.P) (w := w) (ty := ty) (b := b) (o := o) (sLen := xs.length) (sCap := cap) (und_slice ht) hu hd hi1 (by rw [hi2, hsz]; exact hsrc) hle (fun j hj => by rw [hnil] at hj; exact absurd hj (Nat.not_lt_zero _)) (fun v hv => by rw [hnil] at hv; cases hv)
        rw [this, hnil]; rfl
      | none =>
        have hzz : (d2 matches .int _) = false := by cases d2 <;> first | rfl | exact absurd rfl (hd _)
        simp only [Builtin.append_, List.getElem?_toArray, List.getElem?_cons_zero, List.getElem?_cons_succ, Sem.run_bind, run_underlying_of (und_slice ht), run_underlying_of hu, Result.andThen_ok, sizeOf, run_typeInfo_of hi1, Sem.run_pure, hzz, Bool.false_eq_true, if_false, hsrc.len, Bool.not_false, if_true]
        rw [if_pos (show xs.length + ([] : List (List AV)).length ≤ cap from hle)]
        have := hsrc.first w rfl
        rw [← hsz, ← hi2] at this
        simp only [Sem.run_bind, this, Result.andThen_ok, Sem.run_pure]
        simp
    · rw [← hl, ← List.append_assoc]; exact hm'
  · -- new memory
    have hrun := run_append_new_ (P := C.P) (w := w) (ty := ty) (t := t) (t2 := t2) (x := a.eval y) (base := A) (sLen := xs.length) (sCap := cap) (n := ys.length) (und_slice ht) hu hd hi1 hz1 (by rw [hi2, hsz]; exact hsrc) (by omega)
      (fun w' hw => by rw [hi2, hsz]; exact hfirst w' hw cap) (by rw [hi3, hby]; exact hb0) (by rw [hi3, hby]; exact hfit)
    have hgc : xs.length + ys.length ≤ grownCap w (xs.length + ys.length) cap et := by simp only [grownCap, Question.cut]; omega
    have hall : AllLen sz (xs ++ ys) := hsx.append hsy
    have hflat : (xs ++ ys).flatten = xs.flatten ++ ys.flatten := by simp
    have hzc : cz.cells.size = sz := by
      have := hz2 ▸ ofConst_rep G cz
      obtain ⟨vs, h1, h2⟩ := this.cells hzs
      rw [h1, ← hsz, ← hzl]; simpa using h2.len.symm
    have hmd : MemOk C G (out ++ loc) w.drew := hs.mem.of_heap rfl rfl rfl rfl
    obtain ⟨G1, hm1, hx1, hn1, ht1, hrep1, hfit1⟩ := new_slice (w := w.drew) hmd (elems := xs ++ ys) (sz := sz) (cap := grownCap w (xs.length + ys.length) cap et) (L := olds ++ news) (rest := (Builtin.zeroCells cz.cells (grownCap w (xs.length + ys.length) cap et - (xs.length + ys.length))).toList) et hall (by rw [hflat]; exact holds.append hnews)
      (by rw [zeroCells_len, hzc, List.length_append]) (by rw [List.length_append]; exact hgc)
    obtain ⟨hm2, hx2⟩ := hm1.newTok ⟨len, sz, w.heap.size, (xs ++ ys).length * sz, grownCap w (xs.length + ys.length) cap et * sz⟩ (hfit1 _ _)
    refine ⟨_, _, _, _, run_builtin_append (by rw [e1]; exact hrun), .inl rfl, ?_, ?_, (hx1.trans hx2 (by rw [hn1]; exact Nat.le_refl _))⟩
    · have h3 := hrep1 _ (.tok (p0 + k) len) hx2 ⟨?_, ?_, fun _ => .inr ⟨_, _, rfl, ?_, ?_, ?_, ?_⟩⟩
      · rw [List.length_append] at h3 ⊢; exact h3
      · simp only [Ghost.newTok, hn1]; omega
      all_goals simp only [Ghost.newTok, hn1]
      all_goals rw [if_pos hn.symm]
      · exact Nat.le_refl _
      · rfl
      · simp
      · simp
    · rw [← hl, ← List.append_assoc]; exact hm2

/-- append onto a slice whose token stands at its end -/
theorem St.appendT {x y : Operand} {t t2 et tk m : Nat} {xs ys : List (List AV)} {sz by_ m' : Nat} {z : AV} {out' loc' : List AObj}
    (hx : ev C ⟨n, p0, out, loc, env⟩ x = .slc xs (.tok tk m)) (hy : aSrc (ev C ⟨n, p0, out, loc, env⟩ y) (C.ty t2).d = some ys) (ht : (C.ty t).d = .slice et) (hk : (C.ty et).d.known = true) (hz : (C.ty et).zero = some z) (hzl : z.cellsOf.length = (C.ty et).size)
    (hzs : z.stor = true) (hsz : (C.ty et).size = sz) (hby : (C.ty et).bytes = by_) (hb0 : 0 < by_) (hs0 : 0 < sz) (hsx : AllLen sz xs) (hsy : AllLen sz ys) (hfit : (xs.length + ys.length) * by_ ≤ 140737488355328)
    (ho : p0 = out.length → (out ++ loc)[tk]? = some (.tok m sz)) (hm' : m + ys.length = m')
    (hset : p0 = out.length → (out ++ loc).set tk (.tok m' sz) = out' ++ loc') (hsl : out'.length = out.length) :
    OpStep C { dst := d, op := .call { callee := .builtin .append, args := #[x, y], argTypes := #[t, t2] }, type := ty, pos := pos, after := aft, guard := gd } ⟨n, p0, out, loc, env⟩ (.slc (xs ++ ys) (.tok tk m')) out' loc' := by
  refine OpStep.mk_ hsl (fun G w a hs => ?_)
  have g1 := rep_ev hs x; rw [hx] at g1
  have g2 := rep_ev hs y
  have hobj := ho hs.outlen.symm
  have hset' := hset hs.outlen.symm
  obtain ⟨news, d2, hsrc, hnews, hu, hd⟩ := src_of hs.mem g2 hy hsy
  obtain ⟨A, cap, olds, e1, hcap, holds, hfirst, hat, hspot, sz', hend, hszz⟩ := slc_open hs.mem g1 hsx
  obtain ⟨htn, hmc, hend'⟩ := hend
  have htk := hs.mem.tok tk m sz hobj
  have hend := hend' htk.cnt.symm
  obtain ⟨i, hi1, hi2, hi3, hi4⟩ := (C.ok et (Ty.ne_other hk)).size
  obtain ⟨cz, hz1, hz2⟩ := hi4 z hz
  have hfit_len : news.length = ys.length * sz := hsrc.size
  by_cases hroom : xs.length + ys.length ≤ cap
  · by_cases hy0 : ys.length = 0
    · have hys : ys = [] := List.eq_nil_of_length_eq_zero hy0
      subst hys
      have hnil : news = [] := by have := hsrc.size; simp at this; exact this
      have hmm : m' = m := by simp at hm'; omega
      subst hmm
      have hsame : out' ++ loc' = out ++ loc := by
        rw [← hset']; exact set_self hobj
      refine ⟨_, _, w, G, run_builtin_append (v := .slice A xs.length cap) ?_, .inl rfl, ?_, by rw [hsame]; exact hs.mem, Ext.refl (Nat.le_refl _)⟩
      · rw [e1]
        cases A with
        | some ad =>
          obtain ⟨b, o, sp⟩ := ad
          have := hspot ⟨b, o, sp⟩ rfl
          simp only at this; subst this
          have := run_append_room_ (P := C.P) (w := w) (ty := ty) (b := b) (o := o) (sLen := xs.length) (sCap := cap) (und_slice ht) hu hd hi1 (by rw [hi2, hsz]; exact hsrc) hroom (fun j hj => by rw [hnil] at hj; exact absurd hj (Nat.not_lt_zero _)) (fun v hv => by rw [hnil] at hv; cases hv)
          rw [this, hnil]; rfl
        | none =>
          have hzz : (d2 matches .int _) = false := by cases d2 <;> first | rfl | exact absurd rfl (hd _)
          simp only [Builtin.append_, List.getElem?_toArray, List.getElem?_cons_zero, List.getElem?_cons_succ, Sem.run_bind, run_underlying_of (und_slice ht), run_underlying_of hu, Result.andThen_ok, sizeOf, run_typeInfo_of hi1, Sem.run_pure, hzz, Bool.false_eq_true, if_false, hsrc.len, Bool.not_false, if_true]
          rw [if_pos hroom]
          have := hsrc.first w rfl
          rw [← hsz, ← hi2] at this
          simp only [Sem.run_bind, this, Result.andThen_ok, Sem.run_pure]
          simp
      · rw [List.append_nil, ← e1]; exact g1
    · -- in place
      have hne : ¬ cap = xs.length := by omega
      obtain ⟨b, o, rfl, hsz2, hblk, hoff, hlim⟩ := hend.resolve_left hne
      clear hend hend' hi4
      rw [htk.sz] at hsz2
      subst hsz2
      have hcs : xs.length * sz' + ys.length * sz' ≤ cap * sz' := by rw [← Nat.add_mul]; exact Nat.mul_le_mul_right _ hroom
      have hpos : 0 < ys.length * sz' := Nat.mul_pos (by omega) hs0
      have hfree : (G.tok tk).off < (G.tok tk).lim := by rw [hoff]; omega
      obtain ⟨⟨vs, vt, fr, hv, hvl, hfr⟩, hB, him⟩ := htk.free hfree
      have hrun := run_append_room_ (P := C.P) (w := w) (ty := ty) (t := t) (t2 := t2) (b := b) (o := o) (sLen := xs.length) (sCap := cap) (x := a.eval y) (und_slice ht) hu hd hi1 (by rw [hi2, hsz]; exact hsrc) hroom (fun j hj => by
        rw [hblk] at hv
        rw [hi2, hsz]
        have : o + xs.length * sz' + j < vs.size := by rw [hoff] at *; omega
        constructor
        · simp only [World.cell?, hv]; simp [this]
        · obtain ⟨fl, fh⟩ := fr
          simp only [World.frozen?, hv, Bool.and_eq_false_iff, decide_eq_false_iff_not]
          right
          simp only at hfr
          rw [hoff] at hfr
          omega) hnews.mem
      obtain ⟨hm2, hx2⟩ := hs.mem.grow (c := m') hobj (by omega) news hfree (by rw [hoff, hfit_len]; omega)
      rw [hblk, hoff] at hm2
      refine ⟨_, _, _, _, run_builtin_append (by rw [e1, hrun, hi2, hsz]), .inl rfl, ?_, by rw [← hset']; exact hm2, hx2⟩
      have := slc_mk (G := G.grow tk m' news) (elems := xs ++ ys) (e := .tok tk m') (sz := sz') (b := b) (o := o) (cap := cap) (L := olds ++ news) (hsx.append hsy) (by
        have e5 : (xs ++ ys).flatten = xs.flatten ++ ys.flatten := by simp
        rw [e5]; exact (holds.append hnews).mono hx2) (fun j v hv' => ?_) (by rw [List.length_append]; exact hroom) ⟨?_, ?_, fun _ => .inr ⟨b, o, rfl, ?_, ?_, ?_, ?_⟩⟩
      · rw [List.length_append] at this; exact this
      · have hlo : olds.length = xs.length * sz' := by rw [← holds.len, flatten_len hsx]
        rcases Nat.lt_or_ge j olds.length with hj | hj
        · rw [List.getElem?_append_left hj] at hv'
          refine hx2.imm _ _ _ ?_
          rcases Nat.eq_zero_or_pos xs.length with h0 | h0
          · rw [h0, Nat.zero_mul] at hlo; omega
          · obtain ⟨b', o', e6, h7⟩ := hat h0
            cases e6; exact h7 j v hv'
        · rw [List.getElem?_append_right hj] at hv'
          have hj2 := lt_of_getElem? hv'
          simp only [Ghost.grow, hblk, hoff]
          rw [if_pos ⟨trivial, by omega, by omega⟩, show o + j - (o + xs.length * sz') = j - olds.length by omega]
          exact hv'
      · exact htn
      all_goals simp only [Ghost.grow, if_true]
      · exact Nat.le_refl _
      · exact htk.sz.symm
      · exact hblk
      · rw [hoff, hfit_len, List.length_append, Nat.add_mul]; omega
      · exact hlim
  · -- new memory
    have hy0 : 0 < ys.length := by omega
    have hrun := run_append_new_ (P := C.P) (w := w) (ty := ty) (t := t) (t2 := t2) (x := a.eval y) (base := A) (sLen := xs.length) (sCap := cap) (n := ys.length) (und_slice ht) hu hd hi1 hz1 (by rw [hi2, hsz]; exact hsrc) (by omega)
      (fun w' hw => by rw [hi2, hsz]; exact hfirst w' hw cap) (by rw [hi3, hby]; exact hb0) (by rw [hi3, hby]; exact hfit)
    have hgc : xs.length + ys.length ≤ grownCap w (xs.length + ys.length) cap et := by simp only [grownCap, Question.cut]; omega
    have hall : AllLen sz (xs ++ ys) := hsx.append hsy
    have hflat : (xs ++ ys).flatten = xs.flatten ++ ys.flatten := by simp
    have hzc : cz.cells.size = sz := by
      have := hz2 ▸ ofConst_rep G cz
      obtain ⟨vs, h1, h2⟩ := this.cells hzs
      rw [h1, ← hsz, ← hzl]; simpa using h2.len.symm
    have hmd : MemOk C G (out ++ loc) w.drew := hs.mem.of_heap rfl rfl rfl rfl
    obtain ⟨G1, hm1, hx1, hn1, ht1, hrep1, hfit1⟩ := new_slice (w := w.drew) hmd (elems := xs ++ ys) (sz := sz) (cap := grownCap w (xs.length + ys.length) cap et) (L := olds ++ news) (rest := (Builtin.zeroCells cz.cells (grownCap w (xs.length + ys.length) cap et - (xs.length + ys.length))).toList) et hall (by rw [hflat]; exact holds.append hnews)
      (by rw [zeroCells_len, hzc, List.length_append]) (by rw [List.length_append]; exact hgc)
    obtain ⟨hm2, hx2⟩ := hm1.setTok hobj ⟨m', sz, w.heap.size, (xs ++ ys).length * sz, grownCap w (xs.length + ys.length) cap et * sz⟩ (by simp only; omega) (hfit1 _ _)
    refine ⟨_, _, _, _, run_builtin_append (by rw [e1]; exact hrun), .inl rfl, ?_, by rw [← hset']; exact hm2, (hx1.trans hx2 (by rw [hn1]; exact Nat.le_refl _))⟩
    have h3 := hrep1 _ (.tok tk m') hx2 ⟨?_, ?_, fun _ => .inr ⟨_, _, rfl, ?_, ?_, ?_, ?_⟩⟩
    · rw [List.length_append] at h3 ⊢; exact h3
    · simp only [Ghost.setTok, hn1]; exact htn
    all_goals simp only [Ghost.setTok, if_true]
    all_goals first | exact Nat.le_refl _ | rfl | simp

end
end Go.Av
