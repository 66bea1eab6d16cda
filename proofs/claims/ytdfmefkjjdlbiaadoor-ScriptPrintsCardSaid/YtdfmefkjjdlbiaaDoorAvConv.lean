/-
  AvConv: bytes of a text, a text of bytes.
-/
import Derived.Test.YtdfmefkjjdlbiaaDoorAvArr
import Derived.Laws.IdiomStrings
namespace Go.Av
open Go.RowKit (Below)
set_option linter.unusedVariables false
set_option linter.unusedSimpArgs false

/-- A block that nothing of the store speaks of, its first cells fixed for good. -/
theorem MemOk.fixAt {C : Ctx} {G : Ghost} {objs : List AObj} {w : World} (h : MemOk C G objs w) (nb k : Nat) (L : List Value) (hno : ∀ (i : Nat) (x : AObj), objs[i]? = some x → x.isTok = false → G.obj i ≠ nb)
    (hnt : ∀ (i cnt sz : Nat), objs[i]? = some (.tok cnt sz) → (G.tok i).off < (G.tok i).lim → (G.tok i).blk ≠ nb) (hni : ∀ o, G.imm nb o = none) (hc : ∀ o v, o < k → L[o]? = some v → w.cell? ⟨nb, o, none⟩ = some v) :
    MemOk C (G.fix nb k L) objs w ∧ Ext G.n G (G.fix nb k L) := by
  have hi : ∀ b o v, G.imm b o = some v → (G.fix nb k L).imm b o = some v := fun b o v e => by
    simp only [Ghost.fix]
    split
    · rename_i hb; subst hb; rw [hni o] at e; cases e
    · exact e
  have hx : Ext G.n G (G.fix nb k L) := ⟨Nat.le_refl _, rfl, rfl, hi, fun _ _ => rfl, fun _ _ => .inl rfl⟩
  refine ⟨⟨h.n, ?_, ?_, h.inj, h.lt, ?_, ?_, h.tokobj, h.toktok, h.below, h.b0, fun g cells e => (h.glob g cells e).mono hx, h.inv⟩, hx⟩
  · intro b o v e
    simp only [Ghost.fix] at e
    split at e
    · rename_i hb
      subst hb
      split at e
      · rename_i ho; exact hc o v ho e
      · cases e
    · exact h.imm b o v e
  · intro id x e
    exact (h.obj id x e).mono hx rfl
  · intro i x e hxt o
    have := hno i x e hxt
    show (if G.obj i = nb then _ else _) = none
    rw [if_neg this]; exact h.sep i x e hxt o
  · intro i cnt sz e
    obtain ⟨h1, h2, h3⟩ := h.tok i cnt sz e
    refine ⟨h1, h2, fun hf => ?_⟩
    obtain ⟨hv, hB, him⟩ := h3 hf
    have hne := hnt i cnt sz e hf
    refine ⟨hv, hB, fun o ho => ?_⟩
    show (if (G.tok i).blk = nb then _ else _) = none
    rw [if_neg hne]; exact him o ho

section
variable {C : Ctx} {n p0 : Nat} {out loc : List AObj} {env : Nat → AV}
variable {d : Option Nat} {ty : TypeId} {pos : String} {aft : Array Edge} {gd : Option (Nat × Bool)}

theorem St.convBytes {src dst e : TypeId} {x : Operand} {s : List UInt8} (hx : ev C ⟨n, p0, out, loc, env⟩ x = .str s) (hs : (C.ty src).d = .str) (hd : (C.ty dst).d = .slice e) (he : (C.ty e).d = .int .u8) :
    OpStep C { dst := d, op := .convert src dst x, type := ty, pos := pos, after := aft, guard := gd } ⟨n, p0, out, loc, env⟩ (.slc (strElems s) .unk) out loc := by
  refine OpStep.mk_ rfl (fun G w a hs' => ?_)
  have g := rep_ev hs' x; rw [hx] at g
  have e1 := g.str_inv
  have hrun := run_bytes_of_string (P := C.P) w src dst e ⟨⟨s⟩⟩ (und_str hs) (und_slice hd) (und_int he)
  generalize hcap : grownCap w (⟨⟨s⟩⟩ : ByteArray).size 0 e = cap at hrun
  have hcl : s.length ≤ cap := by
    rw [← hcap]
    show s.length ≤ grownCap w s.length 0 e
    simp only [grownCap, Question.cut]; omega
  have hmd : MemOk C G (out ++ loc) w.drew := hs'.mem.of_heap rfl rfl rfl rfl
  have hgr : Below w.drew.heap.size w.drew (w.drew.alloc (.cells (bytesRow ⟨⟨s⟩⟩ cap) e ((bytesRow ⟨⟨s⟩⟩ cap).size, (bytesRow ⟨⟨s⟩⟩ cap).size + 1))) :=
    Below.alloc (Below.refl _ _) (Nat.le_refl _) _
  have hmg := hmd.grown hgr
  have hcell : ∀ o v, o < s.length → (s.map fun b => Value.int .u8 b.toNat)[o]? = some v → (w.drew.alloc (.cells (bytesRow ⟨⟨s⟩⟩ cap) e ((bytesRow ⟨⟨s⟩⟩ cap).size, (bytesRow ⟨⟨s⟩⟩ cap).size + 1))).cell? ⟨w.heap.size, o, none⟩ = some v := by
    intro o v ho hv
    have h1 := World.cell?_alloc_mark w.drew (bytesRow ⟨⟨s⟩⟩ cap) e ((bytesRow ⟨⟨s⟩⟩ cap).size, (bytesRow ⟨⟨s⟩⟩ cap).size + 1) o
    have h2 := bytesRow_at ⟨⟨s⟩⟩ cap o ho
    rw [h2] at h1
    rw [List.getElem?_map, List.getElem?_eq_getElem ho] at hv
    cases hv
    exact h1
  obtain ⟨hm', hx'⟩ := hmg.fixAt w.heap.size s.length (s.map fun b => Value.int .u8 b.toNat) (fun i x hi hxt => by
      have := (hs'.mem.lt i x hi hxt).1; omega) (fun i cnt sz hi hf => by
      obtain ⟨⟨vs, tt, fr, hv, _⟩, _⟩ := (hs'.mem.tok i cnt sz hi).free hf
      have := lt_of_heap hv
      omega) (fun o => by
      cases hv : G.imm w.heap.size o with
      | none => rfl
      | some v => exact absurd (block_lt (hs'.mem.imm _ _ _ hv)) (Nat.lt_irrefl _)) hcell
  refine ⟨_, _, _, _, by simp only [execOp, e1, Sem.run_bind, hrun, Result.andThen_ok]; rfl, .inl rfl, ?_, hm', hx'⟩
  have hsl := strElems_len s
  have := slc_mk (G := G.fix w.heap.size s.length (s.map fun b => Value.int .u8 b.toNat)) (elems := strElems s) (e := .unk) (sz := 1) (b := w.heap.size) (o := 0) (cap := cap) (L := s.map fun b => Value.int .u8 b.toNat) (strElems_all s) (by
    rw [strElems_flat]
    refine RepL.of_at (by simp) fun i c v hc hv => ?_
    rw [List.getElem?_map] at hc hv
    cases hb : s[i]? with
    | none => rw [hb] at hc; cases hc
    | some b => rw [hb] at hc hv; cases hc; cases hv; exact ⟨.int _ _, rfl⟩) (fun j v hv => by
    have hj := lt_of_getElem? hv
    simp only [List.length_map] at hj
    simp only [Ghost.fix, Nat.zero_add]
    rw [if_pos trivial, if_pos hj]; exact hv) (by rw [hsl]; exact hcl) trivial
  rw [hsl] at this
  exact this

theorem St.strBytes {src dst e : TypeId} {x : Operand} {l : List UInt8} {elems : List (List AV)} {en : SEnd} (hx : ev C ⟨n, p0, out, loc, env⟩ x = .slc elems en) (hel : elems = strElems l) (hl : 0 < l.length) (hs : (C.ty src).d = .slice e) (he : (C.ty e).d = .int .u8) (hd : (C.ty dst).d = .str) :
    OpStep C { dst := d, op := .convert src dst x, type := ty, pos := pos, after := aft, guard := gd } ⟨n, p0, out, loc, env⟩ (.str l) out loc := by
  subst hel
  refine OpStep.pure_ (fun G w a hs' => ?_)
  have g := rep_ev hs' x; rw [hx] at g
  obtain ⟨A, cap, L, e1, hcap, hr, _, hat, _⟩ := slc_open hs'.mem g (strElems_all l)
  have hsl := strElems_len l
  obtain ⟨b, o, rfl, hi⟩ := hat (by omega)
  have hc : ∀ j (hj : j < l.length), w.cell? ((⟨b, o, none⟩ : Addr).add j) = some (.int .u8 (l[j].toNat : Int)) := by
    intro j hj
    rw [add_none]
    rw [strElems_flat] at hr
    obtain ⟨v, h1, h2, _⟩ := hr.at_ (i := j) (c := .int .u8 (l[j].toNat : Int)) (by rw [List.getElem?_map, List.getElem?_eq_getElem hj]; rfl)
    have := h2.int_inv
    subst this
    exact hs'.mem.imm _ _ _ (hi j _ h1)
  have := run_convert_bytes_back (P := C.P) w src dst e ⟨b, o, none⟩ cap l (und_slice hs) (und_int he) (und_str hd) hc
  refine ⟨.string ⟨l.toArray⟩, ?_, .str l⟩
  rw [hsl] at e1
  simp only [execOp, e1, Sem.run_bind, this, Result.andThen_ok]
  rfl
end
end Go.Av
