/-
  AvMap: maps: made, written, read, ranged over.
-/
import Derived.Test.YtdfmefkjjdlbiaaDoorAvEq
import Derived.Maps.RangeRun
namespace Go.Av
open Go.RowKit (Below)
open Go.ChangeMaps (setBlock)
set_option linter.unusedVariables false
set_option linter.unusedSimpArgs false

/-! ### Keys -/
def keyEq : AV → AV → Option Bool
  | .str a, .str b => some (decide (a = b))
  | .int k a, .int k' b => cond (kEq k k') (some (decide (a = b))) none
  | .bool a, .bool b => some (cond a b (!b))
  | _, _ => none
def keyKind : Ty → AV → Bool
  | .str, .str _ => true
  | .int k, .int k' _ => kEq k k'
  | .bool, .bool _ => true
  | _, _ => false
/-- a key's place -/
def findA (k : AV) : List (Nat × AV × AV) → Nat → Option (Option Nat)
  | [], _ => some none
  | e :: r, i => match keyEq k e.2.1 with
    | some true => some (some i)
    | some false => findA k r (i + 1)
    | none => none

theorem sameNow_ok {G : Ghost} {T : Ty} {kd : TypeDesc} {k k' : AV} {ck ck' : Value} {b : Bool} (hT : tyFits T kd = true) (hk : keyKind T k = true) (h : keyEq k k' = some b) (r : Rep G k ck) (r' : Rep G k' ck') :
    Instr.sameNow kd ck ck' = some b := by
  unfold keyEq at h
  split at h
  · cases h
    cases T <;> simp only [keyKind, Bool.false_eq_true] at hk
    cases kd <;> simp only [tyFits, Bool.false_eq_true] at hT
    rw [r.str_inv, r'.str_inv]
    simp only [Instr.sameNow, Option.some.injEq]
    rw [beq_toListBytes, ByteArray.toList_eq, ByteArray.toList_eq, Bool.eq_iff_iff]; simp
  · rename_i k1 a k2 b'
    cases hkk : kEq k1 k2 with
    | false => rw [hkk] at h; cases h
    | true =>
      rw [hkk] at h; cases h
      have := kEq_eq hkk; subst this
      cases T <;> simp only [keyKind, Bool.false_eq_true] at hk
      cases kd <;> simp only [tyFits, Bool.false_eq_true] at hT
      rw [r.int_inv, r'.int_inv]
      simp only [Instr.sameNow, if_true, Option.some.injEq]
      rw [Bool.eq_iff_iff]; simp
  · rename_i a b'
    cases h
    cases T <;> simp only [keyKind, Bool.false_eq_true] at hk
    cases kd <;> simp only [tyFits, Bool.false_eq_true] at hT
    rw [r.bool_inv, r'.bool_inv]
    simp only [Instr.sameNow, Option.some.injEq]
    cases a <;> cases b' <;> rfl
  · cases h

theorem MapL.tail {G : Ghost} {e : Nat × AV × AV} {es : List (Nat × AV × AV)} {x : MapEntry} {ms : List MapEntry} (h : MapL G (e :: es) (x :: ms)) : MapL G es ms :=
  ⟨by simpa using h.1, fun i e' x' a b => h.2 (i + 1) e' x' (by simpa using a) (by simpa using b)⟩
theorem MapL.head {G : Ghost} {e : Nat × AV × AV} {es : List (Nat × AV × AV)} {x : MapEntry} {ms : List MapEntry} (h : MapL G (e :: es) (x :: ms)) : x.born = e.1 ∧ Rep G e.2.1 x.key ∧ Rep G e.2.2 x.val := h.2 0 e x rfl rfl

theorem findNow_ok {G : Ghost} {T : Ty} {kd : TypeDesc} {k : AV} {ck : Value} (hT : tyFits T kd = true) (hk : keyKind T k = true) (r : Rep G k ck) : ∀ (es : List (Nat × AV × AV)) (ms : List MapEntry) (i : Nat) (o : Option Nat), MapL G es ms → findA k es i = some o →
    match o with
    | none => Instr.findNow kd ck ms i = some none
    | some j => i ≤ j ∧ ∃ e x, es[j - i]? = some e ∧ ms[j - i]? = some x ∧ keyEq k e.2.1 = some true ∧ Instr.findNow kd ck ms i = some (some (j, x.val))
  | [], [], i, o, hm, h => by simp [findA] at h; subst h; rfl
  | [], x :: ms, i, o, hm, h => by have := hm.1; simp at this
  | e :: es, [], i, o, hm, h => by have := hm.1; simp at this
  | e :: es, x :: ms, i, o, hm, h => by
    obtain ⟨_, h2, _⟩ := hm.head
    unfold findA at h
    split at h
    · rename_i hb
      cases h
      have := sameNow_ok hT hk hb r h2
      exact ⟨Nat.le_refl _, e, x, by simp, by simp, hb, by simp [Instr.findNow, this]⟩
    · rename_i hb
      have hs := sameNow_ok hT hk hb r h2
      have ih := findNow_ok hT hk r es ms (i + 1) o hm.tail h
      cases o with
      | none => simpa [Instr.findNow, hs] using ih
      | some j =>
        obtain ⟨a, e', x', b, c, kk, d⟩ := ih
        refine ⟨by omega, e', x', ?_, ?_, kk, by simpa [Instr.findNow, hs] using d⟩
        · rw [show j - i = (j - (i + 1)) + 1 by omega]; simpa using b
        · rw [show j - i = (j - (i + 1)) + 1 by omega]; simpa using c
    · cases h

theorem und_fits {C : Ctx} {t : TypeId} (h : (C.ty t).d ≠ .other) : ∃ d, C.P.underlying t = some d ∧ tyFits (C.ty t).d d = true := (C.ok t h).desc

theorem keyKind_known {T : Ty} {k : AV} (h : keyKind T k = true) : T ≠ .other := by intro e; subst e; simp [keyKind] at h

theorem run_checkKey {C : Ctx} {G : Ghost} {t : TypeId} {k : AV} {ck : Value} (hk : keyKind (C.ty t).d k = true) (r : Rep G k ck) (b : Bool) (w : World) : (Instr.checkKey b 10000 t ck).run C.P w = .ok () w := by
  obtain ⟨d, hu, hf⟩ := und_fits (keyKind_known hk)
  show (Instr.checkKey b (9999 + 1) t ck).run C.P w = .ok () w
  cases hd : (C.ty t).d <;> rw [hd] at hk hf <;> cases k <;> simp only [keyKind, Bool.false_eq_true] at hk
  all_goals (cases d <;> simp only [tyFits, Bool.false_eq_true] at hf)
  · rw [r.int_inv]; unfold Instr.checkKey; simp only [Sem.run_bind, run_underlying hu, Result.andThen_ok]; rfl
  · rw [r.bool_inv]; unfold Instr.checkKey; simp only [Sem.run_bind, run_underlying hu, Result.andThen_ok]; rfl
  · rw [r.str_inv]; unfold Instr.checkKey; simp only [Sem.run_bind, run_underlying hu, Result.andThen_ok]; rfl

theorem run_findKey {C : Ctx} {G : Ghost} {t : TypeId} {k : AV} {ck : Value} {es : List (Nat × AV × AV)} {ms : List MapEntry} {o : Option Nat} (hk : keyKind (C.ty t).d k = true) (r : Rep G k ck) (hm : MapL G es ms) (h : findA k es 0 = some o) (w : World) :
    match o with
    | none => (Instr.findKey t ck ms).run C.P w = .ok none w
    | some j => ∃ e x, es[j]? = some e ∧ ms[j]? = some x ∧ keyEq k e.2.1 = some true ∧ (Instr.findKey t ck ms).run C.P w = .ok (some (j, x.val)) w := by
  obtain ⟨d, hu, hf⟩ := und_fits (keyKind_known hk)
  have := findNow_ok hf hk r es ms 0 o hm h
  cases o with
  | none => simp only [Instr.findKey, Sem.run_bind, run_underlying hu, Result.andThen_ok, this]; rfl
  | some j =>
    obtain ⟨_, e, x, h1, h2, kk, h3⟩ := this
    refine ⟨e, x, h1, h2, kk, ?_⟩
    simp only [Instr.findKey, Sem.run_bind, run_underlying hu, Result.andThen_ok, h3]; rfl

theorem run_keyThatStays {C : Ctx} {G : Ghost} {k k' : AV} {ck ck' : Value} (h : keyEq k k' = some true) (r : Rep G k ck) (r' : Rep G k' ck') (w : World) : (Instr.keyThatStays ck' ck).run C.P w = .ok ck w := by
  have hs : Instr.sameBits 10000 ck' ck = true := by
    unfold keyEq at h
    split at h
    · simp only [Option.some.injEq, decide_eq_true_eq] at h
      rw [r.str_inv, r'.str_inv, h]
      show ((_ : ByteArray) == _) = true
      rw [beq_toListBytes]; simp
    · rename_i k1 a k2 b'
      cases hkk : kEq k1 k2 with
      | false => rw [hkk] at h; cases h
      | true =>
        rw [hkk] at h
        have := kEq_eq hkk; subst this
        simp only [cond_true, Option.some.injEq, decide_eq_true_eq] at h
        rw [r.int_inv, r'.int_inv, h]
        show (k1 == k1 && _ == _) = true
        simp
    · rename_i a b'
      rw [r.bool_inv, r'.bool_inv]
      show (b' == a) = true
      cases a <;> cases b' <;> first | rfl | (exact absurd h (by simp))
    · cases h
  simp [Instr.keyThatStays, hs]

section
variable {C : Ctx} {n p0 : Nat} {out loc : List AObj} {env : Nat → AV}
variable {d : Option Nat} {ty : TypeId} {pos : String} {aft : Array Edge} {gd : Option (Nat × Bool)}

theorem rep_newObj {C : Ctx} {G : Ghost} {w : World} {a : Act} {k : Nat} (hs : Sim C G ⟨n, p0, out, loc, env⟩ w a) (hlen : loc.length = k) (b : Nat) : p0 + k < (G.push b).n ∧ (G.push b).obj (p0 + k) = b := by
  have hn : G.n = p0 + k := by rw [hs.mem.n, List.length_append, hs.outlen, hlen]
  simp only [Ghost.push, hn, if_true]
  exact ⟨by omega, trivial⟩

/-- a map made -/
def aReserve (E : Operand → AV) : Option Operand → Bool
  | none => true
  | some x => match E x with | .int _ _ => true | _ => false
theorem St.makeMap {t kt et : TypeId} {r : Option Operand} {k : Nat} {loc' : List AObj} (ht : (C.ty t).d = .map kt et) (hr : aReserve (ev C ⟨n, p0, out, loc, env⟩) r = true) (hk : loc.length = k) (hl : loc ++ [.map [] 0] = loc') :
    OpStep C { dst := d, op := .makeMap t r, type := ty, pos := pos, after := aft, guard := gd } ⟨n, p0, out, loc, env⟩ (.map (p0 + k)) out loc' := by
  refine OpStep.mk_ rfl (fun G w a hs => ?_)
  obtain ⟨h1, h2⟩ := rep_newObj hs hk w.heap.size
  refine ⟨_, .map (some w.heap.size), w.alloc (.map #[] 0), G.push w.heap.size, ?_, .inl rfl, ?_, ?_, Ext.push G _⟩
  · cases r with
    | none => simp [execOp, Instr.makeMap]
    | some x =>
      unfold aReserve at hr
      simp only at hr
      split at hr
      · rename_i kk q hx
        have := rep_ev hs x; rw [hx] at this
        have := this.int_inv
        simp [execOp, Instr.makeMap, run_underlying (und_map ht), this, asInt]; rfl
      · cases hr
  · have := Rep.map (G := G.push w.heap.size) (p0 + k) h1
    rwa [h2] at this
  · rw [← hl, ← List.append_assoc]
    refine hs.mem.push _ _ rfl ⟨#[], ?_, rfl, fun i e x he _ => by simp at he⟩
    show (w.heap.push _)[w.heap.size]? = _
    simp

theorem Rep.map_inv {G : Ghost} {id : Nat} {cv : Value} (h : Rep G (.map id) cv) : cv = .map (some (G.obj id)) ∧ id < G.n := by cases h with | map _ h => exact ⟨rfl, h⟩
theorem Rep.ptr_inv' {G : Ghost} {id o : Nat} {cv : Value} (h : Rep G (.ptr id o) cv) : cv = .pointer (some ⟨G.obj id, o, none⟩) := by cases h; rfl

/-- a key looked up -/
def aLook (C : Ctx) (et : TypeId) (es : List (Nat × AV × AV)) (ok : Bool) : Option Nat → Option AV
  | some j => match es[j]? with | some e => some (cond ok (.tuple [e.2.2, .bool true]) e.2.2) | none => none
  | none => match (C.ty et).zero with | some z => cond (C.ty et).d.known (some (cond ok (.tuple [z, .bool false]) z)) none | none => none
theorem St.lookup {t kt et : TypeId} {x y : Operand} {ok : Bool} {id clock : Nat} {es : List (Nat × AV × AV)} {k v : AV} {o : Option Nat} (ht : (C.ty t).d = .map kt et) (hx : ev C ⟨n, p0, out, loc, env⟩ x = .map id)
    (ho : p0 = out.length → (out ++ loc)[id]? = some (.map es clock)) (hy : force (ev C ⟨n, p0, out, loc, env⟩ y) = some k) (hk : keyKind (C.ty kt).d k = true) (hf : findA k es 0 = some o) (hv : aLook C et es ok o = some v) :
    OpStep C { dst := d, op := .lookup t x y ok, type := ty, pos := pos, after := aft, guard := gd } ⟨n, p0, out, loc, env⟩ v out loc := by
  refine OpStep.pure_ (fun G w a hs => ?_)
  have h1 := rep_ev hs x; rw [hx] at h1
  have h2 := rep_ev hs y; rw [force_eq hy] at h2
  obtain ⟨e1, hid⟩ := h1.map_inv
  obtain ⟨ms, hb, hml⟩ := hs.mem.obj id _ (ho hs.outlen.symm)
  have hfk := run_findKey hk h2 hml hf w
  have hc : ∀ b, (Instr.checkKey b 10000 kt (a.eval y)).run C.P w = .ok () w := fun b => run_checkKey hk h2 b w
  have hgo := MapKept.run_getObj_map (P := C.P) hb
  cases o with
  | some j =>
    obtain ⟨e, x', he, hxx, _, hfk⟩ := hfk
    simp only [aLook, he, Option.some.injEq] at hv
    obtain ⟨_, _, hr⟩ := hml.2 j e x' he hxx
    cases ok with
    | true =>
      simp only [cond_true] at hv; subst hv
      refine ⟨.tuple #[x'.val, .bool true], by simp [execOp, Instr.lookup, run_underlying (und_map ht), e1, hgo, hc, hfk], ?_⟩
      exact Rep.tuple_mk (vs := [x'.val, .bool true]) ⟨rfl, fun i hi => by
        have : i = 0 ∨ i = 1 := by simp at hi; omega
        rcases this with rfl | rfl
        · exact hr
        · exact .bool _⟩
    | false =>
      simp only [cond_false] at hv; subst hv
      exact ⟨x'.val, by simp [execOp, Instr.lookup, run_underlying (und_map ht), e1, hgo, hc, hfk], hr⟩
  | none =>
    simp only [aLook] at hv
    split at hv
    · rename_i z hz
      cases hkn : (C.ty et).d.known with
      | false => rw [hkn] at hv; cases hv
      | true =>
        rw [hkn] at hv
        obtain ⟨cv, hz1, hz2⟩ := run_zero hkn hz w
        have hr : Rep G z cv := hz2 ▸ ofConst_rep G cv
        cases ok with
        | true =>
          simp only [cond_true, Option.some.injEq] at hv; subst hv
          refine ⟨.tuple #[cv, .bool false], by simp [execOp, Instr.lookup, run_underlying (und_map ht), e1, hgo, hc, hfk, hz1], ?_⟩
          exact Rep.tuple_mk (vs := [cv, .bool false]) ⟨rfl, fun i hi => by
            have : i = 0 ∨ i = 1 := by simp at hi; omega
            rcases this with rfl | rfl
            · exact hr
            · exact .bool _⟩
        | false =>
          simp only [cond_true, cond_false, Option.some.injEq] at hv; subst hv
          exact ⟨cv, by simp [execOp, Instr.lookup, run_underlying (und_map ht), e1, hgo, hc, hfk, hz1], hr⟩
    · cases hv

/-- a key written -/
def aPut (es : List (Nat × AV × AV)) (clock : Nat) (k v : AV) : Option Nat → Option (List (Nat × AV × AV) × Nat)
  | some j => match es[j]? with | some e => some (es.set j (e.1, k, v), clock) | none => none
  | none => some (es ++ [(clock, k, v)], clock + 1)
def putOp : Op → Option (TypeId × Operand × Operand × Operand)
  | .mapUpdate t m k x => some (t, m, k, x)
  | .insert t m k x => some (t, m, k, x)
  | _ => none
theorem St.mapPut {op : Op} {t kt et : TypeId} {m y z : Operand} {id clock clock' : Nat} {es es' : List (Nat × AV × AV)} {k v : AV} {o : Option Nat} {out' loc' : List AObj} (hop : putOp op = some (t, m, y, z)) (ht : (C.ty t).d = .map kt et) (hx : ev C ⟨n, p0, out, loc, env⟩ m = .map id)
    (ho : p0 = out.length → (out ++ loc)[id]? = some (.map es clock)) (hy : force (ev C ⟨n, p0, out, loc, env⟩ y) = some k) (hz : force (ev C ⟨n, p0, out, loc, env⟩ z) = some v) (hk : keyKind (C.ty kt).d k = true) (hf : findA k es 0 = some o)
    (hp : aPut es clock k v o = some (es', clock')) (hs : p0 = out.length → (out ++ loc).set id (.map es' clock') = out' ++ loc') (hsl : out'.length = out.length) :
    OpStep C { dst := d, op := op, type := ty, pos := pos, after := aft, guard := gd } ⟨n, p0, out, loc, env⟩ .any out' loc' := by
  refine OpStep.mk_ hsl (fun G w a sim => ?_)
  have h1 := rep_ev sim m; rw [hx] at h1
  have h2 := rep_ev sim y; rw [force_eq hy] at h2
  have h3 := rep_ev sim z; rw [force_eq hz] at h3
  obtain ⟨e1, hid⟩ := h1.map_inv
  have hobj := ho sim.outlen.symm
  obtain ⟨ms, hb, hml⟩ := sim.mem.obj id _ hobj
  have hfk := run_findKey hk h2 hml hf w
  have hc : ∀ b, (Instr.checkKey b 10000 kt (a.eval y)).run C.P w = .ok () w := fun b => run_checkKey hk h2 b w
  have hgo := MapKept.run_getObj_map (P := C.P) hb
  have hlt := lt_of_heap hb
  have hset : ∀ o', (setObj (G.obj id) o').run C.P w = .ok () (setBlock w (G.obj id) o') := fun o' => MapKept.run_setObj_map o' hb
  have fin : ∀ (ms' : Array MapEntry), MapL G es' ms'.toList → MemOk C G (out' ++ loc') (setBlock w (G.obj id) (.map ms' clock')) := by
    intro ms' hm'
    rw [← hs sim.outlen.symm]
    refine sim.mem.set (x := .map es clock) (x' := .map es' clock') hobj rfl rfl (fun kk hkk => ?_) (by simp [setBlock]) rfl rfl rfl ⟨ms', ?_, hm'⟩
    · simp only [setBlock]; rw [Array.getElem?_setIfInBounds_ne (by omega)]
    · simp only [setBlock]; rw [Array.getElem?_setIfInBounds_self_of_lt hlt]
  have hrun : ∀ (f : Instr.mapUpdate t (a.eval m) (a.eval y) (a.eval z) = Instr.mapUpdate t (a.eval m) (a.eval y) (a.eval z)) (w' : World), (Instr.mapUpdate t (a.eval m) (a.eval y) (a.eval z)).run C.P w = .ok () w' → (execOp a.eval { dst := d, op := op, type := ty, pos := pos, after := aft, guard := gd }).run C.P w = .ok .skip w' := by
    intro _ w' hw
    cases op <;> simp only [putOp, Option.some.injEq, Prod.mk.injEq, reduceCtorEq] at hop
    all_goals (obtain ⟨rfl, rfl, rfl, rfl⟩ := hop; simp [execOp, hw])
  cases o with
  | none =>
    simp only [aPut, Option.some.injEq, Prod.mk.injEq] at hp
    obtain ⟨rfl, rfl⟩ := hp
    refine ⟨.skip, undef, _, G, hrun rfl _ (by simp [Instr.mapUpdate, run_underlying (und_map ht), e1, hgo, hc, hfk, hset]; rfl), .inr ⟨rfl, rfl⟩, .any _, fin _ ?_, Ext.refl (Nat.le_refl _)⟩
    refine ⟨by simp [hml.1], fun i e x he hxx => ?_⟩
    simp only [Array.toList_push] at hxx
    rcases getElem?_snoc he with ⟨he, hi⟩ | ⟨rfl, rfl⟩
    · rw [List.getElem?_append_left (by rw [← hml.1]; exact hi)] at hxx
      exact hml.2 i e x he hxx
    · rw [hml.1, List.getElem?_append_right (Nat.le_refl _)] at hxx
      simp at hxx
      subst hxx
      exact ⟨rfl, h2, h3⟩
  | some j =>
    obtain ⟨e, x', he, hxx, hke, hfk⟩ := hfk
    simp only [aPut, he, Option.some.injEq, Prod.mk.injEq] at hp
    obtain ⟨rfl, rfl⟩ := hp
    obtain ⟨hb0, hr1, hr2⟩ := hml.2 j e x' he hxx
    have hms : ms[j]? = some x' := by simpa using hxx
    have hkt := run_keyThatStays (C := C) hke h2 hr1 w
    refine ⟨.skip, undef, _, G, hrun rfl _ (by simp [Instr.mapUpdate, run_underlying (und_map ht), e1, hgo, hc, hfk, hms, hkt, hset]; rfl), .inr ⟨rfl, rfl⟩, .any _, fin _ ?_, Ext.refl (Nat.le_refl _)⟩
    refine ⟨by simp [hml.1], fun i e' x he' hxx' => ?_⟩
    simp only [Array.getElem?_toList, Array.getElem?_modify] at hxx'
    rcases getElem?_set_cases he' with ⟨rfl, rfl, _⟩ | ⟨hne, he'⟩
    · rw [if_pos rfl, hms] at hxx'
      simp at hxx'
      subst hxx'
      exact ⟨hb0, h2, h3⟩
    · rw [if_neg hne] at hxx'
      exact hml.2 i e' x he' (by simpa using hxx')
theorem St.mapPutL {op : Op} {t kt et : TypeId} {m y z : Operand} {i clock clock' : Nat} {es es' : List (Nat × AV × AV)} {k v : AV} {o : Option Nat} {loc' : List AObj} (hop : putOp op = some (t, m, y, z)) (ht : (C.ty t).d = .map kt et) (hx : ev C ⟨n, p0, out, loc, env⟩ m = .map (p0 + i))
    (ho : loc[i]? = some (.map es clock)) (hy : force (ev C ⟨n, p0, out, loc, env⟩ y) = some k) (hz : force (ev C ⟨n, p0, out, loc, env⟩ z) = some v) (hk : keyKind (C.ty kt).d k = true) (hf : findA k es 0 = some o)
    (hp : aPut es clock k v o = some (es', clock')) (hs : loc.set i (.map es' clock') = loc') :
    OpStep C { dst := d, op := op, type := ty, pos := pos, after := aft, guard := gd } ⟨n, p0, out, loc, env⟩ .any out loc' :=
  St.mapPut hop ht hx (loc_at ho) hy hz hk hf hp (fun hp => by rw [List.set_append_right _ _ (by omega), hp, Nat.add_sub_cancel_left, hs]) rfl
theorem St.lookupL {t kt et : TypeId} {x y : Operand} {ok : Bool} {i clock : Nat} {es : List (Nat × AV × AV)} {k v : AV} {o : Option Nat} (ht : (C.ty t).d = .map kt et) (hx : ev C ⟨n, p0, out, loc, env⟩ x = .map (p0 + i))
    (ho : loc[i]? = some (.map es clock)) (hy : force (ev C ⟨n, p0, out, loc, env⟩ y) = some k) (hk : keyKind (C.ty kt).d k = true) (hf : findA k es 0 = some o) (hv : aLook C et es ok o = some v) :
    OpStep C { dst := d, op := .lookup t x y ok, type := ty, pos := pos, after := aft, guard := gd } ⟨n, p0, out, loc, env⟩ v out loc :=
  St.lookup ht hx (loc_at ho) hy hk hf hv

/-! ### A loop over a map -/
theorem St.rangeMap {t kt et : TypeId} {x : Operand} {id clock k : Nat} {es : List (Nat × AV × AV)} {loc' : List AObj} (ht : (C.ty t).d = .map kt et) (hx : ev C ⟨n, p0, out, loc, env⟩ x = .map id)
    (ho : p0 = out.length → (out ++ loc)[id]? = some (.map es clock)) (hk : loc.length = k) (hl : loc ++ [.iter id clock [] clock] = loc') :
    OpStep C { dst := d, op := .range t x, type := ty, pos := pos, after := aft, guard := gd } ⟨n, p0, out, loc, env⟩ (.ptr (p0 + k) 0) out loc' := by
  refine OpStep.mk_ rfl (fun G w a hs => ?_)
  have h0 := rep_ev hs x; rw [hx] at h0
  obtain ⟨e1, hid⟩ := h0.map_inv
  obtain ⟨ms, hb, hml⟩ := hs.mem.obj id _ (ho hs.outlen.symm)
  obtain ⟨h1, h2⟩ := rep_newObj hs hk w.heap.size
  have hrun := run_range_map (P := C.P) w t kt et (G.obj id) ms clock (und_map ht) hb
  refine ⟨_, .pointer (some ⟨w.heap.size, 0, none⟩), w.alloc (.mapIter (some (G.obj id)) clock #[] clock), G.push w.heap.size, ?_, .inl rfl, ?_, ?_, Ext.push G _⟩
  · simp [execOp, e1, hrun]
  · have := Rep.ptr (G := G.push w.heap.size) (p0 + k) 0 h1
    rwa [h2] at this
  · rw [← hl, ← List.append_assoc]
    refine hs.mem.push _ _ rfl ⟨hid, ?_⟩
    show (w.heap.push _)[w.heap.size]? = _
    simp

theorem MapL.born {G : Ghost} {es : List (Nat × AV × AV)} {ms : List MapEntry} (h : MapL G es ms) {x : MapEntry} (hx : x ∈ ms) : ∃ e, e ∈ es ∧ x.born = e.1 ∧ Rep G e.2.1 x.key ∧ Rep G e.2.2 x.val := by
  obtain ⟨i, hi, rfl⟩ := List.getElem_of_mem hx
  have hi' : i < es.length := by rw [h.1]; exact hi
  exact ⟨es[i], List.getElem_mem _, h.2 i _ _ (List.getElem?_eq_getElem hi') (List.getElem?_eq_getElem hi)⟩
theorem MapL.born' {G : Ghost} {es : List (Nat × AV × AV)} {ms : List MapEntry} (h : MapL G es ms) {e : Nat × AV × AV} (he : e ∈ es) : ∃ x, x ∈ ms ∧ x.born = e.1 ∧ Rep G e.2.1 x.key ∧ Rep G e.2.2 x.val := by
  obtain ⟨i, hi, rfl⟩ := List.getElem_of_mem he
  have hi' : i < ms.length := by rw [← h.1]; exact hi
  exact ⟨ms[i], List.getElem_mem _, h.2 i _ _ (List.getElem?_eq_getElem hi) (List.getElem?_eq_getElem hi')⟩

/-- What 'next' may come to. -/
theorem WpL.nextMap {ops : Array Oper} {rest : List Oper} {Q : Exit → AState → Prop} {x : Operand} {k m since last clock : Nat} {seen : List Nat} {es : List (Nat × AV × AV)}
    (hx : ev C ⟨n, p0, out, loc, env⟩ x = .ptr (p0 + k) 0) (hi : loc[k]? = some (.iter m since seen last)) (ho : p0 = out.length → (out ++ loc)[m]? = some (.map es clock)) (hold : ∀ e, e ∈ es → e.1 < since) (hsl : since ≤ last)
    (K1 : (∀ e, e ∈ es → e.1 ∈ seen) → WpL C ops rest Q ⟨n, p0, out, loc, upd d (.tuple [.bool false]) env⟩)
    (K2 : ∀ e, e ∈ es → e.1 ∉ seen → WpL C ops rest Q ⟨n, p0, out, loc.set k (.iter m since (seen ++ [e.1]) clock), upd d (.tuple [.bool true, e.2.1, e.2.2]) env⟩) :
    WpL C ops ({ dst := d, op := .next x false, type := ty, pos := pos, after := aft, guard := none } :: rest) Q ⟨n, p0, out, loc, env⟩ := by
  refine WpL.consR (R := fun r objs => (r = .tuple [.bool false] ∧ objs = out ++ loc ∧ ∀ e, e ∈ es → e.1 ∈ seen) ∨
      ∃ e, e ∈ es ∧ e.1 ∉ seen ∧ r = .tuple [.bool true, e.2.1, e.2.2] ∧ objs = out ++ loc.set k (.iter m since (seen ++ [e.1]) clock)) rfl ?_ ?_
  · intro G w a hs next Q' hk
    have h0 := rep_ev hs x; rw [hx] at h0
    have e1 := h0.ptr_inv'
    have hit := loc_at (p0 := p0) (out := out) hi hs.outlen.symm
    obtain ⟨hm, hr⟩ := hs.mem.obj _ _ hit
    obtain ⟨ms, hb, hml⟩ := hs.mem.obj m _ (ho hs.outlen.symm)
    have hn := run_next_at (P := C.P) w ty (G.obj (p0 + k)) (G.obj m) since last seen.toArray ms clock hr hb (fun y hy => by
      obtain ⟨e, he, hbe, _⟩ := hml.born hy
      rw [hbe]; exact hold e he) hsl
    rcases hn with ⟨h1, h2⟩ | ⟨e, he, w1, hw1, h2⟩
    · unfold Oper.wp
      have : (execOp a.eval { dst := d, op := .next x false, type := ty, pos := pos, after := aft, guard := none }).run C.P w = .ok (.value (.tuple #[.bool false])) w := by
        simp [execOp, e1, h2]
      rw [this]
      refine hk _ _ (.tuple #[.bool false]) w G (.inl ⟨rfl, rfl, fun e he => ?_⟩) (Rep.tuple_mk (vs := [.bool false]) ⟨rfl, fun i hi => by
        have : i = 0 := by simpa using hi
        subst this; exact .bool _⟩) hs.mem (Ext.refl (Nat.le_refl _))
      obtain ⟨y, hy, hbe, _⟩ := hml.born' he
      have := all_seen ms seen.toArray h1 y hy
      rw [hbe] at this
      simpa using this
    · unfold Oper.wp
      obtain ⟨hmem, hns⟩ := mem_left he
      obtain ⟨e', he', hbe, hr1, hr2⟩ := hml.born hmem
      have hrun : (execOp a.eval { dst := d, op := .next x false, type := ty, pos := pos, after := aft, guard := none }).run C.P w = .ok (.value (.tuple #[.bool true, e.key, e.val])) (setBlock w1 (G.obj (p0 + k)) (.mapIter (some (G.obj m)) since (seen.toArray.push e.born) clock)) := by
        simp [execOp, e1, h2]
      rw [hrun]
      have hw1h : w1.heap = w.heap := by rcases hw1 with rfl | rfl <;> rfl
      have hlt := lt_of_heap hr
      refine hk (.tuple [.bool true, e'.2.1, e'.2.2]) (out ++ loc.set k (.iter m since (seen ++ [e'.1]) clock)) (.tuple #[.bool true, e.key, e.val]) _ G (.inr ⟨e', he', ?_, rfl, rfl⟩) (Rep.tuple_mk (vs := [.bool true, e.key, e.val]) ⟨rfl, fun i hi => by
        have : i = 0 ∨ i = 1 ∨ i = 2 := by simp at hi; omega
        rcases this with rfl | rfl | rfl
        · exact .bool _
        · exact hr1
        · exact hr2⟩) ?_ (Ext.refl (Nat.le_refl _))
      · rw [← hbe]
        intro hc
        rw [show (seen.toArray.contains e.born) = true by simpa using hc] at hns
        cases hns
      · have hset : out ++ loc.set k (.iter m since (seen ++ [e'.1]) clock) = (out ++ loc).set (p0 + k) (.iter m since (seen ++ [e'.1]) clock) := by
          have := hs.outlen
          rw [List.set_append_right _ _ (by simp only at this; omega)]
          simp only at this
          rw [this, Nat.add_sub_cancel_left]
        rw [hset]
        refine hs.mem.set (x := .iter m since seen last) hit rfl rfl (fun kk hkk => ?_) (by simp [setBlock, hw1h]) (by rcases hw1 with rfl | rfl <;> rfl) (by rcases hw1 with rfl | rfl <;> rfl) (by rcases hw1 with rfl | rfl <;> rfl) ⟨hm, ?_⟩
        · simp only [setBlock]; rw [Array.getElem?_setIfInBounds_ne (by omega), hw1h]
        · simp only [setBlock]; rw [Array.getElem?_setIfInBounds_self_of_lt (by rw [hw1h]; exact hlt), hbe]
          simp
  · rintro r objs (⟨rfl, rfl, h⟩ | ⟨e, he, hns, rfl, rfl⟩)
    · exact ⟨out, loc, rfl, rfl, K1 h⟩
    · exact ⟨out, _, rfl, rfl, K2 e he hns⟩

/-- the round's key and value -/
theorem St.entryMap {x : Operand} {k m since clock : Nat} {seen : List Nat} {es : List (Nat × AV × AV)} {e : Nat × AV × AV}
    (hx : ev C ⟨n, p0, out, loc, env⟩ x = .ptr (p0 + k) 0) (hi : loc[k]? = some (.iter m since (seen ++ [e.1]) clock)) (ho : p0 = out.length → (out ++ loc)[m]? = some (.map es clock)) (he : e ∈ es) (hn : (es.map (·.1)).Nodup) :
    OpStep C { dst := d, op := .entry x, type := ty, pos := pos, after := aft, guard := gd } ⟨n, p0, out, loc, env⟩ (.tuple [e.2.1, e.2.2]) out loc := by
  refine OpStep.pure_ (fun G w a hs => ?_)
  have h0 := rep_ev hs x; rw [hx] at h0
  have e1 := h0.ptr_inv'
  obtain ⟨hm, hr⟩ := hs.mem.obj _ _ (loc_at (p0 := p0) (out := out) hi hs.outlen.symm)
  obtain ⟨ms, hb, hml⟩ := hs.mem.obj m _ (ho hs.outlen.symm)
  obtain ⟨y, hy, hbe, hr1, hr2⟩ := hml.born' he
  have hbl : ms.toList.map (·.born) = es.map (·.1) := by
    refine List.ext_getElem? fun i => ?_
    simp only [List.getElem?_map]
    cases h1 : ms.toList[i]? with
    | none =>
      have : es[i]? = none := by rw [List.getElem?_eq_none_iff] at h1 ⊢; rw [hml.1]; exact h1
      rw [this]; rfl
    | some x' =>
      have hlt : i < es.length := by rw [hml.1]; exact lt_of_getElem? h1
      rw [List.getElem?_eq_getElem hlt]
      simp only [Option.map_some, Option.some.injEq]
      exact (hml.2 i _ x' (List.getElem?_eq_getElem hlt) h1).1
  have := run_entry_at (P := C.P) w (G.obj (p0 + k)) (G.obj m) since seen.toArray ms clock y (by rw [hr, hbe]; simp) hb hy (by rw [hbl]; exact hn)
  refine ⟨.tuple #[y.key, y.val], by simp [execOp, e1, this], Rep.tuple_mk (vs := [y.key, y.val]) ⟨rfl, fun i hi => ?_⟩⟩
  have : i = 0 ∨ i = 1 := by simp at hi; omega
  rcases this with rfl | rfl
  · exact hr1
  · exact hr2
end
end Go.Av
