/-
  AvTok: a nil slice that is to grow; loops of known length, round by round; calls that write one box of the caller's.
-/
import Derived.Test.YtdfmefkjjdlbiaaDoorAvOmega
namespace Go.Av
open Go.RowKit (Below)
set_option linter.unusedVariables false
set_option linter.unusedSimpArgs false

section
variable {C : Ctx} {n p0 : Nat} {out loc : List AObj} {env : Nat → AV} {Q : Exit → AState → Prop}

theorem AWp.padS {c : Code} (sz : Nat) (h : AWp C c Q ⟨n, p0, out, loc ++ [.tok 0 sz], env⟩) : AWp C c Q ⟨n, p0, out, loc, env⟩ := by
  intro G w a hs
  have hm := hs.mem
  have hf : TokFit G (out ++ loc) w G.n ⟨0, sz, 0, 0, 0⟩ := ⟨fun h => absurd h (Nat.lt_irrefl 0), fun h => absurd h (Nat.lt_irrefl 0), fun h => absurd h (Nat.lt_irrefl 0)⟩
  obtain ⟨hm', hx⟩ := hm.newTok _ hf
  have hsim : Sim C (G.newTok ⟨0, sz, 0, 0, 0⟩) ⟨n, p0, out, loc ++ [.tok 0 sz], env⟩ w a :=
    ⟨hs.size, hs.defers, fun t ht => (hs.env t ht).mono hx, hs.outlen, by rw [← List.append_assoc]; exact hm'⟩
  have hp0 := hs.p0_le
  refine wp_mono (h _ w a hsim) fun e a' w' p => p.ofExt (hx.le hp0)

theorem Rep.nilTok {G : Ghost} {objs : List AObj} {w : World} (hm : MemOk C G objs w) {t sz : Nat} (h : objs[t]? = some (.tok 0 sz)) {v : Value} (r : Rep G (.slc [] .nil) v) : Rep G (.slc [] (.tok t 0)) v := by
  have ht := lt_of_getElem? h
  have hc := (hm.tok t 0 sz h).cnt
  cases r with
  | slc _ _ a cap sz' f hs ha ha' r hc' he =>
    obtain ⟨h1, h2⟩ := he
    exact .slc [] (.tok t 0) a cap sz' f hs ha ha' r hc' ⟨by rw [hm.n]; exact ht, Nat.zero_le _, fun _ => .inl h2⟩

/-- A nil slice in a box is one that grows. -/
theorem AWp.tokRow {c : Code} {rt : TypeId} (q j t : Nat) {sz : Nat} {cells : List AV} (hq : loc[q]? = some (.row rt cells)) (hc : cells[j]? = some (.slc [] .nil)) (ht : loc[t]? = some (.tok 0 sz))
    (h : AWp C c Q ⟨n, p0, out, loc.set q (.row rt (cells.set j (.slc [] (.tok (p0 + t) 0)))), env⟩) : AWp C c Q ⟨n, p0, out, loc, env⟩ := by
  intro G w a hs
  have hm := hs.mem
  have hol : out.length = p0 := hs.outlen
  have hl : ∀ (i : Nat) (x : AObj), loc[i]? = some x → (out ++ loc)[p0 + i]? = some x := fun i x hi => by rw [← hol, List.getElem?_append_right (by omega), Nat.add_sub_cancel_left]; exact hi
  obtain ⟨vs, h1, h2⟩ := hm.obj _ _ (hl _ _ hq)
  have hrow : ObjOk G w (G.obj (p0 + q)) (.row rt (cells.set j (.slc [] (.tok (p0 + t) 0)))) := by
    refine ⟨vs, h1, ?_⟩
    obtain ⟨v, hv, hr, ho⟩ := h2.at_ hc
    refine RepL.of_at (by simp [h2.len]) fun i x u hx hu => ?_
    rw [List.getElem?_set] at hx
    split at hx
    · rename_i hij
      subst hij
      split at hx
      · cases hx
        rw [hv] at hu; cases hu
        exact ⟨Rep.nilTok hm (hl _ _ ht) hr, ho⟩
      · cases hx
    · obtain ⟨u', h3, h4, h5⟩ := h2.at_ hx
      rw [hu] at h3; cases h3
      exact ⟨h4, h5⟩
  have hm' := hm.set (w' := w) (hl _ _ hq) rfl rfl (fun _ _ => rfl) rfl rfl rfl rfl hrow
  have e : (out ++ loc).set (p0 + q) (.row rt (cells.set j (.slc [] (.tok (p0 + t) 0)))) = out ++ loc.set q (.row rt (cells.set j (.slc [] (.tok (p0 + t) 0)))) := by
    rw [List.set_append_right _ _ (by omega), ← hol, Nat.add_sub_cancel_left]
  rw [e] at hm'
  exact h G w a ⟨hs.size, hs.defers, hs.env, hs.outlen, hm'⟩
theorem AWp.tokEnv {c : Code} (d t : Nat) {sz : Nat} (hd : env d = .slc [] .nil) (ht : loc[t]? = some (.tok 0 sz)) (h : AWp C c Q ⟨n, p0, out, loc, upd (some d) (.slc [] (.tok (p0 + t) 0)) env⟩) : AWp C c Q ⟨n, p0, out, loc, env⟩ := by
  intro G w a hs
  have hm := hs.mem
  have hol : out.length = p0 := hs.outlen
  have hl : (out ++ loc)[p0 + t]? = some (.tok 0 sz) := by rw [← hol, List.getElem?_append_right (by omega), Nat.add_sub_cancel_left]; exact ht
  refine h G w a ⟨hs.size, hs.defers, fun u hu => ?_, hs.outlen, hs.mem⟩
  by_cases e : u = d
  · subst e
    show Rep G (upd (some u) _ env u) _
    rw [upd_eq]
    have := hs.env u hu
    simp only at this
    rw [hd] at this
    exact Rep.nilTok hm hl this
  · show Rep G (upd (some d) _ env u) _
    rw [upd_ne (fun h => e (Option.some.inj h).symm)]
    exact hs.env u hu

/-! ### Round by round -/
def ARounds (C : Ctx) (c : Code) (Q : Exit → AState → Prop) : Nat → AState → Prop
  | 0, _ => False
  | k + 1, s => AWp C c (AThen (ARounds C c Q k) Q) s
theorem ARounds.step {c : Code} {k : Nat} {s : AState} (h : AWp C c (AThen (ARounds C c Q k) Q) s) : ARounds C c Q (k + 1) s := h
theorem AWp.withP0 {c : Code} {s : AState} (h : AWp C c Q s) : AWp C c (fun e s' => Q e s' ∧ s'.p0 = s.p0) s := fun G w a hs =>
  wp_mono (h G w a hs) fun e a' w' ⟨s', G', h1, h2, h3, h4⟩ => ⟨s', G', h1, h2, h3, h4, h2⟩
theorem AWp.rounds {c : Code} {s : AState} (k : Nat) (h : ARounds C c Q k s) : AWp C (.loop c) Q s := by
  refine AWp.loop (fun m s' => ARounds C c Q m s' ∧ s'.p0 = s.p0) k ⟨h, rfl⟩ (fun m s' h => h.2) ?_
  rintro m s' ⟨h1, h2⟩
  cases m with
  | zero => exact h1.elim
  | succ m =>
    refine (AWp.withP0 (show AWp C c (AThen (ARounds C c Q m) Q) s' from h1)).mono ?_
    rintro e s'' ⟨h3, h4⟩
    cases e with
    | normal => exact ⟨m, Nat.lt_succ_self m, h3, h4.trans h2⟩
    | _ => exact h3

/-- Ways that meet again. -/
theorem AWp.join {x y : Code} {s : AState} (s0 : AState) (h1 : AWp C x (AThen (fun s' => Wk C s' s0) Q) s) (h2 : AWp C y Q s0) : AWp C (.seq x y) Q s := by
  refine AWp.seq (h1.mono ?_)
  intro e s' h
  cases e with
  | normal => exact AWp.wk h h2
  | _ => exact h

/-- a slice that grows, its token the body's own -/
theorem St.appendTL {d : Option Nat} {ty : TypeId} {pos : String} {aft : Array Edge} {gd : Option (Nat × Bool)} {x y : Operand} {t t2 et k m : Nat} {xs ys : List (List AV)} {sz by_ m' : Nat} {z : AV} {loc' : List AObj}
    (hx : ev C ⟨n, p0, out, loc, env⟩ x = .slc xs (.tok (p0 + k) m)) (hy : aSrc (ev C ⟨n, p0, out, loc, env⟩ y) (C.ty t2).d = some ys) (ht : (C.ty t).d = .slice et) (hk : (C.ty et).d.known = true) (hz : (C.ty et).zero = some z) (hzl : z.cellsOf.length = (C.ty et).size)
    (hzs : z.stor = true) (hsz : (C.ty et).size = sz) (hby : (C.ty et).bytes = by_) (hb0 : Nat.blt 0 by_ = true) (hs0 : Nat.blt 0 sz = true) (ho : loc[k]? = some (.tok m sz)) (hm' : m + ys.length = m') (hl : loc.set k (.tok m' sz) = loc')
    (hsx : AllLen sz xs) (hsy : AllLen sz ys) (hfit : (xs.length + ys.length) * by_ ≤ 140737488355328) :
    OpStep C { dst := d, op := .call { callee := .builtin .append, args := #[x, y], argTypes := #[t, t2] }, type := ty, pos := pos, after := aft, guard := gd } ⟨n, p0, out, loc, env⟩ (.slc (xs ++ ys) (.tok (p0 + k) m')) out loc' :=
  St.appendT hx hy ht hk hz hzl hzs hsz hby (by rw [Nat.blt_eq] at hb0; exact hb0) (by rw [Nat.blt_eq] at hs0; exact hs0) hsx hsy hfit (loc_at ho) hm' (fun hp => by rw [List.set_append_right _ _ (by omega), hp, Nat.add_sub_cancel_left, hl]) rfl

/-! ### What is said of parts is said of the whole -/
def LeL : List AV → List AV → Prop
  | [], [] => True
  | a :: r, b :: s => Le a b ∧ LeL r s
  | _, _ => False
theorem LeL.len : ∀ {a b : List AV}, LeL a b → a.length = b.length
  | [], [], _ => rfl
  | _ :: _, _ :: _, h => by simp [LeL.len h.2]
  | [], _ :: _, h => h.elim
  | _ :: _, [], h => h.elim
theorem LeL.at_ : ∀ {a b : List AV}, LeL a b → ∀ i, i < a.length → Le (a.getD i .any) (b.getD i .any)
  | a :: r, b :: s, h, 0, _ => h.1
  | a :: r, b :: s, h, i + 1, hi => by
    have := LeL.at_ h.2 i (by simpa using hi)
    simpa [List.getD_eq_getElem?_getD] using this
  | [], _, _, _, hi => absurd hi (Nat.not_lt_zero _)
  | _ :: _, [], h, _, _ => h.elim
theorem Le.agg {a b : List AV} (h : LeL a b) : Le (.agg a) (.agg b) := by
  intro G cv r
  cases r with
  | agg _ vs hl ho hr =>
    refine .agg b vs (h.len ▸ hl) (fun i hi => ho i (by rw [h.len]; exact hi)) (fun i hi => ?_)
    have hi' : i < a.length := by rw [h.len]; exact hi
    exact h.at_ i hi' G _ (hr i hi')
theorem LeL.refl : ∀ a : List AV, LeL a a
  | [] => trivial
  | x :: r => ⟨Le.refl x, LeL.refl r⟩

theorem RepA.le {G : Ghost} {xs ys : List AV} {vs : List Value} (h : RepA G xs vs) (hl : LeL xs ys) : RepA G ys vs :=
  ⟨hl.len ▸ h.len, fun i hi => hl.at_ i (by rw [hl.len]; exact hi) G _ (h.rep i (by rw [hl.len]; exact hi))⟩
theorem ACalls.args {f : FuncId} {xs ys : List AV} {objs : List AObj} {R : AV → List AObj → Prop} (h : ACalls C f ys objs R) (hl : LeL xs ys) : ACalls C f xs objs R := fun G w vs hm ha => h G w vs hm (ha.le hl)
theorem PureF.args {f : FuncId} {xs ys : List AV} {v : AV} (h : PureF C f ys v) (hl : LeL xs ys) : PureF C f xs v := fun objs => ACalls.args (h objs) hl

/-! ### Calls that write one box of the caller's -/
variable {d : Option Nat} {ty : TypeId} {pos : String} {aft : Array Edge} {gd : Option (Nat × Bool)}
theorem St.callSet {f : Operand} {fid : FuncId} {fn : Func} {fs cs args : List AV} {xs : Array Operand} {ats : Array TypeId} {v : AV} {k : Nat} {X : AObj} {loc' : List AObj}
    (hf : ev C ⟨n, p0, out, loc, env⟩ f = .func fid fs cs) (hargs : xs.toList.map (ev C ⟨n, p0, out, loc, env⟩) = args)
    (hc : p0 = out.length → ACalls C fid (fs ++ args ++ cs) (out ++ loc) (fun r o => r = v ∧ o = (out ++ loc).set (p0 + k) X)) (hfn : C.P.funcs[fid]? = some fn) (hb : fn.body.isNone = false) (hne : (fn.name == "runtime.NumGoroutine") = false)
    (hl : loc.set k X = loc') :
    OpStep C { dst := d, op := .call { callee := .value f, args := xs, argTypes := ats }, type := ty, pos := pos, after := aft, guard := gd } ⟨n, p0, out, loc, env⟩ v out loc' := by
  refine ⟨rfl, fun G w a hs next Q' hk => ?_⟩
  have hol : out.length = p0 := hs.outlen
  refine St.callR hf hargs (hc hol.symm) hfn hb hne G w a hs next Q' fun r o cv w' G' hr => hk r o cv w' G' ⟨hr.1, ?_⟩
  rw [hr.2, List.set_append_right _ _ (by omega), ← hol, Nat.add_sub_cancel_left, hl]
end
end Go.Av
