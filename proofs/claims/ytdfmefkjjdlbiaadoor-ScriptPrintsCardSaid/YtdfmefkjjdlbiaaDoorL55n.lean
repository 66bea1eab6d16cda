/-
  'read' of a line that stands for a step.
-/
import Derived.Test.YtdfmefkjjdlbiaaDoorL55d
import Derived.Test.YtdfmefkjjdlbiaaDoorL55f
import Derived.Test.YtdfmefkjjdlbiaaDoorL55h
import Derived.Test.YtdfmefkjjdlbiaaDoorAvDraw2
namespace Go.Proofs.YtdfmefkjjdlbiaaDoor
open Go Go.Av
set_option maxRecDepth 100000
set_option linter.unusedVariables false
set_option linter.unusedSimpArgs false
attribute [local irreducible] ARounds AWp WpL OpStep OpStepR DrawL AThen ABlock RetQ PureF ACalls

structure ReadK (objs : List AObj) (m : Nat) (x : Nat → Step) (ws : Nat → List UInt8) (fr : Nat → Nat) (cr : Nat → List AV) : Prop where
  fn : ∀ i, i < m → ∃ fn, C.P.funcs[fr i]? = some fn ∧ fn.body.isNone = false ∧ (fn.name == "runtime.NumGoroutine") = false
  call : ∀ i, i < m → ∀ o id, (∀ (j : Nat) (y : AObj), objs[j]? = some y → o[j]? = some y) → objs.length ≤ id → o[id]? = some (.row 43 (encStep (x i))) →
    ACalls C (fr i) ([.ptr id 0, .str (ws i)] ++ cr i) o (fun r o' => r = .bool true ∧ o' = o.set id (.row 43 (encStep (x (i + 1)))))

def kindStep (k : Int) : Step := ⟨k, 0, [], 0, 0, []⟩
def rdLoc (k : Int) (ps : List (List AV)) (e : SEnd) (x : Step) (p : List AV) : List AObj := [.row 43 (encStep (kindStep 0)), .row 59 [.int .i64 k, .slc ps e], .row 43 (encStep x), .row 63 p]
set_option maxHeartbeats 1000000 in
theorem read_ok (line : List UInt8) (hs : line.length < 4294967281) (objs : List AObj) (b c mp : Nat) (hmp : objs[mp]? = some (.map (formsE b c) 8))
    (w0 : List UInt8) (wl : List (List UInt8)) (hparts : parts line 32 = w0 :: wl) (q : Nat) (hfind : findA (.str w0) (formsE b c) 0 = some (some q)) (k : Int) (ps : List (List AV)) (e : SEnd) (m : Nat) (hlook : aLook C 59 (formsE b c) true (some q) = some (.tuple [.agg [.int .i64 k, .slc ps e], .bool true]))
    (hm : ps.length = m) (hwl : wl.length = m) (hm4 : m ≤ 4) (x : Nat → Step) (hx0 : x 0 = kindStep k) (ws : Nat → List UInt8) (sh : Nat → AV) (fr : Nat → Nat) (cr : Nat → List AV)
    (hps : ∀ i, i < m → ps[i]? = some [sh i, .func (fr i) [] (cr i)]) (hws : ∀ i, i < m → wl[i]? = some (ws i)) (hK : ReadK objs m x ws fr cr) (hsh : ∀ i, i < m → force (sh i) = some (sh i)) (hpl : IdLt objs.length (.slc ps e)) :
    ACalls C 12 [.str line, .map mp] objs (fun r o => r = .tuple [.agg (encStep (x m)), .bool true] ∧ o = objs) := by
  have hsp : PureF C 37 [.str line, .str [32]] (.slc ([.str w0] :: wl.map fun p => [.str p]) .full) := by
    have := split_ok line 32 hs
    rw [hparts] at this
    exact this
  have hml := lt_of_getElem? hmp
  (refine ACalls.withLt fun hLt => ?_); (refine ACalls.enter Cplain (nt := 57) (res := [.cell 4 43, .tmp 5]) Tryd.func12 rfl rfl Tryd.ntmps12 (by show 2 ≤ 57; omega) ?_)
  (refine AWp.seq ?_); (refine AWp.region rfl ?_); (repeat (refine WpL.cons (by (first | exact St.exec rfl | exact St.newV rfl rfl rfl rfl | exact St.loadL rfl rfl rfl | exact St.stoL rfl rfl rfl rfl rfl | exact St.eqSc rfl | exact St.build rfl)) ?_)); (refine WpL.nil ?_); (refine athen_n ?_)
  (refine AWp.seq ?_); (refine AWp.region rfl ?_); (repeat (refine WpL.cons (by (first | exact St.callF (fid := 37) rfl (hsp) Tryd.func37 (by kernel_rfl) (by kernel_rfl)  | exact St.exec rfl | exact St.newV rfl rfl rfl rfl | exact St.loadL rfl rfl rfl | exact St.stoL rfl rfl rfl rfl rfl | exact St.eqSc rfl | exact St.build rfl)) ?_)); (refine WpL.nil ?_); (refine athen_n ?_)
  (refine AWp.seq ?_); (refine AWp.region rfl ?_); (repeat (refine WpL.cons (by (first | exact St.indexSlc rfl rfl rfl rfl (by decide) rfl rfl | exact St.lookup rfl rfl (fun _ => by rw [List.getElem?_append_left hml]; exact hmp) rfl rfl hfind hlook  | exact St.exec rfl | exact St.newV rfl rfl rfl rfl | exact St.loadL rfl rfl rfl | exact St.stoL rfl rfl rfl rfl rfl | exact St.eqSc rfl | exact St.build rfl)) ?_)); (refine WpL.nil ?_); (refine athen_n ?_)
  (refine AWp.seq ?_)
  (repeat (first | (refine WpL.cons (by (first | exact St.exec rfl | exact St.newV rfl rfl rfl rfl | exact St.loadL rfl rfl rfl | exact St.stoL rfl rfl rfl rfl rfl | exact St.eqSc rfl | exact St.build rfl)) ?_) | (first | refine athen_n ?_ | refine WpL.nil ?_ | refine AWp.seq ?_ | refine AWp.region rfl ?_ | refine AWp.block ?_ | refine AWp.skip ?_ | refine AWp.exit ?_ | refine AWp.ret ?_ | refine AWp.condT rfl ?_ | refine AWp.condF rfl ?_ | refine athen_e ?_ | refine athen_r ?_ | refine ablock_n ?_ | refine ablock_e ?_ | refine ablock_r ?_ | refine ablock_o rfl ?_ | refine ARounds.step ?_) | refine WpL.pass rfl ?_ | refine WpL.go (gd := some _) rfl ?_))
  refine AWp.cond rfl (fun hc => ?_) (fun hc => ?_)
  · exfalso
    simp only [cond_false, Bool.not_eq_true', eqI_f, List.length_cons, List.length_map, hwl, hm] at hc
    simp only [Bool.not_true, cond_false] at hc
    rw [wrap_i64 (by omega) (by omega)] at hc
    simp only [Bool.not_eq_true', eqI_f] at hc
    omega
  (repeat (first | (refine WpL.cons (by (first | exact St.exec rfl | exact St.newV rfl rfl rfl rfl | exact St.loadL rfl rfl rfl | exact St.stoL rfl rfl rfl rfl rfl | exact St.eqSc rfl | exact St.build rfl)) ?_) | (first | refine athen_n ?_ | refine WpL.nil ?_ | refine AWp.seq ?_ | refine AWp.region rfl ?_ | refine AWp.block ?_ | refine AWp.skip ?_ | refine AWp.exit ?_ | refine AWp.ret ?_ | refine AWp.condT rfl ?_ | refine AWp.condF rfl ?_ | refine athen_e ?_ | refine athen_r ?_ | refine ablock_n ?_ | refine ablock_e ?_ | refine ablock_r ?_ | refine ablock_o rfl ?_ | refine ARounds.step ?_) | refine WpL.pass rfl ?_ | refine WpL.go (gd := some _) rfl ?_))
  refine AWp.loopI (fun i : Nat => ⟨57, objs.length, objs, [.row 43 (encStep (kindStep 0)), .row 59 [.int .i64 k, .slc ps e], .row 43 (encStep (x i))], ofL [(4, .ptr (objs.length + 0) 0), (6, .slc ([.str w0] :: wl.map fun p => [.str p]) .full), (9, .ptr (objs.length + 2) 0), (38, .slc ps e), (39, .int .i64 ps.length), (40, .int .i64 i)]⟩)
    (fun i => i ≤ m) (fun i => m - i) 0 (Nat.zero_le _) ?_ (fun _ => rfl) ?_
  · rw [hx0]
    exact Wk.same rfl (by repeat (first | exact trivial | refine ⟨Le.of_eq rfl, ?_⟩))
  intro i hi
  (repeat (first | (refine WpL.cons (by (first | exact St.exec rfl | exact St.newV rfl rfl rfl rfl | exact St.loadL rfl rfl rfl | exact St.stoL rfl rfl rfl rfl rfl | exact St.eqSc rfl | exact St.build rfl)) ?_) | (first | refine athen_n ?_ | refine WpL.nil ?_ | refine AWp.seq ?_ | refine AWp.region rfl ?_ | refine AWp.block ?_ | refine AWp.skip ?_ | refine AWp.exit ?_ | refine AWp.ret ?_ | refine AWp.condT rfl ?_ | refine AWp.condF rfl ?_ | refine athen_e ?_ | refine athen_r ?_ | refine ablock_n ?_ | refine ablock_e ?_ | refine ablock_r ?_ | refine ablock_o rfl ?_ | refine ARounds.step ?_) | refine WpL.pass rfl ?_ | refine WpL.go (gd := some _) rfl ?_))
  refine AWp.cond rfl (fun hc => ?_) (fun hc => ?_)
  · have hlt : i < m := by rw [ltI_t] at hc; omega
    have hel := hps i hlt
    have hsh' := hsh i hlt
    obtain ⟨fn, hfn, hbd, hnm⟩ := hK.fn i hlt
    have hcall := hK.call i hlt (objs ++ rdLoc k ps e (x i) [sh i, .func (fr i) [] (cr i)]) (objs.length + 2)
      (fun j y hj => by rw [List.getElem?_append_left (lt_of_getElem? hj)]; exact hj) (by omega) (by rw [List.getElem?_append_right (by omega), Nat.add_sub_cancel_left]; rfl)
    have hset : (objs ++ rdLoc k ps e (x i) [sh i, .func (fr i) [] (cr i)]).set (objs.length + 2) (.row 43 (encStep (x (i + 1)))) = objs ++ rdLoc k ps e (x (i + 1)) [sh i, .func (fr i) [] (cr i)] := by
      rw [List.set_append_right _ _ (by omega), Nat.add_sub_cancel_left]; rfl
    rw [hset] at hcall
    have hw1 : ([AV.str w0] :: wl.map fun p => [AV.str p])[(IntKind.wrap .i64 (1 + (i : Int))).toNat]? = some [.str (ws i)] := by
      rw [wrap_i64 (by omega) (by omega), show (1 + (i : Int)).toNat = i + 1 by omega]
      simp only [List.getElem?_cons_succ, List.getElem?_map, hws i hlt, Option.map_some]
    have hw0 : (0 : Int) ≤ IntKind.wrap .i64 (1 + (i : Int)) := by rw [wrap_i64 (by omega) (by omega)]; omega
    (repeat (first | (refine WpL.cons (by (first | exact St.indexSlc rfl rfl rfl rfl (by omega) hel rfl  | exact St.exec rfl | exact St.newV rfl rfl rfl rfl | exact St.loadL rfl rfl rfl | exact St.stoL rfl rfl rfl rfl rfl | exact St.eqSc rfl | exact St.build rfl)) ?_) | (first | refine athen_n ?_ | refine WpL.nil ?_ | refine AWp.seq ?_ | refine AWp.region rfl ?_ | refine AWp.block ?_ | refine AWp.skip ?_ | refine AWp.exit ?_ | refine AWp.ret ?_ | refine AWp.condT rfl ?_ | refine AWp.condF rfl ?_ | refine athen_e ?_ | refine athen_r ?_ | refine ablock_n ?_ | refine ablock_e ?_ | refine ablock_r ?_ | refine ablock_o rfl ?_ | refine ARounds.step ?_) | refine WpL.pass rfl ?_ | refine WpL.go (gd := some _) rfl ?_))
    (refine AWp.draw1 Cmix (7) (objs) (rdLoc k ps e (x (i + 1)) [sh i, .func (fr i) [] (cr i)]) (by kernel_rfl) rfl rfl ?_)
    (repeat (first | refine DrawL.nil ?_ | refine DrawL.pass1 rfl rfl ?_ | refine DrawL.go1 rfl rfl rfl (by (first | exact St.indexSlc rfl rfl rfl rfl hw0 hw1 rfl  | exact St.exec rfl | exact St.newV rfl rfl rfl rfl | exact St.loadL rfl rfl rfl | exact St.stoL rfl rfl rfl rfl rfl | exact St.eqSc rfl | exact St.build rfl)) (by (first | exact St.indexSlc rfl rfl rfl rfl hw0 hw1 rfl  | exact St.exec rfl | exact St.newV rfl rfl rfl rfl | exact St.loadL rfl rfl rfl | exact St.stoL rfl rfl rfl rfl rfl | exact St.eqSc rfl | exact St.build rfl)) ?_ | refine DrawL.chg1 rfl rfl (by (first | exact St.indexSlc rfl rfl rfl rfl hw0 hw1 rfl  | exact St.exec rfl | exact St.newV rfl rfl rfl rfl | exact St.loadL rfl rfl rfl | exact St.stoL rfl rfl rfl rfl rfl | exact St.eqSc rfl | exact St.build rfl)) ?_ | refine DrawL.go1p rfl rfl rfl rfl (by (first | exact St.indexSlc rfl rfl rfl rfl hw0 hw1 rfl  | exact St.exec rfl | exact St.newV rfl rfl rfl rfl | exact St.loadL rfl rfl rfl | exact St.stoL rfl rfl rfl rfl rfl | exact St.eqSc rfl | exact St.build rfl)) ?_ | refine DrawL.go1q rfl rfl rfl rfl (by (first | exact St.indexSlc rfl rfl rfl rfl hw0 hw1 rfl  | exact St.exec rfl | exact St.newV rfl rfl rfl rfl | exact St.loadL rfl rfl rfl | exact St.stoL rfl rfl rfl rfl rfl | exact St.eqSc rfl | exact St.build rfl)) ?_))
    refine DrawL.chg1 rfl rfl (OpStep.ofR (St.callR rfl rfl hcall hfn hbd hnm) rfl (fun r o h => h)) ?_
    (repeat (first | refine DrawL.nil ?_ | refine DrawL.pass1 rfl rfl ?_ | refine DrawL.go1 rfl rfl rfl (by (first | exact St.exec rfl | exact St.newV rfl rfl rfl rfl | exact St.loadL rfl rfl rfl | exact St.stoL rfl rfl rfl rfl rfl | exact St.eqSc rfl | exact St.build rfl)) (by (first | exact St.exec rfl | exact St.newV rfl rfl rfl rfl | exact St.loadL rfl rfl rfl | exact St.stoL rfl rfl rfl rfl rfl | exact St.eqSc rfl | exact St.build rfl)) ?_ | refine DrawL.chg1 rfl rfl (by (first | exact St.exec rfl | exact St.newV rfl rfl rfl rfl | exact St.loadL rfl rfl rfl | exact St.stoL rfl rfl rfl rfl rfl | exact St.eqSc rfl | exact St.build rfl)) ?_ | refine DrawL.go1p rfl rfl rfl rfl (by (first | exact St.exec rfl | exact St.newV rfl rfl rfl rfl | exact St.loadL rfl rfl rfl | exact St.stoL rfl rfl rfl rfl rfl | exact St.eqSc rfl | exact St.build rfl)) ?_ | refine DrawL.go1q rfl rfl rfl rfl (by (first | exact St.exec rfl | exact St.newV rfl rfl rfl rfl | exact St.loadL rfl rfl rfl | exact St.stoL rfl rfl rfl rfl rfl | exact St.eqSc rfl | exact St.build rfl)) ?_))
    (repeat (first | (refine WpL.cons (by (first | exact St.exec rfl | exact St.newV rfl rfl rfl rfl | exact St.loadL rfl rfl rfl | exact St.stoL rfl rfl rfl rfl rfl | exact St.eqSc rfl | exact St.build rfl)) ?_) | (first | refine athen_n ?_ | refine WpL.nil ?_ | refine AWp.seq ?_ | refine AWp.region rfl ?_ | refine AWp.block ?_ | refine AWp.skip ?_ | refine AWp.exit ?_ | refine AWp.ret ?_ | refine AWp.condT rfl ?_ | refine AWp.condF rfl ?_ | refine athen_e ?_ | refine athen_r ?_ | refine ablock_n ?_ | refine ablock_e ?_ | refine ablock_r ?_ | refine ablock_o rfl ?_ | refine ARounds.step ?_) | refine WpL.pass rfl ?_ | refine WpL.go (gd := some _) rfl ?_))
    refine ⟨i + 1, by omega, by omega, ?_⟩
    rw [wrap_i64 (by omega) (by omega)]
    have hl3 : objs.length ≤ objs.length + 3 := Nat.le_add_right _ _
    refine Wk.mk_ Cplain rfl ?_ (.inr (hLt.le hl3)) ?_
    · intro y hy
      simp only [List.mem_cons, List.mem_nil_iff, or_false] at hy
      rcases hy with rfl | rfl | rfl
      · exact objLtStep _ _
      · intro c hc
        simp only [List.mem_cons, List.mem_nil_iff, or_false] at hc
        rcases hc with rfl | rfl
        · exact .int _ _
        · exact hpl.le hl3
      · exact objLtStep _ _
    · have h0 : objs.length + 0 < objs.length + 3 := by omega
      have h2 : objs.length + 2 < objs.length + 3 := by omega
      refine ⟨⟨Le.of_eq rfl, .ptr _ _ h0⟩, ⟨Le.of_eq rfl, ?_⟩, ⟨Le.of_eq rfl, .ptr _ _ h2⟩, ⟨Le.of_eq rfl, hpl.le hl3⟩, ⟨Le.of_eq rfl, .int _ _⟩, ⟨Le.of_eq rfl, .int _ _⟩, trivial⟩
      refine .slc _ _ ?_ (fun t n h => by cases h)
      intro y hy c hc
      rcases List.mem_cons.1 hy with rfl | hy
      · simp only [List.mem_singleton] at hc; subst hc; exact .str _
      · obtain ⟨p, _, rfl⟩ := List.mem_map.1 hy
        simp only [List.mem_singleton] at hc; subst hc; exact .str _
  · have him : i = m := by rw [ltI_f] at hc; omega
    subst him
    (repeat (first | (refine WpL.cons (by (first | exact St.exec rfl | exact St.newV rfl rfl rfl rfl | exact St.loadL rfl rfl rfl | exact St.stoL rfl rfl rfl rfl rfl | exact St.eqSc rfl | exact St.build rfl)) ?_) | (first | refine athen_n ?_ | refine WpL.nil ?_ | refine AWp.seq ?_ | refine AWp.region rfl ?_ | refine AWp.block ?_ | refine AWp.skip ?_ | refine AWp.exit ?_ | refine AWp.ret ?_ | refine AWp.condT rfl ?_ | refine AWp.condF rfl ?_ | refine athen_e ?_ | refine athen_r ?_ | refine ablock_n ?_ | refine ablock_e ?_ | refine ablock_r ?_ | refine ablock_o rfl ?_ | refine ARounds.step ?_) | refine WpL.pass rfl ?_ | refine WpL.go (gd := some _) rfl ?_))
    refine RetQ.same (.inr rfl) (ResL.cons (ResIs.cellN _ _ _ _ _ _ _ _ rfl rfl rfl rfl (loc_at (k := 0) rfl) rfl rfl) (ResL.cons (ResIs.tmp _ _ rfl) ResL.nil)) (Le.of_eq rfl) rfl ?_
    exact .tuple _ (by simp; exact ⟨.agg _ (plainStep _ _), .bool _⟩)
end Go.Proofs.YtdfmefkjjdlbiaaDoor
