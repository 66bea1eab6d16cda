/-
  The acts' words.
-/
import Derived.Test.YtdfmefkjjdlbiaaDoorL55c
namespace Go.Proofs.YtdfmefkjjdlbiaaDoor
open Go Go.Av
set_option maxRecDepth 100000
set_option linter.unusedVariables false
set_option linter.unusedSimpArgs false
attribute [local irreducible] ARounds AWp WpL OpStep OpStepR DrawL AThen ABlock RetQ PureF ACalls

def actAt (k : Nat) : List UInt8 := actsL.getD k []
theorem showAct_ok (x : Step) (k : Nat) (hk : k < 12) (h : x.akind = k) : PureF C 27 [.agg (encStep x)] (.tuple [.str (actAt k), .bool true]) := by
  obtain ⟨kind, n, party, akind, an, adeal⟩ := x
  simp only at h
  subst h
  have hk' : k = 0 ∨ k = 1 ∨ k = 2 ∨ k = 3 ∨ k = 4 ∨ k = 5 ∨ k = 6 ∨ k = 7 ∨ k = 8 ∨ k = 9 ∨ k = 10 ∨ k = 11 := by omega
  (refine PureF.of fun objs => ?_); (refine ACalls.enter Cplain (nt := 19) (res := [.tmp 2, .tmp 3]) Tryd.func27 rfl rfl Tryd.ntmps27 (by show 1 ≤ 19; omega) ?_)
  (repeat' (first | (refine WpL.cons (by (first | exact St.exec rfl | exact St.newV rfl rfl rfl rfl | exact St.loadL rfl rfl rfl | exact St.stoL rfl rfl rfl rfl rfl | exact St.eqSc rfl | exact St.build rfl)) ?_) | (first | refine athen_n ?_ | refine WpL.nil ?_ | refine AWp.seq ?_ | refine AWp.region rfl ?_ | refine AWp.block ?_ | refine AWp.skip ?_ | refine AWp.exit ?_ | refine AWp.ret ?_ | refine AWp.condT rfl ?_ | refine AWp.condF rfl ?_ | refine athen_e ?_ | refine athen_r ?_ | refine ablock_n ?_ | refine ablock_e ?_ | refine ablock_r ?_ | refine ablock_o rfl ?_ | refine ARounds.step ?_) | refine WpL.pass rfl ?_ | refine WpL.go (gd := some _) rfl ?_ | refine WpL.gSplit rfl (by decide) rfl rfl (fun hc => ?_) (fun hc => ?_) | refine AWp.cond rfl (fun hc => ?_) (fun hc => ?_)))
  · exfalso
    simp only [ltI_def] at hc
    simp only [cond_true, decide_eq_true_eq] at hc
    omega
  · exfalso
    simp only [cond_false, leI_def, decide_eq_true_eq] at hc
    omega
  · refine WpL.cons (St.indexArrCptr (cells := actsL.map AV.str) rfl rfl rfl rfl (by show (0 : Int) ≤ (k : Int); omega) (by show (k : Int) < 12; omega)) ?_
    rcases hk' with rfl | rfl | rfl | rfl | rfl | rfl | rfl | rfl | rfl | rfl | rfl | rfl
    all_goals (
      (repeat (first | (refine WpL.cons (by (first | exact St.exec rfl | exact St.newV rfl rfl rfl rfl | exact St.loadL rfl rfl rfl | exact St.stoL rfl rfl rfl rfl rfl | exact St.eqSc rfl | exact St.build rfl)) ?_) | (first | refine athen_n ?_ | refine WpL.nil ?_ | refine AWp.seq ?_ | refine AWp.region rfl ?_ | refine AWp.block ?_ | refine AWp.skip ?_ | refine AWp.exit ?_ | refine AWp.ret ?_ | refine AWp.condT rfl ?_ | refine AWp.condF rfl ?_ | refine athen_e ?_ | refine athen_r ?_ | refine ablock_n ?_ | refine ablock_e ?_ | refine ablock_r ?_ | refine ablock_o rfl ?_ | refine ARounds.step ?_) | refine WpL.pass rfl ?_ | refine WpL.go (gd := some _) rfl ?_))
      (first | refine RetQ.same (.inr rfl) (ResL.cons (ResIs.tmp _ _ rfl) ResL.nil) ?_ rfl ?_ | refine RetQ.same (.inr rfl) (ResL.cons (ResIs.tmp _ _ rfl) (ResL.cons (ResIs.tmp _ _ rfl) ResL.nil)) ?_ rfl ?_ | refine RetQ.same (.inr rfl) (ResL.cons (ResIs.tmp _ _ rfl) (ResL.cons (ResIs.tmp _ _ rfl) (ResL.cons (ResIs.tmp _ _ rfl) ResL.nil))) ?_ rfl ?_ | refine RetQ.same (.inr rfl) ResL.nil ?_ rfl ?_ | refine RetQ.same (.inl rfl) (ResL.cons (ResIs.tmp _ _ rfl) ResL.nil) ?_ rfl ?_ | refine RetQ.same (.inl rfl) (ResL.cons (ResIs.tmp _ _ rfl) (ResL.cons (ResIs.tmp _ _ rfl) ResL.nil)) ?_ rfl ?_ | refine RetQ.same (.inl rfl) (ResL.cons (ResIs.tmp _ _ rfl) (ResL.cons (ResIs.tmp _ _ rfl) (ResL.cons (ResIs.tmp _ _ rfl) ResL.nil))) ?_ rfl ?_ | refine RetQ.same (.inl rfl) ResL.nil ?_ rfl ?_)
      · exact Le.of_eq rfl
      · exact .tuple _ (by simp; exact ⟨.str _, .bool _⟩))
theorem showActBad_ok (x : Step) (h : x.akind < 0 ∨ 12 ≤ x.akind) : PureF C 27 [.agg (encStep x)] (.tuple [.str [], .bool false]) := by
  (refine PureF.of fun objs => ?_); (refine ACalls.enter Cplain (nt := 19) (res := [.tmp 2, .tmp 3]) Tryd.func27 rfl rfl Tryd.ntmps27 (by show 1 ≤ 19; omega) ?_)
  (repeat' (first | (refine WpL.cons (by (first | exact St.exec rfl | exact St.newV rfl rfl rfl rfl | exact St.loadL rfl rfl rfl | exact St.stoL rfl rfl rfl rfl rfl | exact St.eqSc rfl | exact St.build rfl)) ?_) | (first | refine athen_n ?_ | refine WpL.nil ?_ | refine AWp.seq ?_ | refine AWp.region rfl ?_ | refine AWp.block ?_ | refine AWp.skip ?_ | refine AWp.exit ?_ | refine AWp.ret ?_ | refine AWp.condT rfl ?_ | refine AWp.condF rfl ?_ | refine athen_e ?_ | refine athen_r ?_ | refine ablock_n ?_ | refine ablock_e ?_ | refine ablock_r ?_ | refine ablock_o rfl ?_ | refine ARounds.step ?_) | refine WpL.pass rfl ?_ | refine WpL.go (gd := some _) rfl ?_ | refine WpL.gSplit rfl (by decide) rfl rfl (fun hc => ?_) (fun hc => ?_) | refine AWp.cond rfl (fun hc => ?_) (fun hc => ?_)))
  · (first | refine RetQ.same (.inr rfl) (ResL.cons (ResIs.tmp _ _ rfl) ResL.nil) ?_ rfl ?_ | refine RetQ.same (.inr rfl) (ResL.cons (ResIs.tmp _ _ rfl) (ResL.cons (ResIs.tmp _ _ rfl) ResL.nil)) ?_ rfl ?_ | refine RetQ.same (.inr rfl) (ResL.cons (ResIs.tmp _ _ rfl) (ResL.cons (ResIs.tmp _ _ rfl) (ResL.cons (ResIs.tmp _ _ rfl) ResL.nil))) ?_ rfl ?_ | refine RetQ.same (.inr rfl) ResL.nil ?_ rfl ?_ | refine RetQ.same (.inl rfl) (ResL.cons (ResIs.tmp _ _ rfl) ResL.nil) ?_ rfl ?_ | refine RetQ.same (.inl rfl) (ResL.cons (ResIs.tmp _ _ rfl) (ResL.cons (ResIs.tmp _ _ rfl) ResL.nil)) ?_ rfl ?_ | refine RetQ.same (.inl rfl) (ResL.cons (ResIs.tmp _ _ rfl) (ResL.cons (ResIs.tmp _ _ rfl) (ResL.cons (ResIs.tmp _ _ rfl) ResL.nil))) ?_ rfl ?_ | refine RetQ.same (.inl rfl) ResL.nil ?_ rfl ?_)
    · exact Le.of_eq rfl
    · exact .tuple _ (by simp; exact ⟨.str _, .bool _⟩)
  · (first | refine RetQ.same (.inr rfl) (ResL.cons (ResIs.tmp _ _ rfl) ResL.nil) ?_ rfl ?_ | refine RetQ.same (.inr rfl) (ResL.cons (ResIs.tmp _ _ rfl) (ResL.cons (ResIs.tmp _ _ rfl) ResL.nil)) ?_ rfl ?_ | refine RetQ.same (.inr rfl) (ResL.cons (ResIs.tmp _ _ rfl) (ResL.cons (ResIs.tmp _ _ rfl) (ResL.cons (ResIs.tmp _ _ rfl) ResL.nil))) ?_ rfl ?_ | refine RetQ.same (.inr rfl) ResL.nil ?_ rfl ?_ | refine RetQ.same (.inl rfl) (ResL.cons (ResIs.tmp _ _ rfl) ResL.nil) ?_ rfl ?_ | refine RetQ.same (.inl rfl) (ResL.cons (ResIs.tmp _ _ rfl) (ResL.cons (ResIs.tmp _ _ rfl) ResL.nil)) ?_ rfl ?_ | refine RetQ.same (.inl rfl) (ResL.cons (ResIs.tmp _ _ rfl) (ResL.cons (ResIs.tmp _ _ rfl) (ResL.cons (ResIs.tmp _ _ rfl) ResL.nil))) ?_ rfl ?_ | refine RetQ.same (.inl rfl) ResL.nil ?_ rfl ?_)
    · exact Le.of_eq rfl
    · exact .tuple _ (by simp; exact ⟨.str _, .bool _⟩)
  · exfalso
    rename_i h1
    simp only [cond_false, leI_def, decide_eq_false_iff_not] at hc
    rw [ltI_f] at h1
    omega

/-- the word of an act, read -/
theorem actAt_inj {i k : Nat} (hi : i < 12) (hk : k < 12) (h : actAt i = actAt k) : i = k := by
  have : ∀ i, i < 12 → ∀ k, k < 12 → actAt i = actAt k → i = k := by decide
  exact this i hi k hk h
theorem readAct_ok (x : Step) (k : Nat) (hk : k < 12) (objs : List AObj) (id : Nat) (ho : objs[id]? = some (.row 43 (encStep x))) :
    ACalls C 28 [.ptr id 0, .str (actAt k)] objs (fun r o => r = .bool true ∧ o = objs.set id (.row 43 (encStep { x with akind := k }))) := by
  (refine ACalls.withLt fun hLt => ?_); (refine ACalls.enter Cplain (nt := 21) (res := [.tmp 4]) Tryd.func28 rfl rfl Tryd.ntmps28 (by show 2 ≤ 21; omega) ?_)
  (repeat (first | (refine WpL.cons (by (first | exact St.exec rfl | exact St.newV rfl rfl rfl rfl | exact St.loadL rfl rfl rfl | exact St.stoL rfl rfl rfl rfl rfl | exact St.eqSc rfl | exact St.build rfl)) ?_) | (first | refine athen_n ?_ | refine WpL.nil ?_ | refine AWp.seq ?_ | refine AWp.region rfl ?_ | refine AWp.block ?_ | refine AWp.skip ?_ | refine AWp.exit ?_ | refine AWp.ret ?_ | refine AWp.condT rfl ?_ | refine AWp.condF rfl ?_ | refine athen_e ?_ | refine athen_r ?_ | refine ablock_n ?_ | refine ablock_e ?_ | refine ablock_r ?_ | refine ablock_o rfl ?_ | refine ARounds.step ?_) | refine WpL.pass rfl ?_ | refine WpL.go (gd := some _) rfl ?_))
  have hid := lt_of_getElem? ho
  refine AWp.loopI (fun i : Nat => ⟨21, objs.length, objs, [], ofL [(0, .ptr id 0), (1, .str (actAt k)), (7, .agg (actsL.map AV.str)), (8, .int .i64 i)]⟩) (fun i => i ≤ k) (fun i => k - i) 0 (Nat.zero_le _) ?_ (fun _ => rfl) ?_
  · exact Wk.same rfl (by repeat (first | exact trivial | refine ⟨Le.of_eq rfl, ?_⟩))
  intro i hi
  (repeat (first | (refine WpL.cons (by (first | exact St.exec rfl | exact St.newV rfl rfl rfl rfl | exact St.loadL rfl rfl rfl | exact St.stoL rfl rfl rfl rfl rfl | exact St.eqSc rfl | exact St.build rfl)) ?_) | (first | refine athen_n ?_ | refine WpL.nil ?_ | refine AWp.seq ?_ | refine AWp.region rfl ?_ | refine AWp.block ?_ | refine AWp.skip ?_ | refine AWp.exit ?_ | refine AWp.ret ?_ | refine AWp.condT rfl ?_ | refine AWp.condF rfl ?_ | refine athen_e ?_ | refine athen_r ?_ | refine ablock_n ?_ | refine ablock_e ?_ | refine ablock_r ?_ | refine ablock_o rfl ?_ | refine ARounds.step ?_) | refine WpL.pass rfl ?_ | refine WpL.go (gd := some _) rfl ?_))
  refine AWp.cond rfl (fun hc => ?_) (fun hc => ?_)
  · have hp : aPart C 9 (actsL.map AV.str) (((i : Int)).toNat * (C.ty 9).size) = some (.str (actAt i)) := by
      have hk' : i = 0 ∨ i = 1 ∨ i = 2 ∨ i = 3 ∨ i = 4 ∨ i = 5 ∨ i = 6 ∨ i = 7 ∨ i = 8 ∨ i = 9 ∨ i = 10 ∨ i = 11 := by omega
      rcases hk' with rfl | rfl | rfl | rfl | rfl | rfl | rfl | rfl | rfl | rfl | rfl | rfl <;> rfl
    (repeat (first | (refine WpL.cons (by (first | exact St.indexAgg rfl rfl rfl rfl (by omega) (by omega) hp  | exact St.exec rfl | exact St.newV rfl rfl rfl rfl | exact St.loadL rfl rfl rfl | exact St.stoL rfl rfl rfl rfl rfl | exact St.eqSc rfl | exact St.build rfl)) ?_) | (first | refine athen_n ?_ | refine WpL.nil ?_ | refine AWp.seq ?_ | refine AWp.region rfl ?_ | refine AWp.block ?_ | refine AWp.skip ?_ | refine AWp.exit ?_ | refine AWp.ret ?_ | refine AWp.condT rfl ?_ | refine AWp.condF rfl ?_ | refine athen_e ?_ | refine athen_r ?_ | refine ablock_n ?_ | refine ablock_e ?_ | refine ablock_r ?_ | refine ablock_o rfl ?_ | refine ARounds.step ?_) | refine WpL.pass rfl ?_ | refine WpL.go (gd := some _) rfl ?_))
    refine AWp.cond rfl (fun hc => ?_) (fun hc => ?_)
    · have hik : i = k := actAt_inj (by omega) hk (eqS_t.1 hc)
      subst hik
      (repeat (first | (refine WpL.cons (by (first | exact St.storeO (out' := objs.set id (.row 43 (encStep { x with akind := i }))) (loc' := []) rfl rfl (fun _ => by rw [List.append_nil]; exact ho) rfl (fun _ => by rw [List.append_nil, List.append_nil]; rfl) (by simp)  | exact St.exec rfl | exact St.newV rfl rfl rfl rfl | exact St.loadL rfl rfl rfl | exact St.stoL rfl rfl rfl rfl rfl | exact St.eqSc rfl | exact St.build rfl)) ?_) | (first | refine athen_n ?_ | refine WpL.nil ?_ | refine AWp.seq ?_ | refine AWp.region rfl ?_ | refine AWp.block ?_ | refine AWp.skip ?_ | refine AWp.exit ?_ | refine AWp.ret ?_ | refine AWp.condT rfl ?_ | refine AWp.condF rfl ?_ | refine athen_e ?_ | refine athen_r ?_ | refine ablock_n ?_ | refine ablock_e ?_ | refine ablock_r ?_ | refine ablock_o rfl ?_ | refine ARounds.step ?_) | refine WpL.pass rfl ?_ | refine WpL.go (gd := some _) rfl ?_))
      (first | refine RetQ.to (objs' := (objs.set id (.row 43 (encStep { x with akind := i })))) (.inr rfl) (ResL.cons (ResIs.tmp _ _ rfl) ResL.nil) (Le.of_eq rfl) ?_ ?_ ?_ ?_ ?_ | refine RetQ.to (objs' := (objs.set id (.row 43 (encStep { x with akind := i })))) (.inr rfl) (ResL.cons (ResIs.tmp _ _ rfl) (ResL.cons (ResIs.tmp _ _ rfl) ResL.nil)) (Le.of_eq rfl) ?_ ?_ ?_ ?_ ?_ | refine RetQ.to (objs' := (objs.set id (.row 43 (encStep { x with akind := i })))) (.inr rfl) (ResL.cons (ResIs.tmp _ _ rfl) (ResL.cons (ResIs.tmp _ _ rfl) (ResL.cons (ResIs.tmp _ _ rfl) ResL.nil))) (Le.of_eq rfl) ?_ ?_ ?_ ?_ ?_ | refine RetQ.to (objs' := (objs.set id (.row 43 (encStep { x with akind := i })))) (.inr rfl) ResL.nil (Le.of_eq rfl) ?_ ?_ ?_ ?_ ?_ | refine RetQ.to (objs' := (objs.set id (.row 43 (encStep { x with akind := i })))) (.inl rfl) (ResL.cons (ResIs.tmp _ _ rfl) ResL.nil) (Le.of_eq rfl) ?_ ?_ ?_ ?_ ?_ | refine RetQ.to (objs' := (objs.set id (.row 43 (encStep { x with akind := i })))) (.inl rfl) (ResL.cons (ResIs.tmp _ _ rfl) (ResL.cons (ResIs.tmp _ _ rfl) ResL.nil)) (Le.of_eq rfl) ?_ ?_ ?_ ?_ ?_ | refine RetQ.to (objs' := (objs.set id (.row 43 (encStep { x with akind := i })))) (.inl rfl) (ResL.cons (ResIs.tmp _ _ rfl) (ResL.cons (ResIs.tmp _ _ rfl) (ResL.cons (ResIs.tmp _ _ rfl) ResL.nil))) (Le.of_eq rfl) ?_ ?_ ?_ ?_ ?_ | refine RetQ.to (objs' := (objs.set id (.row 43 (encStep { x with akind := i })))) (.inl rfl) ResL.nil (Le.of_eq rfl) ?_ ?_ ?_ ?_ ?_)
      · exact List.take_left
      · exact .bool _
      · simp
      · rw [List.length_set]; exact hLt.set _ (objLtStep _ _)
      · exact ⟨rfl, rfl⟩
    · have hne : i ≠ k := fun h => by subst h; exact absurd rfl (eqS_f.1 hc)
      (repeat (first | (refine WpL.cons (by (first | exact St.exec rfl | exact St.newV rfl rfl rfl rfl | exact St.loadL rfl rfl rfl | exact St.stoL rfl rfl rfl rfl rfl | exact St.eqSc rfl | exact St.build rfl)) ?_) | (first | refine athen_n ?_ | refine WpL.nil ?_ | refine AWp.seq ?_ | refine AWp.region rfl ?_ | refine AWp.block ?_ | refine AWp.skip ?_ | refine AWp.exit ?_ | refine AWp.ret ?_ | refine AWp.condT rfl ?_ | refine AWp.condF rfl ?_ | refine athen_e ?_ | refine athen_r ?_ | refine ablock_n ?_ | refine ablock_e ?_ | refine ablock_r ?_ | refine ablock_o rfl ?_ | refine ARounds.step ?_) | refine WpL.pass rfl ?_ | refine WpL.go (gd := some _) rfl ?_))
      refine ⟨i + 1, by omega, by omega, ?_⟩
      rw [wrap_i64 (by omega) (by omega)]
      exact Wk.same rfl (by repeat (first | exact trivial | refine ⟨Le.of_eq rfl, ?_⟩))
  · exfalso
    rw [ltI_f] at hc
    omega
end Go.Proofs.YtdfmefkjjdlbiaaDoor
