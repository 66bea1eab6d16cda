/-
  Atoi of what Itoa tells; the numbers' reader.
-/
import Derived.Test.YtdfmefkjjdlbiaaDoorL55g
import Derived.Test.YtdfmefkjjdlbiaaDoorL55c
namespace Go.Proofs.YtdfmefkjjdlbiaaDoor
open Go Go.Av
set_option maxRecDepth 100000
set_option linter.unusedVariables false
set_option linter.unusedSimpArgs false
attribute [local irreducible] ARounds AWp WpL OpStep OpStepR DrawL AThen ABlock RetQ PureF ACalls

theorem decDigits_ok : ∀ (k u : Nat), u < 10 ^ (k + 1) → (Lib.decDigits u).all digitB = true ∧ digVal (Lib.decDigits u) = u ∧ 1 ≤ (Lib.decDigits u).length ∧ (Lib.decDigits u).length ≤ k + 1 := by
  have one : ∀ u, u < 10 → (Lib.decDigits u).all digitB = true ∧ digVal (Lib.decDigits u) = u ∧ (Lib.decDigits u).length = 1 := by
    intro u hu
    have e : Lib.decDigits u = [UInt8.ofNat (48 + u)] := by rw [Lib.decDigits, dif_pos hu]
    rw [e]
    have hb : (UInt8.ofNat (48 + u)).toNat = 48 + u := by
      rw [UInt8.toNat_ofNat']; omega
    refine ⟨?_, ?_, rfl⟩
    · simp only [List.all_cons, List.all_nil, Bool.and_true, digitB, hb, Bool.and_eq_true, decide_eq_true_eq]; omega
    · simp only [digVal, List.foldl_cons, List.foldl_nil, hb]; omega
  intro k
  induction k with
  | zero => intro u hu; obtain ⟨a, b, c⟩ := one u (by simpa using hu); exact ⟨a, b, by omega, by omega⟩
  | succ k ih =>
    intro u hu
    by_cases h : u < 10
    · obtain ⟨a, b, c⟩ := one u h; exact ⟨a, b, by omega, by omega⟩
    · have e : Lib.decDigits u = Lib.decDigits (u / 10) ++ [UInt8.ofNat (48 + u % 10)] := by rw [Lib.decDigits, dif_neg h]
      obtain ⟨a, b, c, d⟩ := ih (u / 10) (by rw [Nat.pow_succ] at hu; omega)
      have hb : (UInt8.ofNat (48 + u % 10)).toNat = 48 + u % 10 := by
        rw [UInt8.toNat_ofNat']; omega
      rw [e]
      refine ⟨?_, ?_, by simp, by simp; omega⟩
      · simp only [List.all_append, a, List.all_cons, List.all_nil, Bool.and_true, Bool.true_and, digitB, hb, Bool.and_eq_true, decide_eq_true_eq]; omega
      · rw [digVal_snoc, b, hb]; omega

theorem atoiIn_ok (n : Int) (h0 : -1000000000 < n) (h1 : n < 1000000000) : PureF C 51 [.str (Lib.itoa n)] (.tuple [.int .i64 n, .nilIface]) := by
  unfold Lib.itoa
  by_cases hn : n < 0
  · rw [if_pos hn]
    obtain ⟨a, b, c, d⟩ := decDigits_ok 8 n.natAbs (by omega)
    have := atoiNeg_ok _ c (by omega) a
    rw [b] at this
    have e : (-(n.natAbs : Int)) = n := by omega
    rwa [e] at this
  · rw [if_neg hn]
    obtain ⟨a, b, c, d⟩ := decDigits_ok 8 n.toNat (by omega)
    have := atoiPos_ok _ c (by omega) a
    rw [b] at this
    have e : ((n.toNat : Int)) = n := by omega
    rwa [e] at this

theorem atoi_ok (w : List UInt8) (v : Int) (h : PureF C 51 [.str w] (.tuple [.int .i64 v, .nilIface])) : PureF C 34 [.str w] (.tuple [.int .i64 v, .nilIface]) := by
  (refine PureF.of fun objs => ?_); (refine ACalls.enter Cplain (nt := 18) (res := [.tmp 2, .tmp 3]) Tryd.func34 rfl rfl Tryd.ntmps34 (by show 1 ≤ 18; omega) ?_)
  (repeat (first | (refine WpL.cons (by (first | exact St.callF (fid := 51) rfl (h) Tryd.func51 (by kernel_rfl) (by kernel_rfl)  | exact St.exec rfl | exact St.newV rfl rfl rfl rfl | exact St.loadL rfl rfl rfl | exact St.stoL rfl rfl rfl rfl rfl | exact St.eqSc rfl | exact St.build rfl)) ?_) | (first | refine athen_n ?_ | refine WpL.nil ?_ | refine AWp.seq ?_ | refine AWp.region rfl ?_ | refine AWp.block ?_ | refine AWp.skip ?_ | refine AWp.exit ?_ | refine AWp.ret ?_ | refine AWp.condT rfl ?_ | refine AWp.condF rfl ?_ | refine athen_e ?_ | refine athen_r ?_ | refine ablock_n ?_ | refine ablock_e ?_ | refine ablock_r ?_ | refine ablock_o rfl ?_ | refine ARounds.step ?_) | refine WpL.pass rfl ?_ | refine WpL.go (gd := some _) rfl ?_))
  (first | refine RetQ.same (.inr rfl) (ResL.cons (ResIs.tmp _ _ rfl) ResL.nil) ?_ rfl ?_ | refine RetQ.same (.inr rfl) (ResL.cons (ResIs.tmp _ _ rfl) (ResL.cons (ResIs.tmp _ _ rfl) ResL.nil)) ?_ rfl ?_ | refine RetQ.same (.inr rfl) (ResL.cons (ResIs.tmp _ _ rfl) (ResL.cons (ResIs.tmp _ _ rfl) (ResL.cons (ResIs.tmp _ _ rfl) ResL.nil))) ?_ rfl ?_ | refine RetQ.same (.inr rfl) ResL.nil ?_ rfl ?_ | refine RetQ.same (.inl rfl) (ResL.cons (ResIs.tmp _ _ rfl) ResL.nil) ?_ rfl ?_ | refine RetQ.same (.inl rfl) (ResL.cons (ResIs.tmp _ _ rfl) (ResL.cons (ResIs.tmp _ _ rfl) ResL.nil)) ?_ rfl ?_ | refine RetQ.same (.inl rfl) (ResL.cons (ResIs.tmp _ _ rfl) (ResL.cons (ResIs.tmp _ _ rfl) (ResL.cons (ResIs.tmp _ _ rfl) ResL.nil))) ?_ rfl ?_ | refine RetQ.same (.inl rfl) ResL.nil ?_ rfl ?_)
  · exact Le.of_eq rfl
  · exact .tuple _ (by simp; exact ⟨.int _ _, .nilIface⟩)

/-- a number read back -/
theorem readN_ok (x : Step) (n : Int) (h : amongS n = true) (objs : List AObj) (id bid : Nat) (hne : bid ≠ id) (ho : objs[id]? = some (.row 43 (encStep x))) (hb : objs[bid]? = some (.row 91 [.func 35 [] []])) :
    ACalls C 33 [.ptr id 0, .str (Lib.itoa n), .ptr bid 0] objs (fun r o => r = .bool true ∧ o = objs.set id (.row 43 (encStep { x with n := n }))) := by
  have hn : -1048576 ≤ n ∧ n ≤ 1048576 := by
    unfold amongS at h
    cases h1 : leI (-1048576) n with
    | false => rw [h1] at h; cases h
    | true => rw [h1] at h; simp only [cond_true, leI_def, decide_eq_true_eq] at h h1; exact ⟨h1, h⟩
  (refine ACalls.withLt fun hLt => ?_); (refine ACalls.enter Cplain (nt := 30) (res := [.tmp 5]) Tryd.func33 rfl rfl Tryd.ntmps33 (by show 3 ≤ 30; omega) ?_)
  (repeat' (first | (refine WpL.cons (by (first | exact St.callF (fid := 34) rfl (atoi_ok _ _ (atoiIn_ok n (by omega) (by omega))) Tryd.func34 (by kernel_rfl) (by kernel_rfl) | exact St.loadO rfl (fun _ => by rw [List.append_nil]; exact hb) rfl | exact St.callP (fid := 35) (fs := []) (cs := []) rfl rfl (ofN_ok _) Tryd.func35 (by kernel_rfl) (by kernel_rfl) | exact St.storeO (out' := objs.set id (.row 43 (encStep { x with n := n }))) (loc' := []) rfl rfl (fun _ => by rw [List.append_nil]; exact ho) rfl (fun _ => by rw [List.append_nil, List.append_nil]; rfl) (by simp) | exact St.callF (fid := 31) rfl (itoa_ok _ (by omega) (by omega)) Tryd.func31 (by kernel_rfl) (by kernel_rfl) | exact St.callF (fid := 32) rfl (among_ok _) Tryd.func32 (by kernel_rfl) (by kernel_rfl)  | exact St.exec rfl | exact St.newV rfl rfl rfl rfl | exact St.loadL rfl rfl rfl | exact St.stoL rfl rfl rfl rfl rfl | exact St.eqSc rfl | exact St.build rfl)) ?_) | (first | refine athen_n ?_ | refine WpL.nil ?_ | refine AWp.seq ?_ | refine AWp.region rfl ?_ | refine AWp.block ?_ | refine AWp.skip ?_ | refine AWp.exit ?_ | refine AWp.ret ?_ | refine AWp.condT rfl ?_ | refine AWp.condF rfl ?_ | refine athen_e ?_ | refine athen_r ?_ | refine ablock_n ?_ | refine ablock_e ?_ | refine ablock_r ?_ | refine ablock_o rfl ?_ | refine ARounds.step ?_) | refine WpL.pass rfl ?_ | refine WpL.go (gd := some _) rfl ?_ | refine WpL.gSplit rfl (by decide) rfl rfl (fun hc => ?_) (fun hc => ?_)))
  · (first | refine RetQ.to (objs' := (objs.set id (.row 43 (encStep { x with n := n })))) (.inr rfl) (ResL.cons (ResIs.tmp _ _ rfl) ResL.nil) (Le.of_eq rfl) ?_ ?_ ?_ ?_ ?_ | refine RetQ.to (objs' := (objs.set id (.row 43 (encStep { x with n := n })))) (.inr rfl) (ResL.cons (ResIs.tmp _ _ rfl) (ResL.cons (ResIs.tmp _ _ rfl) ResL.nil)) (Le.of_eq rfl) ?_ ?_ ?_ ?_ ?_ | refine RetQ.to (objs' := (objs.set id (.row 43 (encStep { x with n := n })))) (.inr rfl) (ResL.cons (ResIs.tmp _ _ rfl) (ResL.cons (ResIs.tmp _ _ rfl) (ResL.cons (ResIs.tmp _ _ rfl) ResL.nil))) (Le.of_eq rfl) ?_ ?_ ?_ ?_ ?_ | refine RetQ.to (objs' := (objs.set id (.row 43 (encStep { x with n := n })))) (.inr rfl) ResL.nil (Le.of_eq rfl) ?_ ?_ ?_ ?_ ?_ | refine RetQ.to (objs' := (objs.set id (.row 43 (encStep { x with n := n })))) (.inl rfl) (ResL.cons (ResIs.tmp _ _ rfl) ResL.nil) (Le.of_eq rfl) ?_ ?_ ?_ ?_ ?_ | refine RetQ.to (objs' := (objs.set id (.row 43 (encStep { x with n := n })))) (.inl rfl) (ResL.cons (ResIs.tmp _ _ rfl) (ResL.cons (ResIs.tmp _ _ rfl) ResL.nil)) (Le.of_eq rfl) ?_ ?_ ?_ ?_ ?_ | refine RetQ.to (objs' := (objs.set id (.row 43 (encStep { x with n := n })))) (.inl rfl) (ResL.cons (ResIs.tmp _ _ rfl) (ResL.cons (ResIs.tmp _ _ rfl) (ResL.cons (ResIs.tmp _ _ rfl) ResL.nil))) (Le.of_eq rfl) ?_ ?_ ?_ ?_ ?_ | refine RetQ.to (objs' := (objs.set id (.row 43 (encStep { x with n := n })))) (.inl rfl) ResL.nil (Le.of_eq rfl) ?_ ?_ ?_ ?_ ?_)
    · exact List.take_left
    · exact .bool _
    · simp
    · rw [List.length_set]; exact hLt.set _ (objLtStep _ _)
    · refine ⟨?_, rfl⟩
      show AV.bool (cond true (amongS n) false) = _
      rw [h]; rfl
  · exfalso
    simp only [cond_true] at hc
    exact absurd rfl (eqS_f.1 hc)

theorem readBy_ok (x : Step) (n : Int) (h : amongS n = true) (objs : List AObj) (id bid : Nat) (hne : bid ≠ id) (ho : objs[id]? = some (.row 43 (encStep x))) (hb : objs[bid]? = some (.row 91 [.func 36 [] []])) :
    ACalls C 33 [.ptr id 0, .str (Lib.itoa n), .ptr bid 0] objs (fun r o => r = .bool true ∧ o = objs.set id (.row 43 (encStep { x with an := n }))) := by
  have hn : -1048576 ≤ n ∧ n ≤ 1048576 := by
    unfold amongS at h
    cases h1 : leI (-1048576) n with
    | false => rw [h1] at h; cases h
    | true => rw [h1] at h; simp only [cond_true, leI_def, decide_eq_true_eq] at h h1; exact ⟨h1, h⟩
  (refine ACalls.withLt fun hLt => ?_); (refine ACalls.enter Cplain (nt := 30) (res := [.tmp 5]) Tryd.func33 rfl rfl Tryd.ntmps33 (by show 3 ≤ 30; omega) ?_)
  (repeat' (first | (refine WpL.cons (by (first | exact St.callF (fid := 34) rfl (atoi_ok _ _ (atoiIn_ok n (by omega) (by omega))) Tryd.func34 (by kernel_rfl) (by kernel_rfl) | exact St.loadO rfl (fun _ => by rw [List.append_nil]; exact hb) rfl | exact St.callP (fid := 36) (fs := []) (cs := []) rfl rfl (ofBy_ok _) Tryd.func36 (by kernel_rfl) (by kernel_rfl) | exact St.storeO (out' := objs.set id (.row 43 (encStep { x with an := n }))) (loc' := []) rfl rfl (fun _ => by rw [List.append_nil]; exact ho) rfl (fun _ => by rw [List.append_nil, List.append_nil]; rfl) (by simp) | exact St.callF (fid := 31) rfl (itoa_ok _ (by omega) (by omega)) Tryd.func31 (by kernel_rfl) (by kernel_rfl) | exact St.callF (fid := 32) rfl (among_ok _) Tryd.func32 (by kernel_rfl) (by kernel_rfl)  | exact St.exec rfl | exact St.newV rfl rfl rfl rfl | exact St.loadL rfl rfl rfl | exact St.stoL rfl rfl rfl rfl rfl | exact St.eqSc rfl | exact St.build rfl)) ?_) | (first | refine athen_n ?_ | refine WpL.nil ?_ | refine AWp.seq ?_ | refine AWp.region rfl ?_ | refine AWp.block ?_ | refine AWp.skip ?_ | refine AWp.exit ?_ | refine AWp.ret ?_ | refine AWp.condT rfl ?_ | refine AWp.condF rfl ?_ | refine athen_e ?_ | refine athen_r ?_ | refine ablock_n ?_ | refine ablock_e ?_ | refine ablock_r ?_ | refine ablock_o rfl ?_ | refine ARounds.step ?_) | refine WpL.pass rfl ?_ | refine WpL.go (gd := some _) rfl ?_ | refine WpL.gSplit rfl (by decide) rfl rfl (fun hc => ?_) (fun hc => ?_)))
  · (first | refine RetQ.to (objs' := (objs.set id (.row 43 (encStep { x with an := n })))) (.inr rfl) (ResL.cons (ResIs.tmp _ _ rfl) ResL.nil) (Le.of_eq rfl) ?_ ?_ ?_ ?_ ?_ | refine RetQ.to (objs' := (objs.set id (.row 43 (encStep { x with an := n })))) (.inr rfl) (ResL.cons (ResIs.tmp _ _ rfl) (ResL.cons (ResIs.tmp _ _ rfl) ResL.nil)) (Le.of_eq rfl) ?_ ?_ ?_ ?_ ?_ | refine RetQ.to (objs' := (objs.set id (.row 43 (encStep { x with an := n })))) (.inr rfl) (ResL.cons (ResIs.tmp _ _ rfl) (ResL.cons (ResIs.tmp _ _ rfl) (ResL.cons (ResIs.tmp _ _ rfl) ResL.nil))) (Le.of_eq rfl) ?_ ?_ ?_ ?_ ?_ | refine RetQ.to (objs' := (objs.set id (.row 43 (encStep { x with an := n })))) (.inr rfl) ResL.nil (Le.of_eq rfl) ?_ ?_ ?_ ?_ ?_ | refine RetQ.to (objs' := (objs.set id (.row 43 (encStep { x with an := n })))) (.inl rfl) (ResL.cons (ResIs.tmp _ _ rfl) ResL.nil) (Le.of_eq rfl) ?_ ?_ ?_ ?_ ?_ | refine RetQ.to (objs' := (objs.set id (.row 43 (encStep { x with an := n })))) (.inl rfl) (ResL.cons (ResIs.tmp _ _ rfl) (ResL.cons (ResIs.tmp _ _ rfl) ResL.nil)) (Le.of_eq rfl) ?_ ?_ ?_ ?_ ?_ | refine RetQ.to (objs' := (objs.set id (.row 43 (encStep { x with an := n })))) (.inl rfl) (ResL.cons (ResIs.tmp _ _ rfl) (ResL.cons (ResIs.tmp _ _ rfl) (ResL.cons (ResIs.tmp _ _ rfl) ResL.nil))) (Le.of_eq rfl) ?_ ?_ ?_ ?_ ?_ | refine RetQ.to (objs' := (objs.set id (.row 43 (encStep { x with an := n })))) (.inl rfl) ResL.nil (Le.of_eq rfl) ?_ ?_ ?_ ?_ ?_)
    · exact List.take_left
    · exact .bool _
    · simp
    · rw [List.length_set]; exact hLt.set _ (objLtStep _ _)
    · refine ⟨?_, rfl⟩
      show AV.bool (cond true (amongS n) false) = _
      rw [h]; rfl
  · exfalso
    simp only [cond_true] at hc
    exact absurd rfl (eqS_f.1 hc)
end Go.Proofs.YtdfmefkjjdlbiaaDoor
