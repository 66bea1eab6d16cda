/-
  The reference's names.
-/
import Derived.Test.YtdfmefkjjdlbiaaDoorL55a
namespace Go.Proofs.YtdfmefkjjdlbiaaDoor
open Go Go.Av
set_option maxRecDepth 100000
set_option linter.unusedVariables false
set_option linter.unusedSimpArgs false
attribute [local irreducible] ARounds AWp WpL OpStep OpStepR DrawL AThen ABlock RetQ PureF ACalls

theorem refName_ok (s : List UInt8) (hs : s.length < 2 ^ 40) : PureF C 39 [.str s] (.bool (nameS s)) := by
  (refine PureF.of fun objs => ?_); (refine ACalls.enter Cplain (nt := 36) (res := [.tmp 2]) Tryd.func39 rfl rfl Tryd.ntmps39 (by show 1 ≤ 36; omega) ?_)
  (repeat (first | (refine WpL.cons (by (first | exact St.exec rfl | exact St.newV rfl rfl rfl rfl | exact St.loadL rfl rfl rfl | exact St.stoL rfl rfl rfl rfl rfl | exact St.eqSc rfl | exact St.build rfl)) ?_) | (first | refine athen_n ?_ | refine WpL.nil ?_ | refine AWp.seq ?_ | refine AWp.region rfl ?_ | refine AWp.block ?_ | refine AWp.skip ?_ | refine AWp.exit ?_ | refine AWp.ret ?_ | refine AWp.condT rfl ?_ | refine AWp.condF rfl ?_ | refine athen_e ?_ | refine athen_r ?_ | refine ablock_n ?_ | refine ablock_e ?_ | refine ablock_r ?_ | refine ablock_o rfl ?_ | refine ARounds.step ?_) | refine WpL.pass rfl ?_ | refine WpL.go (gd := some _) rfl ?_))
  refine AWp.loopI (fun i : Nat => ⟨36, objs.length, objs, [], ofL [(0, .str s), (3, .int .i64 i)]⟩) (fun i => i ≤ s.length ∧ (s.take i).all signS = true) (fun i => s.length - i) 0 ⟨by omega, by simp⟩ ?_ (fun _ => rfl) ?_
  · exact Wk.same rfl ⟨Le.of_eq rfl, Le.of_eq rfl, trivial⟩
  rintro i ⟨hi, hpre⟩
  (repeat (first | (refine WpL.cons (by (first | exact St.exec rfl | exact St.newV rfl rfl rfl rfl | exact St.loadL rfl rfl rfl | exact St.stoL rfl rfl rfl rfl rfl | exact St.eqSc rfl | exact St.build rfl)) ?_) | (first | refine athen_n ?_ | refine WpL.nil ?_ | refine AWp.seq ?_ | refine AWp.region rfl ?_ | refine AWp.block ?_ | refine AWp.skip ?_ | refine AWp.exit ?_ | refine AWp.ret ?_ | refine AWp.condT rfl ?_ | refine AWp.condF rfl ?_ | refine athen_e ?_ | refine athen_r ?_ | refine ablock_n ?_ | refine ablock_e ?_ | refine ablock_r ?_ | refine ablock_o rfl ?_ | refine ARounds.step ?_) | refine WpL.pass rfl ?_ | refine WpL.go (gd := some _) rfl ?_))
  refine AWp.cond rfl (fun hlt => ?_) (fun hge => ?_)
  · have hlt' : i < s.length := by
      have hlt : ltI (i : Int) (s.length : Int) = true := hlt
      rw [ltI_t] at hlt; omega
    have hb := byteAt_get hlt'
    (repeat' (first | (refine WpL.cons (by (first | exact St.indexStr rfl rfl rfl (by omega) (by omega) | exact St.strAdd rfl rfl (by simp; omega) | exact St.callF (fid := 55) rfl (letter_ok _) Tryd.func55 (by kernel_rfl) (by kernel_rfl) | exact St.callF (fid := 56) rfl (digit_ok _) Tryd.func56 (by kernel_rfl) (by kernel_rfl)  | exact St.exec rfl | exact St.newV rfl rfl rfl rfl | exact St.loadL rfl rfl rfl | exact St.stoL rfl rfl rfl rfl rfl | exact St.eqSc rfl | exact St.build rfl)) ?_) | (first | refine athen_n ?_ | refine WpL.nil ?_ | refine AWp.seq ?_ | refine AWp.region rfl ?_ | refine AWp.block ?_ | refine AWp.skip ?_ | refine AWp.exit ?_ | refine AWp.ret ?_ | refine AWp.condT rfl ?_ | refine AWp.condF rfl ?_ | refine athen_e ?_ | refine athen_r ?_ | refine ablock_n ?_ | refine ablock_e ?_ | refine ablock_r ?_ | refine ablock_o rfl ?_ | refine ARounds.step ?_) | refine WpL.pass rfl ?_ | refine WpL.go (gd := some _) rfl ?_ | refine WpL.gSplit rfl (by decide) rfl rfl (fun hc => ?_) (fun hc => ?_) | refine AWp.cond rfl (fun hc => ?_) (fun hc => ?_)))
    · (first | refine RetQ.same (.inr rfl) (ResL.cons (ResIs.tmp _ _ rfl) ResL.nil) ?_ rfl ?_ | refine RetQ.same (.inr rfl) (ResL.cons (ResIs.tmp _ _ rfl) (ResL.cons (ResIs.tmp _ _ rfl) ResL.nil)) ?_ rfl ?_ | refine RetQ.same (.inr rfl) (ResL.cons (ResIs.tmp _ _ rfl) (ResL.cons (ResIs.tmp _ _ rfl) (ResL.cons (ResIs.tmp _ _ rfl) ResL.nil))) ?_ rfl ?_ | refine RetQ.same (.inr rfl) ResL.nil ?_ rfl ?_ | refine RetQ.same (.inl rfl) (ResL.cons (ResIs.tmp _ _ rfl) ResL.nil) ?_ rfl ?_ | refine RetQ.same (.inl rfl) (ResL.cons (ResIs.tmp _ _ rfl) (ResL.cons (ResIs.tmp _ _ rfl) ResL.nil)) ?_ rfl ?_ | refine RetQ.same (.inl rfl) (ResL.cons (ResIs.tmp _ _ rfl) (ResL.cons (ResIs.tmp _ _ rfl) (ResL.cons (ResIs.tmp _ _ rfl) ResL.nil))) ?_ rfl ?_ | refine RetQ.same (.inl rfl) ResL.nil ?_ rfl ?_)
      · refine Le.of_eq ?_
        rw [nameS_bad hlt' (by rw [hb] at *; unfold signS; simp_all)]; rfl
      · exact .bool _
    all_goals (
      refine ⟨i + 1, by omega, ⟨by omega, by rw [all_take_succ hlt', hpre]; rw [hb] at *; unfold signS; simp_all⟩, ?_⟩
      have hi1 : IntKind.wrap .i64 ((i : Int) + 1) = ((i + 1 : Nat) : Int) := by rw [wrap_i64 (by omega) (by omega)]; omega
      exact Wk.same rfl ⟨Le.of_eq rfl, Le.of_eq (congrArg (AV.int .i64) hi1), trivial⟩)
  · have he : i = s.length := by
      have hge : ltI (i : Int) (s.length : Int) = false := hge
      rw [ltI_f] at hge; omega
    (repeat' (first | (refine WpL.cons (by (first | exact St.exec rfl | exact St.newV rfl rfl rfl rfl | exact St.loadL rfl rfl rfl | exact St.stoL rfl rfl rfl rfl rfl | exact St.eqSc rfl | exact St.build rfl)) ?_) | (first | refine athen_n ?_ | refine WpL.nil ?_ | refine AWp.seq ?_ | refine AWp.region rfl ?_ | refine AWp.block ?_ | refine AWp.skip ?_ | refine AWp.exit ?_ | refine AWp.ret ?_ | refine AWp.condT rfl ?_ | refine AWp.condF rfl ?_ | refine athen_e ?_ | refine athen_r ?_ | refine ablock_n ?_ | refine ablock_e ?_ | refine ablock_r ?_ | refine ablock_o rfl ?_ | refine ARounds.step ?_) | refine WpL.pass rfl ?_ | refine WpL.go (gd := some _) rfl ?_ | refine WpL.gSplit rfl (by decide) rfl rfl (fun hc => ?_) (fun hc => ?_) | refine AWp.cond rfl (fun hc => ?_) (fun hc => ?_)))
    · (first | refine RetQ.same (.inr rfl) (ResL.cons (ResIs.tmp _ _ rfl) ResL.nil) ?_ rfl ?_ | refine RetQ.same (.inr rfl) (ResL.cons (ResIs.tmp _ _ rfl) (ResL.cons (ResIs.tmp _ _ rfl) ResL.nil)) ?_ rfl ?_ | refine RetQ.same (.inr rfl) (ResL.cons (ResIs.tmp _ _ rfl) (ResL.cons (ResIs.tmp _ _ rfl) (ResL.cons (ResIs.tmp _ _ rfl) ResL.nil))) ?_ rfl ?_ | refine RetQ.same (.inr rfl) ResL.nil ?_ rfl ?_ | refine RetQ.same (.inl rfl) (ResL.cons (ResIs.tmp _ _ rfl) ResL.nil) ?_ rfl ?_ | refine RetQ.same (.inl rfl) (ResL.cons (ResIs.tmp _ _ rfl) (ResL.cons (ResIs.tmp _ _ rfl) ResL.nil)) ?_ rfl ?_ | refine RetQ.same (.inl rfl) (ResL.cons (ResIs.tmp _ _ rfl) (ResL.cons (ResIs.tmp _ _ rfl) (ResL.cons (ResIs.tmp _ _ rfl) ResL.nil))) ?_ rfl ?_ | refine RetQ.same (.inl rfl) ResL.nil ?_ rfl ?_)
      · refine Le.of_eq ?_
        show AV.bool (cond true (leI (s.length : Int) 16) false) = AV.bool (nameS s)
        rw [leI_def] at hc
        have hc := of_decide_eq_true hc
        subst he
        rw [List.take_length] at hpre
        simp only [cond_true, leI_def, nameS, hpre, Bool.and_true]
        rw [show decide (1 ≤ s.length) = true from decide_eq_true (by omega), Bool.true_and]
        congr 1
        rw [Bool.eq_iff_iff]; simp; omega
      · exact .bool _
    · (first | refine RetQ.same (.inr rfl) (ResL.cons (ResIs.tmp _ _ rfl) ResL.nil) ?_ rfl ?_ | refine RetQ.same (.inr rfl) (ResL.cons (ResIs.tmp _ _ rfl) (ResL.cons (ResIs.tmp _ _ rfl) ResL.nil)) ?_ rfl ?_ | refine RetQ.same (.inr rfl) (ResL.cons (ResIs.tmp _ _ rfl) (ResL.cons (ResIs.tmp _ _ rfl) (ResL.cons (ResIs.tmp _ _ rfl) ResL.nil))) ?_ rfl ?_ | refine RetQ.same (.inr rfl) ResL.nil ?_ rfl ?_ | refine RetQ.same (.inl rfl) (ResL.cons (ResIs.tmp _ _ rfl) ResL.nil) ?_ rfl ?_ | refine RetQ.same (.inl rfl) (ResL.cons (ResIs.tmp _ _ rfl) (ResL.cons (ResIs.tmp _ _ rfl) ResL.nil)) ?_ rfl ?_ | refine RetQ.same (.inl rfl) (ResL.cons (ResIs.tmp _ _ rfl) (ResL.cons (ResIs.tmp _ _ rfl) (ResL.cons (ResIs.tmp _ _ rfl) ResL.nil))) ?_ rfl ?_ | refine RetQ.same (.inl rfl) ResL.nil ?_ rfl ?_)
      · refine Le.of_eq ?_
        rw [leI_def] at hc
        have hc := of_decide_eq_false hc
        rw [nameS_long (.inl (by omega))]; rfl
      · exact .bool _
end Go.Proofs.YtdfmefkjjdlbiaaDoor
