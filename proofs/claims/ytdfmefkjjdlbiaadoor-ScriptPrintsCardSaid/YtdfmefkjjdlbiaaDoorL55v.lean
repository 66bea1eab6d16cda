/-
  The mark of a box.
-/
import Derived.Test.YtdfmefkjjdlbiaaDoorL55u
namespace Go.Proofs.YtdfmefkjjdlbiaaDoor
open Go Go.Av
set_option maxRecDepth 100000
set_option linter.unusedVariables false
set_option linter.unusedSimpArgs false
attribute [local irreducible] ARounds AWp WpL OpStep OpStepR DrawL AThen ABlock RetQ PureF ACalls

def boxsL : List UInt8 := [98, 111, 120, 115]
def markB (n : Int) : List UInt8 := boxsL ++ padL 6 (Lib.itoa n)
def markS (n : Int) : List UInt8 := markB n ++ padL 2 (Lib.itoa (sumS (markB n)))
theorem pad6 (n : Int) (h0 : 0 ≤ n) (h1 : n ≤ 999999) : (padL 6 (Lib.itoa n)).length = 6 ∧ (padL 6 (Lib.itoa n)).all digitB = true := by
  have e : Lib.itoa n = Lib.decDigits n.toNat := by unfold Lib.itoa; rw [if_neg (by omega)]
  obtain ⟨a, _, c, d⟩ := decDigits_ok 5 n.toNat (by omega)
  rw [e]
  unfold padL
  refine ⟨by simp; omega, ?_⟩
  rw [List.all_append, a, Bool.and_true, List.all_eq_true]
  intro x hx
  rw [(List.mem_replicate.1 hx).2]; decide
theorem headB (n : Int) (h0 : 0 ≤ n) (h1 : n ≤ 999999) : headS (markB n) := by
  obtain ⟨h2, h3⟩ := pad6 n h0 h1
  refine ⟨by simp [markB, boxsL, h2], fun j hj => ⟨fun hj4 => ?_, fun hj4 => ?_⟩⟩
  · have : j = 0 ∨ j = 1 ∨ j = 2 ∨ j = 3 := by omega
    rcases this with rfl | rfl | rfl | rfl <;> simp [byteAt, markB, boxsL]
  · have hlt : j - 4 < (padL 6 (Lib.itoa n)).length := by omega
    have hm := List.all_eq_true.1 h3 _ (List.getElem_mem hlt)
    simp only [digitB, Bool.and_eq_true, decide_eq_true_eq] at hm
    have hb : byteAt (markB n) j = ((padL 6 (Lib.itoa n))[j - 4].toNat : Int) := by
      unfold byteAt markB
      rw [Int.toNat_natCast, List.getD_eq_getElem?_getD, List.getElem?_append_right (by simp [boxsL]; omega)]
      have : j - boxsL.length = j - 4 := rfl
      rw [this, List.getElem?_eq_getElem hlt]; rfl
    rw [hb]; omega
theorem markB_len (n : Int) (h0 : 0 ≤ n) (h1 : n ≤ 999999) : (markB n).length = 10 := by
  have := (pad6 n h0 h1).1
  simp [markB, boxsL, this]
theorem sumS_range (n : Int) (h0 : 0 ≤ n) (h1 : n ≤ 999999) : 0 ≤ sumS (markB n) ∧ sumS (markB n) < 97 := by
  have := sumTo_range (headB n h0 h1) 10 (Nat.le_refl _)
  unfold sumS
  rw [Int.tmod_eq_emod_of_nonneg (by omega)]
  omega
attribute [local irreducible] padL Lib.itoa sumS
theorem make_ok (n : Int) (h0 : 0 ≤ n) (h1 : n ≤ 999999) : PureF C 47 [.str [98, 111, 120, 115], .int .i64 n] (.tuple [.str (markS n), .int .i64 0]) := by
  have hbl : ([98, 111, 120, 115] : List UInt8).length = 4 := rfl
  (refine PureF.of fun objs => ?_); (refine ACalls.enter Cplain (nt := 35) (res := [.tmp 4, .tmp 5]) Tryd.func47 rfl rfl Tryd.ntmps47 (by show 2 ≤ 35; omega) ?_)
  (repeat' (first | (refine WpL.cons (by (first | exact St.exec rfl | exact St.newV rfl rfl rfl rfl | exact St.loadL rfl rfl rfl | exact St.stoL rfl rfl rfl rfl rfl | exact St.eqSc rfl | exact St.build rfl)) ?_) | (first | refine athen_n ?_ | refine WpL.nil ?_ | refine AWp.seq ?_ | refine AWp.region rfl ?_ | refine AWp.block ?_ | refine AWp.skip ?_ | refine AWp.exit ?_ | refine AWp.ret ?_ | refine AWp.condT rfl ?_ | refine AWp.condF rfl ?_ | refine athen_e ?_ | refine athen_r ?_ | refine ablock_n ?_ | refine ablock_e ?_ | refine ablock_r ?_ | refine ablock_o rfl ?_ | refine ARounds.step ?_) | refine WpL.pass rfl ?_ | refine WpL.go (gd := some _) rfl ?_ | refine AWp.kT rfl (by first | exact eqI_t.2 (by first | omega | decide) | exact ltI_t.2 (by first | omega | decide) | exact leI_t.2 (by first | omega | decide) | exact not_t (eqI_f.2 (by first | omega | decide)) | exact eqS_t.2 rfl | exact not_t (eqS_f.2 (by decide)) | assumption) ?_ | refine AWp.kF rfl (by first | exact eqI_f.2 (by first | omega | decide) | exact ltI_f.2 (by first | omega | decide) | exact leI_f.2 (by first | omega | decide) | exact not_f (eqI_t.2 (by first | omega | decide)) | exact not_f (eqS_t.2 rfl) | exact eqS_f.2 (by decide) | assumption) ?_ | refine WpL.gT rfl (by decide) rfl rfl (by first | exact eqI_t.2 (by first | omega | decide) | exact ltI_t.2 (by first | omega | decide) | exact leI_t.2 (by first | omega | decide) | exact not_t (eqI_f.2 (by first | omega | decide)) | exact eqS_t.2 rfl | exact not_t (eqS_f.2 (by decide)) | assumption) ?_ | refine WpL.gF rfl (by decide) rfl rfl (by first | exact eqI_f.2 (by first | omega | decide) | exact ltI_f.2 (by first | omega | decide) | exact leI_f.2 (by first | omega | decide) | exact not_f (eqI_t.2 (by first | omega | decide)) | exact not_f (eqS_t.2 rfl) | exact eqS_f.2 (by decide) | assumption) ?_))
  refine AWp.loopI (fun i : Nat => ⟨35, objs.length, objs, [], ofL [(0, .str [98, 111, 120, 115]), (1, .int .i64 n), (11, .int .i64 i)]⟩) (fun i => i ≤ 4) (fun i => 4 - i) 0 (by omega) ?_ (fun _ => rfl) ?_
  · exact Wk.same rfl (by repeat (first | exact trivial | refine ⟨Le.of_eq rfl, ?_⟩))
  intro i hi
  by_cases hlt : i < 4
  · have hL : isLetterS (byteAt [98, 111, 120, 115] i) = true := by
      refine isLetterS_t ?_
      have : i = 0 ∨ i = 1 ∨ i = 2 ∨ i = 3 := by omega
      rcases this with rfl | rfl | rfl | rfl <;> simp [byteAt]
    (repeat' (first | (refine WpL.cons (by (first | exact St.indexStr rfl rfl rfl (by omega) (by rw [hbl]; omega) | exact St.callF (fid := 48) rfl (isLetter_ok _) Tryd.func48 (by kernel_rfl) (by kernel_rfl)  | exact St.exec rfl | exact St.newV rfl rfl rfl rfl | exact St.loadL rfl rfl rfl | exact St.stoL rfl rfl rfl rfl rfl | exact St.eqSc rfl | exact St.build rfl)) ?_) | (first | refine athen_n ?_ | refine WpL.nil ?_ | refine AWp.seq ?_ | refine AWp.region rfl ?_ | refine AWp.block ?_ | refine AWp.skip ?_ | refine AWp.exit ?_ | refine AWp.ret ?_ | refine AWp.condT rfl ?_ | refine AWp.condF rfl ?_ | refine athen_e ?_ | refine athen_r ?_ | refine ablock_n ?_ | refine ablock_e ?_ | refine ablock_r ?_ | refine ablock_o rfl ?_ | refine ARounds.step ?_) | refine WpL.pass rfl ?_ | refine WpL.go (gd := some _) rfl ?_ | refine AWp.kT rfl (by first | exact eqI_t.2 (by first | omega | decide) | exact ltI_t.2 (by first | omega | decide) | exact leI_t.2 (by first | omega | decide) | exact not_t (eqI_f.2 (by first | omega | decide)) | exact eqS_t.2 rfl | exact not_t (eqS_f.2 (by decide)) | assumption) ?_ | refine AWp.kF rfl (by first | exact eqI_f.2 (by first | omega | decide) | exact ltI_f.2 (by first | omega | decide) | exact leI_f.2 (by first | omega | decide) | exact not_f (eqI_t.2 (by first | omega | decide)) | exact not_f (eqS_t.2 rfl) | exact eqS_f.2 (by decide) | assumption) ?_ | refine WpL.gT rfl (by decide) rfl rfl (by first | exact eqI_t.2 (by first | omega | decide) | exact ltI_t.2 (by first | omega | decide) | exact leI_t.2 (by first | omega | decide) | exact not_t (eqI_f.2 (by first | omega | decide)) | exact eqS_t.2 rfl | exact not_t (eqS_f.2 (by decide)) | assumption) ?_ | refine WpL.gF rfl (by decide) rfl rfl (by first | exact eqI_f.2 (by first | omega | decide) | exact ltI_f.2 (by first | omega | decide) | exact leI_f.2 (by first | omega | decide) | exact not_f (eqI_t.2 (by first | omega | decide)) | exact not_f (eqS_t.2 rfl) | exact eqS_f.2 (by decide) | assumption) ?_))
    refine AWp.kF rfl (not_f hL) ?_
    (repeat' (first | (refine WpL.cons (by (first | exact St.exec rfl | exact St.newV rfl rfl rfl rfl | exact St.loadL rfl rfl rfl | exact St.stoL rfl rfl rfl rfl rfl | exact St.eqSc rfl | exact St.build rfl)) ?_) | (first | refine athen_n ?_ | refine WpL.nil ?_ | refine AWp.seq ?_ | refine AWp.region rfl ?_ | refine AWp.block ?_ | refine AWp.skip ?_ | refine AWp.exit ?_ | refine AWp.ret ?_ | refine AWp.condT rfl ?_ | refine AWp.condF rfl ?_ | refine athen_e ?_ | refine athen_r ?_ | refine ablock_n ?_ | refine ablock_e ?_ | refine ablock_r ?_ | refine ablock_o rfl ?_ | refine ARounds.step ?_) | refine WpL.pass rfl ?_ | refine WpL.go (gd := some _) rfl ?_ | refine AWp.kT rfl (by first | exact eqI_t.2 (by first | omega | decide) | exact ltI_t.2 (by first | omega | decide) | exact leI_t.2 (by first | omega | decide) | exact not_t (eqI_f.2 (by first | omega | decide)) | exact eqS_t.2 rfl | exact not_t (eqS_f.2 (by decide)) | assumption) ?_ | refine AWp.kF rfl (by first | exact eqI_f.2 (by first | omega | decide) | exact ltI_f.2 (by first | omega | decide) | exact leI_f.2 (by first | omega | decide) | exact not_f (eqI_t.2 (by first | omega | decide)) | exact not_f (eqS_t.2 rfl) | exact eqS_f.2 (by decide) | assumption) ?_ | refine WpL.gT rfl (by decide) rfl rfl (by first | exact eqI_t.2 (by first | omega | decide) | exact ltI_t.2 (by first | omega | decide) | exact leI_t.2 (by first | omega | decide) | exact not_t (eqI_f.2 (by first | omega | decide)) | exact eqS_t.2 rfl | exact not_t (eqS_f.2 (by decide)) | assumption) ?_ | refine WpL.gF rfl (by decide) rfl rfl (by first | exact eqI_f.2 (by first | omega | decide) | exact ltI_f.2 (by first | omega | decide) | exact leI_f.2 (by first | omega | decide) | exact not_f (eqI_t.2 (by first | omega | decide)) | exact not_f (eqS_t.2 rfl) | exact eqS_f.2 (by decide) | assumption) ?_))
    refine ⟨i + 1, by omega, by omega, ?_⟩
    rw [wrap_i64 (by omega) (by omega)]
    exact Wk.same rfl (by repeat (first | exact trivial | refine ⟨Le.of_eq rfl, ?_⟩))
  · have : i = 4 := by omega
    subst this
    have hm := markB_len n h0 h1
    have hs := sumS_range n h0 h1
    have hSum : PureF C 59 [.str ([98, 111, 120, 115] ++ padL 6 (Lib.itoa n))] (.int .i64 (sumS (markB n))) := markSum_ok (markB n) (headB n h0 h1) (by omega)
    have hp6 := (pad6 n h0 h1).1
    have hp2 : (padL 2 (Lib.itoa (sumS (markB n)))).length ≤ 22 := by
      have := itoa_len (sumS (markB n)) (by omega) (by omega)
      unfold padL; simp; omega
    (repeat' (first | (refine WpL.cons (by (first | exact St.callF (fid := 58) rfl (digits2_ok n 6 h0 (by omega) (by omega)) Tryd.func58 (by kernel_rfl) (by kernel_rfl) | exact St.callF (fid := 59) rfl (hSum) Tryd.func59 (by kernel_rfl) (by kernel_rfl) | exact St.callF (fid := 58) rfl (digits2_ok _ 2 hs.1 (by omega) (by omega)) Tryd.func58 (by kernel_rfl) (by kernel_rfl) | exact St.strAdd rfl rfl (by (try simp only [List.length_append, List.length_cons, List.length_nil]); omega)  | exact St.exec rfl | exact St.newV rfl rfl rfl rfl | exact St.loadL rfl rfl rfl | exact St.stoL rfl rfl rfl rfl rfl | exact St.eqSc rfl | exact St.build rfl)) ?_) | (first | refine athen_n ?_ | refine WpL.nil ?_ | refine AWp.seq ?_ | refine AWp.region rfl ?_ | refine AWp.block ?_ | refine AWp.skip ?_ | refine AWp.exit ?_ | refine AWp.ret ?_ | refine AWp.condT rfl ?_ | refine AWp.condF rfl ?_ | refine athen_e ?_ | refine athen_r ?_ | refine ablock_n ?_ | refine ablock_e ?_ | refine ablock_r ?_ | refine ablock_o rfl ?_ | refine ARounds.step ?_) | refine WpL.pass rfl ?_ | refine WpL.go (gd := some _) rfl ?_ | refine AWp.kT rfl (by first | exact eqI_t.2 (by first | omega | decide) | exact ltI_t.2 (by first | omega | decide) | exact leI_t.2 (by first | omega | decide) | exact not_t (eqI_f.2 (by first | omega | decide)) | exact eqS_t.2 rfl | exact not_t (eqS_f.2 (by decide)) | assumption) ?_ | refine AWp.kF rfl (by first | exact eqI_f.2 (by first | omega | decide) | exact ltI_f.2 (by first | omega | decide) | exact leI_f.2 (by first | omega | decide) | exact not_f (eqI_t.2 (by first | omega | decide)) | exact not_f (eqS_t.2 rfl) | exact eqS_f.2 (by decide) | assumption) ?_ | refine WpL.gT rfl (by decide) rfl rfl (by first | exact eqI_t.2 (by first | omega | decide) | exact ltI_t.2 (by first | omega | decide) | exact leI_t.2 (by first | omega | decide) | exact not_t (eqI_f.2 (by first | omega | decide)) | exact eqS_t.2 rfl | exact not_t (eqS_f.2 (by decide)) | assumption) ?_ | refine WpL.gF rfl (by decide) rfl rfl (by first | exact eqI_f.2 (by first | omega | decide) | exact ltI_f.2 (by first | omega | decide) | exact leI_f.2 (by first | omega | decide) | exact not_f (eqI_t.2 (by first | omega | decide)) | exact not_f (eqS_t.2 rfl) | exact eqS_f.2 (by decide) | assumption) ?_))
    (first | refine RetQ.same (.inr rfl) (ResL.cons (ResIs.tmp _ _ rfl) ResL.nil) ?_ rfl ?_ | refine RetQ.same (.inr rfl) (ResL.cons (ResIs.tmp _ _ rfl) (ResL.cons (ResIs.tmp _ _ rfl) ResL.nil)) ?_ rfl ?_ | refine RetQ.same (.inr rfl) (ResL.cons (ResIs.tmp _ _ rfl) (ResL.cons (ResIs.tmp _ _ rfl) (ResL.cons (ResIs.tmp _ _ rfl) ResL.nil))) ?_ rfl ?_ | refine RetQ.same (.inr rfl) ResL.nil ?_ rfl ?_ | refine RetQ.same (.inl rfl) (ResL.cons (ResIs.tmp _ _ rfl) ResL.nil) ?_ rfl ?_ | refine RetQ.same (.inl rfl) (ResL.cons (ResIs.tmp _ _ rfl) (ResL.cons (ResIs.tmp _ _ rfl) ResL.nil)) ?_ rfl ?_ | refine RetQ.same (.inl rfl) (ResL.cons (ResIs.tmp _ _ rfl) (ResL.cons (ResIs.tmp _ _ rfl) (ResL.cons (ResIs.tmp _ _ rfl) ResL.nil))) ?_ rfl ?_ | refine RetQ.same (.inl rfl) ResL.nil ?_ rfl ?_)
    · exact Le.of_eq rfl
    · exact .tuple _ (by simp; exact ⟨.str _, .int _ _⟩)
end Go.Proofs.YtdfmefkjjdlbiaaDoor
