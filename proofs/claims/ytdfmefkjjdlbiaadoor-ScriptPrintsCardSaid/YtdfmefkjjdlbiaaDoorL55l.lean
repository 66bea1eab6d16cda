/-
  The reference's digits.
-/
import Derived.Test.YtdfmefkjjdlbiaaDoorL55b
import Derived.Test.YtdfmefkjjdlbiaaDoorAvConv
namespace Go.Proofs.YtdfmefkjjdlbiaaDoor
open Go Go.Av
set_option maxRecDepth 100000
set_option linter.unusedVariables false
set_option linter.unusedSimpArgs false
attribute [local irreducible] ARounds AWp WpL OpStep OpStepR DrawL AThen ABlock RetQ PureF ACalls

theorem decBig {u : Nat} (h : ¬ u < 10) : Lib.decDigits u = Lib.decDigits (u / 10) ++ [UInt8.ofNat (48 + u % 10)] := by rw [Lib.decDigits, dif_neg h]
theorem decSmall {u : Nat} (h : u < 10) : Lib.decDigits u = [UInt8.ofNat (48 + u)] := by rw [Lib.decDigits, dif_pos h]
theorem decLen : ∀ (k u : Nat), u < 10 ^ (k + 1) → (Lib.decDigits u).length ≤ k + 1
  | 0, u, h => by rw [decSmall (by simpa using h)]; simp
  | k + 1, u, h => by
    by_cases h10 : u < 10
    · rw [decSmall h10]; simp
    · rw [decBig h10, List.length_append]
      have := decLen k (u / 10) (by rw [Nat.pow_succ] at h; omega)
      simp; omega
theorem wrap_u8' {x : Int} (h1 : 0 ≤ x) (h2 : x ≤ 255) : IntKind.wrap .u8 x = x := by
  unfold IntKind.wrap
  simp [IntKind.bits, IntKind.signed]
  omega
theorem oneB (d : Nat) (hd : d < 10) (v : Int) (hv : v = 48 + d) : [[AV.int .u8 (IntKind.wrap .u8 (IntKind.wrap .i64 v))]] = strElems [UInt8.ofNat (48 + d)] := by
  subst hv
  have hb : (UInt8.ofNat (48 + d)).toNat = 48 + d := by rw [UInt8.toNat_ofNat']; omega
  rw [wrap_i64 (by omega) (by omega), wrap_u8' (by omega) (by omega)]
  simp only [strElems, List.map_cons, List.map_nil, hb]
  rfl

theorem digitsPos_ok : ∀ (k u : Nat), u < 10 ^ (k + 1) → k ≤ 9 → PureF C 41 [.int .i64 u] (.str (Lib.decDigits u)) := by
  intro k
  induction k with
  | zero =>
    intro u hu hk
    have h10 : u < 10 := by simpa using hu
    (refine PureF.of fun objs => ?_); (refine ACalls.enter Cplain (nt := 40) (res := [.tmp 2]) Tryd.func41 rfl rfl Tryd.ntmps41 (by show 1 ≤ 40; omega) ?_)
    (repeat' (first | (refine WpL.cons (by (first | exact St.build rfl | exact St.buildSlice rfl rfl rfl rfl rfl rfl rfl rfl rfl rfl rfl rfl rfl  | exact St.exec rfl | exact St.newV rfl rfl rfl rfl | exact St.loadL rfl rfl rfl | exact St.stoL rfl rfl rfl rfl rfl | exact St.eqSc rfl | exact St.build rfl)) ?_) | (first | refine athen_n ?_ | refine WpL.nil ?_ | refine AWp.seq ?_ | refine AWp.region rfl ?_ | refine AWp.block ?_ | refine AWp.skip ?_ | refine AWp.exit ?_ | refine AWp.ret ?_ | refine AWp.condT rfl ?_ | refine AWp.condF rfl ?_ | refine athen_e ?_ | refine athen_r ?_ | refine ablock_n ?_ | refine ablock_e ?_ | refine ablock_r ?_ | refine ablock_o rfl ?_ | refine ARounds.step ?_) | refine WpL.pass rfl ?_ | refine WpL.go (gd := some _) rfl ?_ | refine WpL.gSplit rfl (by decide) rfl rfl (fun hc => ?_) (fun hc => ?_) | refine AWp.cond rfl (fun hc => ?_) (fun hc => ?_)))
    · exfalso; rename_i h; rw [ltI_t] at h; omega
    · exfalso; rename_i h; rw [ltI_t] at h; omega
    · refine WpL.cons (St.strBytes (l := [UInt8.ofNat (48 + u)]) rfl (oneB u (by omega) _ rfl) (by simp) rfl rfl rfl) ?_
      (repeat (first | (refine WpL.cons (by (first | exact St.exec rfl | exact St.newV rfl rfl rfl rfl | exact St.loadL rfl rfl rfl | exact St.stoL rfl rfl rfl rfl rfl | exact St.eqSc rfl | exact St.build rfl)) ?_) | (first | refine athen_n ?_ | refine WpL.nil ?_ | refine AWp.seq ?_ | refine AWp.region rfl ?_ | refine AWp.block ?_ | refine AWp.skip ?_ | refine AWp.exit ?_ | refine AWp.ret ?_ | refine AWp.condT rfl ?_ | refine AWp.condF rfl ?_ | refine athen_e ?_ | refine athen_r ?_ | refine ablock_n ?_ | refine ablock_e ?_ | refine ablock_r ?_ | refine ablock_o rfl ?_ | refine ARounds.step ?_) | refine WpL.pass rfl ?_ | refine WpL.go (gd := some _) rfl ?_))
      (first | refine RetQ.same (.inr rfl) (ResL.cons (ResIs.tmp _ _ rfl) ResL.nil) ?_ rfl ?_ | refine RetQ.same (.inr rfl) (ResL.cons (ResIs.tmp _ _ rfl) (ResL.cons (ResIs.tmp _ _ rfl) ResL.nil)) ?_ rfl ?_ | refine RetQ.same (.inr rfl) (ResL.cons (ResIs.tmp _ _ rfl) (ResL.cons (ResIs.tmp _ _ rfl) (ResL.cons (ResIs.tmp _ _ rfl) ResL.nil))) ?_ rfl ?_ | refine RetQ.same (.inr rfl) ResL.nil ?_ rfl ?_ | refine RetQ.same (.inl rfl) (ResL.cons (ResIs.tmp _ _ rfl) ResL.nil) ?_ rfl ?_ | refine RetQ.same (.inl rfl) (ResL.cons (ResIs.tmp _ _ rfl) (ResL.cons (ResIs.tmp _ _ rfl) ResL.nil)) ?_ rfl ?_ | refine RetQ.same (.inl rfl) (ResL.cons (ResIs.tmp _ _ rfl) (ResL.cons (ResIs.tmp _ _ rfl) (ResL.cons (ResIs.tmp _ _ rfl) ResL.nil))) ?_ rfl ?_ | refine RetQ.same (.inl rfl) ResL.nil ?_ rfl ?_)
      · exact Le.of_eq (by rw [decSmall h10]; rfl)
      · exact .str _
    · exfalso; rw [ltI_f] at hc; omega
  | succ k ih =>
    intro u hu hk
    have hp : 10 ^ (k + 1) ≤ 10 ^ 9 := Nat.pow_le_pow_right (by omega) (by omega)
    rw [Nat.pow_succ] at hu
    (refine PureF.of fun objs => ?_); (refine ACalls.enter Cplain (nt := 40) (res := [.tmp 2]) Tryd.func41 rfl rfl Tryd.ntmps41 (by show 1 ≤ 40; omega) ?_)
    (repeat' (first | (refine WpL.cons (by (first | exact St.build rfl | exact St.buildSlice rfl rfl rfl rfl rfl rfl rfl rfl rfl rfl rfl rfl rfl  | exact St.exec rfl | exact St.newV rfl rfl rfl rfl | exact St.loadL rfl rfl rfl | exact St.stoL rfl rfl rfl rfl rfl | exact St.eqSc rfl | exact St.build rfl)) ?_) | (first | refine athen_n ?_ | refine WpL.nil ?_ | refine AWp.seq ?_ | refine AWp.region rfl ?_ | refine AWp.block ?_ | refine AWp.skip ?_ | refine AWp.exit ?_ | refine AWp.ret ?_ | refine AWp.condT rfl ?_ | refine AWp.condF rfl ?_ | refine athen_e ?_ | refine athen_r ?_ | refine ablock_n ?_ | refine ablock_e ?_ | refine ablock_r ?_ | refine ablock_o rfl ?_ | refine ARounds.step ?_) | refine WpL.pass rfl ?_ | refine WpL.go (gd := some _) rfl ?_ | refine WpL.gSplit rfl (by decide) rfl rfl (fun hc => ?_) (fun hc => ?_) | refine AWp.cond rfl (fun hc => ?_) (fun hc => ?_)))
    · exfalso; rename_i h; rw [ltI_t] at h; omega
    · exfalso; rename_i h; rw [ltI_t] at h; omega
    · have h10 : u < 10 := by rw [ltI_t] at hc; omega
      refine WpL.cons (St.strBytes (l := [UInt8.ofNat (48 + u)]) rfl (oneB u (by omega) _ rfl) (by simp) rfl rfl rfl) ?_
      (repeat (first | (refine WpL.cons (by (first | exact St.exec rfl | exact St.newV rfl rfl rfl rfl | exact St.loadL rfl rfl rfl | exact St.stoL rfl rfl rfl rfl rfl | exact St.eqSc rfl | exact St.build rfl)) ?_) | (first | refine athen_n ?_ | refine WpL.nil ?_ | refine AWp.seq ?_ | refine AWp.region rfl ?_ | refine AWp.block ?_ | refine AWp.skip ?_ | refine AWp.exit ?_ | refine AWp.ret ?_ | refine AWp.condT rfl ?_ | refine AWp.condF rfl ?_ | refine athen_e ?_ | refine athen_r ?_ | refine ablock_n ?_ | refine ablock_e ?_ | refine ablock_r ?_ | refine ablock_o rfl ?_ | refine ARounds.step ?_) | refine WpL.pass rfl ?_ | refine WpL.go (gd := some _) rfl ?_))
      (first | refine RetQ.same (.inr rfl) (ResL.cons (ResIs.tmp _ _ rfl) ResL.nil) ?_ rfl ?_ | refine RetQ.same (.inr rfl) (ResL.cons (ResIs.tmp _ _ rfl) (ResL.cons (ResIs.tmp _ _ rfl) ResL.nil)) ?_ rfl ?_ | refine RetQ.same (.inr rfl) (ResL.cons (ResIs.tmp _ _ rfl) (ResL.cons (ResIs.tmp _ _ rfl) (ResL.cons (ResIs.tmp _ _ rfl) ResL.nil))) ?_ rfl ?_ | refine RetQ.same (.inr rfl) ResL.nil ?_ rfl ?_ | refine RetQ.same (.inl rfl) (ResL.cons (ResIs.tmp _ _ rfl) ResL.nil) ?_ rfl ?_ | refine RetQ.same (.inl rfl) (ResL.cons (ResIs.tmp _ _ rfl) (ResL.cons (ResIs.tmp _ _ rfl) ResL.nil)) ?_ rfl ?_ | refine RetQ.same (.inl rfl) (ResL.cons (ResIs.tmp _ _ rfl) (ResL.cons (ResIs.tmp _ _ rfl) (ResL.cons (ResIs.tmp _ _ rfl) ResL.nil))) ?_ rfl ?_ | refine RetQ.same (.inl rfl) ResL.nil ?_ rfl ?_)
      · exact Le.of_eq (by rw [decSmall h10]; rfl)
      · exact .str _
    · have h10 : ¬ u < 10 := by rw [ltI_f] at hc; omega
      have hq : IntKind.wrap .i64 ((u : Int).tdiv 10) = ((u / 10 : Nat) : Int) := by
        have e : (u : Int).tdiv 10 = ((u / 10 : Nat) : Int) := rfl
        rw [e, wrap_i64 (by omega) (by omega)]
      have ih' := ih (u / 10) (by omega) (by omega)
      rw [← hq] at ih'
      have hlen := decLen k (u / 10) (by omega)
      (refine AWp.draw Cmix (by kernel_rfl) rfl ?_)
      (repeat (first | refine DrawL.nil ?_ | refine DrawL.pass rfl ?_ | refine DrawL.go rfl rfl (by (first | exact St.callF (fid := 41) rfl (ih') Tryd.func41 (by kernel_rfl) (by kernel_rfl) | exact St.build rfl | exact St.buildSlice rfl rfl rfl rfl rfl rfl rfl rfl rfl rfl rfl rfl rfl | exact St.strBytes (l := [UInt8.ofNat (48 + u % 10)]) rfl (oneB (u % 10) (by omega) _ rfl) (by simp) rfl rfl rfl | exact St.strAdd rfl rfl (by simp; omega)  | exact St.exec rfl | exact St.newV rfl rfl rfl rfl | exact St.loadL rfl rfl rfl | exact St.stoL rfl rfl rfl rfl rfl | exact St.eqSc rfl | exact St.build rfl)) ?_))
      (repeat (first | (refine WpL.cons (by (first | exact St.exec rfl | exact St.newV rfl rfl rfl rfl | exact St.loadL rfl rfl rfl | exact St.stoL rfl rfl rfl rfl rfl | exact St.eqSc rfl | exact St.build rfl)) ?_) | (first | refine athen_n ?_ | refine WpL.nil ?_ | refine AWp.seq ?_ | refine AWp.region rfl ?_ | refine AWp.block ?_ | refine AWp.skip ?_ | refine AWp.exit ?_ | refine AWp.ret ?_ | refine AWp.condT rfl ?_ | refine AWp.condF rfl ?_ | refine athen_e ?_ | refine athen_r ?_ | refine ablock_n ?_ | refine ablock_e ?_ | refine ablock_r ?_ | refine ablock_o rfl ?_ | refine ARounds.step ?_) | refine WpL.pass rfl ?_ | refine WpL.go (gd := some _) rfl ?_))
      (first | refine RetQ.same (.inr rfl) (ResL.cons (ResIs.tmp _ _ rfl) ResL.nil) ?_ rfl ?_ | refine RetQ.same (.inr rfl) (ResL.cons (ResIs.tmp _ _ rfl) (ResL.cons (ResIs.tmp _ _ rfl) ResL.nil)) ?_ rfl ?_ | refine RetQ.same (.inr rfl) (ResL.cons (ResIs.tmp _ _ rfl) (ResL.cons (ResIs.tmp _ _ rfl) (ResL.cons (ResIs.tmp _ _ rfl) ResL.nil))) ?_ rfl ?_ | refine RetQ.same (.inr rfl) ResL.nil ?_ rfl ?_ | refine RetQ.same (.inl rfl) (ResL.cons (ResIs.tmp _ _ rfl) ResL.nil) ?_ rfl ?_ | refine RetQ.same (.inl rfl) (ResL.cons (ResIs.tmp _ _ rfl) (ResL.cons (ResIs.tmp _ _ rfl) ResL.nil)) ?_ rfl ?_ | refine RetQ.same (.inl rfl) (ResL.cons (ResIs.tmp _ _ rfl) (ResL.cons (ResIs.tmp _ _ rfl) (ResL.cons (ResIs.tmp _ _ rfl) ResL.nil))) ?_ rfl ?_ | refine RetQ.same (.inl rfl) ResL.nil ?_ rfl ?_)
      · exact Le.of_eq (by rw [decBig h10]; rfl)
      · exact .str _

theorem digitsNeg_ok : ∀ (k u : Nat), 0 < u → u < 10 ^ (k + 1) → k ≤ 9 → PureF C 41 [.int .i64 (-(u : Int))] (.str (45 :: Lib.decDigits u)) := by
  intro k
  induction k with
  | zero =>
    intro u h0 hu hk
    have h10 : u < 10 := by simpa using hu
    (refine PureF.of fun objs => ?_); (refine ACalls.enter Cplain (nt := 40) (res := [.tmp 2]) Tryd.func41 rfl rfl Tryd.ntmps41 (by show 1 ≤ 40; omega) ?_)
    (repeat' (first | (refine WpL.cons (by (first | exact St.build rfl | exact St.buildSlice rfl rfl rfl rfl rfl rfl rfl rfl rfl rfl rfl rfl rfl  | exact St.exec rfl | exact St.newV rfl rfl rfl rfl | exact St.loadL rfl rfl rfl | exact St.stoL rfl rfl rfl rfl rfl | exact St.eqSc rfl | exact St.build rfl)) ?_) | (first | refine athen_n ?_ | refine WpL.nil ?_ | refine AWp.seq ?_ | refine AWp.region rfl ?_ | refine AWp.block ?_ | refine AWp.skip ?_ | refine AWp.exit ?_ | refine AWp.ret ?_ | refine AWp.condT rfl ?_ | refine AWp.condF rfl ?_ | refine athen_e ?_ | refine athen_r ?_ | refine ablock_n ?_ | refine ablock_e ?_ | refine ablock_r ?_ | refine ablock_o rfl ?_ | refine ARounds.step ?_) | refine WpL.pass rfl ?_ | refine WpL.go (gd := some _) rfl ?_ | refine WpL.gSplit rfl (by decide) rfl rfl (fun hc => ?_) (fun hc => ?_) | refine AWp.cond rfl (fun hc => ?_) (fun hc => ?_)))
    · refine WpL.cons (St.strBytes (l := [UInt8.ofNat (48 + u)]) rfl (oneB u (by omega) _ (by omega)) (by simp) rfl rfl rfl) ?_
      (repeat (first | (refine WpL.cons (by (first | exact St.strAdd rfl rfl (by simp)  | exact St.exec rfl | exact St.newV rfl rfl rfl rfl | exact St.loadL rfl rfl rfl | exact St.stoL rfl rfl rfl rfl rfl | exact St.eqSc rfl | exact St.build rfl)) ?_) | (first | refine athen_n ?_ | refine WpL.nil ?_ | refine AWp.seq ?_ | refine AWp.region rfl ?_ | refine AWp.block ?_ | refine AWp.skip ?_ | refine AWp.exit ?_ | refine AWp.ret ?_ | refine AWp.condT rfl ?_ | refine AWp.condF rfl ?_ | refine athen_e ?_ | refine athen_r ?_ | refine ablock_n ?_ | refine ablock_e ?_ | refine ablock_r ?_ | refine ablock_o rfl ?_ | refine ARounds.step ?_) | refine WpL.pass rfl ?_ | refine WpL.go (gd := some _) rfl ?_))
      (first | refine RetQ.same (.inr rfl) (ResL.cons (ResIs.tmp _ _ rfl) ResL.nil) ?_ rfl ?_ | refine RetQ.same (.inr rfl) (ResL.cons (ResIs.tmp _ _ rfl) (ResL.cons (ResIs.tmp _ _ rfl) ResL.nil)) ?_ rfl ?_ | refine RetQ.same (.inr rfl) (ResL.cons (ResIs.tmp _ _ rfl) (ResL.cons (ResIs.tmp _ _ rfl) (ResL.cons (ResIs.tmp _ _ rfl) ResL.nil))) ?_ rfl ?_ | refine RetQ.same (.inr rfl) ResL.nil ?_ rfl ?_ | refine RetQ.same (.inl rfl) (ResL.cons (ResIs.tmp _ _ rfl) ResL.nil) ?_ rfl ?_ | refine RetQ.same (.inl rfl) (ResL.cons (ResIs.tmp _ _ rfl) (ResL.cons (ResIs.tmp _ _ rfl) ResL.nil)) ?_ rfl ?_ | refine RetQ.same (.inl rfl) (ResL.cons (ResIs.tmp _ _ rfl) (ResL.cons (ResIs.tmp _ _ rfl) (ResL.cons (ResIs.tmp _ _ rfl) ResL.nil))) ?_ rfl ?_ | refine RetQ.same (.inl rfl) ResL.nil ?_ rfl ?_)
      · exact Le.of_eq (by rw [decSmall h10]; rfl)
      · exact .str _
    · exfalso; rw [ltI_f] at hc; omega
    · exfalso; rename_i h; rw [ltI_f] at h; omega
    · exfalso; rename_i h; rw [ltI_f] at h; omega
  | succ k ih =>
    intro u h0 hu hk
    have hp : 10 ^ (k + 1) ≤ 10 ^ 9 := Nat.pow_le_pow_right (by omega) (by omega)
    rw [Nat.pow_succ] at hu
    (refine PureF.of fun objs => ?_); (refine ACalls.enter Cplain (nt := 40) (res := [.tmp 2]) Tryd.func41 rfl rfl Tryd.ntmps41 (by show 1 ≤ 40; omega) ?_)
    (repeat' (first | (refine WpL.cons (by (first | exact St.build rfl | exact St.buildSlice rfl rfl rfl rfl rfl rfl rfl rfl rfl rfl rfl rfl rfl  | exact St.exec rfl | exact St.newV rfl rfl rfl rfl | exact St.loadL rfl rfl rfl | exact St.stoL rfl rfl rfl rfl rfl | exact St.eqSc rfl | exact St.build rfl)) ?_) | (first | refine athen_n ?_ | refine WpL.nil ?_ | refine AWp.seq ?_ | refine AWp.region rfl ?_ | refine AWp.block ?_ | refine AWp.skip ?_ | refine AWp.exit ?_ | refine AWp.ret ?_ | refine AWp.condT rfl ?_ | refine AWp.condF rfl ?_ | refine athen_e ?_ | refine athen_r ?_ | refine ablock_n ?_ | refine ablock_e ?_ | refine ablock_r ?_ | refine ablock_o rfl ?_ | refine ARounds.step ?_) | refine WpL.pass rfl ?_ | refine WpL.go (gd := some _) rfl ?_ | refine WpL.gSplit rfl (by decide) rfl rfl (fun hc => ?_) (fun hc => ?_) | refine AWp.cond rfl (fun hc => ?_) (fun hc => ?_)))
    · have h10 : u < 10 := by rw [ltI_t] at hc; omega
      refine WpL.cons (St.strBytes (l := [UInt8.ofNat (48 + u)]) rfl (oneB u (by omega) _ (by omega)) (by simp) rfl rfl rfl) ?_
      (repeat (first | (refine WpL.cons (by (first | exact St.strAdd rfl rfl (by simp)  | exact St.exec rfl | exact St.newV rfl rfl rfl rfl | exact St.loadL rfl rfl rfl | exact St.stoL rfl rfl rfl rfl rfl | exact St.eqSc rfl | exact St.build rfl)) ?_) | (first | refine athen_n ?_ | refine WpL.nil ?_ | refine AWp.seq ?_ | refine AWp.region rfl ?_ | refine AWp.block ?_ | refine AWp.skip ?_ | refine AWp.exit ?_ | refine AWp.ret ?_ | refine AWp.condT rfl ?_ | refine AWp.condF rfl ?_ | refine athen_e ?_ | refine athen_r ?_ | refine ablock_n ?_ | refine ablock_e ?_ | refine ablock_r ?_ | refine ablock_o rfl ?_ | refine ARounds.step ?_) | refine WpL.pass rfl ?_ | refine WpL.go (gd := some _) rfl ?_))
      (first | refine RetQ.same (.inr rfl) (ResL.cons (ResIs.tmp _ _ rfl) ResL.nil) ?_ rfl ?_ | refine RetQ.same (.inr rfl) (ResL.cons (ResIs.tmp _ _ rfl) (ResL.cons (ResIs.tmp _ _ rfl) ResL.nil)) ?_ rfl ?_ | refine RetQ.same (.inr rfl) (ResL.cons (ResIs.tmp _ _ rfl) (ResL.cons (ResIs.tmp _ _ rfl) (ResL.cons (ResIs.tmp _ _ rfl) ResL.nil))) ?_ rfl ?_ | refine RetQ.same (.inr rfl) ResL.nil ?_ rfl ?_ | refine RetQ.same (.inl rfl) (ResL.cons (ResIs.tmp _ _ rfl) ResL.nil) ?_ rfl ?_ | refine RetQ.same (.inl rfl) (ResL.cons (ResIs.tmp _ _ rfl) (ResL.cons (ResIs.tmp _ _ rfl) ResL.nil)) ?_ rfl ?_ | refine RetQ.same (.inl rfl) (ResL.cons (ResIs.tmp _ _ rfl) (ResL.cons (ResIs.tmp _ _ rfl) (ResL.cons (ResIs.tmp _ _ rfl) ResL.nil))) ?_ rfl ?_ | refine RetQ.same (.inl rfl) ResL.nil ?_ rfl ?_)
      · exact Le.of_eq (by rw [decSmall h10]; rfl)
      · exact .str _
    · have h10 : ¬ u < 10 := by rw [ltI_f] at hc; omega
      have hq : IntKind.wrap .i64 ((-(u : Int)).tdiv 10) = -((u / 10 : Nat) : Int) := by
        have e : (-(u : Int)).tdiv 10 = -((u / 10 : Nat) : Int) := by rw [Int.neg_tdiv]; rfl
        rw [e, wrap_i64 (by omega) (by omega)]
      have hr : (-(u : Int)).tmod 10 = -((u % 10 : Nat) : Int) := by rw [Int.neg_tmod]; rfl
      have ih' := ih (u / 10) (by omega) (by omega) (by omega)
      rw [← hq] at ih'
      have hlen := decLen k (u / 10) (by omega)
      (refine AWp.draw Cmix (by kernel_rfl) rfl ?_)
      (repeat (first | refine DrawL.nil ?_ | refine DrawL.pass rfl ?_ | refine DrawL.go rfl rfl (by (first | exact St.callF (fid := 41) rfl (ih') Tryd.func41 (by kernel_rfl) (by kernel_rfl) | exact St.build rfl | exact St.buildSlice rfl rfl rfl rfl rfl rfl rfl rfl rfl rfl rfl rfl rfl | exact St.strBytes (l := [UInt8.ofNat (48 + u % 10)]) rfl (oneB (u % 10) (by omega) _ (by show (48 : Int) - (-(u : Int)).tmod 10 = _; rw [hr]; omega)) (by simp) rfl rfl rfl | exact St.strAdd rfl rfl (by simp; omega)  | exact St.exec rfl | exact St.newV rfl rfl rfl rfl | exact St.loadL rfl rfl rfl | exact St.stoL rfl rfl rfl rfl rfl | exact St.eqSc rfl | exact St.build rfl)) ?_))
      (repeat (first | (refine WpL.cons (by (first | exact St.exec rfl | exact St.newV rfl rfl rfl rfl | exact St.loadL rfl rfl rfl | exact St.stoL rfl rfl rfl rfl rfl | exact St.eqSc rfl | exact St.build rfl)) ?_) | (first | refine athen_n ?_ | refine WpL.nil ?_ | refine AWp.seq ?_ | refine AWp.region rfl ?_ | refine AWp.block ?_ | refine AWp.skip ?_ | refine AWp.exit ?_ | refine AWp.ret ?_ | refine AWp.condT rfl ?_ | refine AWp.condF rfl ?_ | refine athen_e ?_ | refine athen_r ?_ | refine ablock_n ?_ | refine ablock_e ?_ | refine ablock_r ?_ | refine ablock_o rfl ?_ | refine ARounds.step ?_) | refine WpL.pass rfl ?_ | refine WpL.go (gd := some _) rfl ?_))
      (first | refine RetQ.same (.inr rfl) (ResL.cons (ResIs.tmp _ _ rfl) ResL.nil) ?_ rfl ?_ | refine RetQ.same (.inr rfl) (ResL.cons (ResIs.tmp _ _ rfl) (ResL.cons (ResIs.tmp _ _ rfl) ResL.nil)) ?_ rfl ?_ | refine RetQ.same (.inr rfl) (ResL.cons (ResIs.tmp _ _ rfl) (ResL.cons (ResIs.tmp _ _ rfl) (ResL.cons (ResIs.tmp _ _ rfl) ResL.nil))) ?_ rfl ?_ | refine RetQ.same (.inr rfl) ResL.nil ?_ rfl ?_ | refine RetQ.same (.inl rfl) (ResL.cons (ResIs.tmp _ _ rfl) ResL.nil) ?_ rfl ?_ | refine RetQ.same (.inl rfl) (ResL.cons (ResIs.tmp _ _ rfl) (ResL.cons (ResIs.tmp _ _ rfl) ResL.nil)) ?_ rfl ?_ | refine RetQ.same (.inl rfl) (ResL.cons (ResIs.tmp _ _ rfl) (ResL.cons (ResIs.tmp _ _ rfl) (ResL.cons (ResIs.tmp _ _ rfl) ResL.nil))) ?_ rfl ?_ | refine RetQ.same (.inl rfl) ResL.nil ?_ rfl ?_)
      · exact Le.of_eq (by rw [decBig h10]; rfl)
      · exact .str _
    · exfalso; rename_i h; rw [ltI_f] at h; omega
    · exfalso; rename_i h; rw [ltI_f] at h; omega

theorem digits_ok (n : Int) (h0 : -1000000000 < n) (h1 : n < 1000000000) : PureF C 41 [.int .i64 n] (.str (Lib.itoa n)) := by
  unfold Lib.itoa
  by_cases hn : n < 0
  · rw [if_pos hn]
    have := digitsNeg_ok 8 n.natAbs (by omega) (by omega) (by omega)
    have e : (-(n.natAbs : Int)) = n := by omega
    rwa [e] at this
  · rw [if_neg hn]
    have := digitsPos_ok 8 n.toNat (by omega) (by omega)
    have e : ((n.toNat : Int)) = n := by omega
    rwa [e] at this
end Go.Proofs.YtdfmefkjjdlbiaaDoor
