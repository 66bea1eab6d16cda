/-
  Numerals, read.
-/
import Derived.Test.YtdfmefkjjdlbiaaDoorL55b
import Derived.Test.YtdfmefkjjdlbiaaDoorAvConv
namespace Go.Proofs.YtdfmefkjjdlbiaaDoor
open Go Go.Av
set_option maxRecDepth 100000
set_option linter.unusedVariables false
set_option linter.unusedSimpArgs false
attribute [local irreducible] ARounds AWp WpL OpStep OpStepR DrawL AThen ABlock RetQ PureF ACalls

def digitB (b : UInt8) : Bool := decide (48 ≤ b.toNat) && decide (b.toNat ≤ 57)
def digVal (l : List UInt8) : Nat := l.foldl (fun n b => n * 10 + (b.toNat - 48)) 0
theorem digVal_snoc (l : List UInt8) (b : UInt8) : digVal (l ++ [b]) = digVal l * 10 + (b.toNat - 48) := by simp [digVal]
theorem digVal_lt : ∀ (k : Nat) (l : List UInt8), l.length = k → l.all digitB = true → digVal l < 10 ^ k
  | 0, l, h, _ => by have := List.eq_nil_of_length_eq_zero h; subst this; decide
  | k + 1, l, h, ha => by
    have hne : l ≠ [] := fun e => by subst e; simp at h
    obtain ⟨l', b, rfl⟩ : ∃ l' b, l = l' ++ [b] := ⟨l.dropLast, l.getLast hne, (List.dropLast_concat_getLast hne).symm⟩
    simp only [List.all_append, List.all_cons, List.all_nil, Bool.and_true, Bool.and_eq_true] at ha
    have ih := digVal_lt k l' (by simpa using h) ha.1
    have hb := ha.2
    simp only [digitB, Bool.and_eq_true, decide_eq_true_eq] at hb
    rw [digVal_snoc, Nat.pow_succ]
    omega

theorem wrap_u8 {x : Int} (h1 : 0 ≤ x) (h2 : x ≤ 255) : IntKind.wrap .u8 x = x := by
  unfold IntKind.wrap
  simp [IntKind.bits, IntKind.signed]
  omega
theorem atoiPos_ok (ds : List UInt8) (h1 : 1 ≤ ds.length) (h2 : ds.length ≤ 10) (hd : ds.all digitB = true) : PureF C 51 [.str ds] (.tuple [.int .i64 (digVal ds), .nilIface]) := by
  have hb0 : byteAt ds 0 = (ds[0].toNat : Int) := byteAt_get (i := 0) (by omega)
  have hd0 : 48 ≤ ds[0].toNat ∧ ds[0].toNat ≤ 57 := by
    have := List.all_eq_true.1 hd ds[0] (List.getElem_mem _)
    simpa [digitB] using this
  (refine PureF.of fun objs => ?_); (refine ACalls.enter Cplain (nt := 77) (res := [.tmp 2, .tmp 3]) Tryd.func51 rfl rfl Tryd.ntmps51 (by show 1 ≤ 77; omega) ?_)
  (repeat' (first | (refine WpL.cons (by (first | exact St.indexStr rfl rfl rfl (by omega) (by omega) | exact St.convBytes rfl rfl rfl rfl  | exact St.exec rfl | exact St.newV rfl rfl rfl rfl | exact St.loadL rfl rfl rfl | exact St.stoL rfl rfl rfl rfl rfl | exact St.eqSc rfl | exact St.build rfl)) ?_) | (first | refine athen_n ?_ | refine WpL.nil ?_ | refine AWp.seq ?_ | refine AWp.region rfl ?_ | refine AWp.block ?_ | refine AWp.skip ?_ | refine AWp.exit ?_ | refine AWp.ret ?_ | refine AWp.condT rfl ?_ | refine AWp.condF rfl ?_ | refine athen_e ?_ | refine athen_r ?_ | refine ablock_n ?_ | refine ablock_e ?_ | refine ablock_r ?_ | refine ablock_o rfl ?_ | refine ARounds.step ?_) | refine WpL.pass rfl ?_ | refine WpL.go (gd := some _) rfl ?_ | refine WpL.gSplit rfl (by decide) rfl rfl (fun hc => ?_) (fun hc => ?_) | refine AWp.cond rfl (fun hc => ?_) (fun hc => ?_)))
  · exfalso
    rw [hb0, eqI_t] at hc; omega
  · exfalso
    simp only [cond_false] at hc
    rw [hb0, eqI_t] at hc; omega
  · refine AWp.loopI (fun i : Nat => ⟨77, objs.length, objs, [], ofL [(0, .str ds), (5, .str ds), (6, .int .i64 (digVal (ds.take i))), (47, .slc (strElems ds) .unk), (48, .int .i64 ds.length), (49, .int .i64 i)]⟩) (fun i => i ≤ ds.length) (fun i => ds.length - i) 0 (Nat.zero_le _) ?_ (fun _ => rfl) ?_
    · exact Wk.same rfl ⟨Le.of_eq rfl, Le.of_eq rfl, Le.of_eq rfl, Le.of_eq rfl, Le.of_eq (by show AV.int .i64 ((strElems ds).length : Int) = _; rw [strElems_len]), Le.of_eq rfl, trivial⟩
    intro i hi
    (repeat (first | (refine WpL.cons (by (first | exact St.exec rfl | exact St.newV rfl rfl rfl rfl | exact St.loadL rfl rfl rfl | exact St.stoL rfl rfl rfl rfl rfl | exact St.eqSc rfl | exact St.build rfl)) ?_) | (first | refine athen_n ?_ | refine WpL.nil ?_ | refine AWp.seq ?_ | refine AWp.region rfl ?_ | refine AWp.block ?_ | refine AWp.skip ?_ | refine AWp.exit ?_ | refine AWp.ret ?_ | refine AWp.condT rfl ?_ | refine AWp.condF rfl ?_ | refine athen_e ?_ | refine athen_r ?_ | refine ablock_n ?_ | refine ablock_e ?_ | refine ablock_r ?_ | refine ablock_o rfl ?_ | refine ARounds.step ?_) | refine WpL.pass rfl ?_ | refine WpL.go (gd := some _) rfl ?_))
    refine AWp.cond rfl (fun hlt => ?_) (fun hge => ?_)
    · rw [ltI_t] at hlt
      have hlt' : i < ds.length := by omega
      have hel : (strElems ds)[((i : Int)).toNat]? = some [.int .u8 ds[i].toNat] := by simp [strElems, hlt']
      have hdi : 48 ≤ ds[i].toNat ∧ ds[i].toNat ≤ 57 := by
        have := List.all_eq_true.1 hd ds[i] (List.getElem_mem _)
        simpa [digitB] using this
      have hw8 : IntKind.wrap .u8 ((ds[i].toNat : Int) - 48) = (ds[i].toNat : Int) - 48 := wrap_u8 (by omega) (by omega)
      have hv := digVal_lt i (ds.take i) (by simp; omega) (by
        rw [List.all_eq_true] at hd ⊢
        exact fun x hx => hd x (List.mem_of_mem_take hx))
      have hv2 : 10 ^ i ≤ 10 ^ 9 := Nat.pow_le_pow_right (by omega) (by omega)
      have hw1 : IntKind.wrap .i64 ((digVal (ds.take i) : Int) * 10) = (digVal (ds.take i) : Int) * 10 := wrap_i64 (by omega) (by omega)
      (repeat (first | (refine WpL.cons (by (first | exact St.indexSlc rfl rfl rfl rfl (by omega) (by assumption) rfl  | exact St.exec rfl | exact St.newV rfl rfl rfl rfl | exact St.loadL rfl rfl rfl | exact St.stoL rfl rfl rfl rfl rfl | exact St.eqSc rfl | exact St.build rfl)) ?_) | (first | refine athen_n ?_ | refine WpL.nil ?_ | refine AWp.seq ?_ | refine AWp.region rfl ?_ | refine AWp.block ?_ | refine AWp.skip ?_ | refine AWp.exit ?_ | refine AWp.ret ?_ | refine AWp.condT rfl ?_ | refine AWp.condF rfl ?_ | refine athen_e ?_ | refine athen_r ?_ | refine ablock_n ?_ | refine ablock_e ?_ | refine ablock_r ?_ | refine ablock_o rfl ?_ | refine ARounds.step ?_) | refine WpL.pass rfl ?_ | refine WpL.go (gd := some _) rfl ?_))
      refine AWp.cond rfl (fun hc9 => ?_) (fun hc9 => ?_)
      · exfalso
        have hc9 : ltI 9 (IntKind.wrap .u8 ((ds[i].toNat : Int) - 48)) = true := hc9
        rw [hw8, ltI_t] at hc9
        omega
      · (repeat (first | (refine WpL.cons (by (first | exact St.exec rfl | exact St.newV rfl rfl rfl rfl | exact St.loadL rfl rfl rfl | exact St.stoL rfl rfl rfl rfl rfl | exact St.eqSc rfl | exact St.build rfl)) ?_) | (first | refine athen_n ?_ | refine WpL.nil ?_ | refine AWp.seq ?_ | refine AWp.region rfl ?_ | refine AWp.block ?_ | refine AWp.skip ?_ | refine AWp.exit ?_ | refine AWp.ret ?_ | refine AWp.condT rfl ?_ | refine AWp.condF rfl ?_ | refine athen_e ?_ | refine athen_r ?_ | refine ablock_n ?_ | refine ablock_e ?_ | refine ablock_r ?_ | refine ablock_o rfl ?_ | refine ARounds.step ?_) | refine WpL.pass rfl ?_ | refine WpL.go (gd := some _) rfl ?_))
        refine ⟨i + 1, by omega, by omega, ?_⟩
        have hn : IntKind.wrap .i64 (IntKind.wrap .i64 ((digVal (ds.take i) : Int) * 10) + IntKind.wrap .i64 (IntKind.wrap .u8 ((ds[i].toNat : Int) - 48))) = (digVal (ds.take (i + 1)) : Int) := by
          rw [hw8, hw1, wrap_i64 (x := (ds[i].toNat : Int) - 48) (by omega) (by omega), wrap_i64 (by omega) (by omega), List.take_succ_eq_append_getElem hlt', digVal_snoc]
          omega
        have hi1 : IntKind.wrap .i64 ((i : Int) + 1) = ((i + 1 : Nat) : Int) := by rw [wrap_i64 (by omega) (by omega)]; omega
        exact Wk.same rfl ⟨Le.of_eq rfl, Le.of_eq rfl, Le.of_eq (congrArg (AV.int .i64) hn), Le.of_eq rfl, Le.of_eq rfl, Le.of_eq (congrArg (AV.int .i64) hi1), trivial⟩
    · rw [ltI_f] at hge
      have he : i = ds.length := by omega
      (repeat (first | (refine WpL.cons (by (first | exact St.indexStr rfl rfl rfl (by omega) (by omega)  | exact St.exec rfl | exact St.newV rfl rfl rfl rfl | exact St.loadL rfl rfl rfl | exact St.stoL rfl rfl rfl rfl rfl | exact St.eqSc rfl | exact St.build rfl)) ?_) | (first | refine athen_n ?_ | refine WpL.nil ?_ | refine AWp.seq ?_ | refine AWp.region rfl ?_ | refine AWp.block ?_ | refine AWp.skip ?_ | refine AWp.exit ?_ | refine AWp.ret ?_ | refine AWp.condT rfl ?_ | refine AWp.condF rfl ?_ | refine athen_e ?_ | refine athen_r ?_ | refine ablock_n ?_ | refine ablock_e ?_ | refine ablock_r ?_ | refine ablock_o rfl ?_ | refine ARounds.step ?_) | refine WpL.pass rfl ?_ | refine WpL.go (gd := some _) rfl ?_))
      refine AWp.cond rfl (fun hc9 => ?_) (fun hc9 => ?_)
      · exfalso
        have hc9 : eqI (byteAt ds 0) 45 = true := hc9
        rw [hb0, eqI_t] at hc9
        omega
      · (repeat (first | (refine WpL.cons (by (first | exact St.exec rfl | exact St.newV rfl rfl rfl rfl | exact St.loadL rfl rfl rfl | exact St.stoL rfl rfl rfl rfl rfl | exact St.eqSc rfl | exact St.build rfl)) ?_) | (first | refine athen_n ?_ | refine WpL.nil ?_ | refine AWp.seq ?_ | refine AWp.region rfl ?_ | refine AWp.block ?_ | refine AWp.skip ?_ | refine AWp.exit ?_ | refine AWp.ret ?_ | refine AWp.condT rfl ?_ | refine AWp.condF rfl ?_ | refine athen_e ?_ | refine athen_r ?_ | refine ablock_n ?_ | refine ablock_e ?_ | refine ablock_r ?_ | refine ablock_o rfl ?_ | refine ARounds.step ?_) | refine WpL.pass rfl ?_ | refine WpL.go (gd := some _) rfl ?_))
        (first | refine RetQ.same (.inr rfl) (ResL.cons (ResIs.tmp _ _ rfl) ResL.nil) ?_ rfl ?_ | refine RetQ.same (.inr rfl) (ResL.cons (ResIs.tmp _ _ rfl) (ResL.cons (ResIs.tmp _ _ rfl) ResL.nil)) ?_ rfl ?_ | refine RetQ.same (.inr rfl) (ResL.cons (ResIs.tmp _ _ rfl) (ResL.cons (ResIs.tmp _ _ rfl) (ResL.cons (ResIs.tmp _ _ rfl) ResL.nil))) ?_ rfl ?_ | refine RetQ.same (.inr rfl) ResL.nil ?_ rfl ?_ | refine RetQ.same (.inl rfl) (ResL.cons (ResIs.tmp _ _ rfl) ResL.nil) ?_ rfl ?_ | refine RetQ.same (.inl rfl) (ResL.cons (ResIs.tmp _ _ rfl) (ResL.cons (ResIs.tmp _ _ rfl) ResL.nil)) ?_ rfl ?_ | refine RetQ.same (.inl rfl) (ResL.cons (ResIs.tmp _ _ rfl) (ResL.cons (ResIs.tmp _ _ rfl) (ResL.cons (ResIs.tmp _ _ rfl) ResL.nil))) ?_ rfl ?_ | refine RetQ.same (.inl rfl) ResL.nil ?_ rfl ?_)
        · refine Le.of_eq ?_
          show AV.tuple [.int .i64 (digVal (ds.take i)), .nilIface] = _
          rw [he, List.take_length]
        · exact .tuple _ (by simp; exact ⟨.int _ _, .nilIface⟩)
  · exfalso
    simp only [cond_false, cond_true] at hc
    rw [ltI_f] at hc; omega
  · exfalso
    rw [ltI_f] at hc; omega

theorem atoiNeg_ok (ds : List UInt8) (h1 : 1 ≤ ds.length) (h2 : ds.length ≤ 10) (hd : ds.all digitB = true) : PureF C 51 [.str (45 :: ds)] (.tuple [.int .i64 (-(digVal ds : Int)), .nilIface]) := by
  have hb0 : byteAt (45 :: ds) 0 = 45 := rfl
  have hl0 : (45 :: ds).length = ds.length + 1 := rfl
  have hcut : cutStr (45 :: ds) ((1 : Int)).toNat (45 :: ds).length = ds := by simp [cutStr]
  (refine PureF.of fun objs => ?_); (refine ACalls.enter Cplain (nt := 77) (res := [.tmp 2, .tmp 3]) Tryd.func51 rfl rfl Tryd.ntmps51 (by show 1 ≤ 77; omega) ?_)
  (repeat' (first | (refine WpL.cons (by (first | exact St.indexStr rfl rfl rfl (by omega) (by omega) | exact St.convBytes rfl rfl rfl rfl | exact St.sliceStr rfl rfl (.none _) (.some _ _ _ _ rfl (by decide)) (Nat.le_refl _) (by show (1 : Int).toNat ≤ _; rw [hl0]; simp)  | exact St.exec rfl | exact St.newV rfl rfl rfl rfl | exact St.loadL rfl rfl rfl | exact St.stoL rfl rfl rfl rfl rfl | exact St.eqSc rfl | exact St.build rfl)) ?_) | (first | refine athen_n ?_ | refine WpL.nil ?_ | refine AWp.seq ?_ | refine AWp.region rfl ?_ | refine AWp.block ?_ | refine AWp.skip ?_ | refine AWp.exit ?_ | refine AWp.ret ?_ | refine AWp.condT rfl ?_ | refine AWp.condF rfl ?_ | refine athen_e ?_ | refine athen_r ?_ | refine ablock_n ?_ | refine ablock_e ?_ | refine ablock_r ?_ | refine ablock_o rfl ?_ | refine ARounds.step ?_) | refine WpL.pass rfl ?_ | refine WpL.go (gd := some _) rfl ?_ | refine WpL.gSplit rfl (by decide) rfl rfl (fun hc => ?_) (fun hc => ?_) | refine AWp.cond rfl (fun hc => ?_) (fun hc => ?_)))
  · exfalso
    rw [hcut, ltI_t] at hc; omega
  · refine AWp.loopI (fun i : Nat => ⟨77, objs.length, objs, [], ofL [(0, .str ds), (5, .str (45 :: ds)), (6, .int .i64 (digVal (ds.take i))), (47, .slc (strElems ds) .unk), (48, .int .i64 ds.length), (49, .int .i64 i)]⟩) (fun i => i ≤ ds.length) (fun i => ds.length - i) 0 (Nat.zero_le _) ?_ (fun _ => rfl) ?_
    · refine Wk.same rfl ⟨Le.of_eq ?_, Le.of_eq rfl, Le.of_eq rfl, Le.of_eq ?_, Le.of_eq ?_, Le.of_eq rfl, trivial⟩
      · show AV.str (cutStr (45 :: ds) ((1 : Int)).toNat (45 :: ds).length) = _; rw [hcut]
      · show AV.slc (strElems (cutStr (45 :: ds) ((1 : Int)).toNat (45 :: ds).length)) .unk = _; rw [hcut]
      · show AV.int .i64 ((strElems (cutStr (45 :: ds) ((1 : Int)).toNat (45 :: ds).length)).length : Int) = _; rw [hcut, strElems_len]
    intro i hi
    (repeat (first | (refine WpL.cons (by (first | exact St.exec rfl | exact St.newV rfl rfl rfl rfl | exact St.loadL rfl rfl rfl | exact St.stoL rfl rfl rfl rfl rfl | exact St.eqSc rfl | exact St.build rfl)) ?_) | (first | refine athen_n ?_ | refine WpL.nil ?_ | refine AWp.seq ?_ | refine AWp.region rfl ?_ | refine AWp.block ?_ | refine AWp.skip ?_ | refine AWp.exit ?_ | refine AWp.ret ?_ | refine AWp.condT rfl ?_ | refine AWp.condF rfl ?_ | refine athen_e ?_ | refine athen_r ?_ | refine ablock_n ?_ | refine ablock_e ?_ | refine ablock_r ?_ | refine ablock_o rfl ?_ | refine ARounds.step ?_) | refine WpL.pass rfl ?_ | refine WpL.go (gd := some _) rfl ?_))
    refine AWp.cond rfl (fun hlt => ?_) (fun hge => ?_)
    · rw [ltI_t] at hlt
      have hlt' : i < ds.length := by omega
      have hel : (strElems ds)[((i : Int)).toNat]? = some [.int .u8 ds[i].toNat] := by simp [strElems, hlt']
      have hdi : 48 ≤ ds[i].toNat ∧ ds[i].toNat ≤ 57 := by
        have := List.all_eq_true.1 hd ds[i] (List.getElem_mem _)
        simpa [digitB] using this
      have hw8 : IntKind.wrap .u8 ((ds[i].toNat : Int) - 48) = (ds[i].toNat : Int) - 48 := wrap_u8 (by omega) (by omega)
      have hv := digVal_lt i (ds.take i) (by simp; omega) (by
        rw [List.all_eq_true] at hd ⊢
        exact fun x hx => hd x (List.mem_of_mem_take hx))
      have hv2 : 10 ^ i ≤ 10 ^ 9 := Nat.pow_le_pow_right (by omega) (by omega)
      have hw1 : IntKind.wrap .i64 ((digVal (ds.take i) : Int) * 10) = (digVal (ds.take i) : Int) * 10 := wrap_i64 (by omega) (by omega)
      (repeat (first | (refine WpL.cons (by (first | exact St.indexSlc rfl rfl rfl rfl (by omega) (by assumption) rfl  | exact St.exec rfl | exact St.newV rfl rfl rfl rfl | exact St.loadL rfl rfl rfl | exact St.stoL rfl rfl rfl rfl rfl | exact St.eqSc rfl | exact St.build rfl)) ?_) | (first | refine athen_n ?_ | refine WpL.nil ?_ | refine AWp.seq ?_ | refine AWp.region rfl ?_ | refine AWp.block ?_ | refine AWp.skip ?_ | refine AWp.exit ?_ | refine AWp.ret ?_ | refine AWp.condT rfl ?_ | refine AWp.condF rfl ?_ | refine athen_e ?_ | refine athen_r ?_ | refine ablock_n ?_ | refine ablock_e ?_ | refine ablock_r ?_ | refine ablock_o rfl ?_ | refine ARounds.step ?_) | refine WpL.pass rfl ?_ | refine WpL.go (gd := some _) rfl ?_))
      refine AWp.cond rfl (fun hc9 => ?_) (fun hc9 => ?_)
      · exfalso
        have hc9 : ltI 9 (IntKind.wrap .u8 ((ds[i].toNat : Int) - 48)) = true := hc9
        rw [hw8, ltI_t] at hc9
        omega
      · (repeat (first | (refine WpL.cons (by (first | exact St.exec rfl | exact St.newV rfl rfl rfl rfl | exact St.loadL rfl rfl rfl | exact St.stoL rfl rfl rfl rfl rfl | exact St.eqSc rfl | exact St.build rfl)) ?_) | (first | refine athen_n ?_ | refine WpL.nil ?_ | refine AWp.seq ?_ | refine AWp.region rfl ?_ | refine AWp.block ?_ | refine AWp.skip ?_ | refine AWp.exit ?_ | refine AWp.ret ?_ | refine AWp.condT rfl ?_ | refine AWp.condF rfl ?_ | refine athen_e ?_ | refine athen_r ?_ | refine ablock_n ?_ | refine ablock_e ?_ | refine ablock_r ?_ | refine ablock_o rfl ?_ | refine ARounds.step ?_) | refine WpL.pass rfl ?_ | refine WpL.go (gd := some _) rfl ?_))
        refine ⟨i + 1, by omega, by omega, ?_⟩
        have hn : IntKind.wrap .i64 (IntKind.wrap .i64 ((digVal (ds.take i) : Int) * 10) + IntKind.wrap .i64 (IntKind.wrap .u8 ((ds[i].toNat : Int) - 48))) = (digVal (ds.take (i + 1)) : Int) := by
          rw [hw8, hw1, wrap_i64 (x := (ds[i].toNat : Int) - 48) (by omega) (by omega), wrap_i64 (by omega) (by omega), List.take_succ_eq_append_getElem hlt', digVal_snoc]
          omega
        have hi1 : IntKind.wrap .i64 ((i : Int) + 1) = ((i + 1 : Nat) : Int) := by rw [wrap_i64 (by omega) (by omega)]; omega
        exact Wk.same rfl ⟨Le.of_eq rfl, Le.of_eq rfl, Le.of_eq (congrArg (AV.int .i64) hn), Le.of_eq rfl, Le.of_eq rfl, Le.of_eq (congrArg (AV.int .i64) hi1), trivial⟩
    · rw [ltI_f] at hge
      have he : i = ds.length := by omega
      (repeat (first | (refine WpL.cons (by (first | exact St.indexStr rfl rfl rfl (by omega) (by omega)  | exact St.exec rfl | exact St.newV rfl rfl rfl rfl | exact St.loadL rfl rfl rfl | exact St.stoL rfl rfl rfl rfl rfl | exact St.eqSc rfl | exact St.build rfl)) ?_) | (first | refine athen_n ?_ | refine WpL.nil ?_ | refine AWp.seq ?_ | refine AWp.region rfl ?_ | refine AWp.block ?_ | refine AWp.skip ?_ | refine AWp.exit ?_ | refine AWp.ret ?_ | refine AWp.condT rfl ?_ | refine AWp.condF rfl ?_ | refine athen_e ?_ | refine athen_r ?_ | refine ablock_n ?_ | refine ablock_e ?_ | refine ablock_r ?_ | refine ablock_o rfl ?_ | refine ARounds.step ?_) | refine WpL.pass rfl ?_ | refine WpL.go (gd := some _) rfl ?_))
      refine AWp.cond rfl (fun hc9 => ?_) (fun hc9 => ?_)
      · (repeat (first | (refine WpL.cons (by (first | exact St.exec rfl | exact St.newV rfl rfl rfl rfl | exact St.loadL rfl rfl rfl | exact St.stoL rfl rfl rfl rfl rfl | exact St.eqSc rfl | exact St.build rfl)) ?_) | (first | refine athen_n ?_ | refine WpL.nil ?_ | refine AWp.seq ?_ | refine AWp.region rfl ?_ | refine AWp.block ?_ | refine AWp.skip ?_ | refine AWp.exit ?_ | refine AWp.ret ?_ | refine AWp.condT rfl ?_ | refine AWp.condF rfl ?_ | refine athen_e ?_ | refine athen_r ?_ | refine ablock_n ?_ | refine ablock_e ?_ | refine ablock_r ?_ | refine ablock_o rfl ?_ | refine ARounds.step ?_) | refine WpL.pass rfl ?_ | refine WpL.go (gd := some _) rfl ?_))
        have hv := digVal_lt ds.length ds rfl hd
        have hv2 : 10 ^ ds.length ≤ 10 ^ 10 := Nat.pow_le_pow_right (by omega) (by omega)
        (first | refine RetQ.same (.inr rfl) (ResL.cons (ResIs.tmp _ _ rfl) ResL.nil) ?_ rfl ?_ | refine RetQ.same (.inr rfl) (ResL.cons (ResIs.tmp _ _ rfl) (ResL.cons (ResIs.tmp _ _ rfl) ResL.nil)) ?_ rfl ?_ | refine RetQ.same (.inr rfl) (ResL.cons (ResIs.tmp _ _ rfl) (ResL.cons (ResIs.tmp _ _ rfl) (ResL.cons (ResIs.tmp _ _ rfl) ResL.nil))) ?_ rfl ?_ | refine RetQ.same (.inr rfl) ResL.nil ?_ rfl ?_ | refine RetQ.same (.inl rfl) (ResL.cons (ResIs.tmp _ _ rfl) ResL.nil) ?_ rfl ?_ | refine RetQ.same (.inl rfl) (ResL.cons (ResIs.tmp _ _ rfl) (ResL.cons (ResIs.tmp _ _ rfl) ResL.nil)) ?_ rfl ?_ | refine RetQ.same (.inl rfl) (ResL.cons (ResIs.tmp _ _ rfl) (ResL.cons (ResIs.tmp _ _ rfl) (ResL.cons (ResIs.tmp _ _ rfl) ResL.nil))) ?_ rfl ?_ | refine RetQ.same (.inl rfl) ResL.nil ?_ rfl ?_)
        · refine Le.of_eq ?_
          show AV.tuple [.int .i64 (IntKind.wrap .i64 (0 - (digVal (ds.take i) : Int))), .nilIface] = _
          rw [he, List.take_length, wrap_i64 (by omega) (by omega), Int.zero_sub]
        · exact .tuple _ (by simp; exact ⟨.int _ _, .nilIface⟩)
      · exfalso
        have hc9 : eqI (byteAt (45 :: ds) 0) 45 = false := hc9
        rw [hb0, eqI_f] at hc9
        exact hc9 rfl
  · exfalso
    rename_i _ _ h _
    rw [hb0, eqI_f] at h; exact h rfl
  · exfalso
    rename_i _ _ h _
    rw [hb0, eqI_f] at h; exact h rfl
  · exfalso
    rename_i _ _ h
    rw [hb0, eqI_f] at h; exact h rfl
  · exfalso
    simp only [cond_false, cond_true] at hc
    rw [ltI_f, hl0] at hc; omega
  · exfalso
    rw [ltI_f, hl0] at hc; omega
end Go.Proofs.YtdfmefkjjdlbiaaDoor
