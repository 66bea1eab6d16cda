/-
  The reference's Line and Print.
-/
import Derived.Test.YtdfmefkjjdlbiaaDoorL55r
namespace Go.Proofs.YtdfmefkjjdlbiaaDoor
open Go Go.Av
set_option maxRecDepth 100000
set_option linter.unusedVariables false
set_option linter.unusedSimpArgs false
attribute [local irreducible] ARounds AWp WpL OpStep OpStepR DrawL AThen ABlock RetQ PureF ACalls

theorem right_facts (x : Step) (h : rightS x = true) : (0 ≤ x.kind ∧ x.kind < 8) ∧ (oksK x x.kind.toNat).all id = true ∧ xsK x x.kind.toNat (psK 0 0 x.kind.toNat).length = x := by
  unfold rightS fineK at h
  simp only [Bool.and_eq_true, decide_eq_true_eq] at h
  exact ⟨h.1, h.2.1, h.2.2⟩
theorem right_n (x : Step) (h : rightS x = true) : -1048576 ≤ x.n ∧ x.n ≤ 1048576 := by
  obtain ⟨⟨h0, h1⟩, h2, h3⟩ := right_facts x h
  obtain ⟨k, hk⟩ : ∃ k : Nat, x.kind = k := ⟨x.kind.toNat, by omega⟩
  rw [hk, Int.toNat_natCast] at h2 h3
  have hk' : k = 0 ∨ k = 1 ∨ k = 2 ∨ k = 3 ∨ k = 4 ∨ k = 5 ∨ k = 6 ∨ k = 7 := by omega
  rcases hk' with rfl | rfl | rfl | rfl | rfl | rfl | rfl | rfl
  · have : x.n = 0 := by rw [← h3]; rfl
    omega
  · exact among_iff.1 (by simpa [oksK] using h2)
  · exact among_iff.1 (by simpa [oksK] using h2)
  · exact among_iff.1 (by simpa [oksK] using h2)
  · have : x.n = 0 := by rw [← h3]; rfl
    omega
  · have : x.n = 0 := by rw [← h3]; rfl
    omega
  · simp [oksK] at h2; exact among_iff.1 h2.2
  · have : x.n = 0 := by rw [← h3]; rfl
    omega

theorem refLine0 (x : Step) (hx : Fit x) (h : rightS x = true) (hxk : x.kind = 0) : PureF C 16 [.agg (encStep x)] (.str (lineS x)) := by
  obtain ⟨_, h2, _⟩ := right_facts x h
  rw [hxk] at h2
  simp only [Int.toNat_zero, oksK, List.all_cons, List.all_nil, Bool.and_true, id, Bool.and_eq_true] at h2
  obtain ⟨_, ha, _, hb⟩ := h2
  have ha := of_decide_eq_true ha
  have hb := among_iff.1 hb
  have hn := right_n x h
  have h3 := hx.party
  have h4 := hx.adeal
  have hl1 := itoa_len x.an hx.an.1 hx.an.2
  have hl2 := itoa_len x.n hx.n.1 hx.n.2
  have hal : (actAt x.akind.toNat).length ≤ 100 := by
    have : ∀ k, k < 12 → (actAt k).length ≤ 100 := by decide
    exact this _ (by omega)
  have hel : (actsL.map fun a => [AV.str a])[x.akind.toNat]? = some [.str (actAt x.akind.toNat)] := by
    have : x.akind.toNat < actsL.length := by show x.akind.toNat < 12; omega
    rw [List.getElem?_map, List.getElem?_eq_getElem this]
    simp [actAt, this]
  have hln : lineS x = ([97, 99, 116, 32] ++ x.party ++ [32] ++ actAt x.akind.toNat ++ [32] ++ x.adeal ++ [32] ++ Lib.itoa x.an) := by
    unfold lineS lineK
    rw [hxk]
    have : actW x.akind = actAt x.akind.toNat := by unfold actW; rw [if_pos ha]
    simp [wordAt, wsK, flatW, this]
  rw [hln]
  (refine PureF.of fun objs => ?_); (refine ACalls.enter Cplain (nt := 63) (res := [.tmp 2]) Tryd.func16 rfl rfl Tryd.ntmps16 (by show 1 ≤ 63; omega) ?_)
  (repeat' (first | (refine WpL.cons (by (first | exact St.callF (fid := 41) rfl (digits_ok _ (by omega) (by omega)) Tryd.func41 (by kernel_rfl) (by kernel_rfl) | exact St.strAdd rfl rfl (by (try simp only [List.length_append, List.length_cons, List.length_nil]); omega)  | exact St.exec rfl | exact St.newV rfl rfl rfl rfl | exact St.loadL rfl rfl rfl | exact St.stoL rfl rfl rfl rfl rfl | exact St.eqSc rfl | exact St.build rfl)) ?_) | (first | refine athen_n ?_ | refine WpL.nil ?_ | refine AWp.seq ?_ | refine AWp.region rfl ?_ | refine AWp.block ?_ | refine AWp.skip ?_ | refine AWp.exit ?_ | refine AWp.ret ?_ | refine AWp.condT rfl ?_ | refine AWp.condF rfl ?_ | refine athen_e ?_ | refine athen_r ?_ | refine ablock_n ?_ | refine ablock_e ?_ | refine ablock_r ?_ | refine ablock_o rfl ?_ | refine ARounds.step ?_) | refine WpL.pass rfl ?_ | refine WpL.go (gd := some _) rfl ?_ | refine AWp.kT rfl (by first | exact eqI_t.2 (by first | omega | decide) | exact ltI_t.2 (by first | omega | decide) | exact leI_t.2 (by first | omega | decide) | exact not_t (eqI_f.2 (by first | omega | decide)) | exact eqS_t.2 rfl | exact not_t (eqS_f.2 (by decide)) | assumption) ?_ | refine AWp.kF rfl (by first | exact eqI_f.2 (by first | omega | decide) | exact ltI_f.2 (by first | omega | decide) | exact leI_f.2 (by first | omega | decide) | exact not_f (eqI_t.2 (by first | omega | decide)) | exact not_f (eqS_t.2 rfl) | exact eqS_f.2 (by decide) | assumption) ?_ | refine WpL.gT rfl (by decide) rfl rfl (by first | exact eqI_t.2 (by first | omega | decide) | exact ltI_t.2 (by first | omega | decide) | exact leI_t.2 (by first | omega | decide) | exact not_t (eqI_f.2 (by first | omega | decide)) | exact eqS_t.2 rfl | exact not_t (eqS_f.2 (by decide)) | assumption) ?_ | refine WpL.gF rfl (by decide) rfl rfl (by first | exact eqI_f.2 (by first | omega | decide) | exact ltI_f.2 (by first | omega | decide) | exact leI_f.2 (by first | omega | decide) | exact not_f (eqI_t.2 (by first | omega | decide)) | exact not_f (eqS_t.2 rfl) | exact eqS_f.2 (by decide) | assumption) ?_ | refine WpL.gSplit rfl (by decide) rfl rfl (fun hc => ?_) (fun hc => ?_) | refine AWp.cond rfl (fun hc => ?_) (fun hc => ?_)))
  (refine AWp.draw Cmix (by kernel_rfl) rfl ?_)
  (repeat (first | refine DrawL.nil ?_ | refine DrawL.pass rfl ?_ | refine DrawL.go rfl rfl (by (first | exact St.loadL rfl rfl rfl | exact St.callF (fid := 41) rfl (digits_ok _ (by omega) (by omega)) Tryd.func41 (by kernel_rfl) (by kernel_rfl) | exact St.strAdd rfl rfl (by (try simp only [List.length_append, List.length_cons, List.length_nil]); omega) | exact St.callF (fid := 42) rfl (refActs_ok) Tryd.func42 (by kernel_rfl) (by kernel_rfl) | exact St.indexSlc rfl rfl rfl rfl (by omega) hel rfl  | exact St.exec rfl | exact St.newV rfl rfl rfl rfl | exact St.loadL rfl rfl rfl | exact St.stoL rfl rfl rfl rfl rfl | exact St.eqSc rfl | exact St.build rfl)) ?_))
  (repeat (first | (refine WpL.cons (by (first | exact St.exec rfl | exact St.newV rfl rfl rfl rfl | exact St.loadL rfl rfl rfl | exact St.stoL rfl rfl rfl rfl rfl | exact St.eqSc rfl | exact St.build rfl)) ?_) | (first | refine athen_n ?_ | refine WpL.nil ?_ | refine AWp.seq ?_ | refine AWp.region rfl ?_ | refine AWp.block ?_ | refine AWp.skip ?_ | refine AWp.exit ?_ | refine AWp.ret ?_ | refine AWp.condT rfl ?_ | refine AWp.condF rfl ?_ | refine athen_e ?_ | refine athen_r ?_ | refine ablock_n ?_ | refine ablock_e ?_ | refine ablock_r ?_ | refine ablock_o rfl ?_ | refine ARounds.step ?_) | refine WpL.pass rfl ?_ | refine WpL.go (gd := some _) rfl ?_))
  (first | refine RetQ.same (.inr rfl) (ResL.cons (ResIs.tmp _ _ rfl) ResL.nil) ?_ rfl ?_ | refine RetQ.same (.inr rfl) (ResL.cons (ResIs.tmp _ _ rfl) (ResL.cons (ResIs.tmp _ _ rfl) ResL.nil)) ?_ rfl ?_ | refine RetQ.same (.inr rfl) (ResL.cons (ResIs.tmp _ _ rfl) (ResL.cons (ResIs.tmp _ _ rfl) (ResL.cons (ResIs.tmp _ _ rfl) ResL.nil))) ?_ rfl ?_ | refine RetQ.same (.inr rfl) ResL.nil ?_ rfl ?_ | refine RetQ.same (.inl rfl) (ResL.cons (ResIs.tmp _ _ rfl) ResL.nil) ?_ rfl ?_ | refine RetQ.same (.inl rfl) (ResL.cons (ResIs.tmp _ _ rfl) (ResL.cons (ResIs.tmp _ _ rfl) ResL.nil)) ?_ rfl ?_ | refine RetQ.same (.inl rfl) (ResL.cons (ResIs.tmp _ _ rfl) (ResL.cons (ResIs.tmp _ _ rfl) (ResL.cons (ResIs.tmp _ _ rfl) ResL.nil))) ?_ rfl ?_ | refine RetQ.same (.inl rfl) ResL.nil ?_ rfl ?_)
  · exact Le.of_eq rfl
  · exact .str _
theorem refLineK (x : Step) (hx : Fit x) (h : rightS x = true) (k : Nat) (hk : k = 1 ∨ k = 2 ∨ k = 3 ∨ k = 4 ∨ k = 5 ∨ k = 6 ∨ k = 7) (hxk : x.kind = k) : PureF C 16 [.agg (encStep x)] (.str (lineS x)) := by
  have hn := right_n x h
  have h3 := hx.party
  have hl2 := itoa_len x.n hx.n.1 hx.n.2
  unfold lineS lineK
  rw [hxk, Int.toNat_natCast]
  (refine PureF.of fun objs => ?_); (refine ACalls.enter Cplain (nt := 63) (res := [.tmp 2]) Tryd.func16 rfl rfl Tryd.ntmps16 (by show 1 ≤ 63; omega) ?_)
  rcases hk with rfl | rfl | rfl | rfl | rfl | rfl | rfl
  all_goals (
    (repeat' (first | (refine WpL.cons (by (first | exact St.callF (fid := 41) rfl (digits_ok _ (by omega) (by omega)) Tryd.func41 (by kernel_rfl) (by kernel_rfl) | exact St.strAdd rfl rfl (by (try simp only [List.length_append, List.length_cons, List.length_nil]); omega)  | exact St.exec rfl | exact St.newV rfl rfl rfl rfl | exact St.loadL rfl rfl rfl | exact St.stoL rfl rfl rfl rfl rfl | exact St.eqSc rfl | exact St.build rfl)) ?_) | (first | refine athen_n ?_ | refine WpL.nil ?_ | refine AWp.seq ?_ | refine AWp.region rfl ?_ | refine AWp.block ?_ | refine AWp.skip ?_ | refine AWp.exit ?_ | refine AWp.ret ?_ | refine AWp.condT rfl ?_ | refine AWp.condF rfl ?_ | refine athen_e ?_ | refine athen_r ?_ | refine ablock_n ?_ | refine ablock_e ?_ | refine ablock_r ?_ | refine ablock_o rfl ?_ | refine ARounds.step ?_) | refine WpL.pass rfl ?_ | refine WpL.go (gd := some _) rfl ?_ | refine AWp.kT rfl (by first | exact eqI_t.2 (by first | omega | decide) | exact ltI_t.2 (by first | omega | decide) | exact leI_t.2 (by first | omega | decide) | exact not_t (eqI_f.2 (by first | omega | decide)) | exact eqS_t.2 rfl | exact not_t (eqS_f.2 (by decide)) | assumption) ?_ | refine AWp.kF rfl (by first | exact eqI_f.2 (by first | omega | decide) | exact ltI_f.2 (by first | omega | decide) | exact leI_f.2 (by first | omega | decide) | exact not_f (eqI_t.2 (by first | omega | decide)) | exact not_f (eqS_t.2 rfl) | exact eqS_f.2 (by decide) | assumption) ?_ | refine WpL.gT rfl (by decide) rfl rfl (by first | exact eqI_t.2 (by first | omega | decide) | exact ltI_t.2 (by first | omega | decide) | exact leI_t.2 (by first | omega | decide) | exact not_t (eqI_f.2 (by first | omega | decide)) | exact eqS_t.2 rfl | exact not_t (eqS_f.2 (by decide)) | assumption) ?_ | refine WpL.gF rfl (by decide) rfl rfl (by first | exact eqI_f.2 (by first | omega | decide) | exact ltI_f.2 (by first | omega | decide) | exact leI_f.2 (by first | omega | decide) | exact not_f (eqI_t.2 (by first | omega | decide)) | exact not_f (eqS_t.2 rfl) | exact eqS_f.2 (by decide) | assumption) ?_ | refine WpL.gSplit rfl (by decide) rfl rfl (fun hc => ?_) (fun hc => ?_) | refine AWp.cond rfl (fun hc => ?_) (fun hc => ?_)))
    (first | refine RetQ.same (.inr rfl) (ResL.cons (ResIs.tmp _ _ rfl) ResL.nil) ?_ rfl ?_ | refine RetQ.same (.inr rfl) (ResL.cons (ResIs.tmp _ _ rfl) (ResL.cons (ResIs.tmp _ _ rfl) ResL.nil)) ?_ rfl ?_ | refine RetQ.same (.inr rfl) (ResL.cons (ResIs.tmp _ _ rfl) (ResL.cons (ResIs.tmp _ _ rfl) (ResL.cons (ResIs.tmp _ _ rfl) ResL.nil))) ?_ rfl ?_ | refine RetQ.same (.inr rfl) ResL.nil ?_ rfl ?_ | refine RetQ.same (.inl rfl) (ResL.cons (ResIs.tmp _ _ rfl) ResL.nil) ?_ rfl ?_ | refine RetQ.same (.inl rfl) (ResL.cons (ResIs.tmp _ _ rfl) (ResL.cons (ResIs.tmp _ _ rfl) ResL.nil)) ?_ rfl ?_ | refine RetQ.same (.inl rfl) (ResL.cons (ResIs.tmp _ _ rfl) (ResL.cons (ResIs.tmp _ _ rfl) (ResL.cons (ResIs.tmp _ _ rfl) ResL.nil))) ?_ rfl ?_ | refine RetQ.same (.inl rfl) ResL.nil ?_ rfl ?_)
    · refine Le.of_eq ?_
      show AV.str _ = AV.str _
      first | rfl | (congr 1; simp [wordAt, wsK, flatW])
    · exact .str _)
theorem refLine_ok (x : Step) (hx : Fit x) (h : rightS x = true) : PureF C 16 [.agg (encStep x)] (.str (lineS x)) := by
  obtain ⟨⟨h0, h1⟩, _, _⟩ := right_facts x h
  have hk : x.kind = 0 ∨ x.kind = 1 ∨ x.kind = 2 ∨ x.kind = 3 ∨ x.kind = 4 ∨ x.kind = 5 ∨ x.kind = 6 ∨ x.kind = 7 := by omega
  rcases hk with e | e | e | e | e | e | e | e
  · exact refLine0 x hx h e
  · exact refLineK x hx h 1 (by simp) e
  · exact refLineK x hx h 2 (by simp) e
  · exact refLineK x hx h 3 (by simp) e
  · exact refLineK x hx h 4 (by simp) e
  · exact refLineK x hx h 5 (by simp) e
  · exact refLineK x hx h 6 (by simp) e
  · exact refLineK x hx h 7 (by simp) e

theorem refPrint_ok (l : List Step) (hl : l.length ≤ 61) (hf : ∀ x, x ∈ l → Fit x) : PureF C 7 [.slc (l.map encStep) .unk] (printR l) := by
  (refine PureF.of fun objs => ?_); (refine ACalls.enter Cplain (nt := 30) (res := [.tmp 2, .tmp 3]) Tryd.func7 rfl rfl Tryd.ntmps7 (by show 1 ≤ 30; omega) ?_)
  (repeat (first | (refine WpL.cons (by (first | exact St.exec rfl | exact St.newV rfl rfl rfl rfl | exact St.loadL rfl rfl rfl | exact St.stoL rfl rfl rfl rfl rfl | exact St.eqSc rfl | exact St.build rfl)) ?_) | (first | refine athen_n ?_ | refine WpL.nil ?_ | refine AWp.seq ?_ | refine AWp.region rfl ?_ | refine AWp.block ?_ | refine AWp.skip ?_ | refine AWp.exit ?_ | refine AWp.ret ?_ | refine AWp.condT rfl ?_ | refine AWp.condF rfl ?_ | refine athen_e ?_ | refine athen_r ?_ | refine ablock_n ?_ | refine ablock_e ?_ | refine ablock_r ?_ | refine ablock_o rfl ?_ | refine ARounds.step ?_) | refine WpL.pass rfl ?_ | refine WpL.go (gd := some _) rfl ?_))
  refine AWp.loopI (fun i : Nat => ⟨30, objs.length, objs, [], ofL [(0, .slc (l.map encStep) .unk), (4, .str (printB (l.take i))), (5, .int .i64 i)]⟩)
    (fun i => i ≤ l.length ∧ (l.take i).all rightS = true) (fun i => l.length - i) 0 ⟨Nat.zero_le _, rfl⟩ ?_ (fun _ => rfl) ?_
  · exact Wk.same rfl (by repeat (first | exact trivial | refine ⟨Le.of_eq rfl, ?_⟩))
  rintro i ⟨hi, hpre⟩
  have hle : (l.map encStep).length = l.length := List.length_map _
  have hpl : (printB (l.take i)).length ≤ 421 * (l.take i).length := printB_len _ (fun y hy => ⟨hf y (List.mem_of_mem_take hy), List.all_eq_true.1 hpre y hy⟩)
  have hpl2 : (printB (l.take i)).length ≤ 25681 := by
    have : (l.take i).length ≤ 61 := by rw [List.length_take]; omega
    omega
  by_cases hlt : i < l.length
  · obtain ⟨x, hxi⟩ : ∃ x, l[i]? = some x := ⟨_, List.getElem?_eq_getElem hlt⟩
    have hfx := hf x (List.mem_of_getElem? hxi)
    have hel : (l.map encStep)[((i : Nat) : Int).toNat]? = some (encStep x) := by
      rw [Int.toNat_natCast, List.getElem?_map, hxi]; rfl
    cases hr : rightS x with
    | false =>
      have hR := refRight_ok x hfx
      rw [hr] at hR
      (repeat' (first | (refine WpL.cons (by (first | exact St.indexSlc rfl rfl rfl rfl (by omega) hel rfl | exact St.callF (fid := 15) rfl (hR) Tryd.func15 (by kernel_rfl) (by kernel_rfl)  | exact St.exec rfl | exact St.newV rfl rfl rfl rfl | exact St.loadL rfl rfl rfl | exact St.stoL rfl rfl rfl rfl rfl | exact St.eqSc rfl | exact St.build rfl)) ?_) | (first | refine athen_n ?_ | refine WpL.nil ?_ | refine AWp.seq ?_ | refine AWp.region rfl ?_ | refine AWp.block ?_ | refine AWp.skip ?_ | refine AWp.exit ?_ | refine AWp.ret ?_ | refine AWp.condT rfl ?_ | refine AWp.condF rfl ?_ | refine athen_e ?_ | refine athen_r ?_ | refine ablock_n ?_ | refine ablock_e ?_ | refine ablock_r ?_ | refine ablock_o rfl ?_ | refine ARounds.step ?_) | refine WpL.pass rfl ?_ | refine WpL.go (gd := some _) rfl ?_ | refine AWp.kT rfl (by first | exact eqI_t.2 (by first | omega | decide) | exact ltI_t.2 (by first | omega | decide) | exact leI_t.2 (by first | omega | decide) | exact not_t (eqI_f.2 (by first | omega | decide)) | exact eqS_t.2 rfl | exact not_t (eqS_f.2 (by decide)) | assumption) ?_ | refine AWp.kF rfl (by first | exact eqI_f.2 (by first | omega | decide) | exact ltI_f.2 (by first | omega | decide) | exact leI_f.2 (by first | omega | decide) | exact not_f (eqI_t.2 (by first | omega | decide)) | exact not_f (eqS_t.2 rfl) | exact eqS_f.2 (by decide) | assumption) ?_ | refine WpL.gT rfl (by decide) rfl rfl (by first | exact eqI_t.2 (by first | omega | decide) | exact ltI_t.2 (by first | omega | decide) | exact leI_t.2 (by first | omega | decide) | exact not_t (eqI_f.2 (by first | omega | decide)) | exact eqS_t.2 rfl | exact not_t (eqS_f.2 (by decide)) | assumption) ?_ | refine WpL.gF rfl (by decide) rfl rfl (by first | exact eqI_f.2 (by first | omega | decide) | exact ltI_f.2 (by first | omega | decide) | exact leI_f.2 (by first | omega | decide) | exact not_f (eqI_t.2 (by first | omega | decide)) | exact not_f (eqS_t.2 rfl) | exact eqS_f.2 (by decide) | assumption) ?_ | refine WpL.gSplit rfl (by decide) rfl rfl (fun hc => ?_) (fun hc => ?_) | refine AWp.cond rfl (fun hc => ?_) (fun hc => ?_)))
      (first | refine RetQ.same (.inr rfl) (ResL.cons (ResIs.tmp _ _ rfl) ResL.nil) ?_ rfl ?_ | refine RetQ.same (.inr rfl) (ResL.cons (ResIs.tmp _ _ rfl) (ResL.cons (ResIs.tmp _ _ rfl) ResL.nil)) ?_ rfl ?_ | refine RetQ.same (.inr rfl) (ResL.cons (ResIs.tmp _ _ rfl) (ResL.cons (ResIs.tmp _ _ rfl) (ResL.cons (ResIs.tmp _ _ rfl) ResL.nil))) ?_ rfl ?_ | refine RetQ.same (.inr rfl) ResL.nil ?_ rfl ?_ | refine RetQ.same (.inl rfl) (ResL.cons (ResIs.tmp _ _ rfl) ResL.nil) ?_ rfl ?_ | refine RetQ.same (.inl rfl) (ResL.cons (ResIs.tmp _ _ rfl) (ResL.cons (ResIs.tmp _ _ rfl) ResL.nil)) ?_ rfl ?_ | refine RetQ.same (.inl rfl) (ResL.cons (ResIs.tmp _ _ rfl) (ResL.cons (ResIs.tmp _ _ rfl) (ResL.cons (ResIs.tmp _ _ rfl) ResL.nil))) ?_ rfl ?_ | refine RetQ.same (.inl rfl) ResL.nil ?_ rfl ?_)
      · exact Le.of_eq (printR_bad hxi hr).symm
      · exact printR_lt _ _
    | true =>
      have hR := refRight_ok x hfx
      rw [hr] at hR
      have hL := refLine_ok x hfx hr
      have hpb : printB (l.take (i + 1)) = printB (l.take i) ++ lineS x ++ [10] := by
        rw [List.take_add_one, hxi]; simp [printB]
      have hll : (lineS x).length ≤ 420 := lineK_len x hfx x.kind.toNat (by have := (right_facts x hr).1; omega)
      (repeat' (first | (refine WpL.cons (by (first | exact St.indexSlc rfl rfl rfl rfl (by omega) hel rfl | exact St.callF (fid := 15) rfl (hR) Tryd.func15 (by kernel_rfl) (by kernel_rfl) | exact St.callF (fid := 16) rfl (hL) Tryd.func16 (by kernel_rfl) (by kernel_rfl) | exact St.strAdd rfl rfl (by (try simp only [List.length_append, List.length_cons, List.length_nil]); omega)  | exact St.exec rfl | exact St.newV rfl rfl rfl rfl | exact St.loadL rfl rfl rfl | exact St.stoL rfl rfl rfl rfl rfl | exact St.eqSc rfl | exact St.build rfl)) ?_) | (first | refine athen_n ?_ | refine WpL.nil ?_ | refine AWp.seq ?_ | refine AWp.region rfl ?_ | refine AWp.block ?_ | refine AWp.skip ?_ | refine AWp.exit ?_ | refine AWp.ret ?_ | refine AWp.condT rfl ?_ | refine AWp.condF rfl ?_ | refine athen_e ?_ | refine athen_r ?_ | refine ablock_n ?_ | refine ablock_e ?_ | refine ablock_r ?_ | refine ablock_o rfl ?_ | refine ARounds.step ?_) | refine WpL.pass rfl ?_ | refine WpL.go (gd := some _) rfl ?_ | refine AWp.kT rfl (by first | exact eqI_t.2 (by first | omega | decide) | exact ltI_t.2 (by first | omega | decide) | exact leI_t.2 (by first | omega | decide) | exact not_t (eqI_f.2 (by first | omega | decide)) | exact eqS_t.2 rfl | exact not_t (eqS_f.2 (by decide)) | assumption) ?_ | refine AWp.kF rfl (by first | exact eqI_f.2 (by first | omega | decide) | exact ltI_f.2 (by first | omega | decide) | exact leI_f.2 (by first | omega | decide) | exact not_f (eqI_t.2 (by first | omega | decide)) | exact not_f (eqS_t.2 rfl) | exact eqS_f.2 (by decide) | assumption) ?_ | refine WpL.gT rfl (by decide) rfl rfl (by first | exact eqI_t.2 (by first | omega | decide) | exact ltI_t.2 (by first | omega | decide) | exact leI_t.2 (by first | omega | decide) | exact not_t (eqI_f.2 (by first | omega | decide)) | exact eqS_t.2 rfl | exact not_t (eqS_f.2 (by decide)) | assumption) ?_ | refine WpL.gF rfl (by decide) rfl rfl (by first | exact eqI_f.2 (by first | omega | decide) | exact ltI_f.2 (by first | omega | decide) | exact leI_f.2 (by first | omega | decide) | exact not_f (eqI_t.2 (by first | omega | decide)) | exact not_f (eqS_t.2 rfl) | exact eqS_f.2 (by decide) | assumption) ?_ | refine WpL.gSplit rfl (by decide) rfl rfl (fun hc => ?_) (fun hc => ?_) | refine AWp.cond rfl (fun hc => ?_) (fun hc => ?_)))
      refine ⟨i + 1, by omega, ⟨by omega, by rw [List.take_add_one, hxi, List.all_append, hpre]; simp [hr]⟩, ?_⟩
      rw [wrap_i64 (by omega) (by omega), hpb]
      exact Wk.same rfl (by repeat (first | exact trivial | refine ⟨Le.of_eq rfl, ?_⟩))
  · have him : i = l.length := by omega
    subst him
    rw [List.take_length] at hpre
    rw [List.take_length]
    (repeat' (first | (refine WpL.cons (by (first | exact St.exec rfl | exact St.newV rfl rfl rfl rfl | exact St.loadL rfl rfl rfl | exact St.stoL rfl rfl rfl rfl rfl | exact St.eqSc rfl | exact St.build rfl)) ?_) | (first | refine athen_n ?_ | refine WpL.nil ?_ | refine AWp.seq ?_ | refine AWp.region rfl ?_ | refine AWp.block ?_ | refine AWp.skip ?_ | refine AWp.exit ?_ | refine AWp.ret ?_ | refine AWp.condT rfl ?_ | refine AWp.condF rfl ?_ | refine athen_e ?_ | refine athen_r ?_ | refine ablock_n ?_ | refine ablock_e ?_ | refine ablock_r ?_ | refine ablock_o rfl ?_ | refine ARounds.step ?_) | refine WpL.pass rfl ?_ | refine WpL.go (gd := some _) rfl ?_ | refine AWp.kT rfl (by first | exact eqI_t.2 (by first | omega | decide) | exact ltI_t.2 (by first | omega | decide) | exact leI_t.2 (by first | omega | decide) | exact not_t (eqI_f.2 (by first | omega | decide)) | exact eqS_t.2 rfl | exact not_t (eqS_f.2 (by decide)) | assumption) ?_ | refine AWp.kF rfl (by first | exact eqI_f.2 (by first | omega | decide) | exact ltI_f.2 (by first | omega | decide) | exact leI_f.2 (by first | omega | decide) | exact not_f (eqI_t.2 (by first | omega | decide)) | exact not_f (eqS_t.2 rfl) | exact eqS_f.2 (by decide) | assumption) ?_ | refine WpL.gT rfl (by decide) rfl rfl (by first | exact eqI_t.2 (by first | omega | decide) | exact ltI_t.2 (by first | omega | decide) | exact leI_t.2 (by first | omega | decide) | exact not_t (eqI_f.2 (by first | omega | decide)) | exact eqS_t.2 rfl | exact not_t (eqS_f.2 (by decide)) | assumption) ?_ | refine WpL.gF rfl (by decide) rfl rfl (by first | exact eqI_f.2 (by first | omega | decide) | exact ltI_f.2 (by first | omega | decide) | exact leI_f.2 (by first | omega | decide) | exact not_f (eqI_t.2 (by first | omega | decide)) | exact not_f (eqS_t.2 rfl) | exact eqS_f.2 (by decide) | assumption) ?_ | refine WpL.gSplit rfl (by decide) rfl rfl (fun hc => ?_) (fun hc => ?_) | refine AWp.cond rfl (fun hc => ?_) (fun hc => ?_)))
    (first | refine RetQ.same (.inr rfl) (ResL.cons (ResIs.tmp _ _ rfl) ResL.nil) ?_ rfl ?_ | refine RetQ.same (.inr rfl) (ResL.cons (ResIs.tmp _ _ rfl) (ResL.cons (ResIs.tmp _ _ rfl) ResL.nil)) ?_ rfl ?_ | refine RetQ.same (.inr rfl) (ResL.cons (ResIs.tmp _ _ rfl) (ResL.cons (ResIs.tmp _ _ rfl) (ResL.cons (ResIs.tmp _ _ rfl) ResL.nil))) ?_ rfl ?_ | refine RetQ.same (.inr rfl) ResL.nil ?_ rfl ?_ | refine RetQ.same (.inl rfl) (ResL.cons (ResIs.tmp _ _ rfl) ResL.nil) ?_ rfl ?_ | refine RetQ.same (.inl rfl) (ResL.cons (ResIs.tmp _ _ rfl) (ResL.cons (ResIs.tmp _ _ rfl) ResL.nil)) ?_ rfl ?_ | refine RetQ.same (.inl rfl) (ResL.cons (ResIs.tmp _ _ rfl) (ResL.cons (ResIs.tmp _ _ rfl) (ResL.cons (ResIs.tmp _ _ rfl) ResL.nil))) ?_ rfl ?_ | refine RetQ.same (.inl rfl) ResL.nil ?_ rfl ?_)
    · refine Le.of_eq ?_
      unfold printR
      rw [if_pos hpre]; rfl
    · exact printR_lt _ _
end Go.Proofs.YtdfmefkjjdlbiaaDoor
