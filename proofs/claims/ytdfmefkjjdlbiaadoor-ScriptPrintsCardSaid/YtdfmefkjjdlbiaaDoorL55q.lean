/-
  Print, walked.
-/
import Derived.Test.YtdfmefkjjdlbiaaDoorL55p
namespace Go.Proofs.YtdfmefkjjdlbiaaDoor
open Go Go.Av
set_option maxRecDepth 100000
set_option linter.unusedVariables false
set_option linter.unusedSimpArgs false
attribute [local irreducible] ARounds AWp WpL OpStep OpStepR DrawL AThen ABlock RetQ PureF ACalls

def encEq (x y : Step) : Bool := cond (eqI x.kind y.kind) (cond (eqI x.n y.n) (cond (eqS x.party y.party) (cond (cond (eqI x.akind y.akind) (cond (eqI x.an y.an) (cond (eqS x.adeal y.adeal) true false) false) false) true false) false) false) false
theorem encEq_iff (x y : Step) : encEq x y = true ↔ x = y := by
  obtain ⟨a, b, c, d, e, f⟩ := x
  obtain ⟨a', b', c', d', e', f'⟩ := y
  simp only [encEq, Step.mk.injEq, eqI_def, eqS_def]
  by_cases h1 : a = a' <;> by_cases h2 : b = b' <;> by_cases h3 : c = c' <;> by_cases h4 : d = d' <;> by_cases h5 : e = e' <;> by_cases h6 : f = f' <;> simp [h1, h2, h3, h4, h5, h6]

def bcells (bytes : List UInt8) (cap : Nat) : List AV := bytes.map (fun x => AV.int .u8 x.toNat) ++ List.replicate (cap - bytes.length) .any
theorem bcells_lt (bytes : List UInt8) (cap m : Nat) : ∀ c, c ∈ bcells bytes cap → IdLt m c := by
  intro c hc
  rcases List.mem_append.1 hc with hc | hc
  · obtain ⟨b, _, rfl⟩ := List.mem_map.1 hc; exact .int _ _
  · rw [(List.mem_replicate.1 hc).2]; exact .any
def BX (p0 : Nat) (bytes : List UInt8) (bv : AV) (X : AObj) : Prop :=
  bv = .slc [] .nil ∧ bytes = [] ∧ X = .tok 0 0 ∨ ∃ cap, bv = .arr (p0 + 10) 0 bytes.length cap ∧ bytes ≠ [] ∧ X = .row 5 (bcells bytes cap) ∧ bytes.length ≤ cap
structure PI where
  i : Nat
  p : AV
  bv : AV
  X : AObj
def locP (p0 : Nat) (p bv : AV) (X : AObj) : List AObj := formsO p0 ++ [.row 51 wordsL, .row 56 [p, bv], X]

theorem printR_lt (l : List Step) (m : Nat) : IdLt m (printR l) := by
  unfold printR
  split <;> exact .tuple _ (by simp; exact ⟨.str _, .int _ _⟩)

theorem flatW_succ {ws : List (List UInt8)} {j : Nat} {w : List UInt8} (h : ws[j]? = some w) : flatW (ws.take (j + 1)) = flatW (ws.take j) ++ ([32] ++ w) := by
  rw [List.take_add_one, h]; simp [flatW]
theorem locP_lt (p0 : Nat) (p bv : AV) (X : AObj) (m : Nat) (hm : p0 + 11 ≤ m) (hp : p = .nilptr ∨ p = .ptr (p0 + 9) 0) (bytes : List UInt8) (hB : BX p0 bytes bv X) : ObjsLt m (locP p0 p bv X) := by
  intro y hy
  rcases List.mem_append.1 hy with hy | hy
  · exact ((formsO_lt p0).le (by omega)) y hy
  simp only [List.mem_cons, List.mem_nil_iff, or_false] at hy
  rcases hy with rfl | rfl | rfl
  · intro c hc
    simp only [wordsL, List.mem_cons, List.mem_nil_iff, or_false] at hc
    rcases hc with rfl | rfl | rfl | rfl | rfl | rfl | rfl | rfl <;> exact .str _
  · intro c hc
    simp only [List.mem_cons, List.mem_nil_iff, or_false] at hc
    rcases hc with rfl | rfl
    · rcases hp with rfl | rfl
      · exact .nilptr
      · exact .ptr _ _ (by omega)
    · rcases hB with ⟨rfl, _⟩ | ⟨cap, rfl, _⟩
      · exact .slc _ _ (fun x hx => by cases hx) (fun t n h => by cases h)
      · exact .arr _ _ _ _ (by omega)
  · rcases hB with ⟨_, _, rfl⟩ | ⟨cap, _, _, rfl, _⟩
    · trivial
    · exact fun c hc => bcells_lt _ _ _ c hc

theorem psK_lt (b c k m : Nat) (hb : b < m) (hc : c < m) : IdLt m (.slc (psK b c k) (endK k)) := by
  have key : ∀ (l : List (List AV)) (e : SEnd), (e = .full ∨ e = .nil) → (∀ p, p ∈ l → p = partyP ∨ p = actP ∨ p = dealP ∨ p = numP b ∨ p = numP c) → IdLt m (.slc l e) := by
    intro l e he h
    refine .slc _ _ (fun p hp => ?_) (fun t n h => by rcases he with rfl | rfl <;> cases h)
    rcases h p hp with rfl | rfl | rfl | rfl | rfl
    · exact lt_party _
    · exact lt_act _
    · exact lt_deal _
    · exact lt_num hb
    · exact lt_num hc
  have he : endK k = .full ∨ endK k = .nil := by unfold endK; split <;> simp
  refine key _ _ he (fun p hp => ?_)
  by_cases h : k < 8
  · have hk' : k = 0 ∨ k = 1 ∨ k = 2 ∨ k = 3 ∨ k = 4 ∨ k = 5 ∨ k = 6 ∨ k = 7 := by omega
    rcases hk' with rfl | rfl | rfl | rfl | rfl | rfl | rfl | rfl <;> simp only [psK, List.mem_cons, List.mem_nil_iff, or_false] at hp <;> (first | (rcases hp with rfl | rfl | rfl | rfl) | (rcases hp with rfl | rfl) | subst hp | cases hp) <;> simp
  · obtain ⟨q, rfl⟩ : ∃ q, k = q + 8 := ⟨k - 8, by omega⟩
    simp [psK] at hp

theorem pre_eq {a o : List AObj} (h : ∀ (q : Nat) (y : AObj), a[q]? = some y → o[q]? = some y) : o = a ++ o.drop a.length := by
  apply List.ext_getElem?
  intro q
  rcases Nat.lt_or_ge q a.length with hq | hq
  · rw [List.getElem?_append_left hq, h q _ (List.getElem?_eq_getElem hq), List.getElem?_eq_getElem hq]
  · rw [List.getElem?_append_right hq, List.getElem?_drop]
    congr 1; omega
theorem wordsL_lt (m : Nat) : ObjLt m (.row 51 wordsL) := by
  intro c hc
  simp only [wordsL, List.mem_cons, List.mem_nil_iff, or_false] at hc
  rcases hc with rfl | rfl | rfl | rfl | rfl | rfl | rfl | rfl <;> exact .str _

theorem print_ok (l : List Step) (hl : l.length ≤ 61) (hf : ∀ x, x ∈ l → Fit x) : PureF C 6 [.slc (l.map encStep) .unk] (printR l) := by
  refine PureF.of fun objs => ?_
  (refine ACalls.withLt fun hLt => ?_); (refine ACalls.enter Cplain (nt := 83) (res := [.tmp 2, .tmp 3]) Tryd.func6 rfl rfl Tryd.ntmps6 (by show 1 ≤ 83; omega) ?_)
  (refine AWp.seq ?_); (refine AWp.region rfl ?_); (repeat (refine WpL.cons (by (first | exact St.exec rfl | exact St.newV rfl rfl rfl rfl | exact St.loadL rfl rfl rfl | exact St.stoL rfl rfl rfl rfl rfl | exact St.eqSc rfl | exact St.build rfl)) ?_)); (refine WpL.nil ?_); (refine athen_n ?_)
  (refine AWp.seq ?_); (refine AWp.region rfl ?_); (repeat (refine WpL.cons (by (first | exact St.exec rfl | exact St.newV rfl rfl rfl rfl | exact St.loadL rfl rfl rfl | exact St.stoL rfl rfl rfl rfl rfl | exact St.eqSc rfl | exact St.build rfl)) ?_))
  refine WpL.consR rfl (St.callFR (fid := 10) rfl (forms_ok _) Tryd.func10 (by kernel_rfl) (by kernel_rfl)) ?_
  rintro r o ⟨hr, rfl⟩
  have hr : r = .map (objs.length + 7) := by rw [hr]; simp
  subst hr
  refine ⟨objs, formsO objs.length, by simp, rfl, ?_⟩
  (repeat (refine WpL.cons (by (first | exact St.callF (fid := 11) rfl (words_ok) Tryd.func11 (by kernel_rfl) (by kernel_rfl)  | exact St.exec rfl | exact St.newV rfl rfl rfl rfl | exact St.loadL rfl rfl rfl | exact St.stoL rfl rfl rfl rfl rfl | exact St.eqSc rfl | exact St.build rfl)) ?_))
  (refine WpL.nil ?_); (refine athen_n ?_)
  (refine AWp.seq ?_); (refine AWp.region rfl ?_); (repeat (refine WpL.cons (by (first | exact St.exec rfl | exact St.newV rfl rfl rfl rfl | exact St.loadL rfl rfl rfl | exact St.stoL rfl rfl rfl rfl rfl | exact St.eqSc rfl | exact St.build rfl)) ?_)); (refine WpL.nil ?_); (refine athen_n ?_)
  refine AWp.pad ?_
  (refine AWp.wk (Wk.same (loc' := locP objs.length .nilptr (.slc [] .nil) (.tok 0 0)) (l := [(0, .slc (l.map encStep) .unk), (4, .map (objs.length + 7)), (5, .ptr (objs.length + 8) 0), (6, .ptr (objs.length + 9) 0)]) rfl (by repeat (first | exact trivial | refine ⟨Le.of_eq rfl, ?_⟩))) ?_)
  (repeat (first | (refine WpL.cons (by (first | exact St.exec rfl | exact St.newV rfl rfl rfl rfl | exact St.loadL rfl rfl rfl | exact St.stoL rfl rfl rfl rfl rfl | exact St.eqSc rfl | exact St.build rfl)) ?_) | (first | refine athen_n ?_ | refine WpL.nil ?_ | refine AWp.seq ?_ | refine AWp.region rfl ?_ | refine AWp.block ?_ | refine AWp.skip ?_ | refine AWp.exit ?_ | refine AWp.ret ?_ | refine AWp.condT rfl ?_ | refine AWp.condF rfl ?_ | refine athen_e ?_ | refine athen_r ?_ | refine ablock_n ?_ | refine ablock_e ?_ | refine ablock_r ?_ | refine ablock_o rfl ?_ | refine ARounds.step ?_) | refine WpL.pass rfl ?_ | refine WpL.go (gd := some _) rfl ?_))
  refine AWp.loopI (fun s : PI => ⟨83, objs.length, objs, locP objs.length s.p s.bv s.X, ofL [(0, .slc (l.map encStep) .unk), (4, .map (objs.length + 7)), (5, .ptr (objs.length + 8) 0), (6, .ptr (objs.length + 9) 0), (18, .slc (l.map encStep) .unk), (19, .int .i64 l.length), (20, .int .i64 s.i)]⟩)
    (fun s => s.i ≤ l.length ∧ (l.take s.i).all rightS = true ∧ (s.p = .nilptr ∨ s.p = .ptr (objs.length + 9) 0) ∧ BX objs.length (printB (l.take s.i)) s.bv s.X) (fun s => l.length - s.i) ⟨0, .nilptr, .slc [] .nil, .tok 0 0⟩ ⟨Nat.zero_le _, rfl, .inl rfl, .inl ⟨rfl, rfl, rfl⟩⟩ ?_ (fun _ => rfl) ?_
  · refine Wk.same rfl ?_
    refine ⟨Le.of_eq rfl, Le.of_eq rfl, Le.of_eq rfl, Le.of_eq rfl, Le.of_eq rfl, Le.of_eq ?_, Le.of_eq rfl, trivial⟩
    show AV.int .i64 ((l.map encStep).length : Int) = _
    rw [List.length_map]
  rintro ⟨i, p, bv, X⟩ ⟨hi, hpre, hp, hB⟩
  dsimp only at hi hpre hp hB ⊢
  (repeat (first | (refine WpL.cons (by (first | exact St.exec rfl | exact St.newV rfl rfl rfl rfl | exact St.loadL rfl rfl rfl | exact St.stoL rfl rfl rfl rfl rfl | exact St.eqSc rfl | exact St.build rfl)) ?_) | (first | refine athen_n ?_ | refine WpL.nil ?_ | refine AWp.seq ?_ | refine AWp.region rfl ?_ | refine AWp.block ?_ | refine AWp.skip ?_ | refine AWp.exit ?_ | refine AWp.ret ?_ | refine AWp.condT rfl ?_ | refine AWp.condF rfl ?_ | refine athen_e ?_ | refine athen_r ?_ | refine ablock_n ?_ | refine ablock_e ?_ | refine ablock_r ?_ | refine ablock_o rfl ?_ | refine ARounds.step ?_) | refine WpL.pass rfl ?_ | refine WpL.go (gd := some _) rfl ?_))
  refine AWp.cond rfl (fun hc => ?_) (fun hc => ?_)
  · have hlt : i < l.length := by rw [ltI_t] at hc; omega
    obtain ⟨x, hxi⟩ : ∃ x, l[i]? = some x := ⟨_, List.getElem?_eq_getElem hlt⟩
    have hfx := hf x (List.mem_of_getElem? hxi)
    have hel : (l.map encStep)[((i : Nat) : Int).toNat]? = some (encStep x) := by
      rw [Int.toNat_natCast, List.getElem?_map, hxi]; rfl
    (repeat' (first | (refine WpL.cons (by (first | exact St.indexSlc rfl rfl rfl rfl (by omega) hel rfl  | exact St.exec rfl | exact St.newV rfl rfl rfl rfl | exact St.loadL rfl rfl rfl | exact St.stoL rfl rfl rfl rfl rfl | exact St.eqSc rfl | exact St.build rfl)) ?_) | (first | refine athen_n ?_ | refine WpL.nil ?_ | refine AWp.seq ?_ | refine AWp.region rfl ?_ | refine AWp.block ?_ | refine AWp.skip ?_ | refine AWp.exit ?_ | refine AWp.ret ?_ | refine AWp.condT rfl ?_ | refine AWp.condF rfl ?_ | refine athen_e ?_ | refine athen_r ?_ | refine ablock_n ?_ | refine ablock_e ?_ | refine ablock_r ?_ | refine ablock_o rfl ?_ | refine ARounds.step ?_) | refine WpL.pass rfl ?_ | refine WpL.go (gd := some _) rfl ?_ | refine WpL.gSplit rfl (by decide) rfl rfl (fun hc => ?_) (fun hc => ?_)))
    · (first | refine RetQ.same (.inr rfl) (ResL.cons (ResIs.tmp _ _ rfl) ResL.nil) ?_ rfl ?_ | refine RetQ.same (.inr rfl) (ResL.cons (ResIs.tmp _ _ rfl) (ResL.cons (ResIs.tmp _ _ rfl) ResL.nil)) ?_ rfl ?_ | refine RetQ.same (.inr rfl) (ResL.cons (ResIs.tmp _ _ rfl) (ResL.cons (ResIs.tmp _ _ rfl) (ResL.cons (ResIs.tmp _ _ rfl) ResL.nil))) ?_ rfl ?_ | refine RetQ.same (.inr rfl) ResL.nil ?_ rfl ?_ | refine RetQ.same (.inl rfl) (ResL.cons (ResIs.tmp _ _ rfl) ResL.nil) ?_ rfl ?_ | refine RetQ.same (.inl rfl) (ResL.cons (ResIs.tmp _ _ rfl) (ResL.cons (ResIs.tmp _ _ rfl) ResL.nil)) ?_ rfl ?_ | refine RetQ.same (.inl rfl) (ResL.cons (ResIs.tmp _ _ rfl) (ResL.cons (ResIs.tmp _ _ rfl) (ResL.cons (ResIs.tmp _ _ rfl) ResL.nil))) ?_ rfl ?_ | refine RetQ.same (.inl rfl) ResL.nil ?_ rfl ?_)
      · exact Le.of_eq (printR_bad hxi (by rw [ltI_t] at hc; unfold rightS; rw [decide_eq_false (by omega)]; rfl)).symm
      · exact printR_lt _ _
    have hc0 : ltI x.kind 0 = false := hc
    clear hc
    refine AWp.cond rfl (fun hc => ?_) (fun hc => ?_)
    · (repeat (first | (refine WpL.cons (by (first | exact St.exec rfl | exact St.newV rfl rfl rfl rfl | exact St.loadL rfl rfl rfl | exact St.stoL rfl rfl rfl rfl rfl | exact St.eqSc rfl | exact St.build rfl)) ?_) | (first | refine athen_n ?_ | refine WpL.nil ?_ | refine AWp.seq ?_ | refine AWp.region rfl ?_ | refine AWp.block ?_ | refine AWp.skip ?_ | refine AWp.exit ?_ | refine AWp.ret ?_ | refine AWp.condT rfl ?_ | refine AWp.condF rfl ?_ | refine athen_e ?_ | refine athen_r ?_ | refine ablock_n ?_ | refine ablock_e ?_ | refine ablock_r ?_ | refine ablock_o rfl ?_ | refine ARounds.step ?_) | refine WpL.pass rfl ?_ | refine WpL.go (gd := some _) rfl ?_))
      (first | refine RetQ.same (.inr rfl) (ResL.cons (ResIs.tmp _ _ rfl) ResL.nil) ?_ rfl ?_ | refine RetQ.same (.inr rfl) (ResL.cons (ResIs.tmp _ _ rfl) (ResL.cons (ResIs.tmp _ _ rfl) ResL.nil)) ?_ rfl ?_ | refine RetQ.same (.inr rfl) (ResL.cons (ResIs.tmp _ _ rfl) (ResL.cons (ResIs.tmp _ _ rfl) (ResL.cons (ResIs.tmp _ _ rfl) ResL.nil))) ?_ rfl ?_ | refine RetQ.same (.inr rfl) ResL.nil ?_ rfl ?_ | refine RetQ.same (.inl rfl) (ResL.cons (ResIs.tmp _ _ rfl) ResL.nil) ?_ rfl ?_ | refine RetQ.same (.inl rfl) (ResL.cons (ResIs.tmp _ _ rfl) (ResL.cons (ResIs.tmp _ _ rfl) ResL.nil)) ?_ rfl ?_ | refine RetQ.same (.inl rfl) (ResL.cons (ResIs.tmp _ _ rfl) (ResL.cons (ResIs.tmp _ _ rfl) (ResL.cons (ResIs.tmp _ _ rfl) ResL.nil))) ?_ rfl ?_ | refine RetQ.same (.inl rfl) ResL.nil ?_ rfl ?_)
      · exact Le.of_eq (printR_bad hxi (by simp only [cond_false, leI_t] at hc; unfold rightS; rw [decide_eq_false (by omega)]; rfl)).symm
      · exact printR_lt _ _
    obtain ⟨k, hk, hxk⟩ : ∃ k : Nat, k < 8 ∧ x.kind = k := ⟨x.kind.toNat, by simp only [cond_false, leI_f, ltI_f] at hc hc0; omega⟩
    have hw := hw_at k hk
    have hfa := find_at (objs.length + 3) (objs.length + 5) k hk
    have hla := look_at (objs.length + 3) (objs.length + 5) k false hk
    have hlt' := look_at (objs.length + 3) (objs.length + 5) k true hk
    clear hc hc0
    (refine AWp.wk (Wk.same (loc' := locP objs.length p bv X ++ [.row 43 (encStep x)]) (l := [(0, .slc (l.map encStep) .unk), (4, .map (objs.length + 7)), (5, .ptr (objs.length + 8) 0), (6, .ptr (objs.length + 9) 0), (7, .int .i64 i), (8, .ptr (objs.length + 11) 0), (18, .slc (l.map encStep) .unk), (19, .int .i64 l.length), (20, .int .i64 i)]) rfl (by repeat (first | exact trivial | refine ⟨Le.of_eq rfl, ?_⟩))) ?_)
    have hkx : aload C 3 (encStep x) 0 = some (.int .i64 k) := by rw [← hxk]; rfl
    (repeat (first | (refine WpL.cons (by (first | exact St.loadL rfl rfl hkx | exact St.indexArrPtr rfl rfl rfl rfl (by omega) (by omega) | exact St.loadL rfl rfl hw | exact St.lookupL rfl rfl rfl rfl rfl hfa hla  | exact St.exec rfl | exact St.newV rfl rfl rfl rfl | exact St.loadL rfl rfl rfl | exact St.stoL rfl rfl rfl rfl rfl | exact St.eqSc rfl | exact St.build rfl)) ?_) | (first | refine athen_n ?_ | refine WpL.nil ?_ | refine AWp.seq ?_ | refine AWp.region rfl ?_ | refine AWp.block ?_ | refine AWp.skip ?_ | refine AWp.exit ?_ | refine AWp.ret ?_ | refine AWp.condT rfl ?_ | refine AWp.condF rfl ?_ | refine athen_e ?_ | refine athen_r ?_ | refine ablock_n ?_ | refine ablock_e ?_ | refine ablock_r ?_ | refine ablock_o rfl ?_ | refine ARounds.step ?_) | refine WpL.pass rfl ?_ | refine WpL.go (gd := some _) rfl ?_))
    have hln := len_at x (objs.length + 3) (objs.length + 5) k
    have hwl := wl_at x hfx k
    generalize hm : (psK (objs.length + 3) (objs.length + 5) k).length = m at *
    have hb3 : (objs ++ (locP objs.length p bv X ++ [AObj.row 43 (encStep x)]))[objs.length + 3]? = some (.row 91 [.func 35 [] []]) := by rw [List.getElem?_append_right (by omega), Nat.add_sub_cancel_left]; rfl
    have hb5 : (objs ++ (locP objs.length p bv X ++ [AObj.row 43 (encStep x)]))[objs.length + 5]? = some (.row 91 [.func 36 [] []]) := by rw [List.getElem?_append_right (by omega), Nat.add_sub_cancel_left]; rfl
    have hshow := shows_ok _ (objs.length + 3) (objs.length + 5) hb3 hb5 x hfx k hk
    rw [hm] at hshow
    have hpslt : IdLt (objs.length + 12) (.slc (psK (objs.length + 3) (objs.length + 5) k) (endK k)) := psK_lt _ _ _ _ (by omega) (by omega)
    refine AWp.loopI (fun j : Nat => ⟨83, objs.length, objs, locP objs.length p bv X ++ [.row 43 (encStep x)], ofL [(0, .slc (l.map encStep) .unk), (4, .map (objs.length + 7)), (5, .ptr (objs.length + 8) 0), (6, .ptr (objs.length + 9) 0), (7, .int .i64 i), (8, .ptr (objs.length + 11) 0), (9, .str (wordAt k ++ flatW ((wsK x k).take j))), (18, .slc (l.map encStep) .unk), (19, .int .i64 l.length), (20, .int .i64 i), (40, .slc (psK (objs.length + 3) (objs.length + 5) k) (endK k)), (41, .int .i64 m), (42, .int .i64 j)]⟩)
      (fun j => j ≤ m ∧ ((oksK x k).take j).all id = true) (fun j => m - j) 0 ⟨Nat.zero_le _, rfl⟩ ?_ (fun _ => rfl) ?_
    · refine Wk.same rfl ?_
      refine ⟨Le.of_eq rfl, Le.of_eq rfl, Le.of_eq rfl, Le.of_eq rfl, Le.of_eq rfl, Le.of_eq rfl, Le.of_eq ?_, Le.of_eq rfl, Le.of_eq rfl, Le.of_eq rfl, Le.of_eq rfl, Le.of_eq ?_, Le.of_eq rfl, trivial⟩
      · show AV.str (wordAt k) = AV.str (wordAt k ++ [])
        rw [List.append_nil]
      · rfl
    rintro j ⟨hj, hok⟩
    (repeat (first | (refine WpL.cons (by (first | exact St.exec rfl | exact St.newV rfl rfl rfl rfl | exact St.loadL rfl rfl rfl | exact St.stoL rfl rfl rfl rfl rfl | exact St.eqSc rfl | exact St.build rfl)) ?_) | (first | refine athen_n ?_ | refine WpL.nil ?_ | refine AWp.seq ?_ | refine AWp.region rfl ?_ | refine AWp.block ?_ | refine AWp.skip ?_ | refine AWp.exit ?_ | refine AWp.ret ?_ | refine AWp.condT rfl ?_ | refine AWp.condF rfl ?_ | refine athen_e ?_ | refine athen_r ?_ | refine ablock_n ?_ | refine ablock_e ?_ | refine ablock_r ?_ | refine ablock_o rfl ?_ | refine ARounds.step ?_) | refine WpL.pass rfl ?_ | refine WpL.go (gd := some _) rfl ?_))
    refine AWp.cond rfl (fun hc => ?_) (fun hc => ?_)
    · have hjm : j < m := by rw [ltI_t] at hc; omega
      obtain ⟨w, o, hw1, ho1, ⟨fn, hfn, hbd, hnm⟩, hcall⟩ := hshow j hjm
      have hcall := hcall (objs ++ (locP objs.length p bv X ++ [AObj.row 43 (encStep x), AObj.row 63 [.func (fidOf (partK (objs.length + 3) (objs.length + 5) k j 0)) [] (capOf (partK (objs.length + 3) (objs.length + 5) k j 0)), .func (fidOf (partK (objs.length + 3) (objs.length + 5) k j 1)) [] (capOf (partK (objs.length + 3) (objs.length + 5) k j 1))]])) (fun q y hq => by
        rw [show objs ++ (locP objs.length p bv X ++ [AObj.row 43 (encStep x), AObj.row 63 [.func (fidOf (partK (objs.length + 3) (objs.length + 5) k j 0)) [] (capOf (partK (objs.length + 3) (objs.length + 5) k j 0)), .func (fidOf (partK (objs.length + 3) (objs.length + 5) k j 1)) [] (capOf (partK (objs.length + 3) (objs.length + 5) k j 1))]]) = (objs ++ (locP objs.length p bv X ++ [AObj.row 43 (encStep x)])) ++ [AObj.row 63 [.func (fidOf (partK (objs.length + 3) (objs.length + 5) k j 0)) [] (capOf (partK (objs.length + 3) (objs.length + 5) k j 0)), .func (fidOf (partK (objs.length + 3) (objs.length + 5) k j 1)) [] (capOf (partK (objs.length + 3) (objs.length + 5) k j 1))]] by simp]
        rw [List.getElem?_append_left (lt_of_getElem? hq)]; exact hq)
      have hps := ps_at (objs.length + 3) (objs.length + 5) k j hk (by omega)
      (repeat (first | (refine WpL.cons (by (first | exact St.indexSlc rfl rfl rfl rfl (by omega) hps rfl  | exact St.exec rfl | exact St.newV rfl rfl rfl rfl | exact St.loadL rfl rfl rfl | exact St.stoL rfl rfl rfl rfl rfl | exact St.eqSc rfl | exact St.build rfl)) ?_) | (first | refine athen_n ?_ | refine WpL.nil ?_ | refine AWp.seq ?_ | refine AWp.region rfl ?_ | refine AWp.block ?_ | refine AWp.skip ?_ | refine AWp.exit ?_ | refine AWp.ret ?_ | refine AWp.condT rfl ?_ | refine AWp.condF rfl ?_ | refine athen_e ?_ | refine athen_r ?_ | refine ablock_n ?_ | refine ablock_e ?_ | refine ablock_r ?_ | refine ablock_o rfl ?_ | refine ARounds.step ?_) | refine WpL.pass rfl ?_ | refine WpL.go (gd := some _) rfl ?_))
      refine WpL.consR rfl (St.callR rfl rfl hcall hfn hbd hnm) ?_
      rintro r ob ⟨rfl, rfl⟩
      refine ⟨objs, _, rfl, rfl, ?_⟩
      (repeat (first | (refine WpL.cons (by (first | exact St.exec rfl | exact St.newV rfl rfl rfl rfl | exact St.loadL rfl rfl rfl | exact St.stoL rfl rfl rfl rfl rfl | exact St.eqSc rfl | exact St.build rfl)) ?_) | (first | refine athen_n ?_ | refine WpL.nil ?_ | refine AWp.seq ?_ | refine AWp.region rfl ?_ | refine AWp.block ?_ | refine AWp.skip ?_ | refine AWp.exit ?_ | refine AWp.ret ?_ | refine AWp.condT rfl ?_ | refine AWp.condF rfl ?_ | refine athen_e ?_ | refine athen_r ?_ | refine ablock_n ?_ | refine ablock_e ?_ | refine ablock_r ?_ | refine ablock_o rfl ?_ | refine ARounds.step ?_) | refine WpL.pass rfl ?_ | refine WpL.go (gd := some _) rfl ?_))
      refine AWp.cond rfl (fun hc => ?_) (fun hc => ?_)
      · (repeat (first | (refine WpL.cons (by (first | exact St.exec rfl | exact St.newV rfl rfl rfl rfl | exact St.loadL rfl rfl rfl | exact St.stoL rfl rfl rfl rfl rfl | exact St.eqSc rfl | exact St.build rfl)) ?_) | (first | refine athen_n ?_ | refine WpL.nil ?_ | refine AWp.seq ?_ | refine AWp.region rfl ?_ | refine AWp.block ?_ | refine AWp.skip ?_ | refine AWp.exit ?_ | refine AWp.ret ?_ | refine AWp.condT rfl ?_ | refine AWp.condF rfl ?_ | refine athen_e ?_ | refine athen_r ?_ | refine ablock_n ?_ | refine ablock_e ?_ | refine ablock_r ?_ | refine ablock_o rfl ?_ | refine ARounds.step ?_) | refine WpL.pass rfl ?_ | refine WpL.go (gd := some _) rfl ?_))
        (first | refine RetQ.same (.inr rfl) (ResL.cons (ResIs.tmp _ _ rfl) ResL.nil) ?_ rfl ?_ | refine RetQ.same (.inr rfl) (ResL.cons (ResIs.tmp _ _ rfl) (ResL.cons (ResIs.tmp _ _ rfl) ResL.nil)) ?_ rfl ?_ | refine RetQ.same (.inr rfl) (ResL.cons (ResIs.tmp _ _ rfl) (ResL.cons (ResIs.tmp _ _ rfl) (ResL.cons (ResIs.tmp _ _ rfl) ResL.nil))) ?_ rfl ?_ | refine RetQ.same (.inr rfl) ResL.nil ?_ rfl ?_ | refine RetQ.same (.inl rfl) (ResL.cons (ResIs.tmp _ _ rfl) ResL.nil) ?_ rfl ?_ | refine RetQ.same (.inl rfl) (ResL.cons (ResIs.tmp _ _ rfl) (ResL.cons (ResIs.tmp _ _ rfl) ResL.nil)) ?_ rfl ?_ | refine RetQ.same (.inl rfl) (ResL.cons (ResIs.tmp _ _ rfl) (ResL.cons (ResIs.tmp _ _ rfl) (ResL.cons (ResIs.tmp _ _ rfl) ResL.nil))) ?_ rfl ?_ | refine RetQ.same (.inl rfl) ResL.nil ?_ rfl ?_)
        · refine Le.of_eq (printR_bad hxi ?_).symm
          have ho : o = false := by simpa using hc
          subst ho
          have : (oksK x k).all id = false := by
            rw [List.all_eq_false]
            exact ⟨false, List.mem_of_getElem? ho1, by simp⟩
          unfold rightS fineK
          rw [hxk, Int.toNat_natCast, this]; simp
        · exact printR_lt _ _
      · have ho : o = true := by simpa using hc
        subst ho
        have hwlen := hwl w (List.mem_of_getElem? hw1)
        have hfl := flatW_len ((wsK x k).take j) (fun y hy => hwl y (List.mem_of_mem_take hy))
        have hwk := wordAt_len k hk
        have hjl : ((wsK x k).take j).length = j := by rw [List.length_take]; omega
        rw [hjl] at hfl
        (repeat (first | (refine WpL.cons (by (first | exact St.strAdd rfl rfl (by simp only [List.length_append, List.length_cons, List.length_nil]; omega)  | exact St.exec rfl | exact St.newV rfl rfl rfl rfl | exact St.loadL rfl rfl rfl | exact St.stoL rfl rfl rfl rfl rfl | exact St.eqSc rfl | exact St.build rfl)) ?_) | (first | refine athen_n ?_ | refine WpL.nil ?_ | refine AWp.seq ?_ | refine AWp.region rfl ?_ | refine AWp.block ?_ | refine AWp.skip ?_ | refine AWp.exit ?_ | refine AWp.ret ?_ | refine AWp.condT rfl ?_ | refine AWp.condF rfl ?_ | refine athen_e ?_ | refine athen_r ?_ | refine ablock_n ?_ | refine ablock_e ?_ | refine ablock_r ?_ | refine ablock_o rfl ?_ | refine ARounds.step ?_) | refine WpL.pass rfl ?_ | refine WpL.go (gd := some _) rfl ?_))
        refine ⟨j + 1, by omega, ⟨by omega, ?_⟩, ?_⟩
        · rw [List.take_add_one, ho1, List.all_append, hok]; rfl
        · rw [wrap_i64 (by omega) (by omega)]
          have hl12 : objs.length ≤ objs.length + 12 := Nat.le_add_right _ _
          refine Wk.mk_ Cplain rfl ?_ (.inr (hLt.le hl12)) ?_
          · intro y hy
            show ObjLt (objs.length + 12) y
            rcases List.mem_append.1 hy with hy | hy
            · exact locP_lt _ _ _ _ _ (by omega) hp _ hB y hy
            · simp only [List.mem_singleton] at hy; subst hy; exact objLtStep _ _
          · have hps12 := hpslt
            have h7 : objs.length + 7 < objs.length + 12 := by omega
            have h8 : objs.length + 8 < objs.length + 12 := by omega
            have h9 : objs.length + 9 < objs.length + 12 := by omega
            have h11 : objs.length + 11 < objs.length + 12 := by omega
            refine ⟨⟨Le.of_eq rfl, idLt_map plainStep⟩, ⟨Le.of_eq rfl, .map _ h7⟩, ⟨Le.of_eq rfl, .ptr _ _ h8⟩, ⟨Le.of_eq rfl, .ptr _ _ h9⟩, ⟨Le.of_eq rfl, .int _ _⟩, ⟨Le.of_eq rfl, .ptr _ _ h11⟩, ⟨Le.of_eq ?_, .str _⟩, ⟨Le.of_eq rfl, idLt_map plainStep⟩, ⟨Le.of_eq rfl, .int _ _⟩, ⟨Le.of_eq rfl, .int _ _⟩, ⟨Le.of_eq rfl, hps12⟩, ⟨Le.of_eq rfl, .int _ _⟩, ⟨Le.of_eq rfl, .int _ _⟩, trivial⟩
            show AV.str (wordAt k ++ flatW ((wsK x k).take j) ++ ([32] ++ w)) = AV.str (wordAt k ++ flatW ((wsK x k).take (j + 1)))
            rw [flatW_succ hw1, List.append_assoc]
    · have hjm : j = m := by rw [ltI_f] at hc; omega
      subst hjm
      clear hc
      rw [List.take_of_length_le (by omega)] at hok
      rw [List.take_of_length_le (by omega)]
      have hlk : wordAt k ++ flatW (wsK x k) = lineK x k := rfl
      rw [hlk]
      have hll := lineK_len x hfx k hk
      have hread := read_ok (lineK x k) (by omega) (objs ++ (locP objs.length p bv X ++ [.row 43 (encStep x)])) (objs.length + 3) (objs.length + 5) (objs.length + 7) (by rw [List.getElem?_append_right (by omega), Nat.add_sub_cancel_left]; rfl)
        (wordAt k) (wsK x k) (parts_join _ _ (word_nosp k hk) (wl_nosp x k hk hok)) k hfa k (psK (objs.length + 3) (objs.length + 5) k) (endK k) j hlt' hm (by omega) (by omega) (xsK x k) (xs0_at x k hk) (fun i => (wsK x k).getD i []) (fun i => .func (fidOf (partK (objs.length + 3) (objs.length + 5) k i 0)) [] (capOf (partK (objs.length + 3) (objs.length + 5) k i 0)))
        (fun i => fidOf (partK (objs.length + 3) (objs.length + 5) k i 1)) (fun i => capOf (partK (objs.length + 3) (objs.length + 5) k i 1)) (fun i hi => ps_at _ _ k i hk (by omega)) (fun i hi => by rw [List.getElem?_eq_getElem (by omega), List.getD_eq_getElem?_getD, List.getElem?_eq_getElem (by omega)]; rfl)
        (by rw [← hm]; exact readsK _ _ _ hb3 hb5 x hfx k hk hok) (fun _ _ => rfl) (hpslt.le (by simp [locP, formsO]))
      (repeat (first | (refine WpL.cons (by (first | exact St.exec rfl | exact St.newV rfl rfl rfl rfl | exact St.loadL rfl rfl rfl | exact St.stoL rfl rfl rfl rfl rfl | exact St.eqSc rfl | exact St.build rfl)) ?_) | (first | refine athen_n ?_ | refine WpL.nil ?_ | refine AWp.seq ?_ | refine AWp.region rfl ?_ | refine AWp.block ?_ | refine AWp.skip ?_ | refine AWp.exit ?_ | refine AWp.ret ?_ | refine AWp.condT rfl ?_ | refine AWp.condF rfl ?_ | refine athen_e ?_ | refine athen_r ?_ | refine ablock_n ?_ | refine ablock_e ?_ | refine ablock_r ?_ | refine ablock_o rfl ?_ | refine ARounds.step ?_) | refine WpL.pass rfl ?_ | refine WpL.go (gd := some _) rfl ?_))
      refine WpL.consR rfl (St.callFR (fid := 12) rfl hread Tryd.func12 (by kernel_rfl) (by kernel_rfl)) ?_
      rintro r ob ⟨rfl, rfl⟩
      refine ⟨objs, _, rfl, rfl, ?_⟩
      (repeat' (first | (refine WpL.cons (by (first | exact St.eqAgg rfl (by kernel_rfl) (by kernel_rfl)  | exact St.exec rfl | exact St.newV rfl rfl rfl rfl | exact St.loadL rfl rfl rfl | exact St.stoL rfl rfl rfl rfl rfl | exact St.eqSc rfl | exact St.build rfl)) ?_) | (first | refine athen_n ?_ | refine WpL.nil ?_ | refine AWp.seq ?_ | refine AWp.region rfl ?_ | refine AWp.block ?_ | refine AWp.skip ?_ | refine AWp.exit ?_ | refine AWp.ret ?_ | refine AWp.condT rfl ?_ | refine AWp.condF rfl ?_ | refine athen_e ?_ | refine athen_r ?_ | refine ablock_n ?_ | refine ablock_e ?_ | refine ablock_r ?_ | refine ablock_o rfl ?_ | refine ARounds.step ?_) | refine WpL.pass rfl ?_ | refine WpL.go (gd := some _) rfl ?_ | refine WpL.gSplit rfl (by decide) rfl rfl (fun hc => ?_) (fun hc => ?_)))
      have hproj : projS x k = xsK x k j := by unfold projS; rw [← hln.2.2.1]
      refine AWp.cond rfl (fun hc => ?_) (fun hc => ?_)
      · (repeat (first | (refine WpL.cons (by (first | exact St.exec rfl | exact St.newV rfl rfl rfl rfl | exact St.loadL rfl rfl rfl | exact St.stoL rfl rfl rfl rfl rfl | exact St.eqSc rfl | exact St.build rfl)) ?_) | (first | refine athen_n ?_ | refine WpL.nil ?_ | refine AWp.seq ?_ | refine AWp.region rfl ?_ | refine AWp.block ?_ | refine AWp.skip ?_ | refine AWp.exit ?_ | refine AWp.ret ?_ | refine AWp.condT rfl ?_ | refine AWp.condF rfl ?_ | refine athen_e ?_ | refine athen_r ?_ | refine ablock_n ?_ | refine ablock_e ?_ | refine ablock_r ?_ | refine ablock_o rfl ?_ | refine ARounds.step ?_) | refine WpL.pass rfl ?_ | refine WpL.go (gd := some _) rfl ?_))
        (first | refine RetQ.same (.inr rfl) (ResL.cons (ResIs.tmp _ _ rfl) ResL.nil) ?_ rfl ?_ | refine RetQ.same (.inr rfl) (ResL.cons (ResIs.tmp _ _ rfl) (ResL.cons (ResIs.tmp _ _ rfl) ResL.nil)) ?_ rfl ?_ | refine RetQ.same (.inr rfl) (ResL.cons (ResIs.tmp _ _ rfl) (ResL.cons (ResIs.tmp _ _ rfl) (ResL.cons (ResIs.tmp _ _ rfl) ResL.nil))) ?_ rfl ?_ | refine RetQ.same (.inr rfl) ResL.nil ?_ rfl ?_ | refine RetQ.same (.inl rfl) (ResL.cons (ResIs.tmp _ _ rfl) ResL.nil) ?_ rfl ?_ | refine RetQ.same (.inl rfl) (ResL.cons (ResIs.tmp _ _ rfl) (ResL.cons (ResIs.tmp _ _ rfl) ResL.nil)) ?_ rfl ?_ | refine RetQ.same (.inl rfl) (ResL.cons (ResIs.tmp _ _ rfl) (ResL.cons (ResIs.tmp _ _ rfl) (ResL.cons (ResIs.tmp _ _ rfl) ResL.nil))) ?_ rfl ?_ | refine RetQ.same (.inl rfl) ResL.nil ?_ rfl ?_)
        · refine Le.of_eq (printR_bad hxi ?_).symm
          have hc : (!encEq (xsK x k j) x) = true := hc
          have hne : xsK x k j ≠ x := fun e => by
            rw [(encEq_iff _ _).2 e] at hc; cases hc
          unfold rightS fineK
          rw [hxk, Int.toNat_natCast, hproj, decide_eq_false hne]; simp
        · exact printR_lt _ _
      have hc : (!encEq (xsK x k j) x) = false := hc
      have hex : xsK x k j = x := (encEq_iff _ _).1 (by simpa using hc)
      clear hc
      have hright : rightS x = true := by
        unfold rightS fineK
        rw [hxk, Int.toNat_natCast, hproj, hok, decide_eq_true hex, decide_eq_true ⟨by omega, by omega⟩]; rfl
      have hpre' : (l.take (i + 1)).all rightS = true := by
        rw [List.take_add_one, hxi, List.all_append, hpre]; simp [hright]
      have hlx : lineS x = lineK x k := by unfold lineS; rw [hxk, Int.toNat_natCast]
      have hpb : printB (l.take (i + 1)) = printB (l.take i) ++ (lineK x k ++ [10]) := by
        rw [List.take_add_one, hxi]; simp [printB, hlx]
      have hpl : (printB (l.take i)).length ≤ 421 * (l.take i).length := printB_len _ (fun y hy => ⟨hf y (List.mem_of_mem_take hy), List.all_eq_true.1 hpre y hy⟩)
      have hpl2 : (printB (l.take i)).length ≤ 25681 := by
        have : (l.take i).length ≤ 61 := by rw [List.length_take]; omega
        omega
      (repeat (first | (refine WpL.cons (by (first | exact St.exec rfl | exact St.newV rfl rfl rfl rfl | exact St.loadL rfl rfl rfl | exact St.stoL rfl rfl rfl rfl rfl | exact St.eqSc rfl | exact St.build rfl)) ?_) | (first | refine athen_n ?_ | refine WpL.nil ?_ | refine AWp.seq ?_ | refine AWp.region rfl ?_ | refine AWp.block ?_ | refine AWp.skip ?_ | refine AWp.exit ?_ | refine AWp.ret ?_ | refine AWp.condT rfl ?_ | refine AWp.condF rfl ?_ | refine athen_e ?_ | refine athen_r ?_ | refine ablock_n ?_ | refine ablock_e ?_ | refine ablock_r ?_ | refine ablock_o rfl ?_ | refine ARounds.step ?_) | refine WpL.pass rfl ?_ | refine WpL.go (gd := some _) rfl ?_))
      refine AWp.cond rfl (fun hc => ?_) (fun hc => ?_)
      · (repeat (first | (refine WpL.cons (by (first | exact St.strAdd rfl rfl (by simp only [List.length_append, List.length_cons, List.length_nil]; omega)  | exact St.exec rfl | exact St.newV rfl rfl rfl rfl | exact St.loadL rfl rfl rfl | exact St.stoL rfl rfl rfl rfl rfl | exact St.eqSc rfl | exact St.build rfl)) ?_) | (first | refine athen_n ?_ | refine WpL.nil ?_ | refine AWp.seq ?_ | refine AWp.region rfl ?_ | refine AWp.block ?_ | refine AWp.skip ?_ | refine AWp.exit ?_ | refine AWp.ret ?_ | refine AWp.condT rfl ?_ | refine AWp.condF rfl ?_ | refine athen_e ?_ | refine athen_r ?_ | refine ablock_n ?_ | refine ablock_e ?_ | refine ablock_r ?_ | refine ablock_o rfl ?_ | refine ARounds.step ?_) | refine WpL.pass rfl ?_ | refine WpL.go (gd := some _) rfl ?_))
        have hbld : Bld (objs.length + 10) (objs ++ (locP objs.length p bv X ++ [AObj.row 43 (encStep x), AObj.row 43 (encStep (xsK x k j))])) (objs.length + 9) (printB (l.take i)) := by
          refine ⟨p, bv, by rw [List.getElem?_append_right (by omega), Nat.add_sub_cancel_left]; rfl, hp, ?_⟩
          rcases hB with ⟨rfl, h2, rfl⟩ | ⟨cap, rfl, h2, rfl, h3⟩
          · exact .inl ⟨rfl, h2⟩
          · refine .inr ⟨objs.length + 10, cap, bcells (printB (l.take i)) cap, rfl, h2, Nat.le_refl _, by omega, ?_, h3, by simp [bcells]; omega, by simp [bcells]⟩
            rw [List.getElem?_append_right (by omega), Nat.add_sub_cancel_left]; rfl
        have hlen2 : (objs ++ (locP objs.length p bv X ++ [AObj.row 43 (encStep x), AObj.row 43 (encStep (xsK x k j))])).length = objs.length + 13 := by simp [locP, formsO]
        have hws := writeString_ok (objs.length + 10) _ (by rw [hlen2]; omega) (objs.length + 9) (printB (l.take i)) (lineK x k ++ [10]) hbld (by simp only [List.length_append, List.length_cons, List.length_nil]; omega)
        unfold Kept at hws
        rw [hlen2] at hws
        refine WpL.consR rfl (St.callFR (fid := 13) rfl hws Tryd.func13 (by kernel_rfl) (by kernel_rfl)) ?_
        rintro r ob ⟨⟨p', b', hob, hp', hb'⟩, hkl, hkept⟩
        have hsame : ∀ (q : Nat) (y : AObj), q < objs.length + 9 → (objs ++ (locP objs.length p bv X ++ [AObj.row 43 (encStep x), AObj.row 43 (encStep (xsK x k j))]))[q]? = some y → ob[q]? = some y := fun q y hq hy => hkept q y hy (by omega) (.inl (by omega))
        have hob2 : ob = objs ++ ob.drop objs.length := pre_eq (fun q y hy => hsame q y (by have := lt_of_getElem? hy; omega) (by rw [List.getElem?_append_left (lt_of_getElem? hy)]; exact hy))
        have hdrop : ∀ (q : Nat) (y : AObj), ob[objs.length + q]? = some y → (ob.drop objs.length)[q]? = some y := fun q y hy => by rw [List.getElem?_drop]; exact hy
        refine ⟨objs, ob.drop objs.length, hob2, rfl, ?_⟩
        (repeat (first | (refine WpL.cons (by (first | exact St.exec rfl | exact St.newV rfl rfl rfl rfl | exact St.loadL rfl rfl rfl | exact St.stoL rfl rfl rfl rfl rfl | exact St.eqSc rfl | exact St.build rfl)) ?_) | (first | refine athen_n ?_ | refine WpL.nil ?_ | refine AWp.seq ?_ | refine AWp.region rfl ?_ | refine AWp.block ?_ | refine AWp.skip ?_ | refine AWp.exit ?_ | refine AWp.ret ?_ | refine AWp.condT rfl ?_ | refine AWp.condF rfl ?_ | refine athen_e ?_ | refine athen_r ?_ | refine ablock_n ?_ | refine ablock_e ?_ | refine ablock_r ?_ | refine ablock_o rfl ?_ | refine ARounds.step ?_) | refine WpL.pass rfl ?_ | refine WpL.go (gd := some _) rfl ?_))
        rcases hb' with ⟨_, h2⟩ | ⟨j', cap, cells, rfl, hne, hj1, hj2, hj3, hcap, hcl, hct⟩
        · exfalso
          have := congrArg List.length h2
          simp at this
        refine ⟨⟨i + 1, p', .arr (objs.length + 10) 0 (printB (l.take (i + 1))).length cap, .row 5 (bcells (printB (l.take (i + 1))) cap)⟩, by simp only; omega, ⟨by simp only; omega, hpre', hp', .inr ⟨cap, rfl, by rw [hpb]; exact hne, rfl, by rw [hpb]; exact hcap⟩⟩, ?_⟩
        dsimp only
        rw [wrap_i64 (by omega) (by omega)]
        have hl10 : objs.length ≤ objs.length + 10 := Nat.le_add_right _ _
        refine Wk.bld Cplain (formsO objs.length ++ [.row 51 wordsL, .row 56 [p', .arr (objs.length + 10) 0 (printB (l.take (i + 1))).length cap]]) 9 10 j' (printB (l.take (i + 1))).length cap 56 5 p' cells (bcells (printB (l.take (i + 1))) cap) ?_ ?_ rfl ?_ ?_ ?_ ?_ rfl ?_ (bcells_lt _ _ _) (hLt.le hl10) ?_
        · simp only [bcells, List.length_append, List.length_map, List.length_replicate, hcl, hpb]
          simp only [List.length_append] at hcap ⊢; omega
        · intro q c hq
          unfold bcells at hq
          rcases Nat.lt_or_ge q (printB (l.take (i + 1))).length with h | h
          · rw [List.getElem?_append_left (by simpa using h)] at hq
            left
            rw [hpb, ← hct] at hq
            rw [List.getElem?_take] at hq
            split at hq
            · exact hq
            · cases hq
          · rw [List.getElem?_append_right (by simpa using h), List.getElem?_replicate] at hq
            split at hq
            · right; cases hq; rfl
            · cases hq
        · rw [hpb]; exact hdrop _ _ hob
        · intro _; rw [← hob2]; exact hj3
        · exact hj1
        · intro q y hy hq
          have hq10 : q < 10 := by have := lt_of_getElem? hy; exact this
          have hy2 : (locP objs.length p bv X)[q]? = some y := by
            have hq9 : q = 0 ∨ q = 1 ∨ q = 2 ∨ q = 3 ∨ q = 4 ∨ q = 5 ∨ q = 6 ∨ q = 7 ∨ q = 8 := by omega
            rcases hq9 with rfl | rfl | rfl | rfl | rfl | rfl | rfl | rfl | rfl <;> exact hy
          refine ⟨hdrop _ _ (hsame _ _ (by omega) ?_), ?_⟩
          · rw [List.getElem?_append_right (by omega), Nat.add_sub_cancel_left, List.getElem?_append_left (lt_of_getElem? hy2)]; exact hy2
          · have hq9 : q < 9 := by omega
            have hy3 : (formsO objs.length ++ [AObj.row 51 wordsL])[q]? = some y := by
              have hq9 : q = 0 ∨ q = 1 ∨ q = 2 ∨ q = 3 ∨ q = 4 ∨ q = 5 ∨ q = 6 ∨ q = 7 ∨ q = 8 := by omega
              rcases hq9 with rfl | rfl | rfl | rfl | rfl | rfl | rfl | rfl | rfl <;> exact hy
            rcases List.mem_append.1 (List.mem_of_getElem? hy3) with hm | hm
            · exact ((formsO_lt objs.length).le (by omega)) y hm
            · simp only [List.mem_singleton] at hm; subst hm
              exact wordsL_lt _
        · rcases hp' with rfl | rfl
          · exact .nilptr
          · exact .ptr _ _ (by omega)
        · have h7 : objs.length + 7 < objs.length + 10 := by omega
          have h8 : objs.length + 8 < objs.length + 10 := by omega
          have h9 : objs.length + 9 < objs.length + 10 := by omega
          exact ⟨⟨Le.of_eq rfl, idLt_map plainStep⟩, ⟨Le.of_eq rfl, .map _ h7⟩, ⟨Le.of_eq rfl, .ptr _ _ h8⟩, ⟨Le.of_eq rfl, .ptr _ _ h9⟩, ⟨Le.of_eq rfl, idLt_map plainStep⟩, ⟨Le.of_eq rfl, .int _ _⟩, ⟨Le.of_eq rfl, .int _ _⟩, trivial⟩
      · exfalso
        rw [ltI_f] at hc; omega
  · have him : i = l.length := by rw [ltI_f] at hc; omega
    subst him
    rw [List.take_length] at hpre hB
    (repeat (first | (refine WpL.cons (by (first | exact St.exec rfl | exact St.newV rfl rfl rfl rfl | exact St.loadL rfl rfl rfl | exact St.stoL rfl rfl rfl rfl rfl | exact St.eqSc rfl | exact St.build rfl)) ?_) | (first | refine athen_n ?_ | refine WpL.nil ?_ | refine AWp.seq ?_ | refine AWp.region rfl ?_ | refine AWp.block ?_ | refine AWp.skip ?_ | refine AWp.exit ?_ | refine AWp.ret ?_ | refine AWp.condT rfl ?_ | refine AWp.condF rfl ?_ | refine athen_e ?_ | refine athen_r ?_ | refine ablock_n ?_ | refine ablock_e ?_ | refine ablock_r ?_ | refine ablock_o rfl ?_ | refine ARounds.step ?_) | refine WpL.pass rfl ?_ | refine WpL.go (gd := some _) rfl ?_))
    refine AWp.cond rfl (fun hc => ?_) (fun hc => ?_)
    · exfalso; rw [ltI_t, List.length_map] at hc; omega
    have hpl := printB_len l (fun y hy => ⟨hf y hy, List.all_eq_true.1 hpre y hy⟩)
    have hbld : Bld objs.length (objs ++ locP objs.length p bv X) (objs.length + 9) (printB l) := by
      refine ⟨p, bv, by rw [List.getElem?_append_right (by omega), Nat.add_sub_cancel_left]; rfl, hp, ?_⟩
      rcases hB with ⟨rfl, h2, rfl⟩ | ⟨cap, rfl, h2, rfl, h3⟩
      · exact .inl ⟨rfl, h2⟩
      · refine .inr ⟨objs.length + 10, cap, bcells (printB l) cap, rfl, h2, by omega, by omega, ?_, h3, by simp [bcells]; omega, by simp [bcells]⟩
        rw [List.getElem?_append_right (by omega), Nat.add_sub_cancel_left]; rfl
    (repeat (first | (refine WpL.cons (by (first | exact St.exec rfl | exact St.newV rfl rfl rfl rfl | exact St.loadL rfl rfl rfl | exact St.stoL rfl rfl rfl rfl rfl | exact St.eqSc rfl | exact St.build rfl)) ?_) | (first | refine athen_n ?_ | refine WpL.nil ?_ | refine AWp.seq ?_ | refine AWp.region rfl ?_ | refine AWp.block ?_ | refine AWp.skip ?_ | refine AWp.exit ?_ | refine AWp.ret ?_ | refine AWp.condT rfl ?_ | refine AWp.condF rfl ?_ | refine athen_e ?_ | refine athen_r ?_ | refine ablock_n ?_ | refine ablock_e ?_ | refine ablock_r ?_ | refine ablock_o rfl ?_ | refine ARounds.step ?_) | refine WpL.pass rfl ?_ | refine WpL.go (gd := some _) rfl ?_))
    refine WpL.consR rfl (St.callFR (fid := 14) rfl (string_ok objs.length _ (objs.length + 9) (printB l) hbld (by omega)) Tryd.func14 (by kernel_rfl) (by kernel_rfl)) ?_
    rintro r ob ⟨rfl, hol, hsame⟩
    have hob2 : ob = objs ++ ob.drop objs.length := pre_eq (fun q y hy => by
      rw [hsame q (lt_of_getElem? hy), List.getElem?_append_left (lt_of_getElem? hy)]; exact hy)
    refine ⟨objs, ob.drop objs.length, hob2, rfl, ?_⟩
    (repeat (first | (refine WpL.cons (by (first | exact St.exec rfl | exact St.newV rfl rfl rfl rfl | exact St.loadL rfl rfl rfl | exact St.stoL rfl rfl rfl rfl rfl | exact St.eqSc rfl | exact St.build rfl)) ?_) | (first | refine athen_n ?_ | refine WpL.nil ?_ | refine AWp.seq ?_ | refine AWp.region rfl ?_ | refine AWp.block ?_ | refine AWp.skip ?_ | refine AWp.exit ?_ | refine AWp.ret ?_ | refine AWp.condT rfl ?_ | refine AWp.condF rfl ?_ | refine athen_e ?_ | refine athen_r ?_ | refine ablock_n ?_ | refine ablock_e ?_ | refine ablock_r ?_ | refine ablock_o rfl ?_ | refine ARounds.step ?_) | refine WpL.pass rfl ?_ | refine WpL.go (gd := some _) rfl ?_))
    (first | refine RetQ.same (.inr rfl) (ResL.cons (ResIs.tmp _ _ rfl) ResL.nil) ?_ rfl ?_ | refine RetQ.same (.inr rfl) (ResL.cons (ResIs.tmp _ _ rfl) (ResL.cons (ResIs.tmp _ _ rfl) ResL.nil)) ?_ rfl ?_ | refine RetQ.same (.inr rfl) (ResL.cons (ResIs.tmp _ _ rfl) (ResL.cons (ResIs.tmp _ _ rfl) (ResL.cons (ResIs.tmp _ _ rfl) ResL.nil))) ?_ rfl ?_ | refine RetQ.same (.inr rfl) ResL.nil ?_ rfl ?_ | refine RetQ.same (.inl rfl) (ResL.cons (ResIs.tmp _ _ rfl) ResL.nil) ?_ rfl ?_ | refine RetQ.same (.inl rfl) (ResL.cons (ResIs.tmp _ _ rfl) (ResL.cons (ResIs.tmp _ _ rfl) ResL.nil)) ?_ rfl ?_ | refine RetQ.same (.inl rfl) (ResL.cons (ResIs.tmp _ _ rfl) (ResL.cons (ResIs.tmp _ _ rfl) (ResL.cons (ResIs.tmp _ _ rfl) ResL.nil))) ?_ rfl ?_ | refine RetQ.same (.inl rfl) ResL.nil ?_ rfl ?_)
    · refine Le.of_eq ?_
      unfold printR
      rw [if_pos hpre]; rfl
    · exact printR_lt _ _
end Go.Proofs.YtdfmefkjjdlbiaaDoor
