/-
  'words': the first words of the lines, by the kinds.
-/
import Derived.Test.YtdfmefkjjdlbiaaDoorL55d
namespace Go.Proofs.YtdfmefkjjdlbiaaDoor
open Go Go.Av
set_option maxRecDepth 100000
set_option linter.unusedVariables false
set_option linter.unusedSimpArgs false
attribute [local irreducible] ARounds AWp WpL OpStep OpStepR DrawL AThen ABlock RetQ PureF ACalls

def wordAt : Nat → List UInt8
  | 0 => [97, 99, 116]
  | 1 => [100, 101, 108, 105, 118, 101, 114]
  | 2 => [108, 111, 115, 101]
  | 3 => [100, 111, 117, 98, 108, 101]
  | 4 => [100, 97, 121]
  | 5 => [102, 108, 117, 115, 104]
  | 6 => [99, 114, 97, 115, 104]
  | 7 => [115, 101, 110, 100]
  | _ => []
def wd (i : Nat) (seen : List Nat) : List UInt8 := cond (seen.contains i) (wordAt i) []
def wdL (seen : List Nat) : List AV := [.str (wd 0 seen), .str (wd 1 seen), .str (wd 2 seen), .str (wd 3 seen), .str (wd 4 seen), .str (wd 5 seen), .str (wd 6 seen), .str (wd 7 seen)]
def wordsL : List AV := [.str (wordAt 0), .str (wordAt 1), .str (wordAt 2), .str (wordAt 3), .str (wordAt 4), .str (wordAt 5), .str (wordAt 6), .str (wordAt 7)]
def noWords : List AV := [.str [], .str [], .str [], .str [], .str [], .str [], .str [], .str []]
theorem wdL_lt (m : Nat) (seen : List Nat) : ObjLt m (.row 51 (wdL seen)) := fun c hc => by
  simp only [wdL, List.mem_cons, List.mem_nil_iff, or_false] at hc
  rcases hc with rfl | rfl | rfl | rfl | rfl | rfl | rfl | rfl <;> exact .str _
theorem noWords_lt (m : Nat) : ObjLt m (.row 51 noWords) := fun c hc => by
  simp only [noWords, List.mem_cons, List.mem_nil_iff, or_false] at hc
  rcases hc with rfl | rfl | rfl | rfl | rfl | rfl | rfl | rfl <;> exact .str _

def wordsLoc (p : Nat) (seen : List Nat) : List AObj := .row 51 noWords :: .row 51 (wdL seen) :: (formsO (p + 2) ++ [.iter (p + 9) 8 seen 8])
theorem wordsLoc_lt (p : Nat) (seen : List Nat) : ∀ x, x ∈ wordsLoc p seen → ObjLt (p + (wordsLoc p seen).length) x := by
  intro x hx
  have hl : (wordsLoc p seen).length = 11 := rfl
  rw [hl]
  rcases List.mem_cons.1 hx with rfl | hx
  · exact noWords_lt _
  rcases List.mem_cons.1 hx with rfl | hx
  · exact wdL_lt _ _
  rcases List.mem_append.1 hx with hx | hx
  · exact ((formsO_lt (p + 2)).le (by omega)) x hx
  · simp only [List.mem_singleton] at hx; subst hx
    show p + 9 < p + 11; omega

theorem nodup_lt : ∀ (n : Nat) (l : List Nat), l.Nodup → (∀ x, x ∈ l → x < n) → l.length ≤ n
  | 0, [], _, _ => Nat.le_refl _
  | 0, x :: l, _, h => absurd (h x (List.mem_cons_self ..)) (Nat.not_lt_zero _)
  | n + 1, l, hn, h => by
    by_cases hm : n ∈ l
    · have h1 := nodup_lt n (l.erase n) (hn.erase n) (fun x hx => by
        have := (hn.mem_erase_iff).1 hx
        have := h x this.2
        omega)
      rw [List.length_erase_of_mem hm] at h1
      omega
    · have := nodup_lt n l hn (fun x hx => by
        have h1 := h x hx
        have : x ≠ n := fun e => hm (e ▸ hx)
        omega)
      omega

theorem words_ok : PureF C 11 [] (.agg wordsL) := by
  refine PureF.of fun objs => ?_
  (refine ACalls.withLt fun hLt => ?_); (refine ACalls.enter Cplain (nt := 16) (res := [.cell 0 51]) Tryd.func11 rfl rfl Tryd.ntmps11 (by show 0 ≤ 16; omega) ?_)
  (refine AWp.seq ?_); (refine AWp.region rfl ?_); (repeat (refine WpL.cons (by (first | exact St.exec rfl | exact St.newV rfl rfl rfl rfl | exact St.loadL rfl rfl rfl | exact St.stoL rfl rfl rfl rfl rfl | exact St.eqSc rfl | exact St.build rfl)) ?_)); (refine WpL.nil ?_); (refine athen_n ?_)
  (refine AWp.seq ?_); (refine AWp.region rfl ?_); (repeat (refine WpL.cons (by (first | exact St.exec rfl | exact St.newV rfl rfl rfl rfl | exact St.loadL rfl rfl rfl | exact St.stoL rfl rfl rfl rfl rfl | exact St.eqSc rfl | exact St.build rfl)) ?_)); (refine WpL.nil ?_); (refine athen_n ?_)
  refine AWp.seq ?_
  (refine AWp.seq ?_); (refine AWp.region rfl ?_); (repeat (refine WpL.cons (by (first | exact St.exec rfl | exact St.newV rfl rfl rfl rfl | exact St.loadL rfl rfl rfl | exact St.stoL rfl rfl rfl rfl rfl | exact St.eqSc rfl | exact St.build rfl)) ?_))
  refine WpL.consR rfl (St.callFR (fid := 10) rfl (forms_ok _) Tryd.func10 (by kernel_rfl) (by kernel_rfl)) ?_
  rintro r o ⟨hr, rfl⟩
  have hr : r = .map (objs.length + 9) := by rw [hr]; simp
  subst hr
  refine ⟨objs, .row 51 noWords :: .row 51 (wdL []) :: formsO (objs.length + 2), by simp [noWords, wdL, wd]; exact ⟨rfl, rfl⟩, rfl, ?_⟩
  (repeat (first | (refine WpL.cons (by (first | exact St.rangeMap rfl rfl (loc_at (k := 9) rfl) rfl rfl  | exact St.exec rfl | exact St.newV rfl rfl rfl rfl | exact St.loadL rfl rfl rfl | exact St.stoL rfl rfl rfl rfl rfl | exact St.eqSc rfl | exact St.build rfl)) ?_) | (first | refine athen_n ?_ | refine WpL.nil ?_ | refine AWp.seq ?_ | refine AWp.region rfl ?_ | refine AWp.block ?_ | refine AWp.skip ?_ | refine AWp.exit ?_ | refine AWp.ret ?_ | refine AWp.condT rfl ?_ | refine AWp.condF rfl ?_ | refine athen_e ?_ | refine athen_r ?_ | refine ablock_n ?_ | refine ablock_e ?_ | refine ablock_r ?_ | refine ablock_o rfl ?_ | refine ARounds.step ?_) | refine WpL.pass rfl ?_ | refine WpL.go (gd := some _) rfl ?_))
  refine AWp.loopI (fun seen : List Nat => ⟨16, objs.length, objs, wordsLoc objs.length seen, ofL [(0, .ptr (objs.length + 0) 0), (1, .ptr (objs.length + 1) 0), (5, .ptr (objs.length + 10) 0)]⟩) (fun seen => seen.Nodup ∧ ∀ x, x ∈ seen → x < 8) (fun seen => 8 - seen.length) [] ⟨List.nodup_nil, by simp⟩ ?_ (fun _ => rfl) ?_
  · exact Wk.same rfl (by repeat (first | exact trivial | refine ⟨Le.of_eq rfl, ?_⟩))
  rintro seen ⟨hnd, hlt⟩
  (refine AWp.seq ?_); (refine AWp.region rfl ?_)
  refine WpL.nextMap (k := 10) (es := formsE (objs.length + 5) (objs.length + 7)) (clock := 8) rfl rfl (loc_at (k := 9) rfl) (by simp [formsE]) (Nat.le_refl _) ?_ ?_
  · intro hall
    (repeat (first | (refine WpL.cons (by (first | exact St.exec rfl | exact St.newV rfl rfl rfl rfl | exact St.loadL rfl rfl rfl | exact St.stoL rfl rfl rfl rfl rfl | exact St.eqSc rfl | exact St.build rfl)) ?_) | (first | refine athen_n ?_ | refine WpL.nil ?_ | refine AWp.seq ?_ | refine AWp.region rfl ?_ | refine AWp.block ?_ | refine AWp.skip ?_ | refine AWp.exit ?_ | refine AWp.ret ?_ | refine AWp.condT rfl ?_ | refine AWp.condF rfl ?_ | refine athen_e ?_ | refine athen_r ?_ | refine ablock_n ?_ | refine ablock_e ?_ | refine ablock_r ?_ | refine ablock_o rfl ?_ | refine ARounds.step ?_) | refine WpL.pass rfl ?_ | refine WpL.go (gd := some _) rfl ?_))
    have hw : wdL seen = wordsL := by
      have h : ∀ i, i < 8 → wd i seen = wordAt i := fun i hi => by
        have : i ∈ seen := by
          have : ∃ e, e ∈ formsE (objs.length + 5) (objs.length + 7) ∧ e.1 = i := by
            have : i = 0 ∨ i = 1 ∨ i = 2 ∨ i = 3 ∨ i = 4 ∨ i = 5 ∨ i = 6 ∨ i = 7 := by omega
            rcases this with rfl | rfl | rfl | rfl | rfl | rfl | rfl | rfl <;> simp [formsE]
          obtain ⟨e, he, rfl⟩ := this
          exact hall e he
        simp [wd, this]
      simp only [wdL, wordsL, h 0 (by omega), h 1 (by omega), h 2 (by omega), h 3 (by omega), h 4 (by omega), h 5 (by omega), h 6 (by omega), h 7 (by omega)]
    refine RetQ.same (.inr rfl) (ResL.cons (ResIs.cellN _ _ _ _ _ _ _ _ rfl rfl rfl rfl (loc_at (k := 0) rfl) rfl rfl) ResL.nil) (Le.of_eq ?_) rfl ?_
    · show AV.agg (wdL seen) = _
      rw [hw]
    · exact .agg _ (fun c hc => by
        simp only [wordsL, List.mem_cons, List.mem_nil_iff, or_false] at hc
        rcases hc with rfl | rfl | rfl | rfl | rfl | rfl | rfl | rfl <;> exact .str _)
  · intro e he hns
    (repeat (first | (refine WpL.cons (by (first | exact St.exec rfl | exact St.newV rfl rfl rfl rfl | exact St.loadL rfl rfl rfl | exact St.stoL rfl rfl rfl rfl rfl | exact St.eqSc rfl | exact St.build rfl)) ?_) | (first | refine athen_n ?_ | refine WpL.nil ?_ | refine AWp.seq ?_ | refine AWp.region rfl ?_ | refine AWp.block ?_ | refine AWp.skip ?_ | refine AWp.exit ?_ | refine AWp.ret ?_ | refine AWp.condT rfl ?_ | refine AWp.condF rfl ?_ | refine athen_e ?_ | refine athen_r ?_ | refine ablock_n ?_ | refine ablock_e ?_ | refine ablock_r ?_ | refine ablock_o rfl ?_ | refine ARounds.step ?_) | refine WpL.pass rfl ?_ | refine WpL.go (gd := some _) rfl ?_))
    refine WpL.cons (St.entryMap (e := e) (k := 10) rfl rfl (loc_at (k := 9) rfl) he (by simp [formsE])) ?_
    have hk : e.1 < 8 := by
      simp only [formsE, List.mem_cons, List.mem_nil_iff, or_false] at he
      rcases he with rfl | rfl | rfl | rfl | rfl | rfl | rfl | rfl <;> simp
    have hwd : ∀ i, wd i (seen ++ [e.1]) = cond (i == e.1) (wordAt i) (wd i seen) := fun i => by
      unfold wd
      by_cases h : i = e.1
      · subst h; simp
      · rw [show (i == e.1) = false from by simpa using h]; simp [h]
    have hnd' : (seen ++ [e.1]).Nodup := by
      rw [List.nodup_append]
      exact ⟨hnd, by simp, fun a ha b hb => by simp only [List.mem_singleton] at hb; subst hb; intro h; subst h; exact hns ha⟩
    have hlt' : ∀ x, x ∈ seen ++ [e.1] → x < 8 := by
      intro x hx
      rcases List.mem_append.1 hx with h | h
      · exact hlt x h
      · simp only [List.mem_singleton] at h; subst h; exact hk
    have hlen : seen.length < 8 := by
      have := nodup_lt 8 _ hnd' hlt'
      simp at this; omega
    clear hns hk hlt hr
    simp only [formsE, List.mem_cons, List.mem_nil_iff, or_false] at he
    rcases he with rfl | rfl | rfl | rfl | rfl | rfl | rfl | rfl
    all_goals (repeat (first | (refine WpL.cons (by (first | exact St.indexArrPtr rfl rfl rfl rfl (by decide) (by decide)  | exact St.exec rfl | exact St.newV rfl rfl rfl rfl | exact St.loadL rfl rfl rfl | exact St.stoL rfl rfl rfl rfl rfl | exact St.eqSc rfl | exact St.build rfl)) ?_) | (first | refine athen_n ?_ | refine WpL.nil ?_ | refine AWp.seq ?_ | refine AWp.region rfl ?_ | refine AWp.block ?_ | refine AWp.skip ?_ | refine AWp.exit ?_ | refine AWp.ret ?_ | refine AWp.condT rfl ?_ | refine AWp.condF rfl ?_ | refine athen_e ?_ | refine athen_r ?_ | refine ablock_n ?_ | refine ablock_e ?_ | refine ablock_r ?_ | refine ablock_o rfl ?_ | refine ARounds.step ?_) | refine WpL.pass rfl ?_ | refine WpL.go (gd := some _) rfl ?_))
    · refine ⟨seen ++ [0], by simp only [List.length_append, List.length_singleton]; omega, ⟨hnd', hlt'⟩, ?_⟩
      have e : (wdL seen).set 0 (.str (wordAt 0)) = wdL (seen ++ [0]) := by
        simp only [wdL, hwd]; rfl
      have hl11 : (wordsLoc objs.length (seen ++ [0])).length = 11 := rfl
      refine Wk.mk_ Cplain ?_ (wordsLoc_lt _ _) (.inr (hLt.le (Nat.le_add_right _ _))) ?_
      · show (.row 51 noWords :: .row 51 ((wdL seen).set 0 (.str (wordAt 0))) :: (formsO (objs.length + 2) ++ [.iter (objs.length + 9) 8 (seen ++ [0]) 8]) : List AObj) = _
        rw [e]; rfl
      · (repeat (first | exact trivial | refine ⟨⟨(by first | exact Le.of_eq rfl | exact Le.unk _ _ | exact Le.any _ ), (by first | exact .int _ _ | exact .bool _ | exact .str _ | exact .nilptr | exact .any | exact .ptr _ _ (by omega) | exact idLt_map (fun _ => by assumption) | exact idLt_map (by assumption) | assumption)⟩, ?_⟩))
    · refine ⟨seen ++ [1], by simp only [List.length_append, List.length_singleton]; omega, ⟨hnd', hlt'⟩, ?_⟩
      have e : (wdL seen).set 1 (.str (wordAt 1)) = wdL (seen ++ [1]) := by
        simp only [wdL, hwd]; rfl
      have hl11 : (wordsLoc objs.length (seen ++ [1])).length = 11 := rfl
      refine Wk.mk_ Cplain ?_ (wordsLoc_lt _ _) (.inr (hLt.le (Nat.le_add_right _ _))) ?_
      · show (.row 51 noWords :: .row 51 ((wdL seen).set 1 (.str (wordAt 1))) :: (formsO (objs.length + 2) ++ [.iter (objs.length + 9) 8 (seen ++ [1]) 8]) : List AObj) = _
        rw [e]; rfl
      · (repeat (first | exact trivial | refine ⟨⟨(by first | exact Le.of_eq rfl | exact Le.unk _ _ | exact Le.any _ ), (by first | exact .int _ _ | exact .bool _ | exact .str _ | exact .nilptr | exact .any | exact .ptr _ _ (by omega) | exact idLt_map (fun _ => by assumption) | exact idLt_map (by assumption) | assumption)⟩, ?_⟩))
    · refine ⟨seen ++ [2], by simp only [List.length_append, List.length_singleton]; omega, ⟨hnd', hlt'⟩, ?_⟩
      have e : (wdL seen).set 2 (.str (wordAt 2)) = wdL (seen ++ [2]) := by
        simp only [wdL, hwd]; rfl
      have hl11 : (wordsLoc objs.length (seen ++ [2])).length = 11 := rfl
      refine Wk.mk_ Cplain ?_ (wordsLoc_lt _ _) (.inr (hLt.le (Nat.le_add_right _ _))) ?_
      · show (.row 51 noWords :: .row 51 ((wdL seen).set 2 (.str (wordAt 2))) :: (formsO (objs.length + 2) ++ [.iter (objs.length + 9) 8 (seen ++ [2]) 8]) : List AObj) = _
        rw [e]; rfl
      · (repeat (first | exact trivial | refine ⟨⟨(by first | exact Le.of_eq rfl | exact Le.unk _ _ | exact Le.any _ ), (by first | exact .int _ _ | exact .bool _ | exact .str _ | exact .nilptr | exact .any | exact .ptr _ _ (by omega) | exact idLt_map (fun _ => by assumption) | exact idLt_map (by assumption) | assumption)⟩, ?_⟩))
    · refine ⟨seen ++ [3], by simp only [List.length_append, List.length_singleton]; omega, ⟨hnd', hlt'⟩, ?_⟩
      have e : (wdL seen).set 3 (.str (wordAt 3)) = wdL (seen ++ [3]) := by
        simp only [wdL, hwd]; rfl
      have hl11 : (wordsLoc objs.length (seen ++ [3])).length = 11 := rfl
      refine Wk.mk_ Cplain ?_ (wordsLoc_lt _ _) (.inr (hLt.le (Nat.le_add_right _ _))) ?_
      · show (.row 51 noWords :: .row 51 ((wdL seen).set 3 (.str (wordAt 3))) :: (formsO (objs.length + 2) ++ [.iter (objs.length + 9) 8 (seen ++ [3]) 8]) : List AObj) = _
        rw [e]; rfl
      · (repeat (first | exact trivial | refine ⟨⟨(by first | exact Le.of_eq rfl | exact Le.unk _ _ | exact Le.any _ ), (by first | exact .int _ _ | exact .bool _ | exact .str _ | exact .nilptr | exact .any | exact .ptr _ _ (by omega) | exact idLt_map (fun _ => by assumption) | exact idLt_map (by assumption) | assumption)⟩, ?_⟩))
    · refine ⟨seen ++ [4], by simp only [List.length_append, List.length_singleton]; omega, ⟨hnd', hlt'⟩, ?_⟩
      have e : (wdL seen).set 4 (.str (wordAt 4)) = wdL (seen ++ [4]) := by
        simp only [wdL, hwd]; rfl
      have hl11 : (wordsLoc objs.length (seen ++ [4])).length = 11 := rfl
      refine Wk.mk_ Cplain ?_ (wordsLoc_lt _ _) (.inr (hLt.le (Nat.le_add_right _ _))) ?_
      · show (.row 51 noWords :: .row 51 ((wdL seen).set 4 (.str (wordAt 4))) :: (formsO (objs.length + 2) ++ [.iter (objs.length + 9) 8 (seen ++ [4]) 8]) : List AObj) = _
        rw [e]; rfl
      · (repeat (first | exact trivial | refine ⟨⟨(by first | exact Le.of_eq rfl | exact Le.unk _ _ | exact Le.any _ ), (by first | exact .int _ _ | exact .bool _ | exact .str _ | exact .nilptr | exact .any | exact .ptr _ _ (by omega) | exact idLt_map (fun _ => by assumption) | exact idLt_map (by assumption) | assumption)⟩, ?_⟩))
    · refine ⟨seen ++ [5], by simp only [List.length_append, List.length_singleton]; omega, ⟨hnd', hlt'⟩, ?_⟩
      have e : (wdL seen).set 5 (.str (wordAt 5)) = wdL (seen ++ [5]) := by
        simp only [wdL, hwd]; rfl
      have hl11 : (wordsLoc objs.length (seen ++ [5])).length = 11 := rfl
      refine Wk.mk_ Cplain ?_ (wordsLoc_lt _ _) (.inr (hLt.le (Nat.le_add_right _ _))) ?_
      · show (.row 51 noWords :: .row 51 ((wdL seen).set 5 (.str (wordAt 5))) :: (formsO (objs.length + 2) ++ [.iter (objs.length + 9) 8 (seen ++ [5]) 8]) : List AObj) = _
        rw [e]; rfl
      · (repeat (first | exact trivial | refine ⟨⟨(by first | exact Le.of_eq rfl | exact Le.unk _ _ | exact Le.any _ ), (by first | exact .int _ _ | exact .bool _ | exact .str _ | exact .nilptr | exact .any | exact .ptr _ _ (by omega) | exact idLt_map (fun _ => by assumption) | exact idLt_map (by assumption) | assumption)⟩, ?_⟩))
    · refine ⟨seen ++ [6], by simp only [List.length_append, List.length_singleton]; omega, ⟨hnd', hlt'⟩, ?_⟩
      have e : (wdL seen).set 6 (.str (wordAt 6)) = wdL (seen ++ [6]) := by
        simp only [wdL, hwd]; rfl
      have hl11 : (wordsLoc objs.length (seen ++ [6])).length = 11 := rfl
      refine Wk.mk_ Cplain ?_ (wordsLoc_lt _ _) (.inr (hLt.le (Nat.le_add_right _ _))) ?_
      · show (.row 51 noWords :: .row 51 ((wdL seen).set 6 (.str (wordAt 6))) :: (formsO (objs.length + 2) ++ [.iter (objs.length + 9) 8 (seen ++ [6]) 8]) : List AObj) = _
        rw [e]; rfl
      · (repeat (first | exact trivial | refine ⟨⟨(by first | exact Le.of_eq rfl | exact Le.unk _ _ | exact Le.any _ ), (by first | exact .int _ _ | exact .bool _ | exact .str _ | exact .nilptr | exact .any | exact .ptr _ _ (by omega) | exact idLt_map (fun _ => by assumption) | exact idLt_map (by assumption) | assumption)⟩, ?_⟩))
    · refine ⟨seen ++ [7], by simp only [List.length_append, List.length_singleton]; omega, ⟨hnd', hlt'⟩, ?_⟩
      have e : (wdL seen).set 7 (.str (wordAt 7)) = wdL (seen ++ [7]) := by
        simp only [wdL, hwd]; rfl
      have hl11 : (wordsLoc objs.length (seen ++ [7])).length = 11 := rfl
      refine Wk.mk_ Cplain ?_ (wordsLoc_lt _ _) (.inr (hLt.le (Nat.le_add_right _ _))) ?_
      · show (.row 51 noWords :: .row 51 ((wdL seen).set 7 (.str (wordAt 7))) :: (formsO (objs.length + 2) ++ [.iter (objs.length + 9) 8 (seen ++ [7]) 8]) : List AObj) = _
        rw [e]; rfl
      · (repeat (first | exact trivial | refine ⟨⟨(by first | exact Le.of_eq rfl | exact Le.unk _ _ | exact Le.any _ ), (by first | exact .int _ _ | exact .bool _ | exact .str _ | exact .nilptr | exact .any | exact .ptr _ _ (by omega) | exact idLt_map (fun _ => by assumption) | exact idLt_map (by assumption) | assumption)⟩, ?_⟩))
end Go.Proofs.YtdfmefkjjdlbiaaDoor
