/-
  Words and lines, in plain terms.
-/
import Derived.Test.YtdfmefkjjdlbiaaDoorL55n
import Derived.Test.YtdfmefkjjdlbiaaDoorL55e
namespace Go.Proofs.YtdfmefkjjdlbiaaDoor
open Go Go.Av
set_option maxRecDepth 100000
set_option linter.unusedVariables false
set_option linter.unusedSimpArgs false
attribute [local irreducible] ARounds AWp WpL OpStep OpStepR DrawL AThen ABlock RetQ PureF ACalls

/-! ### a line parted -/
theorem index_hit (c : UInt8) (r : List UInt8) : ∀ w : List UInt8, c ∉ w → Lib.index (w ++ c :: r) [c] = (w.length : Int)
  | [], _ => by rw [List.nil_append, Lib.index]; simp [List.isPrefixOf]
  | b :: w, h => by
    have hb : c ≠ b := fun e => h (by simp [e])
    have ih := index_hit c r w (fun e => h (by simp [e]))
    rw [List.cons_append, Lib.index]
    have hp : ([c] : List UInt8).isPrefixOf (b :: (w ++ c :: r)) = false := by simp [List.isPrefixOf, hb]
    rw [hp, ih]
    have : ¬ ((w.length : Int) == -1) = true := by simp only [beq_iff_eq]; omega
    simp only [Bool.false_eq_true, if_false, this, List.length_cons]
    simp
def flatW (ws : List (List UInt8)) : List UInt8 := (ws.map fun w => 32 :: w).flatten
theorem count_none (c : UInt8) (w : List UInt8) (h : c ∉ w) : w.count c = 0 := List.count_eq_zero.2 h
theorem splitK_join : ∀ (ws : List (List UInt8)) (w0 : List UInt8), (32 : UInt8) ∉ w0 → (∀ w, w ∈ ws → (32 : UInt8) ∉ w) → Lib.splitK [32] 0 (Lib.count (w0 ++ flatW ws) [32]) (w0 ++ flatW ws) = w0 :: ws
  | [], w0, h, _ => by
    have : Lib.count (w0 ++ flatW []) [32] = 0 := by rw [Lib.count_one]; simp only [flatW, List.map_nil, List.flatten_nil, List.append_nil]; exact count_none _ _ h
    rw [this]
    simp [Lib.splitK, flatW]
  | w :: ws, w0, h, hs => by
    have e : w0 ++ flatW (w :: ws) = w0 ++ 32 :: (w ++ flatW ws) := by simp [flatW]
    have hc : Lib.count (w0 ++ flatW (w :: ws)) [32] = Lib.count (w ++ flatW ws) [32] + 1 := by
      rw [Lib.count_one, Lib.count_one, e, List.count_append, count_none _ _ h, List.count_cons_self]; omega
    rw [hc, e, Lib.splitK, index_hit _ _ _ h]
    have : ¬ ((w0.length : Int) == -1) = true := by simp only [beq_iff_eq]; omega
    rw [if_neg this]
    have ih := splitK_join ws w (hs w (by simp)) (fun x hx => hs x (by simp [hx]))
    have e1 : ((w0.length : Int).toNat + 0) = w0.length := by omega
    have e2 : ((w0.length : Int).toNat + ([32] : List UInt8).length) = w0.length + 1 := by simp
    rw [e1, e2, List.take_left, ← ih]
    congr 1
    have : List.drop (w0.length + 1) (w0 ++ 32 :: (w ++ flatW ws)) = w ++ flatW ws := by
      rw [List.drop_append]; simp
    rw [this, ih]
theorem parts_join (w0 : List UInt8) (ws : List (List UInt8)) (h : (32 : UInt8) ∉ w0) (hs : ∀ w, w ∈ ws → (32 : UInt8) ∉ w) : parts (w0 ++ flatW ws) 32 = w0 :: ws := by
  have := Lib.splitB_data ⟨#[32]⟩ 0 (Lib.countB ⟨⟨w0 ++ flatW ws⟩⟩ ⟨#[32]⟩) ⟨⟨w0 ++ flatW ws⟩⟩
  unfold parts
  rw [this]
  exact splitK_join ws w0 h hs

/-! ### no blank -/
theorem name_nosp {s : List UInt8} (h : nameS s = true) : (32 : UInt8) ∉ s := by
  intro hm
  unfold nameS at h
  simp only [Bool.and_eq_true] at h
  have := List.all_eq_true.1 h.2 _ hm
  revert this
  simp only [signS, isLetterS, isDigitS, leI_def, eqI_def]
  decide
theorem name_len {s : List UInt8} (h : nameS s = true) : s.length ≤ 16 := by
  unfold nameS at h
  simp only [Bool.and_eq_true, decide_eq_true_eq] at h
  exact h.1.2
theorem act_nosp : ∀ k, k < 12 → (32 : UInt8) ∉ actAt k := by decide
theorem dec_nosp {l : List UInt8} (h : l.all digitB = true) : (32 : UInt8) ∉ l := by
  intro hm
  have := List.all_eq_true.1 h _ hm
  revert this
  simp [digitB]
theorem among_iff {n : Int} : amongS n = true ↔ -1048576 ≤ n ∧ n ≤ 1048576 := by
  unfold amongS
  cases h1 : leI (-1048576) n with
  | false => rw [leI_f] at h1; simp; omega
  | true => rw [leI_t] at h1; simp only [cond_true, leI_t]; omega
theorem itoa_nosp {n : Int} (h : amongS n = true) : (32 : UInt8) ∉ Lib.itoa n := by
  rw [among_iff] at h
  unfold Lib.itoa
  split
  · obtain ⟨a, _⟩ := decDigits_ok 8 n.natAbs (by omega)
    intro hm
    rcases List.mem_cons.1 hm with hm | hm
    · revert hm; decide
    · exact dec_nosp a hm
  · obtain ⟨a, _⟩ := decDigits_ok 8 n.toNat (by omega)
    exact dec_nosp a
theorem itoa_len (n : Int) (h0 : -9223372036854775808 ≤ n) (h1 : n ≤ 9223372036854775807) : (Lib.itoa n).length ≤ 20 := by
  unfold Lib.itoa
  split
  · obtain ⟨_, _, _, d⟩ := decDigits_ok 18 n.natAbs (by omega)
    simp; omega
  · obtain ⟨_, _, _, d⟩ := decDigits_ok 18 n.toNat (by omega)
    omega
theorem word_nosp : ∀ k, k < 8 → (32 : UInt8) ∉ wordAt k := by decide

/-! ### a step, kind by kind -/
def actW (a : Int) : List UInt8 := if 0 ≤ a ∧ a < 12 then actAt a.toNat else []
def inAct (a : Int) : Bool := decide (0 ≤ a ∧ a < 12)
def psK (b c : Nat) : Nat → List (List AV)
  | 0 => [partyP, actP, dealP, numP c]
  | 1 => [numP b]
  | 2 => [numP b]
  | 3 => [numP b]
  | 5 => [partyP]
  | 6 => [partyP, numP b]
  | 7 => [partyP]
  | _ => []
def endK : Nat → SEnd
  | 4 => .nil
  | _ => .full
def wsK (x : Step) : Nat → List (List UInt8)
  | 0 => [x.party, actW x.akind, x.adeal, Lib.itoa x.an]
  | 1 => [Lib.itoa x.n]
  | 2 => [Lib.itoa x.n]
  | 3 => [Lib.itoa x.n]
  | 5 => [x.party]
  | 6 => [x.party, Lib.itoa x.n]
  | 7 => [x.party]
  | _ => []
def oksK (x : Step) : Nat → List Bool
  | 0 => [nameS x.party, inAct x.akind, nameS x.adeal, amongS x.an]
  | 1 => [amongS x.n]
  | 2 => [amongS x.n]
  | 3 => [amongS x.n]
  | 5 => [nameS x.party]
  | 6 => [nameS x.party, amongS x.n]
  | 7 => [nameS x.party]
  | _ => []
def xsK (x : Step) : Nat → Nat → Step
  | 0, 0 => kindStep 0
  | 0, 1 => ⟨0, 0, x.party, 0, 0, []⟩
  | 0, 2 => ⟨0, 0, x.party, x.akind, 0, []⟩
  | 0, 3 => ⟨0, 0, x.party, x.akind, 0, x.adeal⟩
  | 0, _ => ⟨0, 0, x.party, x.akind, x.an, x.adeal⟩
  | 6, 0 => kindStep 6
  | 6, 1 => ⟨6, 0, x.party, 0, 0, []⟩
  | 6, _ => ⟨6, x.n, x.party, 0, 0, []⟩
  | k, 0 => kindStep k
  | 5, _ => ⟨5, 0, x.party, 0, 0, []⟩
  | 7, _ => ⟨7, 0, x.party, 0, 0, []⟩
  | 1, _ => ⟨1, x.n, [], 0, 0, []⟩
  | 2, _ => ⟨2, x.n, [], 0, 0, []⟩
  | 3, _ => ⟨3, x.n, [], 0, 0, []⟩
  | k, _ => kindStep k
def fidOf : AV → Nat
  | .func f _ _ => f
  | _ => 0
def capOf : AV → List AV
  | .func _ _ c => c
  | _ => []
def partK (b c k i j : Nat) : AV := ((psK b c k).getD i []).getD j .any
/-- may the step be printed, and what is its line? -/
def projS (x : Step) (k : Nat) : Step := xsK x k (psK 0 0 k).length
def fineK (x : Step) (k : Nat) : Bool := (oksK x k).all id && decide (projS x k = x)
def lineK (x : Step) (k : Nat) : List UInt8 := wordAt k ++ flatW (wsK x k)

structure Fit (x : Step) : Prop where
  party : x.party.length ≤ 100
  adeal : x.adeal.length ≤ 100
  n : -9223372036854775808 ≤ x.n ∧ x.n ≤ 9223372036854775807
  an : -9223372036854775808 ≤ x.an ∧ x.an ≤ 9223372036854775807

theorem actFit (x : Step) : ∃ w o, w = actW x.akind ∧ o = inAct x.akind ∧ PureF C 27 [.agg (encStep x)] (.tuple [.str w, .bool o]) := by
  refine ⟨_, _, rfl, rfl, ?_⟩
  unfold actW inAct
  by_cases h : 0 ≤ x.akind ∧ x.akind < 12
  · rw [if_pos h, decide_eq_true h]
    exact showAct_ok x x.akind.toNat (by omega) (by omega)
  · rw [if_neg h, decide_eq_false h]
    exact showActBad_ok x (by omega)

theorem shows_ok (objs : List AObj) (b c : Nat) (hb : objs[b]? = some (.row 91 [.func 35 [] []])) (hc : objs[c]? = some (.row 91 [.func 36 [] []])) (x : Step) (hx : Fit x) (k : Nat) (hk : k < 8) (i : Nat) (hi : i < (psK b c k).length) :
    ∃ w o, (wsK x k)[i]? = some w ∧ (oksK x k)[i]? = some o ∧ (∃ fn, C.P.funcs[fidOf (partK b c k i 0)]? = some fn ∧ fn.body.isNone = false ∧ (fn.name == "runtime.NumGoroutine") = false) ∧
      ∀ ob : List AObj, (∀ (j : Nat) (y : AObj), objs[j]? = some y → ob[j]? = some y) → ACalls C (fidOf (partK b c k i 0)) ([.agg (encStep x)] ++ capOf (partK b c k i 0)) ob (fun r o' => r = .tuple [.str w, .bool o] ∧ o' = ob) := by
  have hp : x.party.length < 2 ^ 40 := by have := hx.party; omega
  have hd : x.adeal.length < 2 ^ 40 := by have := hx.adeal; omega
  have gP : ∀ ob : List AObj, ACalls C 22 [.agg (encStep x)] ob (fun r o' => r = .tuple [.str x.party, .bool (nameS x.party)] ∧ o' = ob) := fun ob => (showParty_ok x hp).on ob
  have gD : ∀ ob : List AObj, ACalls C 25 [.agg (encStep x)] ob (fun r o' => r = .tuple [.str x.adeal, .bool (nameS x.adeal)] ∧ o' = ob) := fun ob => (showDeal_ok x hd).on ob
  obtain ⟨wa, oa, hwa, hoa, gA⟩ := actFit x
  have f1 : ∃ fn, C.P.funcs[22]? = some fn ∧ fn.body.isNone = false ∧ (fn.name == "runtime.NumGoroutine") = false := ⟨_, Tryd.func22, by kernel_rfl, by kernel_rfl⟩
  have f3 : ∃ fn, C.P.funcs[25]? = some fn ∧ fn.body.isNone = false ∧ (fn.name == "runtime.NumGoroutine") = false := ⟨_, Tryd.func25, by kernel_rfl, by kernel_rfl⟩
  have f5 : ∃ fn, C.P.funcs[27]? = some fn ∧ fn.body.isNone = false ∧ (fn.name == "runtime.NumGoroutine") = false := ⟨_, Tryd.func27, by kernel_rfl, by kernel_rfl⟩
  have f7 : ∃ fn, C.P.funcs[30]? = some fn ∧ fn.body.isNone = false ∧ (fn.name == "runtime.NumGoroutine") = false := ⟨_, Tryd.func30, by kernel_rfl, by kernel_rfl⟩
  have hk' : k = 0 ∨ k = 1 ∨ k = 2 ∨ k = 3 ∨ k = 4 ∨ k = 5 ∨ k = 6 ∨ k = 7 := by omega
  rcases hk' with rfl | rfl | rfl | rfl | rfl | rfl | rfl | rfl
  · match i, hi with
    | 0, _ => exact ⟨_, _, rfl, rfl, f1, fun ob _ => gP ob⟩
    | 1, _ => subst hwa; subst hoa; exact ⟨_, _, rfl, rfl, f5, fun ob _ => gA.on ob⟩
    | 2, _ => exact ⟨_, _, rfl, rfl, f3, fun ob _ => gD ob⟩
    | 3, _ => exact ⟨_, _, rfl, rfl, f7, fun ob h => showBy_ok x hx.an.1 hx.an.2 ob c (h _ _ hc)⟩
  · match i, hi with
    | 0, _ => exact ⟨_, _, rfl, rfl, f7, fun ob h => showN_ok x hx.n.1 hx.n.2 ob b (h _ _ hb)⟩
  · match i, hi with
    | 0, _ => exact ⟨_, _, rfl, rfl, f7, fun ob h => showN_ok x hx.n.1 hx.n.2 ob b (h _ _ hb)⟩
  · match i, hi with
    | 0, _ => exact ⟨_, _, rfl, rfl, f7, fun ob h => showN_ok x hx.n.1 hx.n.2 ob b (h _ _ hb)⟩
  · exact absurd hi (Nat.not_lt_zero _)
  · match i, hi with
    | 0, _ => exact ⟨_, _, rfl, rfl, f1, fun ob _ => gP ob⟩
  · match i, hi with
    | 0, _ => exact ⟨_, _, rfl, rfl, f1, fun ob _ => gP ob⟩
    | 1, _ => exact ⟨_, _, rfl, rfl, f7, fun ob h => showN_ok x hx.n.1 hx.n.2 ob b (h _ _ hb)⟩
  · match i, hi with
    | 0, _ => exact ⟨_, _, rfl, rfl, f1, fun ob _ => gP ob⟩

/-- reading the line of a step that may be printed -/
theorem readsK (objs : List AObj) (b c : Nat) (hbl : objs[b]? = some (.row 91 [.func 35 [] []])) (hcl : objs[c]? = some (.row 91 [.func 36 [] []])) (x : Step) (hx : Fit x) (k : Nat) (hk : k < 8) (hok : (oksK x k).all id = true) :
    ReadK objs (psK b c k).length (xsK x k) (fun i => (wsK x k).getD i []) (fun i => fidOf (partK b c k i 1)) (fun i => capOf (partK b c k i 1)) := by
  have hb' := lt_of_getElem? hbl
  have hc' := lt_of_getElem? hcl
  have f2 : ∃ fn, C.P.funcs[24]? = some fn ∧ fn.body.isNone = false ∧ (fn.name == "runtime.NumGoroutine") = false := ⟨_, Tryd.func24, by kernel_rfl, by kernel_rfl⟩
  have f4 : ∃ fn, C.P.funcs[26]? = some fn ∧ fn.body.isNone = false ∧ (fn.name == "runtime.NumGoroutine") = false := ⟨_, Tryd.func26, by kernel_rfl, by kernel_rfl⟩
  have f6 : ∃ fn, C.P.funcs[28]? = some fn ∧ fn.body.isNone = false ∧ (fn.name == "runtime.NumGoroutine") = false := ⟨_, Tryd.func28, by kernel_rfl, by kernel_rfl⟩
  have f7 : ∃ fn, C.P.funcs[33]? = some fn ∧ fn.body.isNone = false ∧ (fn.name == "runtime.NumGoroutine") = false := ⟨_, Tryd.func33, by kernel_rfl, by kernel_rfl⟩
  have hp : x.party.length < 2 ^ 40 := by have := hx.party; omega
  have hd : x.adeal.length < 2 ^ 40 := by have := hx.adeal; omega
  have rP : ∀ (y : Step) (ob : List AObj) (id : Nat), nameS x.party = true → ob[id]? = some (.row 43 (encStep y)) → ACalls C 24 [.ptr id 0, .str x.party] ob (fun r o => r = .bool true ∧ o = ob.set id (.row 43 (encStep { y with party := x.party }))) := fun y ob id h ho => by
    have := readParty_ok y x.party hp ob id ho
    rwa [h] at this
  have rD : ∀ (y : Step) (ob : List AObj) (id : Nat), nameS x.adeal = true → ob[id]? = some (.row 43 (encStep y)) → ACalls C 26 [.ptr id 0, .str x.adeal] ob (fun r o => r = .bool true ∧ o = ob.set id (.row 43 (encStep { y with adeal := x.adeal }))) := fun y ob id h ho => by
    have := readDeal_ok y x.adeal hd ob id ho
    rwa [h] at this
  have rA : ∀ (y : Step) (ob : List AObj) (id : Nat), inAct x.akind = true → ob[id]? = some (.row 43 (encStep y)) → ACalls C 28 [.ptr id 0, .str (actW x.akind)] ob (fun r o => r = .bool true ∧ o = ob.set id (.row 43 (encStep { y with akind := x.akind }))) := fun y ob id h ho => by
    have h := of_decide_eq_true h
    have := readAct_ok y x.akind.toNat (by omega) ob id ho
    have e : ((x.akind.toNat : Nat) : Int) = x.akind := by omega
    rw [e] at this
    unfold actW
    rw [if_pos h]; exact this
  have rN : ∀ (y : Step) (ob : List AObj) (id : Nat), amongS x.n = true → (∀ (j : Nat) (y : AObj), objs[j]? = some y → ob[j]? = some y) → objs.length ≤ id → ob[id]? = some (.row 43 (encStep y)) → ACalls C 33 [.ptr id 0, .str (Lib.itoa x.n), .ptr b 0] ob (fun r o => r = .bool true ∧ o = ob.set id (.row 43 (encStep { y with n := x.n }))) := fun y ob id h hob hid ho =>
    readN_ok y x.n h ob id b (by omega) ho (hob _ _ hbl)
  have rB : ∀ (y : Step) (ob : List AObj) (id : Nat), amongS x.an = true → (∀ (j : Nat) (y : AObj), objs[j]? = some y → ob[j]? = some y) → objs.length ≤ id → ob[id]? = some (.row 43 (encStep y)) → ACalls C 33 [.ptr id 0, .str (Lib.itoa x.an), .ptr c 0] ob (fun r o => r = .bool true ∧ o = ob.set id (.row 43 (encStep { y with an := x.an }))) := fun y ob id h hob hid ho =>
    readBy_ok y x.an h ob id c (by omega) ho (hob _ _ hcl)
  have hk' : k = 0 ∨ k = 1 ∨ k = 2 ∨ k = 3 ∨ k = 4 ∨ k = 5 ∨ k = 6 ∨ k = 7 := by omega
  rcases hk' with rfl | rfl | rfl | rfl | rfl | rfl | rfl | rfl
  · simp only [oksK, List.all_cons, List.all_nil, Bool.and_true, id, Bool.and_eq_true] at hok
    refine ⟨fun i hi => ?_, fun i hi ob id hob hid ho => ?_⟩
    · match i, hi with
      | 0, _ => exact f2
      | 1, _ => exact f6
      | 2, _ => exact f4
      | 3, _ => exact f7
    · match i, hi with
      | 0, _ => exact rP _ ob id hok.1 ho
      | 1, _ => exact rA _ ob id hok.2.1 ho
      | 2, _ => exact rD _ ob id hok.2.2.1 ho
      | 3, _ => exact rB _ ob id hok.2.2.2 hob hid ho
  · simp only [oksK, List.all_cons, List.all_nil, Bool.and_true, id] at hok
    refine ⟨fun i hi => ?_, fun i hi ob id hob hid ho => ?_⟩
    · match i, hi with | 0, _ => exact f7
    · match i, hi with | 0, _ => exact rN _ ob id hok hob hid ho
  · simp only [oksK, List.all_cons, List.all_nil, Bool.and_true, id] at hok
    refine ⟨fun i hi => ?_, fun i hi ob id hob hid ho => ?_⟩
    · match i, hi with | 0, _ => exact f7
    · match i, hi with | 0, _ => exact rN _ ob id hok hob hid ho
  · simp only [oksK, List.all_cons, List.all_nil, Bool.and_true, id] at hok
    refine ⟨fun i hi => ?_, fun i hi ob id hob hid ho => ?_⟩
    · match i, hi with | 0, _ => exact f7
    · match i, hi with | 0, _ => exact rN _ ob id hok hob hid ho
  · exact ⟨fun i hi => absurd hi (Nat.not_lt_zero _), fun i hi => absurd hi (Nat.not_lt_zero _)⟩
  · simp only [oksK, List.all_cons, List.all_nil, Bool.and_true, id] at hok
    refine ⟨fun i hi => ?_, fun i hi ob id hob hid ho => ?_⟩
    · match i, hi with | 0, _ => exact f2
    · match i, hi with | 0, _ => exact rP _ ob id hok ho
  · simp only [oksK, List.all_cons, List.all_nil, Bool.and_true, id, Bool.and_eq_true] at hok
    refine ⟨fun i hi => ?_, fun i hi ob id hob hid ho => ?_⟩
    · match i, hi with
      | 0, _ => exact f2
      | 1, _ => exact f7
    · match i, hi with
      | 0, _ => exact rP _ ob id hok.1 ho
      | 1, _ => exact rN _ ob id hok.2 hob hid ho
  · simp only [oksK, List.all_cons, List.all_nil, Bool.and_true, id] at hok
    refine ⟨fun i hi => ?_, fun i hi ob id hob hid ho => ?_⟩
    · match i, hi with | 0, _ => exact f2
    · match i, hi with | 0, _ => exact rP _ ob id hok ho
end Go.Proofs.YtdfmefkjjdlbiaaDoor
