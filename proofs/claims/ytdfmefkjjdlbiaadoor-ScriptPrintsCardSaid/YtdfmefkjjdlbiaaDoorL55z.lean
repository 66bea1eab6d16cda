/-
  From the law over plain steps to the law over a world: what the argument reads as, what the listed variables hold.
-/
import Derived.Test.YtdfmefkjjdlbiaaDoorL55y
import Derived.Test.YtdfmefkjjdlbiaaDoorAvLift
import Derived.Test.YtdfmefkjjdlbiaaDoorCards
import Derived.WalkKit
import Derived.ProofKit
import Derived.OpenShut
import Derived.Carry
import Derived.Deep.Slices
import Derived.Lib.LaidTab
import Derived.Lib.LaidU8
import Derived.LaidSub
namespace Go.Proofs.YtdfmefkjjdlbiaaDoor
open Go Go.Av Go.ChangeShapes Go.WideShapes Go.ChangeAt Go.RowKit
set_option maxRecDepth 100000
set_option linter.unusedVariables false
set_option linter.unusedSimpArgs false

theorem cells43 : Tryd.prog.cellsOf 43 = 6 := by kernel_rfl
theorem cells41 : Tryd.prog.cellsOf 41 = 3 := by kernel_rfl
theorem cells3 : Tryd.prog.cellsOf 3 = 1 := by kernel_rfl
theorem cells9 : Tryd.prog.cellsOf 9 = 1 := by kernel_rfl
theorem cells90 : Tryd.prog.cellsOf 90 = 12 := by kernel_rfl
theorem str_eta (s : ByteArray) : (⟨⟨s.data.toList⟩⟩ : ByteArray) = s := by cases s; simp

def cellsStep (s : Step) : List Value := [.int .i64 s.kind, .int .i64 s.n, .string ⟨⟨s.party⟩⟩, .int .i64 s.akind, .int .i64 s.an, .string ⟨⟨s.adeal⟩⟩]
def dataStep {H : Type} (s : Step) : DataW H := .agg [.lit (.int .i64 s.kind), .lit (.int .i64 s.n), .lit (.string s.party), .agg [.lit (.int .i64 s.akind), .lit (.int .i64 s.an), .lit (.string s.adeal)]]
def inI64 (n : Int) : Prop := -9223372036854775808 ≤ n ∧ n ≤ 9223372036854775807
theorem inI64_of {n : Int} (h : (Lit.int .i64 n).wf = true) : inI64 n := by
  simp only [Lit.wf, Bool.and_eq_true, decide_eq_true_eq] at h
  have e1 : IntKind.i64.min = -9223372036854775808 := rfl
  have e2 : IntKind.i64.max = 9223372036854775807 := rfl
  rw [e1, e2] at h
  exact h

section
variable {H : Type} {enc : TypeId × Value → H} {W : World} {base : Nat} {sp : Nat → Bool} {held : Bool}

/-- An act, opened. -/
theorem open_act {fuel : Nat} {cs : List Value} {x : DataW H × List MemPlace} (h : DataW.trod enc Tryd.prog W base sp held fuel 41 cs = some x) :
    ∃ (k n : Int) (d : List UInt8), cs = [.int .i64 k, .int .i64 n, .string ⟨⟨d⟩⟩] ∧ x.1 = .agg [.lit (.int .i64 k), .lit (.int .i64 n), .lit (.string d)] ∧ inI64 n := by
  obtain ⟨xs, n, _, rfl, hl, hlen, hf⟩ := DataW.trod_struct Tryd.underlying41 h
  rw [cells41] at hl
  match xs, hlen, hf with
  | [y0, y1, y2], _, hf =>
    match cs, hl, hf with
    | [c0, c1, c2], _, hf =>
      have h0 : DataW.trod enc Tryd.prog W base sp held n 3 ((List.drop 0 [c0, c1, c2]).take (Tryd.prog.cellsOf 3)) = some y0 := hf 0 _ rfl
      have h1 : DataW.trod enc Tryd.prog W base sp held n 3 ((List.drop 1 [c0, c1, c2]).take (Tryd.prog.cellsOf 3)) = some y1 := hf 1 _ rfl
      have h2 : DataW.trod enc Tryd.prog W base sp held n 9 ((List.drop 2 [c0, c1, c2]).take (Tryd.prog.cellsOf 9)) = some y2 := hf 2 _ rfl
      simp only [cells3, cells9, List.drop_zero, List.drop_succ_cons, List.take_succ_cons, List.take_zero, List.getElem?_cons_zero, List.getElem?_cons_succ] at h0 h1 h2
      obtain ⟨k0, e0, r0, w0⟩ := DataW.trod_int Tryd.underlying3 h0
      obtain ⟨k1, e1, r1, w1⟩ := DataW.trod_int Tryd.underlying3 h1
      obtain ⟨s, e2, r2, w2⟩ := DataW.trod_string Tryd.underlying9 h2
      subst r0 r1 r2
      simp only [List.cons.injEq, and_true] at e0 e1 e2
      subst e0 e1 e2
      exact ⟨k0, k1, s.data.toList, by rw [str_eta], rfl, inI64_of w1⟩

/-- A step, opened. -/
theorem open_step {fuel : Nat} {cs : List Value} {x : DataW H × List MemPlace} (h : DataW.trod enc Tryd.prog W base sp held fuel 43 cs = some x) :
    ∃ s : Step, cs = cellsStep s ∧ x.1 = dataStep s ∧ inI64 s.n ∧ inI64 s.an := by
  obtain ⟨xs, n, _, rfl, hl, hlen, hf⟩ := DataW.trod_struct Tryd.underlying43 h
  rw [cells43] at hl
  match xs, hlen, hf with
  | [y0, y1, y2, y3], _, hf =>
    match cs, hl, hf with
    | [c0, c1, c2, c3, c4, c5], _, hf =>
      have h0 : DataW.trod enc Tryd.prog W base sp held n 3 ((List.drop 0 [c0, c1, c2, c3, c4, c5]).take (Tryd.prog.cellsOf 3)) = some y0 := hf 0 _ rfl
      have h1 : DataW.trod enc Tryd.prog W base sp held n 3 ((List.drop 1 [c0, c1, c2, c3, c4, c5]).take (Tryd.prog.cellsOf 3)) = some y1 := hf 1 _ rfl
      have h2 : DataW.trod enc Tryd.prog W base sp held n 9 ((List.drop 2 [c0, c1, c2, c3, c4, c5]).take (Tryd.prog.cellsOf 9)) = some y2 := hf 2 _ rfl
      have h3 : DataW.trod enc Tryd.prog W base sp held n 41 ((List.drop 3 [c0, c1, c2, c3, c4, c5]).take (Tryd.prog.cellsOf 41)) = some y3 := hf 3 _ rfl
      simp only [cells3, cells9, cells41, List.drop_zero, List.drop_succ_cons, List.take_succ_cons, List.take_zero, List.getElem?_cons_zero, List.getElem?_cons_succ] at h0 h1 h2 h3
      obtain ⟨k0, e0, r0, w0⟩ := DataW.trod_int Tryd.underlying3 h0
      obtain ⟨k1, e1, r1, w1⟩ := DataW.trod_int Tryd.underlying3 h1
      obtain ⟨s, e2, r2, w2⟩ := DataW.trod_string Tryd.underlying9 h2
      obtain ⟨k, m, d, e3, r3, w3⟩ := open_act h3
      subst r0 r1 r2
      simp only [List.cons.injEq, and_true] at e0 e1 e2 e3
      obtain ⟨rfl, rfl, rfl⟩ := e3
      subst e0 e1 e2
      refine ⟨⟨k0, k1, s.data.toList, k, m, d⟩, ?_, ?_, inI64_of w1, w3⟩
      · simp only [cellsStep]
      · simp only [List.map_cons, List.map_nil, dataStep, r3]

instance : Inhabited Step := ⟨⟨0, 0, [], 0, 0, []⟩⟩
theorem bytes43 : 1 ≤ Tryd.prog.bytesOf 43 := of_decide_eq_true (by kernel_rfl)
theorem weights_part {H : Type} {P : Program} {e : TypeId} {n : Nat} {d : DataW H} (hn : n ∈ d.weights P e) : ∀ {l : List (DataW H)}, d ∈ l → n ∈ DataW.weightsAll P e l
  | x :: r, h => by
    simp only [DataW.weightsAll, List.mem_append]
    rcases List.mem_cons.1 h with e | e
    · subst e; exact .inl hn
    · exact .inr (weights_part hn e)
theorem weights_step {H : Type} (s : Step) : s.party.length ∈ (dataStep (H := H) s).weights Tryd.prog 43 ∧ s.adeal.length ∈ (dataStep (H := H) s).weights Tryd.prog 43 := by
  simp [dataStep, DataW.weights, DataW.weightsEach, Tryd.underlying43, Tryd.underlying41]
theorem add_at (b o k : Nat) : (⟨b, o, none⟩ : Addr).add k = ⟨b, o + k, none⟩ := by
  unfold Addr.add; split
  · subst k; rfl
  · rfl
theorem rep_step {G : Ghost} (s : Step) (j : Nat) (hj : j < 6) : Rep G ((encStep s).getD j .any) ((cellsStep s).getD j undef) ∧ ((cellsStep s).getD j undef).oneCell' = true ∧ (cellsStep s)[j]? = some ((cellsStep s).getD j undef) := by
  match j, hj with
  | 0, _ => exact ⟨.int _ _, rfl, rfl⟩
  | 1, _ => exact ⟨.int _ _, rfl, rfl⟩
  | 2, _ => exact ⟨.str _, rfl, rfl⟩
  | 3, _ => exact ⟨.int _ _, rfl, rfl⟩
  | 4, _ => exact ⟨.int _ _, rfl, rfl⟩
  | 5, _ => exact ⟨.str _, rfl, rfl⟩

/-- The argument, opened: a list of steps. -/
theorem open_arg {v : Value} {d : DataW H} {ps : List MemPlace} (hval : Value.okWide Tryd.prog W .any base 22 v) (h : DataW.Trod enc Tryd.prog W 0 (fun _ => true) true 22 v d ps) :
    ∃ (l : List Step), Rep (G0 W) (.slc (l.map encStep) .unk) v ∧ (∀ s, s ∈ l → inI64 s.n ∧ inI64 s.an) ∧ ∀ (m : Nat), (∀ n, n ∈ d.weights Tryd.prog 22 → n ≤ m) → l.length ≤ m ∧ ∀ s, s ∈ l → s.party.length ≤ m ∧ s.adeal.length ≤ m := by
  obtain ⟨a0, len0, cap0, rfl⟩ := okWide_slice Tryd.underlying22 hval
  obtain ⟨fuel, hf0⟩ := h
  have hf : DataW.trod enc Tryd.prog W 0 (fun _ => true) true fuel 22 [.slice a0 len0 cap0] = some (d, ps) := hf0
  rcases Go.Deep.open_slice Tryd.underlying22 hf with ⟨e, hx⟩ | ⟨a, len, cap, m, n, D, Pl, e, _, hle, _, hm, hx, hall⟩
  · simp only [List.cons.injEq, and_true, Value.slice.injEq] at e
    obtain ⟨rfl, rfl, rfl⟩ := e
    refine ⟨[], ?_, fun s h => (by cases h), fun m _ => ⟨Nat.zero_le _, fun s h => by cases h⟩⟩
    exact .slc [] .unk none 0 0 (fun _ => undef) (fun i h => absurd h (Nat.not_lt_zero _)) (fun h => absurd h (Nat.not_lt_zero _)) (fun x h => by cases h) (fun i j h => absurd h (Nat.not_lt_zero _)) (Nat.le_refl _) trivial
  · simp only [List.cons.injEq, and_true, Value.slice.injEq] at e
    obtain ⟨rfl, rfl, rfl⟩ := e
    obtain ⟨b, o, spot⟩ := a
    have hspot : spot = none := by
      simp only [Value.okWide, Tryd.underlying22, Cell.okWide, Cell.ok] at hval
      exact hval.2.2.2.1
    subst hspot
    simp only [if_true] at hm
    subst hm
    rw [cells43] at hall
    have each : ∀ i, i < len0 → ∃ s : Step, W.cells? 0 (⟨b, o + i * 6, none⟩ : Addr) 6 = some (cellsStep s) ∧ D i = dataStep s ∧ inI64 s.n ∧ inI64 s.an := by
      intro i hi
      obtain ⟨cs, h1, h2⟩ := hall i (by omega)
      obtain ⟨s, rfl, h3, h4⟩ := open_step h2
      rw [add_at] at h1
      exact ⟨s, h1, h3, h4⟩
    obtain ⟨f, hfs⟩ := Go.Deep.choose_lt each
    refine ⟨(List.range len0).map f, ?_, ?_, ?_⟩
    · refine slc0 (sz := 6) (by simp) hle (fun i hi => ?_) (fun i j => (cellsStep (f i)).getD j undef) (fun i j hi hj => ?_) (fun i j hi hj => ?_)
      · simp [List.getD, hi, encStep]
      · obtain ⟨_, _, h1⟩ := World.cells?_some (hfs i hi).1
        have h2 := h1 j hj
        rw [add_at, (rep_step (G := G0 W) (f i) j hj).2.2] at h2
        exact ⟨h2, (rep_step (G := G0 W) (f i) j hj).2.1⟩
      · have := (rep_step (G := G0 W) (f i) j hj).1
        have e1 : (((List.range len0).map f).map encStep).getD i [] = encStep (f i) := by simp [List.getD, hi]
        rw [e1]; exact this
    · intro s hs
      obtain ⟨i, hi, rfl⟩ := List.mem_map.1 hs
      exact (hfs i (List.mem_range.1 hi)).2.2
    · intro m hm
      have hd : d = .slice ((List.range len0).map D) _ := congrArg Prod.fst hx
      subst hd
      simp only [DataW.weights, Tryd.underlying22] at hm
      have h1 := hm _ (List.mem_cons_self ..)
      rw [List.length_map, List.length_range] at h1
      refine ⟨by rw [List.length_map, List.length_range]; exact Nat.le_trans (Nat.le_trans (Nat.le_add_right _ _) (Nat.le_mul_of_pos_right _ bytes43)) h1, fun s hs => ?_⟩
      obtain ⟨i, hi, rfl⟩ := List.mem_map.1 hs
      have h3 : ∀ n, n ∈ (D i).weights Tryd.prog 43 → n ≤ m := fun n hn => hm n (List.mem_cons_of_mem _ (List.mem_append_left _ (weights_part hn (List.mem_map_of_mem (f := D) hi))))
      rw [(hfs i (List.mem_range.1 hi)).2.1] at h3
      exact ⟨h3 _ (weights_step (f i)).1, h3 _ (weights_step (f i)).2⟩
end

/-! ### the listed variables -/
theorem gActs : Tryd.prog.globalNamed "supercargo/script.acts" = some 0 := by kernel_rfl
theorem gActsT : (Tryd.prog.globals[0]?).map (·.type) = some 90 := by kernel_rfl
theorem gPow : Tryd.prog.globalNamed "internal/strconv.uint64pow10" = some 4 := by kernel_rfl
theorem actsData : (Rows.laid_supercargo_script_acts : DataW Unit) = .agg (actsL.map fun s => .lit (.string s)) := rfl
theorem powData : (Rows.laid_internal_strconv_uint64pow10 : DataW Unit) = Lib.tabData .u64 Lib.pow10Tab := rfl
theorem acts_cells {W : World} (h : Lib.VarReads Tryd.prog W "supercargo/script.acts" Rows.laid_supercargo_script_acts) (i : Nat) (s : List UInt8) (hs : actsL[i]? = some s) : W.cell? ⟨0, i, none⟩ = some (.string ⟨⟨s⟩⟩) := by
  obtain ⟨g, t, cs, fuel, p, hg, ht, hv, hd⟩ := h
  obtain rfl := Option.some.inj (gActs.symm.trans hg)
  obtain rfl := Option.some.inj (gActsT.symm.trans ht)
  rw [actsData] at hd
  have hi : i < 12 := (List.getElem?_eq_some_iff.1 hs).1
  obtain ⟨fuel', d, q, h1, h2⟩ := Lib.array_elem Tryd.underlying90 hd i hi
  rw [cells9, Nat.mul_one] at h2
  obtain ⟨b, h3, h4, _⟩ := DataW.trod_string Tryd.underlying9 h2
  rw [List.getElem?_map, hs] at h1
  have h5 := Option.some.inj h1
  have h6 : (DataW.lit (.string s) : DataW Unit) = .lit (.string b.data.toList) := h5.trans (congrArg Prod.fst h4)
  simp only [DataW.lit.injEq, Lit.string.injEq] at h6
  subst h6
  have h7 := congrArg (·[0]?) h3
  simp only [List.getElem?_take, List.getElem?_drop, Nat.add_zero, List.getElem?_cons_zero, Nat.zero_lt_one, if_true] at h7
  rw [World.var?_cell gActs hv i, ← Array.getElem?_toList]
  exact h7
theorem acts_rep {W : World} (h : Lib.VarReads Tryd.prog W "supercargo/script.acts" Rows.laid_supercargo_script_acts) : ∀ g cells, C.gl g = some cells → Rep (G0 W) (.cptr cells) (.pointer (some ⟨g, 0, none⟩)) := by
  intro g cells hg
  have hg : globs g = some cells := hg
  unfold globs at hg
  split at hg
  · cases hg
    refine cptr0 (vs := actsL.map fun s => Value.string ⟨⟨s⟩⟩) rfl (fun i v hv => ?_) (fun i c v hc hv => ?_)
    · rw [List.getElem?_map, Option.map_eq_some_iff] at hv
      obtain ⟨s, hs, rfl⟩ := hv
      exact acts_cells h i s hs
    · rw [List.getElem?_map, Option.map_eq_some_iff] at hv hc
      obtain ⟨s, hs, rfl⟩ := hv
      obtain ⟨s', hs', rfl⟩ := hc
      obtain rfl := Option.some.inj (hs.symm.trans hs')
      exact ⟨.str _, rfl⟩
  · cases hg
theorem pow_is {W : World} (h : Lib.VarReads Tryd.prog W "internal/strconv.uint64pow10" Rows.laid_internal_strconv_uint64pow10) (t : TypeId) (ht : (Tryd.prog.globals[4]?).map (·.type) = some t) (e : TypeId) (hu : Tryd.prog.underlying t = some (.array 20 e)) (he : Tryd.prog.underlying e = some (.int .u64)) (hce : Tryd.prog.cellsOf e = 1) (hct : Tryd.prog.cellsOf t = 20) :
    Lib.TabIs Tryd.prog W "internal/strconv.uint64pow10" .u64 Lib.pow10Tab := by
  obtain ⟨g', t', cs, fuel, p, hg', ht', hvar, hd⟩ := h
  obtain rfl := Option.some.inj (gPow.symm.trans hg')
  obtain rfl := Option.some.inj (ht.symm.trans ht')
  rw [powData] at hd
  unfold Lib.TabIs
  rw [hvar, ← Lib.cells_of_tab hu he hce hct hd]
theorem maxlen_is {W : World} (h : W.ShapedOpen Tryd.prog) : ∃ m, W.cell? ⟨1, 0, none⟩ = some (.int .i64 m) := by
  obtain ⟨cs, hc, hs, hr⟩ := h.1 1 #[.int .i64 0] 3 (of_decide_eq_true (by kernel_rfl)) (by kernel_rfl)
  obtain ⟨ts, hts, _, hall⟩ := hr (by kernel_rfl)
  obtain rfl := Option.some.inj ((show Tryd.prog.cellTypes Tryd.prog.depth 3 = some [3] by kernel_rfl).symm.trans hts)
  have hs : cs.size = 1 := hs
  have e : cs[0]? = some cs[0] := Array.getElem?_eq_getElem (by omega)
  obtain ⟨u, hu, hok⟩ := hall 0 _ e
  obtain rfl : 3 = u := Option.some.inj hu
  have e2 : W.cell? ⟨1, 0, none⟩ = some cs[0] := by simp [World.cell?, hc, e]
  rw [e2]
  generalize cs[0] = v at hok
  unfold Cell.ok at hok
  rw [Tryd.underlying3] at hok
  split at hok <;> simp_all
theorem tabs_below {W W' : World} (h : tabs W) (hb : Below W.heap.size W W') : tabs W' := by
  obtain ⟨h1, m, h2⟩ := h
  have k4 : 4 < W.heap.size := by
    rcases Nat.lt_or_ge 4 W.heap.size with k | k
    · exact k
    · have : W.heap[4]? = none := Array.getElem?_eq_none k
      simp [Lib.TabIs, World.var?, gPow, this] at h1
  refine ⟨?_, m, ?_⟩
  · unfold Lib.TabIs at h1 ⊢
    rw [← h1]; simp only [World.var?, gPow, Option.bind_some]; rw [hb.block 4 k4]
  · rw [← h2]; simp only [World.cell?]; rw [hb.block 1 (by omega)]


theorem pow_here {W : World} (h : Lib.VarReads Tryd.prog W "internal/strconv.uint64pow10" Rows.laid_internal_strconv_uint64pow10) : Lib.TabIs Tryd.prog W "internal/strconv.uint64pow10" .u64 Lib.pow10Tab :=
  pow_is h 145 (by kernel_rfl) 128 Tryd.underlying145 Tryd.underlying128 (by kernel_rfl) (by kernel_rfl)

/-- WHAT THE LAW GIVES, FOR EVERY ARGUMENT WITHIN THE BOUND AND EVERY WORLD THAT HOLDS THE TABLES. -/
theorem contract (H : Type) (enc : TypeId × Value → H) (W : World) (base : Nat) (args : Array Value) (ds gs : List (DataW H)) (before : List MemPlace)
    (hval : ∀ (j : Nat) t v, Tryd.f3.params[j]? = some t → args[j]? = some v → Value.okWide Tryd.prog W .any base t v)
    (hW : DataW.Whole enc Tryd.prog Tryd.f3.params.toList Rows.scriptPrintsSpec.vars false W args.toList ds gs before) (hz : (DataW.weightsEach Tryd.prog Tryd.f3.params.toList (ds ++ gs)).all (· ≤ reachBytes) = true)
    (hL : laidMet Tryd.prog Rows.scriptPrintsRow.laid W) (hS : W.ShapedOpen Tryd.prog) :
    Calls Tryd.prog 3 args W fun e W' => ∃ v, e = .returned v ∧ Rows.scriptPrintsSpec.post enc Tryd.prog Tryd.f3 false true false false W args v W' := by
  have hW' := hW
  obtain ⟨p, q, hA0, hV, rfl, hfz, hnd⟩ := hW
  have hA : DataW.TrodAll enc Tryd.prog W 0 (fun _ => true) true Tryd.f3.params.toList args.toList ds p := hA0
  rw [Tryd.params3] at hA hval
  obtain ⟨v0, d0, rfl, rfl, h0⟩ := trodAll_one hA
  obtain ⟨rfl, rfl⟩ := trodVars_none hV
  obtain ⟨l, hrep, hint, hbulk⟩ := open_arg (hval 0 22 v0 rfl rfl) h0
  clear hA0
  have hlt : ∀ x ∈ p, x.block < W.heap.size := fun x hx => by simpa using hW'.lt x (by simpa using hx)
  have hb : ∀ n, n ∈ d0.weights Tryd.prog 22 → n ≤ 140737488351232 := fun n hn => by
    have := List.all_eq_true.1 hz n (by rw [Tryd.params3]; simp only [DataW.weightsEach, List.append_nil]; exact hn)
    exact of_decide_eq_true this
  obtain ⟨hlen, hstr⟩ := hbulk _ hb
  have small : Small l := ⟨hlen, hstr, hint⟩
  have hL1 := Lib.laidMet.reads hL (n := "internal/strconv.uint64pow10") (.tail _ (.tail _ (.head _)))
  have hL2 := Lib.laidMet.reads hL (n := "supercargo/script.acts") (.tail _ (.tail _ (.tail _ (.tail _ (.tail _ (.tail _ (.head _)))))))
  have tb : tabs W := ⟨pow_here hL1, maxlen_is hS⟩
  have ha : RepA (G0 W) [.slc (l.map encStep) .unk] [v0] := ⟨rfl, fun i hi => by
    match i, hi with
    | 0, _ => exact hrep⟩
  refine (law_calls (law_ok l small) ha (acts_rep hL2) (fun w' hb => tabs_below tb hb)).mono ?_
  rintro e W' ⟨rfl, hbelow⟩
  refine ⟨_, rfl, _, _, _, [], p, [], hW', trodAll_cons_mk (shut_bool Tryd.underlying4 _) trodAll_mk0, ?_, rfl, hbelow.frame _, fun h => by cases h⟩
  exact trodAll_mk1 (Below.trod (by kernel_rfl) (by kernel_rfl) (of_decide_eq_true (by kernel_rfl)) h0 hbelow hlt)
end Go.Proofs.YtdfmefkjjdlbiaaDoor
