/-
  What the library's functions come to here; the closures of 'forms'.
-/
import Derived.Test.YtdfmefkjjdlbiaaDoorL55a
import Derived.Lib.SplitLaws
namespace Go.Proofs.YtdfmefkjjdlbiaaDoor
open Go Go.Av
set_option maxRecDepth 100000
set_option linter.unusedVariables false
set_option linter.unusedSimpArgs false
attribute [local irreducible] ARounds AWp WpL OpStep OpStepR DrawL AThen ABlock RetQ PureF ACalls

/-! ### Arguments -/
theorem below_grow (w : World) (k : Nat) (os : Array Obj) : Go.RowKit.Below w.heap.size w (Go.Sort.grow (w.drewN k) os) :=
  ⟨rfl, rfl, rfl, by simp [Go.Sort.grow, World.drewN], fun i hi => by
    simp only [Go.Sort.grow, World.drewN]; rw [Array.getElem?_append_left hi]⟩
theorem below_drewN (w : World) (k : Nat) : Go.RowKit.Below w.heap.size w (w.drewN k) := ⟨rfl, rfl, rfl, Nat.le_refl _, fun _ _ => rfl⟩

/-! ### The library -/
theorem itoa_ok (n : Int) (h0 : -9223372036854775808 ≤ n) (h1 : n ≤ 9223372036854775807) : PureF C 31 [.int .i64 n] (.str (Lib.itoa n)) := by
  refine PureF.ofCalls fun G objs w vs hm ha => ?_
  obtain ⟨c, rfl, hc⟩ := repA1 ha
  have := hc.int_inv
  subst this
  refine (Tryd.strconv_Itoa n h0 h1 w (hm.inv w hm.below).1).mono ?_
  rintro e w' ⟨rfl, k, os, rfl⟩
  exact ⟨_, rfl, below_grow w k os, .str _⟩

/-- the words of a text, parted at each sign -/
def parts (s : List UInt8) (c : UInt8) : List (List UInt8) := (Lib.splitB ⟨#[c]⟩ 0 (Lib.countB ⟨⟨s⟩⟩ ⟨#[c]⟩) ⟨⟨s⟩⟩).map fun p => p.data.toList
theorem split_ok (s : List UInt8) (c : UInt8) (hs : s.length < 4294967281) : PureF C 37 [.str s, .str [c]] (.slc ((parts s c).map fun p => [.str p]) .full) := by
  refine PureF.of fun objs => ACalls.of fun G w vs hm ha => ?_
  obtain ⟨c1, c2, rfl, hc1, hc2⟩ := repA2 ha
  have e1 := hc1.str_inv
  have e2 := hc2.str_inv
  subst e1; subst e2
  obtain ⟨_, m, hmm⟩ := hm.inv w hm.below
  refine (Tryd.strings_Split ⟨⟨s⟩⟩ ⟨⟨[c]⟩⟩ m w hs hmm (Nat.le_refl 1)).mono ?_
  rintro e w' ⟨rfl, rfl⟩
  have hlen := Lib.splitB_all ⟨#[c]⟩ (Nat.le_refl _) 0 (Lib.countB ⟨⟨s⟩⟩ ⟨#[c]⟩) ⟨⟨s⟩⟩ rfl
  have hrep : RepL G ((parts s c).map fun p => [AV.str p]).flatten ((Lib.splitB ⟨#[c]⟩ 0 (Lib.countB ⟨⟨s⟩⟩ ⟨#[c]⟩) ⟨⟨s⟩⟩).map Value.string) := by
    rw [flatten_single, parts, List.map_map]
    generalize Lib.splitB ⟨#[c]⟩ 0 (Lib.countB ⟨⟨s⟩⟩ ⟨#[c]⟩) ⟨⟨s⟩⟩ = l
    refine RepL.of_at (by simp) fun i c v hc hv => ?_
    rw [List.getElem?_map] at hc hv
    cases hp : l[i]? with
    | none => rw [hp] at hc; cases hc
    | some p => rw [hp] at hc hv; cases hc; cases hv; exact ⟨.str _, rfl⟩
  obtain ⟨G', hm', hx', _, _, hr', _⟩ := new_slice hm (elems := (parts s c).map fun p => [.str p]) (sz := 1) (cap := (parts s c).length) (L := (Lib.splitB ⟨#[c]⟩ 0 (Lib.countB ⟨⟨s⟩⟩ ⟨#[c]⟩) ⟨⟨s⟩⟩).map Value.string) (rest := []) 9 (AllLen.map fun _ => rfl) hrep (by simp) (by simp)
  have hpl : (parts s c).length = Lib.countB ⟨⟨s⟩⟩ ⟨#[c]⟩ + 1 := by simp only [parts, List.length_map]; exact hlen
  have := hr' G' .full (Ext.refl (Nat.le_refl _)) (by show (parts s c).length = _; simp)
  refine ⟨_, _, objs, G', rfl, ?_, by simpa using hm', hx', rfl, rfl⟩
  simp only [List.length_map, hpl] at this
  exact this
end Go.Proofs.YtdfmefkjjdlbiaaDoor
