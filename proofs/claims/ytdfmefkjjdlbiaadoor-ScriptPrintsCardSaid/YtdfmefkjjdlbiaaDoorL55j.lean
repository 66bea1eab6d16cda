/-
  strings.Cut.
-/
import Derived.Test.YtdfmefkjjdlbiaaDoorL55b
namespace Go.Proofs.YtdfmefkjjdlbiaaDoor
open Go Go.Av
set_option maxRecDepth 100000
set_option linter.unusedVariables false
set_option linter.unusedSimpArgs false
attribute [local irreducible] ARounds AWp WpL OpStep OpStepR DrawL AThen ABlock RetQ PureF ACalls

theorem cut_ok (s : List UInt8) (c : UInt8) (hs : s.length < 4294967281) : PureF C 17 [.str s, .str [c]] (.tuple [.str (Lib.cut s [c]).1, .str (Lib.cut s [c]).2.1, .bool (Lib.cut s [c]).2.2]) := by
  refine PureF.ofCalls fun G objs w vs hm ha => ?_
  obtain ⟨c1, c2, rfl, hc1, hc2⟩ := repA2 ha
  have e1 := hc1.str_inv
  have e2 := hc2.str_inv
  subst e1; subst e2
  obtain ⟨_, m, hmm⟩ := hm.inv w hm.below
  refine (Tryd.strings_Cut ⟨⟨s⟩⟩ ⟨⟨[c]⟩⟩ m w hs hmm).mono ?_
  rintro e w' ⟨rfl, k, rfl⟩
  exact ⟨_, rfl, below_drewN w k, Rep.tuple_mk (vs := [_, _, _]) ⟨rfl, fun i hi => by
    have : i = 0 ∨ i = 1 ∨ i = 2 := by simp at hi; omega
    rcases this with rfl | rfl | rfl
    · exact .str _
    · exact .str _
    · exact .bool _⟩⟩
end Go.Proofs.YtdfmefkjjdlbiaaDoor
