/-
  'forms': the map of the lines' forms.
-/
import Derived.Test.YtdfmefkjjdlbiaaDoorL55c
namespace Go.Proofs.YtdfmefkjjdlbiaaDoor
open Go Go.Av
set_option maxRecDepth 100000
set_option linter.unusedVariables false
set_option linter.unusedSimpArgs false
attribute [local irreducible] ARounds AWp WpL OpStep OpStepR DrawL AThen ABlock RetQ PureF ACalls

theorem number_ok (of : Nat) (objs : List AObj) (b : Nat) (hb : objs.length = b) :
    ACalls C 29 [.func of [] []] objs (fun r o => r = .agg [.func 30 [] [.ptr b 0], .func 33 [] [.ptr b 0]] ∧ o = objs ++ [.row 91 [.func of [] []]]) := by
  subst hb
  (refine ACalls.withLt fun hLt => ?_); (refine ACalls.enter Cplain (nt := 6) (res := [.cell 2 63]) Tryd.func29 rfl rfl Tryd.ntmps29 (by show 1 ≤ 6; omega) ?_)
  (repeat (first | (refine WpL.cons (by (first | exact St.build rfl | exact St.buildSlice rfl rfl rfl rfl rfl rfl rfl rfl rfl rfl rfl rfl rfl  | exact St.exec rfl | exact St.newV rfl rfl rfl rfl | exact St.loadL rfl rfl rfl | exact St.stoL rfl rfl rfl rfl rfl | exact St.eqSc rfl | exact St.build rfl)) ?_) | (first | refine athen_n ?_ | refine WpL.nil ?_ | refine AWp.seq ?_ | refine AWp.region rfl ?_ | refine AWp.block ?_ | refine AWp.skip ?_ | refine AWp.exit ?_ | refine AWp.ret ?_ | refine AWp.condT rfl ?_ | refine AWp.condF rfl ?_ | refine athen_e ?_ | refine athen_r ?_ | refine ablock_n ?_ | refine ablock_e ?_ | refine ablock_r ?_ | refine ablock_o rfl ?_ | refine ARounds.step ?_) | refine WpL.pass rfl ?_ | refine WpL.go (gd := some _) rfl ?_))
  refine RetQ.to (objs' := objs ++ [.row 91 [.func of [] []]]) (.inr rfl) (ResL.cons (ResIs.cellN _ _ _ _ _ _ _ _ rfl rfl rfl rfl (loc_at rfl) rfl rfl) ResL.nil) (Le.of_eq rfl) ?_ ?_ ?_ ?_ ?_
  · show List.take _ (objs ++ ([.row 91 [.func of [] []]] ++ [_])) = _
    rw [← List.append_assoc, List.take_left]
  · have h : objs.length < (objs ++ [AObj.row 91 [.func of [] []]]).length := by simp
    exact .agg _ (by
      intro c hc
      have hc : c ∈ [AV.func 30 [] [AV.ptr objs.length 0], AV.func 33 [] [AV.ptr objs.length 0]] := hc
      simp only [List.mem_cons, List.mem_nil_iff, or_false] at hc
      rcases hc with rfl | rfl <;> exact .func _ _ _ (by simp) (fun c hc => by
        simp only [List.mem_singleton] at hc; subst hc; exact .ptr _ _ h))
  · simp
  · refine ObjsLt.append (hLt.le (by simp)) ?_
    intro x hx
    simp only [List.mem_singleton] at hx
    subst hx
    intro c hc
    simp only [List.mem_singleton] at hc
    subst hc
    exact .func _ _ _ (by simp) (by simp)
  · exact ⟨rfl, rfl⟩

def partyP : List AV := [.func 22 [] [], .func 24 [] []]
def dealP : List AV := [.func 25 [] [], .func 26 [] []]
def actP : List AV := [.func 27 [] [], .func 28 [] []]
def numP (b : Nat) : List AV := [.func 30 [] [.ptr b 0], .func 33 [] [.ptr b 0]]
/-- the map's entries -/
def formsE (b c : Nat) : List (Nat × AV × AV) :=
  [(0, .str [97, 99, 116], .agg [.int .i64 0, .slc [partyP, actP, dealP, numP c] .full]),
   (1, .str [100, 101, 108, 105, 118, 101, 114], .agg [.int .i64 1, .slc [numP b] .full]),
   (2, .str [108, 111, 115, 101], .agg [.int .i64 2, .slc [numP b] .full]),
   (3, .str [100, 111, 117, 98, 108, 101], .agg [.int .i64 3, .slc [numP b] .full]),
   (4, .str [100, 97, 121], .agg [.int .i64 4, .slc [] .nil]),
   (5, .str [102, 108, 117, 115, 104], .agg [.int .i64 5, .slc [partyP] .full]),
   (6, .str [99, 114, 97, 115, 104], .agg [.int .i64 6, .slc [partyP, numP b] .full]),
   (7, .str [115, 101, 110, 100], .agg [.int .i64 7, .slc [partyP] .full])]

/-- what 'forms' lays -/
def formsO (p : Nat) : List AObj := [.row 63 partyP, .row 63 dealP, .row 63 actP, .row 91 [.func 35 [] []], .row 63 (numP (p + 3)), .row 91 [.func 36 [] []], .row 63 (numP (p + 5)), .map (formsE (p + 3) (p + 5)) 8]
theorem forms_ok (objs : List AObj) : ACalls C 10 [] objs (fun r o => r = .map (objs.length + 7) ∧ o = objs ++ formsO objs.length) := by
  (refine ACalls.withLt fun hLt => ?_); (refine ACalls.enter Cplain (nt := 42) (res := [.tmp 0]) Tryd.func10 rfl rfl Tryd.ntmps10 (by show 0 ≤ 42; omega) ?_)
  (refine AWp.seq ?_); (refine AWp.region rfl ?_); (repeat (refine WpL.cons (by (first | exact St.exec rfl | exact St.newV rfl rfl rfl rfl | exact St.loadL rfl rfl rfl | exact St.stoL rfl rfl rfl rfl rfl | exact St.eqSc rfl | exact St.build rfl)) ?_)); (refine WpL.nil ?_); (refine athen_n ?_)
  (refine AWp.seq ?_); (refine AWp.region rfl ?_); (repeat (refine WpL.cons (by (first | exact St.build rfl | exact St.buildSlice rfl rfl rfl rfl rfl rfl rfl rfl rfl rfl rfl rfl rfl  | exact St.exec rfl | exact St.newV rfl rfl rfl rfl | exact St.loadL rfl rfl rfl | exact St.stoL rfl rfl rfl rfl rfl | exact St.eqSc rfl | exact St.build rfl)) ?_)); (refine WpL.nil ?_); (refine athen_n ?_)
  (refine AWp.seq ?_); (refine AWp.region rfl ?_); (repeat (refine WpL.cons (by (first | exact St.build rfl | exact St.buildSlice rfl rfl rfl rfl rfl rfl rfl rfl rfl rfl rfl rfl rfl  | exact St.exec rfl | exact St.newV rfl rfl rfl rfl | exact St.loadL rfl rfl rfl | exact St.stoL rfl rfl rfl rfl rfl | exact St.eqSc rfl | exact St.build rfl)) ?_)); (refine WpL.nil ?_); (refine athen_n ?_)
  (refine AWp.seq ?_); (refine AWp.region rfl ?_); (repeat (refine WpL.cons (by (first | exact St.build rfl | exact St.buildSlice rfl rfl rfl rfl rfl rfl rfl rfl rfl rfl rfl rfl rfl  | exact St.exec rfl | exact St.newV rfl rfl rfl rfl | exact St.loadL rfl rfl rfl | exact St.stoL rfl rfl rfl rfl rfl | exact St.eqSc rfl | exact St.build rfl)) ?_)); (refine WpL.nil ?_); (refine athen_n ?_)
  (refine AWp.seq ?_); (refine AWp.region rfl ?_); (repeat (refine WpL.cons (by (first | exact St.exec rfl | exact St.newV rfl rfl rfl rfl | exact St.loadL rfl rfl rfl | exact St.stoL rfl rfl rfl rfl rfl | exact St.eqSc rfl | exact St.build rfl)) ?_)); (refine WpL.nil ?_); (refine athen_n ?_)
  (refine AWp.wk (Wk.same (loc' := [.row 63 partyP, .row 63 dealP, .row 63 actP]) (l := [(1, .ptr (objs.length + 0) 0), (2, .ptr (objs.length + 1) 0), (3, .ptr (objs.length + 2) 0), (4, .func 29 [] [])]) rfl (by repeat (first | exact trivial | refine ⟨Le.of_eq rfl, ?_⟩))) ?_)
  (refine AWp.seq ?_); (refine AWp.region rfl ?_); (repeat (refine WpL.cons (by (first | exact St.exec rfl | exact St.newV rfl rfl rfl rfl | exact St.loadL rfl rfl rfl | exact St.stoL rfl rfl rfl rfl rfl | exact St.eqSc rfl | exact St.build rfl)) ?_))
  refine WpL.consR rfl (St.callR (fid := 29) (fs := []) (cs := []) rfl rfl (number_ok 35 _ (objs.length + 3) (by simp)) Tryd.func29 (by kernel_rfl) (by kernel_rfl)) ?_
  rintro r o ⟨rfl, rfl⟩
  refine ⟨objs, _, List.append_assoc _ _ _, rfl, ?_⟩
  (repeat (refine WpL.cons (by (first | exact St.exec rfl | exact St.newV rfl rfl rfl rfl | exact St.loadL rfl rfl rfl | exact St.stoL rfl rfl rfl rfl rfl | exact St.eqSc rfl | exact St.build rfl)) ?_))
  (refine WpL.nil ?_); (refine athen_n ?_)
  (refine AWp.wk (Wk.same (loc' := [.row 63 partyP, .row 63 dealP, .row 63 actP, .row 91 [.func 35 [] []], .row 63 (numP (objs.length + 3))]) (l := [(1, .ptr (objs.length + 0) 0), (2, .ptr (objs.length + 1) 0), (3, .ptr (objs.length + 2) 0), (4, .func 29 [] []), (5, .ptr (objs.length + 4) 0)]) rfl (by repeat (first | exact trivial | refine ⟨Le.of_eq rfl, ?_⟩))) ?_)
  (refine AWp.seq ?_); (refine AWp.region rfl ?_); (repeat (refine WpL.cons (by (first | exact St.exec rfl | exact St.newV rfl rfl rfl rfl | exact St.loadL rfl rfl rfl | exact St.stoL rfl rfl rfl rfl rfl | exact St.eqSc rfl | exact St.build rfl)) ?_))
  refine WpL.consR rfl (St.callR (fid := 29) (fs := []) (cs := []) rfl rfl (number_ok 36 _ (objs.length + 5) (by simp)) Tryd.func29 (by kernel_rfl) (by kernel_rfl)) ?_
  rintro r o ⟨rfl, rfl⟩
  refine ⟨objs, _, List.append_assoc _ _ _, rfl, ?_⟩
  (repeat (refine WpL.cons (by (first | exact St.exec rfl | exact St.newV rfl rfl rfl rfl | exact St.loadL rfl rfl rfl | exact St.stoL rfl rfl rfl rfl rfl | exact St.eqSc rfl | exact St.build rfl)) ?_))
  (refine WpL.nil ?_); (refine athen_n ?_)
  (refine AWp.wk (Wk.same (loc' := [.row 63 partyP, .row 63 dealP, .row 63 actP, .row 91 [.func 35 [] []], .row 63 (numP (objs.length + 3)), .row 91 [.func 36 [] []], .row 63 (numP (objs.length + 5))]) (l := [(1, .ptr (objs.length + 0) 0), (2, .ptr (objs.length + 1) 0), (3, .ptr (objs.length + 2) 0), (5, .ptr (objs.length + 4) 0), (6, .ptr (objs.length + 6) 0)]) rfl (by repeat (first | exact trivial | refine ⟨Le.of_eq rfl, ?_⟩))) ?_)
  (refine AWp.seq ?_); (refine AWp.region rfl ?_)
  (repeat (refine WpL.cons (by (first | exact St.build rfl | exact St.buildSlice rfl rfl rfl rfl rfl rfl rfl rfl rfl rfl rfl rfl rfl | exact St.makeMap rfl rfl rfl rfl  | exact St.exec rfl | exact St.newV rfl rfl rfl rfl | exact St.loadL rfl rfl rfl | exact St.stoL rfl rfl rfl rfl rfl | exact St.eqSc rfl | exact St.build rfl)) ?_))
  (refine WpL.cons (by exact St.mapPutL rfl rfl rfl rfl rfl rfl rfl rfl rfl rfl) ?_)
  (refine WpL.wk (Wk.same (loc' := [.row 63 partyP, .row 63 dealP, .row 63 actP, .row 91 [.func 35 [] []], .row 63 (numP (objs.length + 3)), .row 91 [.func 36 [] []], .row 63 (numP (objs.length + 5)), .map ((formsE (objs.length + 3) (objs.length + 5)).take 1) 1]) (l := [(1, .ptr (objs.length + 0) 0), (2, .ptr (objs.length + 1) 0), (3, .ptr (objs.length + 2) 0), (5, .ptr (objs.length + 4) 0), (6, .ptr (objs.length + 6) 0), (14, .map (objs.length + 7))]) rfl (by repeat (first | exact trivial | refine ⟨Le.of_eq rfl, ?_⟩))) ?_)
  (repeat (refine WpL.cons (by (first | exact St.build rfl | exact St.buildSlice rfl rfl rfl rfl rfl rfl rfl rfl rfl rfl rfl rfl rfl | exact St.makeMap rfl rfl rfl rfl  | exact St.exec rfl | exact St.newV rfl rfl rfl rfl | exact St.loadL rfl rfl rfl | exact St.stoL rfl rfl rfl rfl rfl | exact St.eqSc rfl | exact St.build rfl)) ?_))
  (refine WpL.cons (by exact St.mapPutL rfl rfl rfl rfl rfl rfl rfl rfl rfl rfl) ?_)
  (refine WpL.wk (Wk.same (loc' := [.row 63 partyP, .row 63 dealP, .row 63 actP, .row 91 [.func 35 [] []], .row 63 (numP (objs.length + 3)), .row 91 [.func 36 [] []], .row 63 (numP (objs.length + 5)), .map ((formsE (objs.length + 3) (objs.length + 5)).take 2) 2]) (l := [(1, .ptr (objs.length + 0) 0), (2, .ptr (objs.length + 1) 0), (3, .ptr (objs.length + 2) 0), (5, .ptr (objs.length + 4) 0), (6, .ptr (objs.length + 6) 0), (14, .map (objs.length + 7))]) rfl (by repeat (first | exact trivial | refine ⟨Le.of_eq rfl, ?_⟩))) ?_)
  (repeat (refine WpL.cons (by (first | exact St.build rfl | exact St.buildSlice rfl rfl rfl rfl rfl rfl rfl rfl rfl rfl rfl rfl rfl | exact St.makeMap rfl rfl rfl rfl  | exact St.exec rfl | exact St.newV rfl rfl rfl rfl | exact St.loadL rfl rfl rfl | exact St.stoL rfl rfl rfl rfl rfl | exact St.eqSc rfl | exact St.build rfl)) ?_))
  (refine WpL.cons (by exact St.mapPutL rfl rfl rfl rfl rfl rfl rfl rfl rfl rfl) ?_)
  (refine WpL.wk (Wk.same (loc' := [.row 63 partyP, .row 63 dealP, .row 63 actP, .row 91 [.func 35 [] []], .row 63 (numP (objs.length + 3)), .row 91 [.func 36 [] []], .row 63 (numP (objs.length + 5)), .map ((formsE (objs.length + 3) (objs.length + 5)).take 3) 3]) (l := [(1, .ptr (objs.length + 0) 0), (2, .ptr (objs.length + 1) 0), (3, .ptr (objs.length + 2) 0), (5, .ptr (objs.length + 4) 0), (6, .ptr (objs.length + 6) 0), (14, .map (objs.length + 7))]) rfl (by repeat (first | exact trivial | refine ⟨Le.of_eq rfl, ?_⟩))) ?_)
  (repeat (refine WpL.cons (by (first | exact St.build rfl | exact St.buildSlice rfl rfl rfl rfl rfl rfl rfl rfl rfl rfl rfl rfl rfl | exact St.makeMap rfl rfl rfl rfl  | exact St.exec rfl | exact St.newV rfl rfl rfl rfl | exact St.loadL rfl rfl rfl | exact St.stoL rfl rfl rfl rfl rfl | exact St.eqSc rfl | exact St.build rfl)) ?_))
  (refine WpL.cons (by exact St.mapPutL rfl rfl rfl rfl rfl rfl rfl rfl rfl rfl) ?_)
  (refine WpL.wk (Wk.same (loc' := [.row 63 partyP, .row 63 dealP, .row 63 actP, .row 91 [.func 35 [] []], .row 63 (numP (objs.length + 3)), .row 91 [.func 36 [] []], .row 63 (numP (objs.length + 5)), .map ((formsE (objs.length + 3) (objs.length + 5)).take 4) 4]) (l := [(1, .ptr (objs.length + 0) 0), (2, .ptr (objs.length + 1) 0), (3, .ptr (objs.length + 2) 0), (5, .ptr (objs.length + 4) 0), (6, .ptr (objs.length + 6) 0), (14, .map (objs.length + 7))]) rfl (by repeat (first | exact trivial | refine ⟨Le.of_eq rfl, ?_⟩))) ?_)
  (repeat (refine WpL.cons (by (first | exact St.build rfl | exact St.buildSlice rfl rfl rfl rfl rfl rfl rfl rfl rfl rfl rfl rfl rfl | exact St.makeMap rfl rfl rfl rfl  | exact St.exec rfl | exact St.newV rfl rfl rfl rfl | exact St.loadL rfl rfl rfl | exact St.stoL rfl rfl rfl rfl rfl | exact St.eqSc rfl | exact St.build rfl)) ?_))
  (refine WpL.cons (by exact St.mapPutL rfl rfl rfl rfl rfl rfl rfl rfl rfl rfl) ?_)
  (refine WpL.wk (Wk.same (loc' := [.row 63 partyP, .row 63 dealP, .row 63 actP, .row 91 [.func 35 [] []], .row 63 (numP (objs.length + 3)), .row 91 [.func 36 [] []], .row 63 (numP (objs.length + 5)), .map ((formsE (objs.length + 3) (objs.length + 5)).take 5) 5]) (l := [(1, .ptr (objs.length + 0) 0), (2, .ptr (objs.length + 1) 0), (3, .ptr (objs.length + 2) 0), (5, .ptr (objs.length + 4) 0), (6, .ptr (objs.length + 6) 0), (14, .map (objs.length + 7))]) rfl (by repeat (first | exact trivial | refine ⟨Le.of_eq rfl, ?_⟩))) ?_)
  (repeat (refine WpL.cons (by (first | exact St.build rfl | exact St.buildSlice rfl rfl rfl rfl rfl rfl rfl rfl rfl rfl rfl rfl rfl | exact St.makeMap rfl rfl rfl rfl  | exact St.exec rfl | exact St.newV rfl rfl rfl rfl | exact St.loadL rfl rfl rfl | exact St.stoL rfl rfl rfl rfl rfl | exact St.eqSc rfl | exact St.build rfl)) ?_))
  (refine WpL.cons (by exact St.mapPutL rfl rfl rfl rfl rfl rfl rfl rfl rfl rfl) ?_)
  (refine WpL.wk (Wk.same (loc' := [.row 63 partyP, .row 63 dealP, .row 63 actP, .row 91 [.func 35 [] []], .row 63 (numP (objs.length + 3)), .row 91 [.func 36 [] []], .row 63 (numP (objs.length + 5)), .map ((formsE (objs.length + 3) (objs.length + 5)).take 6) 6]) (l := [(1, .ptr (objs.length + 0) 0), (2, .ptr (objs.length + 1) 0), (3, .ptr (objs.length + 2) 0), (5, .ptr (objs.length + 4) 0), (6, .ptr (objs.length + 6) 0), (14, .map (objs.length + 7))]) rfl (by repeat (first | exact trivial | refine ⟨Le.of_eq rfl, ?_⟩))) ?_)
  (repeat (refine WpL.cons (by (first | exact St.build rfl | exact St.buildSlice rfl rfl rfl rfl rfl rfl rfl rfl rfl rfl rfl rfl rfl | exact St.makeMap rfl rfl rfl rfl  | exact St.exec rfl | exact St.newV rfl rfl rfl rfl | exact St.loadL rfl rfl rfl | exact St.stoL rfl rfl rfl rfl rfl | exact St.eqSc rfl | exact St.build rfl)) ?_))
  (refine WpL.cons (by exact St.mapPutL rfl rfl rfl rfl rfl rfl rfl rfl rfl rfl) ?_)
  (refine WpL.wk (Wk.same (loc' := [.row 63 partyP, .row 63 dealP, .row 63 actP, .row 91 [.func 35 [] []], .row 63 (numP (objs.length + 3)), .row 91 [.func 36 [] []], .row 63 (numP (objs.length + 5)), .map ((formsE (objs.length + 3) (objs.length + 5)).take 7) 7]) (l := [(1, .ptr (objs.length + 0) 0), (2, .ptr (objs.length + 1) 0), (3, .ptr (objs.length + 2) 0), (5, .ptr (objs.length + 4) 0), (6, .ptr (objs.length + 6) 0), (14, .map (objs.length + 7))]) rfl (by repeat (first | exact trivial | refine ⟨Le.of_eq rfl, ?_⟩))) ?_)
  (repeat (refine WpL.cons (by (first | exact St.build rfl | exact St.buildSlice rfl rfl rfl rfl rfl rfl rfl rfl rfl rfl rfl rfl rfl | exact St.makeMap rfl rfl rfl rfl  | exact St.exec rfl | exact St.newV rfl rfl rfl rfl | exact St.loadL rfl rfl rfl | exact St.stoL rfl rfl rfl rfl rfl | exact St.eqSc rfl | exact St.build rfl)) ?_))
  (refine WpL.cons (by exact St.mapPutL rfl rfl rfl rfl rfl rfl rfl rfl rfl rfl) ?_)
  (refine WpL.wk (Wk.same (loc' := [.row 63 partyP, .row 63 dealP, .row 63 actP, .row 91 [.func 35 [] []], .row 63 (numP (objs.length + 3)), .row 91 [.func 36 [] []], .row 63 (numP (objs.length + 5)), .map ((formsE (objs.length + 3) (objs.length + 5)).take 8) 8]) (l := [(1, .ptr (objs.length + 0) 0), (2, .ptr (objs.length + 1) 0), (3, .ptr (objs.length + 2) 0), (5, .ptr (objs.length + 4) 0), (6, .ptr (objs.length + 6) 0), (14, .map (objs.length + 7))]) rfl (by repeat (first | exact trivial | refine ⟨Le.of_eq rfl, ?_⟩))) ?_)
  (repeat (first | (refine WpL.cons (by (first | exact St.exec rfl | exact St.newV rfl rfl rfl rfl | exact St.loadL rfl rfl rfl | exact St.stoL rfl rfl rfl rfl rfl | exact St.eqSc rfl | exact St.build rfl)) ?_) | (first | refine athen_n ?_ | refine WpL.nil ?_ | refine AWp.seq ?_ | refine AWp.region rfl ?_ | refine AWp.block ?_ | refine AWp.skip ?_ | refine AWp.exit ?_ | refine AWp.ret ?_ | refine AWp.condT rfl ?_ | refine AWp.condF rfl ?_ | refine athen_e ?_ | refine athen_r ?_ | refine ablock_n ?_ | refine ablock_e ?_ | refine ablock_r ?_ | refine ablock_o rfl ?_ | refine ARounds.step ?_) | refine WpL.pass rfl ?_ | refine WpL.go (gd := some _) rfl ?_))
  (first | refine RetQ.full (.inr rfl) (ResL.cons (ResIs.tmp _ _ rfl) ResL.nil) (Le.of_eq rfl) ?_ | refine RetQ.full (.inr rfl) (ResL.cons (ResIs.tmp _ _ rfl) (ResL.cons (ResIs.tmp _ _ rfl) ResL.nil)) (Le.of_eq rfl) ?_ | refine RetQ.full (.inr rfl) (ResL.cons (ResIs.tmp _ _ rfl) (ResL.cons (ResIs.tmp _ _ rfl) (ResL.cons (ResIs.tmp _ _ rfl) ResL.nil))) (Le.of_eq rfl) ?_ | refine RetQ.full (.inr rfl) ResL.nil (Le.of_eq rfl) ?_ | refine RetQ.full (.inl rfl) (ResL.cons (ResIs.tmp _ _ rfl) ResL.nil) (Le.of_eq rfl) ?_ | refine RetQ.full (.inl rfl) (ResL.cons (ResIs.tmp _ _ rfl) (ResL.cons (ResIs.tmp _ _ rfl) ResL.nil)) (Le.of_eq rfl) ?_ | refine RetQ.full (.inl rfl) (ResL.cons (ResIs.tmp _ _ rfl) (ResL.cons (ResIs.tmp _ _ rfl) (ResL.cons (ResIs.tmp _ _ rfl) ResL.nil))) (Le.of_eq rfl) ?_ | refine RetQ.full (.inl rfl) ResL.nil (Le.of_eq rfl) ?_)
  exact ⟨rfl, rfl⟩

theorem lt_func {m : Nat} (f : Nat) : IdLt m (.func f [] []) := .func _ _ _ (by simp) (by simp)
theorem lt_func1 {m b : Nat} (f : Nat) (h : b < m) : IdLt m (.func f [] [.ptr b 0]) := .func _ _ _ (by simp) (fun c hc => by simp only [List.mem_singleton] at hc; subst hc; exact .ptr _ _ h)
theorem lt_party (m : Nat) : ∀ c, c ∈ partyP → IdLt m c := fun c hc => by
  simp only [partyP, List.mem_cons, List.mem_nil_iff, or_false] at hc
  rcases hc with rfl | rfl <;> exact lt_func _
theorem lt_deal (m : Nat) : ∀ c, c ∈ dealP → IdLt m c := fun c hc => by
  simp only [dealP, List.mem_cons, List.mem_nil_iff, or_false] at hc
  rcases hc with rfl | rfl <;> exact lt_func _
theorem lt_act (m : Nat) : ∀ c, c ∈ actP → IdLt m c := fun c hc => by
  simp only [actP, List.mem_cons, List.mem_nil_iff, or_false] at hc
  rcases hc with rfl | rfl <;> exact lt_func _
theorem lt_num {m b : Nat} (h : b < m) : ∀ c, c ∈ numP b → IdLt m c := fun c hc => by
  simp only [numP, List.mem_cons, List.mem_nil_iff, or_false] at hc
  rcases hc with rfl | rfl <;> exact lt_func1 _ h
theorem lt_form {m : Nat} (k : Int) (ps : List (List AV)) (e : SEnd) (he : e = .full ∨ e = .nil) (h : ∀ p, p ∈ ps → ∀ c, c ∈ p → IdLt m c) : IdLt m (.agg [.int .i64 k, .slc ps e]) := .agg _ (fun c hc => by
  simp only [List.mem_cons, List.mem_nil_iff, or_false] at hc
  rcases hc with rfl | rfl
  · exact .int _ _
  · exact .slc _ _ h (fun t n h => by rcases he with rfl | rfl <;> cases h))
theorem formsO_lt (p : Nat) : ObjsLt (p + 8) (formsO p) := by
  intro x hx
  simp only [formsO, List.mem_cons, List.mem_nil_iff, or_false] at hx
  have h3 : p + 3 < p + 8 := by omega
  have h5 : p + 5 < p + 8 := by omega
  rcases hx with rfl | rfl | rfl | rfl | rfl | rfl | rfl | rfl
  · exact lt_party _
  · exact lt_deal _
  · exact lt_act _
  · intro c hc; simp only [List.mem_singleton] at hc; subst hc; exact lt_func _
  · exact lt_num h3
  · intro c hc; simp only [List.mem_singleton] at hc; subst hc; exact lt_func _
  · exact lt_num h5
  · intro e he
    simp only [formsE, List.mem_cons, List.mem_nil_iff, or_false] at he
    rcases he with rfl | rfl | rfl | rfl | rfl | rfl | rfl | rfl <;> refine ⟨.str _, lt_form _ _ _ (by first | exact .inl rfl | exact .inr rfl) fun p hp => ?_⟩ <;>
      simp only [List.mem_cons, List.mem_nil_iff, or_false] at hp
    · rcases hp with rfl | rfl | rfl | rfl
      · exact lt_party _
      · exact lt_act _
      · exact lt_deal _
      · exact lt_num h5
    · subst hp; exact lt_num h3
    · subst hp; exact lt_num h3
    · subst hp; exact lt_num h3
    · subst hp; exact lt_party _
    · rcases hp with rfl | rfl
      · exact lt_party _
      · exact lt_num h3
    · subst hp; exact lt_party _
end Go.Proofs.YtdfmefkjjdlbiaaDoor
