/-
  strings.Builder.
-/
import Derived.Test.YtdfmefkjjdlbiaaDoorL55b
import Derived.Test.YtdfmefkjjdlbiaaDoorAvConv
namespace Go.Proofs.YtdfmefkjjdlbiaaDoor
open Go Go.Av
set_option maxRecDepth 100000
set_option linter.unusedVariables false
set_option linter.unusedSimpArgs false
attribute [local irreducible] ARounds AWp WpL OpStep OpStepR DrawL AThen ABlock RetQ PureF ACalls

theorem noEscape_next : Extern.findNext Tryd.f54 = none := by kernel_rfl
theorem noEscape_find : Extern.find Tryd.f54 = some Extern.AbiNoEscape.same := by kernel_rfl
theorem lies56 : liesAt C.P C.P.depth 56 (2 / C.P.cellsOf 56) 0 56 1 = true := by kernel_rfl

theorem rowIdLt {objs : List AObj} {m id rt : Nat} {cells : List AV} (h : ObjsLt m objs) (ho : objs[id]? = some (.row rt cells)) : ∀ c, c ∈ cells → IdLt m c := h _ (List.mem_of_getElem? ho)

theorem copyNew_ok (objs : List AObj) (id : Nat) (b : AV) (ho : objs[id]? = some (.row 56 [.nilptr, b])) :
    ACalls C 38 [.ptr id 0] objs (fun r o => r = .tuple [] ∧ o = objs.set id (.row 56 [.ptr id 0, b])) := by
  have hid := lt_of_getElem? ho
  (refine ACalls.withLt fun hLt => ?_); (refine ACalls.enter Cplain (nt := 20) (res := []) Tryd.func38 rfl rfl Tryd.ntmps38 (by show 1 ≤ 20; omega) ?_)
  (repeat (first | (refine WpL.cons (by (first | exact St.loadO rfl (fun _ => by rw [List.append_nil]; exact ho) rfl | exact St.toUnsafe rfl rfl rfl rfl Tryd.underlying111 (fun _ => by rw [List.append_nil]; exact ho) (by simp) | exact St.callSame rfl Tryd.func54 (by kernel_rfl) (by kernel_rfl) noEscape_next noEscape_find | exact St.fromUnsafe rfl Tryd.underlying111 rfl rfl (fun _ => by rw [List.append_nil]; exact ho) lies56 | exact St.storeO (out' := objs.set id (.row 56 [.ptr id 0, b])) (loc' := []) rfl rfl (fun _ => by rw [List.append_nil]; exact ho) rfl (fun _ => by rw [List.append_nil, List.append_nil]; rfl) (by simp)  | exact St.exec rfl | exact St.newV rfl rfl rfl rfl | exact St.loadL rfl rfl rfl | exact St.stoL rfl rfl rfl rfl rfl | exact St.eqSc rfl | exact St.build rfl)) ?_) | (first | refine athen_n ?_ | refine WpL.nil ?_ | refine AWp.seq ?_ | refine AWp.region rfl ?_ | refine AWp.block ?_ | refine AWp.skip ?_ | refine AWp.exit ?_ | refine AWp.ret ?_ | refine AWp.condT rfl ?_ | refine AWp.condF rfl ?_ | refine athen_e ?_ | refine athen_r ?_ | refine ablock_n ?_ | refine ablock_e ?_ | refine ablock_r ?_ | refine ablock_o rfl ?_ | refine ARounds.step ?_) | refine WpL.pass rfl ?_ | refine WpL.go (gd := some _) rfl ?_))
  refine RetQ.to (objs' := objs.set id (.row 56 [.ptr id 0, b])) (.inl rfl) ResL.nil (Le.of_eq rfl) List.take_left (.tuple _ (by simp [theResult])) (by simp) ?_ ⟨rfl, rfl⟩
  rw [List.length_set]
  refine hLt.set _ (fun c hc => ?_)
  simp only [List.mem_cons, List.mem_nil_iff, or_false] at hc
  rcases hc with rfl | rfl
  · exact .ptr _ _ hid
  · exact rowIdLt hLt ho _ (by simp)
theorem copyOld_ok (objs : List AObj) (id : Nat) (b : AV) (ho : objs[id]? = some (.row 56 [.ptr id 0, b])) :
    ACalls C 38 [.ptr id 0] objs (fun r o => r = .tuple [] ∧ o = objs) := by
  have hid := lt_of_getElem? ho
  (refine ACalls.withLt fun hLt => ?_); (refine ACalls.enter Cplain (nt := 20) (res := []) Tryd.func38 rfl rfl Tryd.ntmps38 (by show 1 ≤ 20; omega) ?_)
  (repeat (first | (refine WpL.cons (by (first | exact St.loadO rfl (fun _ => by rw [List.append_nil]; exact ho) rfl | exact St.eqSame rfl rfl rfl rfl rfl rfl  | exact St.exec rfl | exact St.newV rfl rfl rfl rfl | exact St.loadL rfl rfl rfl | exact St.stoL rfl rfl rfl rfl rfl | exact St.eqSc rfl | exact St.build rfl)) ?_) | (first | refine athen_n ?_ | refine WpL.nil ?_ | refine AWp.seq ?_ | refine AWp.region rfl ?_ | refine AWp.block ?_ | refine AWp.skip ?_ | refine AWp.exit ?_ | refine AWp.ret ?_ | refine AWp.condT rfl ?_ | refine AWp.condF rfl ?_ | refine athen_e ?_ | refine athen_r ?_ | refine ablock_n ?_ | refine ablock_e ?_ | refine ablock_r ?_ | refine ablock_o rfl ?_ | refine ARounds.step ?_) | refine WpL.pass rfl ?_ | refine WpL.go (gd := some _) rfl ?_))
  (first | refine RetQ.same (.inr rfl) (ResL.cons (ResIs.tmp _ _ rfl) ResL.nil) ?_ rfl ?_ | refine RetQ.same (.inr rfl) (ResL.cons (ResIs.tmp _ _ rfl) (ResL.cons (ResIs.tmp _ _ rfl) ResL.nil)) ?_ rfl ?_ | refine RetQ.same (.inr rfl) (ResL.cons (ResIs.tmp _ _ rfl) (ResL.cons (ResIs.tmp _ _ rfl) (ResL.cons (ResIs.tmp _ _ rfl) ResL.nil))) ?_ rfl ?_ | refine RetQ.same (.inr rfl) ResL.nil ?_ rfl ?_ | refine RetQ.same (.inl rfl) (ResL.cons (ResIs.tmp _ _ rfl) ResL.nil) ?_ rfl ?_ | refine RetQ.same (.inl rfl) (ResL.cons (ResIs.tmp _ _ rfl) (ResL.cons (ResIs.tmp _ _ rfl) ResL.nil)) ?_ rfl ?_ | refine RetQ.same (.inl rfl) (ResL.cons (ResIs.tmp _ _ rfl) (ResL.cons (ResIs.tmp _ _ rfl) (ResL.cons (ResIs.tmp _ _ rfl) ResL.nil))) ?_ rfl ?_ | refine RetQ.same (.inl rfl) ResL.nil ?_ rfl ?_)
  · exact Le.of_eq rfl
  · exact .tuple _ (by simp)

/-- a builder, and the bytes it holds -/
def Bld (m : Nat) (objs : List AObj) (id : Nat) (bytes : List UInt8) : Prop :=
  ∃ p b, objs[id]? = some (.row 56 [p, b]) ∧ (p = .nilptr ∨ p = .ptr id 0) ∧
    (b = .slc [] .nil ∧ bytes = [] ∨ ∃ j cap cells, b = .arr j 0 bytes.length cap ∧ bytes ≠ [] ∧ m ≤ j ∧ j ≠ id ∧ objs[j]? = some (.row 5 cells) ∧ bytes.length ≤ cap ∧ cells.length = cap ∧ cells.take bytes.length = bytes.map fun x => AV.int .u8 x.toNat)

theorem copy_ok (objs : List AObj) (id : Nat) (p b : AV) (ho : objs[id]? = some (.row 56 [p, b])) (hp : p = .nilptr ∨ p = .ptr id 0) :
    ACalls C 38 [.ptr id 0] objs (fun r o => r = .tuple [] ∧ o = objs.set id (.row 56 [.ptr id 0, b])) := by
  rcases hp with rfl | rfl
  · exact copyNew_ok objs id b ho
  · refine (copyOld_ok objs id b ho).mono ?_
    rintro r o ⟨rfl, rfl⟩
    exact ⟨rfl, (set_self ho).symm⟩

def Kept (m : Nat) (objs o : List AObj) (id : Nat) : Prop := objs.length ≤ o.length ∧ ∀ (i : Nat) (x : AObj), objs[i]? = some x → i ≠ id → (i < m ∨ ∀ cells, x ≠ .row 5 cells) → o[i]? = some x
theorem writeNil_ok (m : Nat) (objs : List AObj) (hm : m ≤ objs.length) (id : Nat) (p : AV) (s : List UInt8) (ho : objs[id]? = some (.row 56 [p, .slc [] .nil])) (hp : p = .nilptr ∨ p = .ptr id 0) (hs : s.length ≤ 140737488355328) :
    ACalls C 13 [.ptr id 0, .str s] objs (fun r o => Bld m o id s ∧ Kept m objs o id) := by
  have hid := lt_of_getElem? ho
  have ho1 : (objs.set id (.row 56 [.ptr id 0, .slc [] .nil]))[id]? = some (.row 56 [.ptr id 0, .slc [] .nil]) := by rw [List.getElem?_set_self hid]
  (refine ACalls.withLt fun hLt => ?_); (refine ACalls.enter Cplain (nt := 19) (res := [.tmp 4, .tmp 5]) Tryd.func13 rfl rfl Tryd.ntmps13 (by show 2 ≤ 19; omega) ?_)
  (repeat (first | (refine WpL.cons (by (first | exact St.exec rfl | exact St.newV rfl rfl rfl rfl | exact St.loadL rfl rfl rfl | exact St.stoL rfl rfl rfl rfl rfl | exact St.eqSc rfl | exact St.build rfl)) ?_) | (first | refine athen_n ?_ | refine WpL.nil ?_ | refine AWp.seq ?_ | refine AWp.region rfl ?_ | refine AWp.block ?_ | refine AWp.skip ?_ | refine AWp.exit ?_ | refine AWp.ret ?_ | refine AWp.condT rfl ?_ | refine AWp.condF rfl ?_ | refine athen_e ?_ | refine athen_r ?_ | refine ablock_n ?_ | refine ablock_e ?_ | refine ablock_r ?_ | refine ablock_o rfl ?_ | refine ARounds.step ?_) | refine WpL.pass rfl ?_ | refine WpL.go (gd := some _) rfl ?_))
  refine WpL.consR rfl (St.callFR (fid := 38) rfl (copy_ok (objs ++ []) id p _ (by rw [List.append_nil]; exact ho) hp) Tryd.func38 (by kernel_rfl) (by kernel_rfl)) ?_
  rintro r o ⟨rfl, rfl⟩
  refine ⟨objs.set id (.row 56 [.ptr id 0, .slc [] .nil]), [], by simp, by simp, ?_⟩
  (repeat (first | (refine WpL.cons (by (first | exact St.loadO rfl (fun _ => by rw [List.append_nil]; exact ho1) rfl  | exact St.exec rfl | exact St.newV rfl rfl rfl rfl | exact St.loadL rfl rfl rfl | exact St.stoL rfl rfl rfl rfl rfl | exact St.eqSc rfl | exact St.build rfl)) ?_) | (first | refine athen_n ?_ | refine WpL.nil ?_ | refine AWp.seq ?_ | refine AWp.region rfl ?_ | refine AWp.block ?_ | refine AWp.skip ?_ | refine AWp.exit ?_ | refine AWp.ret ?_ | refine AWp.condT rfl ?_ | refine AWp.condF rfl ?_ | refine athen_e ?_ | refine athen_r ?_ | refine ablock_n ?_ | refine ablock_e ?_ | refine ablock_r ?_ | refine ablock_o rfl ?_ | refine ARounds.step ?_) | refine WpL.pass rfl ?_ | refine WpL.go (gd := some _) rfl ?_))
  refine WpL.consR rfl (St.appendNilArr (ys := strElems s) (sz := 1) (by_ := 1) rfl rfl rfl rfl rfl rfl rfl rfl rfl (by decide) (strElems_all s) (by rw [strElems_len]; omega)) ?_
  rintro r o (⟨hnil, rfl, rfl⟩ | ⟨cap, cells, hne, rfl, h1, h2, h3, rfl⟩)
  · refine ⟨_, _, rfl, rfl, ?_⟩
    (repeat (first | (refine WpL.cons (by (first | exact St.storeO (out' := objs.set id (.row 56 [.ptr id 0, .slc [] .nil])) (loc' := []) rfl rfl (fun _ => by rw [List.append_nil]; exact ho1) rfl (fun _ => by simp only [List.append_nil]; exact set_self ho1) (by simp)  | exact St.exec rfl | exact St.newV rfl rfl rfl rfl | exact St.loadL rfl rfl rfl | exact St.stoL rfl rfl rfl rfl rfl | exact St.eqSc rfl | exact St.build rfl)) ?_) | (first | refine athen_n ?_ | refine WpL.nil ?_ | refine AWp.seq ?_ | refine AWp.region rfl ?_ | refine AWp.block ?_ | refine AWp.skip ?_ | refine AWp.exit ?_ | refine AWp.ret ?_ | refine AWp.condT rfl ?_ | refine AWp.condF rfl ?_ | refine athen_e ?_ | refine athen_r ?_ | refine ablock_n ?_ | refine ablock_e ?_ | refine ablock_r ?_ | refine ablock_o rfl ?_ | refine ARounds.step ?_) | refine WpL.pass rfl ?_ | refine WpL.go (gd := some _) rfl ?_))
    (first | refine RetQ.full (.inr rfl) (ResL.cons (ResIs.tmp _ _ rfl) ResL.nil) (Le.of_eq rfl) ?_ | refine RetQ.full (.inr rfl) (ResL.cons (ResIs.tmp _ _ rfl) (ResL.cons (ResIs.tmp _ _ rfl) ResL.nil)) (Le.of_eq rfl) ?_ | refine RetQ.full (.inr rfl) (ResL.cons (ResIs.tmp _ _ rfl) (ResL.cons (ResIs.tmp _ _ rfl) (ResL.cons (ResIs.tmp _ _ rfl) ResL.nil))) (Le.of_eq rfl) ?_ | refine RetQ.full (.inr rfl) ResL.nil (Le.of_eq rfl) ?_ | refine RetQ.full (.inl rfl) (ResL.cons (ResIs.tmp _ _ rfl) ResL.nil) (Le.of_eq rfl) ?_ | refine RetQ.full (.inl rfl) (ResL.cons (ResIs.tmp _ _ rfl) (ResL.cons (ResIs.tmp _ _ rfl) ResL.nil)) (Le.of_eq rfl) ?_ | refine RetQ.full (.inl rfl) (ResL.cons (ResIs.tmp _ _ rfl) (ResL.cons (ResIs.tmp _ _ rfl) (ResL.cons (ResIs.tmp _ _ rfl) ResL.nil))) (Le.of_eq rfl) ?_ | refine RetQ.full (.inl rfl) ResL.nil (Le.of_eq rfl) ?_)
    have hsn : s = [] := by
      have := congrArg List.length hnil
      rw [strElems_len] at this
      exact List.eq_nil_of_length_eq_zero this
    subst hsn
    simp only [List.append_nil]
    refine ⟨⟨.ptr id 0, .slc [] .nil, ho1, .inr rfl, .inl ⟨rfl, rfl⟩⟩, by simp, fun i x hx hi _ => ?_⟩
    rw [List.getElem?_set_ne (Ne.symm hi)]; exact hx
  · refine ⟨_, _, List.append_assoc _ _ _, rfl, ?_⟩
    have hlo : (objs.set id (.row 56 [.ptr id 0, .slc [] .nil])).length = objs.length := by simp
    have hol : ((objs.set id (.row 56 [.ptr id 0, .slc [] .nil])) ++ ([] : List AObj)).length = objs.length := by simp
    rw [hol]
    rw [strElems_len] at h1 h3 ⊢
    (repeat (first | (refine WpL.cons (by (first | exact St.storeO (out' := objs.set id (.row 56 [.ptr id 0, .arr objs.length 0 s.length cap])) (loc' := [.row 5 cells]) rfl rfl (fun _ => by rw [List.getElem?_append_left (by simpa using hid)]; exact ho1) rfl (fun _ => by rw [List.set_append_left _ _ (by simpa using hid), List.set_set]; rfl) (by simp)  | exact St.exec rfl | exact St.newV rfl rfl rfl rfl | exact St.loadL rfl rfl rfl | exact St.stoL rfl rfl rfl rfl rfl | exact St.eqSc rfl | exact St.build rfl)) ?_) | (first | refine athen_n ?_ | refine WpL.nil ?_ | refine AWp.seq ?_ | refine AWp.region rfl ?_ | refine AWp.block ?_ | refine AWp.skip ?_ | refine AWp.exit ?_ | refine AWp.ret ?_ | refine AWp.condT rfl ?_ | refine AWp.condF rfl ?_ | refine athen_e ?_ | refine athen_r ?_ | refine ablock_n ?_ | refine ablock_e ?_ | refine ablock_r ?_ | refine ablock_o rfl ?_ | refine ARounds.step ?_) | refine WpL.pass rfl ?_ | refine WpL.go (gd := some _) rfl ?_))
    (first | refine RetQ.full (.inr rfl) (ResL.cons (ResIs.tmp _ _ rfl) ResL.nil) (Le.of_eq rfl) ?_ | refine RetQ.full (.inr rfl) (ResL.cons (ResIs.tmp _ _ rfl) (ResL.cons (ResIs.tmp _ _ rfl) ResL.nil)) (Le.of_eq rfl) ?_ | refine RetQ.full (.inr rfl) (ResL.cons (ResIs.tmp _ _ rfl) (ResL.cons (ResIs.tmp _ _ rfl) (ResL.cons (ResIs.tmp _ _ rfl) ResL.nil))) (Le.of_eq rfl) ?_ | refine RetQ.full (.inr rfl) ResL.nil (Le.of_eq rfl) ?_ | refine RetQ.full (.inl rfl) (ResL.cons (ResIs.tmp _ _ rfl) ResL.nil) (Le.of_eq rfl) ?_ | refine RetQ.full (.inl rfl) (ResL.cons (ResIs.tmp _ _ rfl) (ResL.cons (ResIs.tmp _ _ rfl) ResL.nil)) (Le.of_eq rfl) ?_ | refine RetQ.full (.inl rfl) (ResL.cons (ResIs.tmp _ _ rfl) (ResL.cons (ResIs.tmp _ _ rfl) (ResL.cons (ResIs.tmp _ _ rfl) ResL.nil))) (Le.of_eq rfl) ?_ | refine RetQ.full (.inl rfl) ResL.nil (Le.of_eq rfl) ?_)
    have hid2 : id < (objs.set id (.row 56 [.ptr id 0, .arr objs.length 0 s.length cap])).length := by simpa using hid
    refine ⟨⟨.ptr id 0, .arr objs.length 0 s.length cap, ?_, .inr rfl, .inr ⟨objs.length, cap, cells, rfl, (fun h => hne (by rw [h]; rfl)), hm, by omega, ?_, h1, by omega, ?_⟩⟩, by simp, fun i x hx hi _ => ?_⟩
    · rw [List.getElem?_append_left hid2, List.getElem?_set_self hid]
    · rw [List.getElem?_append_right (by simp)]; simp
    · have h4 := h3
      rw [Nat.mul_one] at h4
      rw [h4, strElems_flat]
    · have hil := lt_of_getElem? hx
      rw [List.getElem?_append_left (by simpa using hil), List.getElem?_set_ne (Ne.symm hi)]; exact hx

theorem writeArr_ok (m : Nat) (objs : List AObj) (hm : m ≤ objs.length) (id j cap : Nat) (p : AV) (bytes s : List UInt8) (cells : List AV) (ho : objs[id]? = some (.row 56 [p, .arr j 0 bytes.length cap])) (hp : p = .nilptr ∨ p = .ptr id 0) (hbn : bytes ≠ []) (hmj : m ≤ j) (hji : j ≠ id) (hj : objs[j]? = some (.row 5 cells))
    (hlc : bytes.length ≤ cap) (hcl : cells.length = cap) (hct : cells.take bytes.length = bytes.map fun x => AV.int .u8 x.toNat) (hs : bytes.length + s.length ≤ 140737488355328) :
    ACalls C 13 [.ptr id 0, .str s] objs (fun r o => Bld m o id (bytes ++ s) ∧ Kept m objs o id) := by
  have hid := lt_of_getElem? ho
  have hjl := lt_of_getElem? hj
  have ho1 : (objs.set id (.row 56 [.ptr id 0, .arr j 0 bytes.length cap]))[id]? = some (.row 56 [.ptr id 0, .arr j 0 bytes.length cap]) := by rw [List.getElem?_set_self hid]
  have hj1 : (objs.set id (.row 56 [.ptr id 0, .arr j 0 bytes.length cap]))[j]? = some (.row 5 cells) := by rw [List.getElem?_set_ne (Ne.symm hji)]; exact hj
  (refine ACalls.withLt fun hLt => ?_); (refine ACalls.enter Cplain (nt := 19) (res := [.tmp 4, .tmp 5]) Tryd.func13 rfl rfl Tryd.ntmps13 (by show 2 ≤ 19; omega) ?_)
  (repeat (first | (refine WpL.cons (by (first | exact St.exec rfl | exact St.newV rfl rfl rfl rfl | exact St.loadL rfl rfl rfl | exact St.stoL rfl rfl rfl rfl rfl | exact St.eqSc rfl | exact St.build rfl)) ?_) | (first | refine athen_n ?_ | refine WpL.nil ?_ | refine AWp.seq ?_ | refine AWp.region rfl ?_ | refine AWp.block ?_ | refine AWp.skip ?_ | refine AWp.exit ?_ | refine AWp.ret ?_ | refine AWp.condT rfl ?_ | refine AWp.condF rfl ?_ | refine athen_e ?_ | refine athen_r ?_ | refine ablock_n ?_ | refine ablock_e ?_ | refine ablock_r ?_ | refine ablock_o rfl ?_ | refine ARounds.step ?_) | refine WpL.pass rfl ?_ | refine WpL.go (gd := some _) rfl ?_))
  refine WpL.consR rfl (St.callFR (fid := 38) rfl (copy_ok (objs ++ []) id p _ (by rw [List.append_nil]; exact ho) hp) Tryd.func38 (by kernel_rfl) (by kernel_rfl)) ?_
  rintro r o ⟨rfl, rfl⟩
  refine ⟨objs.set id (.row 56 [.ptr id 0, .arr j 0 bytes.length cap]), [], by simp, by simp, ?_⟩
  (repeat (first | (refine WpL.cons (by (first | exact St.loadO rfl (fun _ => by rw [List.append_nil]; exact ho1) rfl  | exact St.exec rfl | exact St.newV rfl rfl rfl rfl | exact St.loadL rfl rfl rfl | exact St.stoL rfl rfl rfl rfl rfl | exact St.eqSc rfl | exact St.build rfl)) ?_) | (first | refine athen_n ?_ | refine WpL.nil ?_ | refine AWp.seq ?_ | refine AWp.region rfl ?_ | refine AWp.block ?_ | refine AWp.skip ?_ | refine AWp.exit ?_ | refine AWp.ret ?_ | refine AWp.condT rfl ?_ | refine AWp.condF rfl ?_ | refine athen_e ?_ | refine athen_r ?_ | refine ablock_n ?_ | refine ablock_e ?_ | refine ablock_r ?_ | refine ablock_o rfl ?_ | refine ARounds.step ?_) | refine WpL.pass rfl ?_ | refine WpL.go (gd := some _) rfl ?_))
  refine WpL.consR rfl (St.appendArr (ys := strElems s) (cells := cells) (sz := 1) (by_ := 1) rfl rfl rfl rfl rfl rfl rfl rfl rfl (by decide) (strElems_all s) (by rw [strElems_len]; omega) (fun _ => by rw [List.append_nil]; exact hj1) (by omega) hlc) ?_
  have hflat : ∀ cells' : List AV, cells'.take ((bytes.length + (strElems s).length) * 1) = cells.take (bytes.length * 1) ++ (strElems s).flatten → cells'.take (bytes ++ s).length = (bytes ++ s).map fun x => AV.int .u8 x.toNat := by
    intro cells' h
    rw [strElems_len, Nat.mul_one, Nat.mul_one, hct, strElems_flat] at h
    rw [List.length_append, h, List.map_append]
  rintro r o ⟨j', cap', cells', rfl, h1, h2, h3, (⟨rfl, rfl⟩ | ⟨rfl, rfl⟩)⟩
  · have h4 := hflat cells' h3
    rw [strElems_len] at h1
    refine ⟨(objs.set id (.row 56 [.ptr id 0, .arr j' 0 bytes.length cap])).set j' (.row 5 cells'), [], by simp, by simp, ?_⟩
    have ho2 : ((objs.set id (.row 56 [.ptr id 0, .arr j' 0 bytes.length cap])).set j' (.row 5 cells'))[id]? = some (.row 56 [.ptr id 0, .arr j' 0 bytes.length cap]) := by rw [List.getElem?_set_ne hji]; exact ho1
    rw [strElems_len]
    (repeat (first | (refine WpL.cons (by (first | exact St.storeO (out' := ((objs.set id (.row 56 [.ptr id 0, .arr j' 0 bytes.length cap])).set j' (.row 5 cells')).set id (.row 56 [.ptr id 0, .arr j' 0 (bytes.length + s.length) cap'])) (loc' := []) rfl rfl (fun _ => by rw [List.append_nil]; exact ho2) rfl (fun _ => by rw [List.append_nil, List.append_nil]; rfl) (by simp)  | exact St.exec rfl | exact St.newV rfl rfl rfl rfl | exact St.loadL rfl rfl rfl | exact St.stoL rfl rfl rfl rfl rfl | exact St.eqSc rfl | exact St.build rfl)) ?_) | (first | refine athen_n ?_ | refine WpL.nil ?_ | refine AWp.seq ?_ | refine AWp.region rfl ?_ | refine AWp.block ?_ | refine AWp.skip ?_ | refine AWp.exit ?_ | refine AWp.ret ?_ | refine AWp.condT rfl ?_ | refine AWp.condF rfl ?_ | refine athen_e ?_ | refine athen_r ?_ | refine ablock_n ?_ | refine ablock_e ?_ | refine ablock_r ?_ | refine ablock_o rfl ?_ | refine ARounds.step ?_) | refine WpL.pass rfl ?_ | refine WpL.go (gd := some _) rfl ?_))
    (first | refine RetQ.full (.inr rfl) (ResL.cons (ResIs.tmp _ _ rfl) ResL.nil) (Le.of_eq rfl) ?_ | refine RetQ.full (.inr rfl) (ResL.cons (ResIs.tmp _ _ rfl) (ResL.cons (ResIs.tmp _ _ rfl) ResL.nil)) (Le.of_eq rfl) ?_ | refine RetQ.full (.inr rfl) (ResL.cons (ResIs.tmp _ _ rfl) (ResL.cons (ResIs.tmp _ _ rfl) (ResL.cons (ResIs.tmp _ _ rfl) ResL.nil))) (Le.of_eq rfl) ?_ | refine RetQ.full (.inr rfl) ResL.nil (Le.of_eq rfl) ?_ | refine RetQ.full (.inl rfl) (ResL.cons (ResIs.tmp _ _ rfl) ResL.nil) (Le.of_eq rfl) ?_ | refine RetQ.full (.inl rfl) (ResL.cons (ResIs.tmp _ _ rfl) (ResL.cons (ResIs.tmp _ _ rfl) ResL.nil)) (Le.of_eq rfl) ?_ | refine RetQ.full (.inl rfl) (ResL.cons (ResIs.tmp _ _ rfl) (ResL.cons (ResIs.tmp _ _ rfl) (ResL.cons (ResIs.tmp _ _ rfl) ResL.nil))) (Le.of_eq rfl) ?_ | refine RetQ.full (.inl rfl) ResL.nil (Le.of_eq rfl) ?_)
    simp only [List.append_nil]
    refine ⟨⟨.ptr id 0, .arr j' 0 (bytes.length + s.length) cap', ?_, .inr rfl, .inr ⟨j', cap', cells', by rw [List.length_append], (by simp [hbn]), hmj, hji, ?_, by rw [List.length_append]; exact h1, by omega, h4⟩⟩, by simp, fun i x hx hi hr => ?_⟩
    · rw [List.getElem?_set_self (by simpa using hid)]
    · rw [List.getElem?_set_ne (Ne.symm hji), List.getElem?_set_self (by simpa using hjl)]
    · have hij : i ≠ j' := fun e => by
        subst e; rw [hj] at hx; cases hx
        rcases hr with hr | hr
        · omega
        · exact hr _ rfl
      rw [List.getElem?_set_ne (Ne.symm hi), List.getElem?_set_ne (Ne.symm hij), List.getElem?_set_ne (Ne.symm hi)]; exact hx
  · have h4 := hflat cells' h3
    rw [strElems_len] at h1
    refine ⟨_, _, List.append_assoc _ _ _, rfl, ?_⟩
    have hol : ((objs.set id (.row 56 [.ptr id 0, .arr j 0 bytes.length cap])) ++ ([] : List AObj)).length = objs.length := by simp
    rw [hol, strElems_len]
    (repeat (first | (refine WpL.cons (by (first | exact St.storeO (out' := objs.set id (.row 56 [.ptr id 0, .arr objs.length 0 (bytes.length + s.length) cap'])) (loc' := [.row 5 cells']) rfl rfl (fun _ => by rw [List.getElem?_append_left (by simpa using hid)]; exact ho1) rfl (fun _ => by rw [List.set_append_left _ _ (by simpa using hid), List.set_set]; rfl) (by simp)  | exact St.exec rfl | exact St.newV rfl rfl rfl rfl | exact St.loadL rfl rfl rfl | exact St.stoL rfl rfl rfl rfl rfl | exact St.eqSc rfl | exact St.build rfl)) ?_) | (first | refine athen_n ?_ | refine WpL.nil ?_ | refine AWp.seq ?_ | refine AWp.region rfl ?_ | refine AWp.block ?_ | refine AWp.skip ?_ | refine AWp.exit ?_ | refine AWp.ret ?_ | refine AWp.condT rfl ?_ | refine AWp.condF rfl ?_ | refine athen_e ?_ | refine athen_r ?_ | refine ablock_n ?_ | refine ablock_e ?_ | refine ablock_r ?_ | refine ablock_o rfl ?_ | refine ARounds.step ?_) | refine WpL.pass rfl ?_ | refine WpL.go (gd := some _) rfl ?_))
    (first | refine RetQ.full (.inr rfl) (ResL.cons (ResIs.tmp _ _ rfl) ResL.nil) (Le.of_eq rfl) ?_ | refine RetQ.full (.inr rfl) (ResL.cons (ResIs.tmp _ _ rfl) (ResL.cons (ResIs.tmp _ _ rfl) ResL.nil)) (Le.of_eq rfl) ?_ | refine RetQ.full (.inr rfl) (ResL.cons (ResIs.tmp _ _ rfl) (ResL.cons (ResIs.tmp _ _ rfl) (ResL.cons (ResIs.tmp _ _ rfl) ResL.nil))) (Le.of_eq rfl) ?_ | refine RetQ.full (.inr rfl) ResL.nil (Le.of_eq rfl) ?_ | refine RetQ.full (.inl rfl) (ResL.cons (ResIs.tmp _ _ rfl) ResL.nil) (Le.of_eq rfl) ?_ | refine RetQ.full (.inl rfl) (ResL.cons (ResIs.tmp _ _ rfl) (ResL.cons (ResIs.tmp _ _ rfl) ResL.nil)) (Le.of_eq rfl) ?_ | refine RetQ.full (.inl rfl) (ResL.cons (ResIs.tmp _ _ rfl) (ResL.cons (ResIs.tmp _ _ rfl) (ResL.cons (ResIs.tmp _ _ rfl) ResL.nil))) (Le.of_eq rfl) ?_ | refine RetQ.full (.inl rfl) ResL.nil (Le.of_eq rfl) ?_)
    have hid2 : id < (objs.set id (.row 56 [.ptr id 0, .arr objs.length 0 (bytes.length + s.length) cap'])).length := by simpa using hid
    refine ⟨⟨.ptr id 0, .arr objs.length 0 (bytes.length + s.length) cap', ?_, .inr rfl, .inr ⟨objs.length, cap', cells', by rw [List.length_append], (by simp [hbn]), hm, by omega, ?_, by rw [List.length_append]; exact h1, by omega, h4⟩⟩, by simp, fun i x hx hi hr => ?_⟩
    · rw [List.getElem?_append_left hid2, List.getElem?_set_self hid]
    · rw [List.getElem?_append_right (by simp)]; simp
    · have hil := lt_of_getElem? hx
      rw [List.getElem?_append_left (by simpa using hil), List.getElem?_set_ne (Ne.symm hi)]; exact hx

theorem writeString_ok (m : Nat) (objs : List AObj) (hm : m ≤ objs.length) (id : Nat) (bytes s : List UInt8) (h : Bld m objs id bytes) (hs : bytes.length + s.length ≤ 140737488355328) :
    ACalls C 13 [.ptr id 0, .str s] objs (fun r o => Bld m o id (bytes ++ s) ∧ Kept m objs o id) := by
  obtain ⟨p, b, ho, hp, ⟨rfl, rfl⟩ | ⟨j, cap, cells, rfl, hbn, hmj, hji, hj, h1, h2, h3⟩⟩ := h
  · exact writeNil_ok m objs hm id p s ho hp (by simpa using hs)
  · exact writeArr_ok m objs hm id j cap p bytes s cells ho hp hbn hmj hji hj h1 h2 h3 hs
theorem string_ok (m : Nat) (objs : List AObj) (id : Nat) (bytes : List UInt8) (h : Bld m objs id bytes) (hs : bytes.length ≤ 140737488355328) :
    ACalls C 14 [.ptr id 0] objs (fun r o => r = .str bytes ∧ o.length = objs.length ∧ ∀ i, i < m → o[i]? = objs[i]?) := by
  obtain ⟨p, b, ho, hp, ⟨rfl, rfl⟩ | ⟨j, cap, cells, rfl, hbn, hmj, hji, hj, h1, h2, h3⟩⟩ := h
  · refine ACalls.mono (R := fun r o => r = .str [] ∧ o = objs) ?_ (fun r o ⟨a, b⟩ => by subst b; exact ⟨a, rfl, fun _ _ => rfl⟩)
    (refine ACalls.withLt fun hLt => ?_); (refine ACalls.enter Cplain (nt := 14) (res := [.tmp 2]) Tryd.func14 rfl rfl Tryd.ntmps14 (by show 1 ≤ 14; omega) ?_)
    (repeat (first | (refine WpL.cons (by (first | exact St.exec rfl | exact St.newV rfl rfl rfl rfl | exact St.loadL rfl rfl rfl | exact St.stoL rfl rfl rfl rfl rfl | exact St.eqSc rfl | exact St.build rfl)) ?_) | (first | refine athen_n ?_ | refine WpL.nil ?_ | refine AWp.seq ?_ | refine AWp.region rfl ?_ | refine AWp.block ?_ | refine AWp.skip ?_ | refine AWp.exit ?_ | refine AWp.ret ?_ | refine AWp.condT rfl ?_ | refine AWp.condF rfl ?_ | refine athen_e ?_ | refine athen_r ?_ | refine ablock_n ?_ | refine ablock_e ?_ | refine ablock_r ?_ | refine ablock_o rfl ?_ | refine ARounds.step ?_) | refine WpL.pass rfl ?_ | refine WpL.go (gd := some _) rfl ?_))
    (refine AWp.draw Cmix (by kernel_rfl) rfl ?_)
    (repeat (first | refine DrawL.nil ?_ | refine DrawL.pass rfl ?_ | refine DrawL.go rfl rfl (by (first | exact St.loadO rfl (fun _ => by rw [List.append_nil]; exact ho) rfl | exact St.sliceDataNil rfl | exact St.unsafeStr0 rfl (.inl rfl) rfl  | exact St.exec rfl | exact St.newV rfl rfl rfl rfl | exact St.loadL rfl rfl rfl | exact St.stoL rfl rfl rfl rfl rfl | exact St.eqSc rfl | exact St.build rfl)) ?_))
    (repeat (first | (refine WpL.cons (by (first | exact St.exec rfl | exact St.newV rfl rfl rfl rfl | exact St.loadL rfl rfl rfl | exact St.stoL rfl rfl rfl rfl rfl | exact St.eqSc rfl | exact St.build rfl)) ?_) | (first | refine athen_n ?_ | refine WpL.nil ?_ | refine AWp.seq ?_ | refine AWp.region rfl ?_ | refine AWp.block ?_ | refine AWp.skip ?_ | refine AWp.exit ?_ | refine AWp.ret ?_ | refine AWp.condT rfl ?_ | refine AWp.condF rfl ?_ | refine athen_e ?_ | refine athen_r ?_ | refine ablock_n ?_ | refine ablock_e ?_ | refine ablock_r ?_ | refine ablock_o rfl ?_ | refine ARounds.step ?_) | refine WpL.pass rfl ?_ | refine WpL.go (gd := some _) rfl ?_))
    (first | refine RetQ.same (.inr rfl) (ResL.cons (ResIs.tmp _ _ rfl) ResL.nil) ?_ rfl ?_ | refine RetQ.same (.inr rfl) (ResL.cons (ResIs.tmp _ _ rfl) (ResL.cons (ResIs.tmp _ _ rfl) ResL.nil)) ?_ rfl ?_ | refine RetQ.same (.inr rfl) (ResL.cons (ResIs.tmp _ _ rfl) (ResL.cons (ResIs.tmp _ _ rfl) (ResL.cons (ResIs.tmp _ _ rfl) ResL.nil))) ?_ rfl ?_ | refine RetQ.same (.inr rfl) ResL.nil ?_ rfl ?_ | refine RetQ.same (.inl rfl) (ResL.cons (ResIs.tmp _ _ rfl) ResL.nil) ?_ rfl ?_ | refine RetQ.same (.inl rfl) (ResL.cons (ResIs.tmp _ _ rfl) (ResL.cons (ResIs.tmp _ _ rfl) ResL.nil)) ?_ rfl ?_ | refine RetQ.same (.inl rfl) (ResL.cons (ResIs.tmp _ _ rfl) (ResL.cons (ResIs.tmp _ _ rfl) (ResL.cons (ResIs.tmp _ _ rfl) ResL.nil))) ?_ rfl ?_ | refine RetQ.same (.inl rfl) ResL.nil ?_ rfl ?_)
    · exact Le.of_eq rfl
    · exact .str _
  · have hjl := lt_of_getElem? hj
    refine ACalls.weak hj (ObjLe.rowF 5 cells) ?_
    have ho' : (objs.set j (.rowF 5 cells))[id]? = some (.row 56 [p, .arr j 0 bytes.length cap]) := by rw [List.getElem?_set_ne hji]; exact ho
    have hj' : (objs.set j (.rowF 5 cells))[j]? = some (.rowF 5 cells) := by rw [List.getElem?_set_self hjl]
    refine ACalls.mono (R := fun r o => r = .str bytes ∧ o = objs.set j (.rowF 5 cells)) ?_ (fun r o ⟨a, b⟩ => by
      subst b
      exact ⟨a, by simp, fun i hi => by rw [List.getElem?_set_ne (by omega)]⟩)
    generalize objs.set j (.rowF 5 cells) = objs at ho' hj'
    (refine ACalls.withLt fun hLt => ?_); (refine ACalls.enter Cplain (nt := 14) (res := [.tmp 2]) Tryd.func14 rfl rfl Tryd.ntmps14 (by show 1 ≤ 14; omega) ?_)
    (repeat (first | (refine WpL.cons (by (first | exact St.exec rfl | exact St.newV rfl rfl rfl rfl | exact St.loadL rfl rfl rfl | exact St.stoL rfl rfl rfl rfl rfl | exact St.eqSc rfl | exact St.build rfl)) ?_) | (first | refine athen_n ?_ | refine WpL.nil ?_ | refine AWp.seq ?_ | refine AWp.region rfl ?_ | refine AWp.block ?_ | refine AWp.skip ?_ | refine AWp.exit ?_ | refine AWp.ret ?_ | refine AWp.condT rfl ?_ | refine AWp.condF rfl ?_ | refine athen_e ?_ | refine athen_r ?_ | refine ablock_n ?_ | refine ablock_e ?_ | refine ablock_r ?_ | refine ablock_o rfl ?_ | refine ARounds.step ?_) | refine WpL.pass rfl ?_ | refine WpL.go (gd := some _) rfl ?_))
    (refine AWp.draw Cmix (by kernel_rfl) rfl ?_)
    have hb0 : 0 < bytes.length := List.length_pos_iff.2 hbn
    (repeat (first | refine DrawL.nil ?_ | refine DrawL.pass rfl ?_ | refine DrawL.go rfl rfl (by (first | exact St.loadO rfl (fun _ => by rw [List.append_nil]; exact ho') rfl | exact St.lenArr rfl rfl | exact St.sliceDataArr rfl (by omega) | exact St.unsafeStr (l := bytes) rfl rfl rfl (by kernel_rfl) (fun _ => by rw [List.append_nil]; exact hj') h3 rfl (by omega) hb0  | exact St.exec rfl | exact St.newV rfl rfl rfl rfl | exact St.loadL rfl rfl rfl | exact St.stoL rfl rfl rfl rfl rfl | exact St.eqSc rfl | exact St.build rfl)) ?_))
    (repeat (first | (refine WpL.cons (by (first | exact St.exec rfl | exact St.newV rfl rfl rfl rfl | exact St.loadL rfl rfl rfl | exact St.stoL rfl rfl rfl rfl rfl | exact St.eqSc rfl | exact St.build rfl)) ?_) | (first | refine athen_n ?_ | refine WpL.nil ?_ | refine AWp.seq ?_ | refine AWp.region rfl ?_ | refine AWp.block ?_ | refine AWp.skip ?_ | refine AWp.exit ?_ | refine AWp.ret ?_ | refine AWp.condT rfl ?_ | refine AWp.condF rfl ?_ | refine athen_e ?_ | refine athen_r ?_ | refine ablock_n ?_ | refine ablock_e ?_ | refine ablock_r ?_ | refine ablock_o rfl ?_ | refine ARounds.step ?_) | refine WpL.pass rfl ?_ | refine WpL.go (gd := some _) rfl ?_))
    (first | refine RetQ.same (.inr rfl) (ResL.cons (ResIs.tmp _ _ rfl) ResL.nil) ?_ rfl ?_ | refine RetQ.same (.inr rfl) (ResL.cons (ResIs.tmp _ _ rfl) (ResL.cons (ResIs.tmp _ _ rfl) ResL.nil)) ?_ rfl ?_ | refine RetQ.same (.inr rfl) (ResL.cons (ResIs.tmp _ _ rfl) (ResL.cons (ResIs.tmp _ _ rfl) (ResL.cons (ResIs.tmp _ _ rfl) ResL.nil))) ?_ rfl ?_ | refine RetQ.same (.inr rfl) ResL.nil ?_ rfl ?_ | refine RetQ.same (.inl rfl) (ResL.cons (ResIs.tmp _ _ rfl) ResL.nil) ?_ rfl ?_ | refine RetQ.same (.inl rfl) (ResL.cons (ResIs.tmp _ _ rfl) (ResL.cons (ResIs.tmp _ _ rfl) ResL.nil)) ?_ rfl ?_ | refine RetQ.same (.inl rfl) (ResL.cons (ResIs.tmp _ _ rfl) (ResL.cons (ResIs.tmp _ _ rfl) (ResL.cons (ResIs.tmp _ _ rfl) ResL.nil))) ?_ rfl ?_ | refine RetQ.same (.inl rfl) ResL.nil ?_ rfl ?_)
    · exact Le.of_eq rfl
    · exact .str _
end Go.Proofs.YtdfmefkjjdlbiaaDoor
