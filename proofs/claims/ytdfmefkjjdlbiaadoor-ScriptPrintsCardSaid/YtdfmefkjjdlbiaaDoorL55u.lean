/-
  Marks with check digits.
-/
import Derived.Test.YtdfmefkjjdlbiaaDoorL55t
namespace Go.Proofs.YtdfmefkjjdlbiaaDoor
open Go Go.Av
set_option maxRecDepth 100000
set_option linter.unusedVariables false
set_option linter.unusedSimpArgs false
attribute [local irreducible] ARounds AWp WpL OpStep OpStepR DrawL AThen ABlock RetQ PureF ACalls

def padL (w : Nat) (s : List UInt8) : List UInt8 := List.replicate (w - s.length) 48 ++ s
theorem padL_step {w : Nat} {s : List UInt8} (h : s.length < w) : padL w s = padL w ([48] ++ s) := by
  unfold padL
  rw [List.length_append, List.length_singleton]
  obtain ⟨k, hk⟩ : ∃ k, w - s.length = k + 1 := ⟨w - s.length - 1, by omega⟩
  rw [hk, show w - (1 + s.length) = k by omega, List.replicate_succ']
  simp
theorem padL_done {w : Nat} {s : List UInt8} (h : w ≤ s.length) : padL w s = s := by
  unfold padL
  rw [show w - s.length = 0 by omega]; rfl
theorem digits2_ok (n : Int) (w : Nat) (h0 : 0 ≤ n) (h1 : n ≤ 9223372036854775807) (hw : w ≤ 1000) : PureF C 58 [.int .i64 n, .int .i64 w] (.str (padL w (Lib.itoa n))) := by
  have hl := itoa_len n (by omega) h1
  (refine PureF.of fun objs => ?_); (refine ACalls.enter Cplain (nt := 15) (res := [.tmp 4]) Tryd.func58 rfl rfl Tryd.ntmps58 (by show 2 ≤ 15; omega) ?_)
  (repeat' (first | (refine WpL.cons (by (first | exact St.callF (fid := 31) rfl (itoa_ok _ (by omega) h1) Tryd.func31 (by kernel_rfl) (by kernel_rfl)  | exact St.exec rfl | exact St.newV rfl rfl rfl rfl | exact St.loadL rfl rfl rfl | exact St.stoL rfl rfl rfl rfl rfl | exact St.eqSc rfl | exact St.build rfl)) ?_) | (first | refine athen_n ?_ | refine WpL.nil ?_ | refine AWp.seq ?_ | refine AWp.region rfl ?_ | refine AWp.block ?_ | refine AWp.skip ?_ | refine AWp.exit ?_ | refine AWp.ret ?_ | refine AWp.condT rfl ?_ | refine AWp.condF rfl ?_ | refine athen_e ?_ | refine athen_r ?_ | refine ablock_n ?_ | refine ablock_e ?_ | refine ablock_r ?_ | refine ablock_o rfl ?_ | refine ARounds.step ?_) | refine WpL.pass rfl ?_ | refine WpL.go (gd := some _) rfl ?_ | refine AWp.kT rfl (by first | exact eqI_t.2 (by first | omega | decide) | exact ltI_t.2 (by first | omega | decide) | exact leI_t.2 (by first | omega | decide) | exact not_t (eqI_f.2 (by first | omega | decide)) | exact eqS_t.2 rfl | exact not_t (eqS_f.2 (by decide)) | assumption) ?_ | refine AWp.kF rfl (by first | exact eqI_f.2 (by first | omega | decide) | exact ltI_f.2 (by first | omega | decide) | exact leI_f.2 (by first | omega | decide) | exact not_f (eqI_t.2 (by first | omega | decide)) | exact not_f (eqS_t.2 rfl) | exact eqS_f.2 (by decide) | assumption) ?_ | refine WpL.gT rfl (by decide) rfl rfl (by first | exact eqI_t.2 (by first | omega | decide) | exact ltI_t.2 (by first | omega | decide) | exact leI_t.2 (by first | omega | decide) | exact not_t (eqI_f.2 (by first | omega | decide)) | exact eqS_t.2 rfl | exact not_t (eqS_f.2 (by decide)) | assumption) ?_ | refine WpL.gF rfl (by decide) rfl rfl (by first | exact eqI_f.2 (by first | omega | decide) | exact ltI_f.2 (by first | omega | decide) | exact leI_f.2 (by first | omega | decide) | exact not_f (eqI_t.2 (by first | omega | decide)) | exact not_f (eqS_t.2 rfl) | exact eqS_f.2 (by decide) | assumption) ?_))
  refine AWp.loopI (fun s : List UInt8 => ⟨15, objs.length, objs, [], ofL [(0, .int .i64 n), (1, .int .i64 w), (5, .str s)]⟩) (fun s => padL w s = padL w (Lib.itoa n) ∧ s.length ≤ 1000) (fun s => w - s.length) (Lib.itoa n) ⟨rfl, by omega⟩ ?_ (fun _ => rfl) ?_
  · exact Wk.same rfl (by repeat (first | exact trivial | refine ⟨Le.of_eq rfl, ?_⟩))
  rintro s ⟨hs, hsl⟩
  by_cases h : s.length < w
  · (repeat' (first | (refine WpL.cons (by (first | exact St.strAdd rfl rfl (by (try simp only [List.length_append, List.length_cons, List.length_nil]); omega)  | exact St.exec rfl | exact St.newV rfl rfl rfl rfl | exact St.loadL rfl rfl rfl | exact St.stoL rfl rfl rfl rfl rfl | exact St.eqSc rfl | exact St.build rfl)) ?_) | (first | refine athen_n ?_ | refine WpL.nil ?_ | refine AWp.seq ?_ | refine AWp.region rfl ?_ | refine AWp.block ?_ | refine AWp.skip ?_ | refine AWp.exit ?_ | refine AWp.ret ?_ | refine AWp.condT rfl ?_ | refine AWp.condF rfl ?_ | refine athen_e ?_ | refine athen_r ?_ | refine ablock_n ?_ | refine ablock_e ?_ | refine ablock_r ?_ | refine ablock_o rfl ?_ | refine ARounds.step ?_) | refine WpL.pass rfl ?_ | refine WpL.go (gd := some _) rfl ?_ | refine AWp.kT rfl (by first | exact eqI_t.2 (by first | omega | decide) | exact ltI_t.2 (by first | omega | decide) | exact leI_t.2 (by first | omega | decide) | exact not_t (eqI_f.2 (by first | omega | decide)) | exact eqS_t.2 rfl | exact not_t (eqS_f.2 (by decide)) | assumption) ?_ | refine AWp.kF rfl (by first | exact eqI_f.2 (by first | omega | decide) | exact ltI_f.2 (by first | omega | decide) | exact leI_f.2 (by first | omega | decide) | exact not_f (eqI_t.2 (by first | omega | decide)) | exact not_f (eqS_t.2 rfl) | exact eqS_f.2 (by decide) | assumption) ?_ | refine WpL.gT rfl (by decide) rfl rfl (by first | exact eqI_t.2 (by first | omega | decide) | exact ltI_t.2 (by first | omega | decide) | exact leI_t.2 (by first | omega | decide) | exact not_t (eqI_f.2 (by first | omega | decide)) | exact eqS_t.2 rfl | exact not_t (eqS_f.2 (by decide)) | assumption) ?_ | refine WpL.gF rfl (by decide) rfl rfl (by first | exact eqI_f.2 (by first | omega | decide) | exact ltI_f.2 (by first | omega | decide) | exact leI_f.2 (by first | omega | decide) | exact not_f (eqI_t.2 (by first | omega | decide)) | exact not_f (eqS_t.2 rfl) | exact eqS_f.2 (by decide) | assumption) ?_))
    refine ⟨[48] ++ s, by simp; omega, ⟨by rw [← padL_step h, hs], by simp; omega⟩, ?_⟩
    exact Wk.same rfl (by repeat (first | exact trivial | refine ⟨Le.of_eq rfl, ?_⟩))
  · (repeat' (first | (refine WpL.cons (by (first | exact St.exec rfl | exact St.newV rfl rfl rfl rfl | exact St.loadL rfl rfl rfl | exact St.stoL rfl rfl rfl rfl rfl | exact St.eqSc rfl | exact St.build rfl)) ?_) | (first | refine athen_n ?_ | refine WpL.nil ?_ | refine AWp.seq ?_ | refine AWp.region rfl ?_ | refine AWp.block ?_ | refine AWp.skip ?_ | refine AWp.exit ?_ | refine AWp.ret ?_ | refine AWp.condT rfl ?_ | refine AWp.condF rfl ?_ | refine athen_e ?_ | refine athen_r ?_ | refine ablock_n ?_ | refine ablock_e ?_ | refine ablock_r ?_ | refine ablock_o rfl ?_ | refine ARounds.step ?_) | refine WpL.pass rfl ?_ | refine WpL.go (gd := some _) rfl ?_ | refine AWp.kT rfl (by first | exact eqI_t.2 (by first | omega | decide) | exact ltI_t.2 (by first | omega | decide) | exact leI_t.2 (by first | omega | decide) | exact not_t (eqI_f.2 (by first | omega | decide)) | exact eqS_t.2 rfl | exact not_t (eqS_f.2 (by decide)) | assumption) ?_ | refine AWp.kF rfl (by first | exact eqI_f.2 (by first | omega | decide) | exact ltI_f.2 (by first | omega | decide) | exact leI_f.2 (by first | omega | decide) | exact not_f (eqI_t.2 (by first | omega | decide)) | exact not_f (eqS_t.2 rfl) | exact eqS_f.2 (by decide) | assumption) ?_ | refine WpL.gT rfl (by decide) rfl rfl (by first | exact eqI_t.2 (by first | omega | decide) | exact ltI_t.2 (by first | omega | decide) | exact leI_t.2 (by first | omega | decide) | exact not_t (eqI_f.2 (by first | omega | decide)) | exact eqS_t.2 rfl | exact not_t (eqS_f.2 (by decide)) | assumption) ?_ | refine WpL.gF rfl (by decide) rfl rfl (by first | exact eqI_f.2 (by first | omega | decide) | exact ltI_f.2 (by first | omega | decide) | exact leI_f.2 (by first | omega | decide) | exact not_f (eqI_t.2 (by first | omega | decide)) | exact not_f (eqS_t.2 rfl) | exact eqS_f.2 (by decide) | assumption) ?_))
    (first | refine RetQ.same (.inr rfl) (ResL.cons (ResIs.tmp _ _ rfl) ResL.nil) ?_ rfl ?_ | refine RetQ.same (.inr rfl) (ResL.cons (ResIs.tmp _ _ rfl) (ResL.cons (ResIs.tmp _ _ rfl) ResL.nil)) ?_ rfl ?_ | refine RetQ.same (.inr rfl) (ResL.cons (ResIs.tmp _ _ rfl) (ResL.cons (ResIs.tmp _ _ rfl) (ResL.cons (ResIs.tmp _ _ rfl) ResL.nil))) ?_ rfl ?_ | refine RetQ.same (.inr rfl) ResL.nil ?_ rfl ?_ | refine RetQ.same (.inl rfl) (ResL.cons (ResIs.tmp _ _ rfl) ResL.nil) ?_ rfl ?_ | refine RetQ.same (.inl rfl) (ResL.cons (ResIs.tmp _ _ rfl) (ResL.cons (ResIs.tmp _ _ rfl) ResL.nil)) ?_ rfl ?_ | refine RetQ.same (.inl rfl) (ResL.cons (ResIs.tmp _ _ rfl) (ResL.cons (ResIs.tmp _ _ rfl) (ResL.cons (ResIs.tmp _ _ rfl) ResL.nil))) ?_ rfl ?_ | refine RetQ.same (.inl rfl) ResL.nil ?_ rfl ?_)
    · refine Le.of_eq ?_
      rw [← hs, padL_done (by omega)]; rfl
    · exact .str _

def valAt (s : List UInt8) (j : Nat) : Int := if j < 4 then byteAt s j - 96 else byteAt s j - 48
def sumTo (s : List UInt8) : Nat → Int
  | 0 => 0
  | j + 1 => sumTo s j + valAt s j * (j + 1)
def headS (s : List UInt8) : Prop := 10 ≤ s.length ∧ ∀ j : Nat, j < 10 → (j < 4 → 97 ≤ byteAt s j ∧ byteAt s j ≤ 122) ∧ (4 ≤ j → 48 ≤ byteAt s j ∧ byteAt s j ≤ 57)
theorem valAt_range {s : List UInt8} (h : headS s) {j : Nat} (hj : j < 10) : 0 ≤ valAt s j ∧ valAt s j ≤ 26 := by
  obtain ⟨h1, h2⟩ := h.2 j hj
  unfold valAt
  split
  · rename_i h; have := h1 h; omega
  · rename_i h; have := h2 (by omega); omega
theorem sumTo_range {s : List UInt8} (h : headS s) : ∀ j, j ≤ 10 → 0 ≤ sumTo s j ∧ sumTo s j ≤ 260 * j
  | 0, _ => by simp [sumTo]
  | j + 1, hj => by
    have := sumTo_range h j (by omega)
    obtain ⟨h1, h2⟩ := valAt_range h (j := j) (by omega)
    have h3 : 0 ≤ valAt s j * (j + 1) := Int.mul_nonneg h1 (by omega)
    have h4 : valAt s j * (j + 1) ≤ 26 * 10 := Int.mul_le_mul h2 (by omega) (by omega) (by omega)
    simp only [sumTo]
    omega
def sumS (s : List UInt8) : Int := (sumTo s 10).tmod 97
theorem isLetterS_t {c : Int} (h : 97 ≤ c ∧ c ≤ 122) : isLetterS c = true := by
  unfold isLetterS
  rw [leI_t.2 h.1, leI_t.2 h.2]; rfl
theorem isDigitS_t {c : Int} (h : 48 ≤ c ∧ c ≤ 57) : isDigitS c = true := by
  unfold isDigitS
  rw [leI_t.2 h.1, leI_t.2 h.2]; rfl
theorem wrap_u8c {x : Int} (h1 : 0 ≤ x) (h2 : x ≤ 255) : IntKind.wrap .u8 x = x := wrap_u8 h1 h2
theorem markSum_ok (s : List UInt8) (h : headS s) (hs : s.length < 2 ^ 40) : PureF C 59 [.str s] (.int .i64 (sumS s)) := by
  have hlen := h.1
  (refine PureF.of fun objs => ?_); (refine ACalls.enter Cplain (nt := 50) (res := [.tmp 2]) Tryd.func59 rfl rfl Tryd.ntmps59 (by show 1 ≤ 50; omega) ?_)
  (repeat' (first | (refine WpL.cons (by (first | exact St.exec rfl | exact St.newV rfl rfl rfl rfl | exact St.loadL rfl rfl rfl | exact St.stoL rfl rfl rfl rfl rfl | exact St.eqSc rfl | exact St.build rfl)) ?_) | (first | refine athen_n ?_ | refine WpL.nil ?_ | refine AWp.seq ?_ | refine AWp.region rfl ?_ | refine AWp.block ?_ | refine AWp.skip ?_ | refine AWp.exit ?_ | refine AWp.ret ?_ | refine AWp.condT rfl ?_ | refine AWp.condF rfl ?_ | refine athen_e ?_ | refine athen_r ?_ | refine ablock_n ?_ | refine ablock_e ?_ | refine ablock_r ?_ | refine ablock_o rfl ?_ | refine ARounds.step ?_) | refine WpL.pass rfl ?_ | refine WpL.go (gd := some _) rfl ?_ | refine AWp.kT rfl (by first | exact eqI_t.2 (by first | omega | decide) | exact ltI_t.2 (by first | omega | decide) | exact leI_t.2 (by first | omega | decide) | exact not_t (eqI_f.2 (by first | omega | decide)) | exact eqS_t.2 rfl | exact not_t (eqS_f.2 (by decide)) | assumption) ?_ | refine AWp.kF rfl (by first | exact eqI_f.2 (by first | omega | decide) | exact ltI_f.2 (by first | omega | decide) | exact leI_f.2 (by first | omega | decide) | exact not_f (eqI_t.2 (by first | omega | decide)) | exact not_f (eqS_t.2 rfl) | exact eqS_f.2 (by decide) | assumption) ?_ | refine WpL.gT rfl (by decide) rfl rfl (by first | exact eqI_t.2 (by first | omega | decide) | exact ltI_t.2 (by first | omega | decide) | exact leI_t.2 (by first | omega | decide) | exact not_t (eqI_f.2 (by first | omega | decide)) | exact eqS_t.2 rfl | exact not_t (eqS_f.2 (by decide)) | assumption) ?_ | refine WpL.gF rfl (by decide) rfl rfl (by first | exact eqI_f.2 (by first | omega | decide) | exact ltI_f.2 (by first | omega | decide) | exact leI_f.2 (by first | omega | decide) | exact not_f (eqI_t.2 (by first | omega | decide)) | exact not_f (eqS_t.2 rfl) | exact eqS_f.2 (by decide) | assumption) ?_))
  refine AWp.loopI (fun i : Nat => ⟨50, objs.length, objs, [], ofL [(0, .str s), (3, .int .i64 (sumTo s i)), (9, .int .i64 i)]⟩) (fun i => i ≤ 10) (fun i => 10 - i) 0 (by omega) ?_ (fun _ => rfl) ?_
  · exact Wk.same rfl (by repeat (first | exact trivial | refine ⟨Le.of_eq rfl, ?_⟩))
  rintro i hi
  have hsr := sumTo_range h i hi
  by_cases hlt : i < 10
  · obtain ⟨h1, h2⟩ := h.2 i hlt
    have hv := valAt_range h hlt
    have h3 : 0 ≤ valAt s i * (i + 1) := Int.mul_nonneg hv.1 (by omega)
    have h4 : valAt s i * (i + 1) ≤ 26 * 10 := Int.mul_le_mul hv.2 (by omega) (by omega) (by omega)
    have hnext : sumTo s (i + 1) = sumTo s i + valAt s i * (i + 1) := rfl
    by_cases h4' : i < 4
    · have hb := h1 h4'
      have hL := isLetterS_t hb
      have hva : valAt s i = byteAt s i - 96 := by unfold valAt; rw [if_pos h4']
      have hw1 : IntKind.wrap .i64 (IntKind.wrap .i64 (IntKind.wrap .u8 (byteAt s i - 97)) + 1) = valAt s i := by
        rw [wrap_u8c (by omega) (by omega), wrap_i64 (x := byteAt s i - 97) (by omega) (by omega), wrap_i64 (by omega) (by omega), hva]; omega
      (repeat' (first | (refine WpL.cons (by (first | exact St.indexStr rfl rfl rfl (by omega) (by omega) | exact St.strAdd rfl rfl (by simp; omega) | exact St.callF (fid := 48) rfl (isLetter_ok _) Tryd.func48 (by kernel_rfl) (by kernel_rfl)  | exact St.exec rfl | exact St.newV rfl rfl rfl rfl | exact St.loadL rfl rfl rfl | exact St.stoL rfl rfl rfl rfl rfl | exact St.eqSc rfl | exact St.build rfl)) ?_) | (first | refine athen_n ?_ | refine WpL.nil ?_ | refine AWp.seq ?_ | refine AWp.region rfl ?_ | refine AWp.block ?_ | refine AWp.skip ?_ | refine AWp.exit ?_ | refine AWp.ret ?_ | refine AWp.condT rfl ?_ | refine AWp.condF rfl ?_ | refine athen_e ?_ | refine athen_r ?_ | refine ablock_n ?_ | refine ablock_e ?_ | refine ablock_r ?_ | refine ablock_o rfl ?_ | refine ARounds.step ?_) | refine WpL.pass rfl ?_ | refine WpL.go (gd := some _) rfl ?_ | refine AWp.kT rfl (by first | exact eqI_t.2 (by first | omega | decide) | exact ltI_t.2 (by first | omega | decide) | exact leI_t.2 (by first | omega | decide) | exact not_t (eqI_f.2 (by first | omega | decide)) | exact eqS_t.2 rfl | exact not_t (eqS_f.2 (by decide)) | assumption) ?_ | refine AWp.kF rfl (by first | exact eqI_f.2 (by first | omega | decide) | exact ltI_f.2 (by first | omega | decide) | exact leI_f.2 (by first | omega | decide) | exact not_f (eqI_t.2 (by first | omega | decide)) | exact not_f (eqS_t.2 rfl) | exact eqS_f.2 (by decide) | assumption) ?_ | refine WpL.gT rfl (by decide) rfl rfl (by first | exact eqI_t.2 (by first | omega | decide) | exact ltI_t.2 (by first | omega | decide) | exact leI_t.2 (by first | omega | decide) | exact not_t (eqI_f.2 (by first | omega | decide)) | exact eqS_t.2 rfl | exact not_t (eqS_f.2 (by decide)) | assumption) ?_ | refine WpL.gF rfl (by decide) rfl rfl (by first | exact eqI_f.2 (by first | omega | decide) | exact ltI_f.2 (by first | omega | decide) | exact leI_f.2 (by first | omega | decide) | exact not_f (eqI_t.2 (by first | omega | decide)) | exact not_f (eqS_t.2 rfl) | exact eqS_f.2 (by decide) | assumption) ?_))
      refine ⟨i + 1, by omega, by omega, ?_⟩
      rw [hw1, wrap_i64 (x := (i : Int) + 1) (by omega) (by omega), wrap_i64 (x := valAt s i * _) (by omega) (by omega), wrap_i64 (x := sumTo s i + _) (by omega) (by omega), ← hnext]
      exact Wk.same rfl (by repeat (first | exact trivial | refine ⟨Le.of_eq rfl, ?_⟩))
    · have hb := h2 (by omega)
      have hD := isDigitS_t hb
      have hva : valAt s i = byteAt s i - 48 := by unfold valAt; rw [if_neg h4']
      have hw1 : IntKind.wrap .i64 (IntKind.wrap .u8 (byteAt s i - 48)) = valAt s i := by
        rw [wrap_u8c (by omega) (by omega), wrap_i64 (by omega) (by omega), hva]
      (repeat' (first | (refine WpL.cons (by (first | exact St.indexStr rfl rfl rfl (by omega) (by omega) | exact St.strAdd rfl rfl (by simp; omega) | exact St.callF (fid := 49) rfl (isDigit_ok _) Tryd.func49 (by kernel_rfl) (by kernel_rfl)  | exact St.exec rfl | exact St.newV rfl rfl rfl rfl | exact St.loadL rfl rfl rfl | exact St.stoL rfl rfl rfl rfl rfl | exact St.eqSc rfl | exact St.build rfl)) ?_) | (first | refine athen_n ?_ | refine WpL.nil ?_ | refine AWp.seq ?_ | refine AWp.region rfl ?_ | refine AWp.block ?_ | refine AWp.skip ?_ | refine AWp.exit ?_ | refine AWp.ret ?_ | refine AWp.condT rfl ?_ | refine AWp.condF rfl ?_ | refine athen_e ?_ | refine athen_r ?_ | refine ablock_n ?_ | refine ablock_e ?_ | refine ablock_r ?_ | refine ablock_o rfl ?_ | refine ARounds.step ?_) | refine WpL.pass rfl ?_ | refine WpL.go (gd := some _) rfl ?_ | refine AWp.kT rfl (by first | exact eqI_t.2 (by first | omega | decide) | exact ltI_t.2 (by first | omega | decide) | exact leI_t.2 (by first | omega | decide) | exact not_t (eqI_f.2 (by first | omega | decide)) | exact eqS_t.2 rfl | exact not_t (eqS_f.2 (by decide)) | assumption) ?_ | refine AWp.kF rfl (by first | exact eqI_f.2 (by first | omega | decide) | exact ltI_f.2 (by first | omega | decide) | exact leI_f.2 (by first | omega | decide) | exact not_f (eqI_t.2 (by first | omega | decide)) | exact not_f (eqS_t.2 rfl) | exact eqS_f.2 (by decide) | assumption) ?_ | refine WpL.gT rfl (by decide) rfl rfl (by first | exact eqI_t.2 (by first | omega | decide) | exact ltI_t.2 (by first | omega | decide) | exact leI_t.2 (by first | omega | decide) | exact not_t (eqI_f.2 (by first | omega | decide)) | exact eqS_t.2 rfl | exact not_t (eqS_f.2 (by decide)) | assumption) ?_ | refine WpL.gF rfl (by decide) rfl rfl (by first | exact eqI_f.2 (by first | omega | decide) | exact ltI_f.2 (by first | omega | decide) | exact leI_f.2 (by first | omega | decide) | exact not_f (eqI_t.2 (by first | omega | decide)) | exact not_f (eqS_t.2 rfl) | exact eqS_f.2 (by decide) | assumption) ?_))
      refine ⟨i + 1, by omega, by omega, ?_⟩
      rw [hw1, wrap_i64 (x := (i : Int) + 1) (by omega) (by omega), wrap_i64 (x := valAt s i * _) (by omega) (by omega), wrap_i64 (x := sumTo s i + _) (by omega) (by omega), ← hnext]
      exact Wk.same rfl (by repeat (first | exact trivial | refine ⟨Le.of_eq rfl, ?_⟩))
  · have : i = 10 := by omega
    subst this
    (repeat' (first | (refine WpL.cons (by (first | exact St.exec rfl | exact St.newV rfl rfl rfl rfl | exact St.loadL rfl rfl rfl | exact St.stoL rfl rfl rfl rfl rfl | exact St.eqSc rfl | exact St.build rfl)) ?_) | (first | refine athen_n ?_ | refine WpL.nil ?_ | refine AWp.seq ?_ | refine AWp.region rfl ?_ | refine AWp.block ?_ | refine AWp.skip ?_ | refine AWp.exit ?_ | refine AWp.ret ?_ | refine AWp.condT rfl ?_ | refine AWp.condF rfl ?_ | refine athen_e ?_ | refine athen_r ?_ | refine ablock_n ?_ | refine ablock_e ?_ | refine ablock_r ?_ | refine ablock_o rfl ?_ | refine ARounds.step ?_) | refine WpL.pass rfl ?_ | refine WpL.go (gd := some _) rfl ?_ | refine AWp.kT rfl (by first | exact eqI_t.2 (by first | omega | decide) | exact ltI_t.2 (by first | omega | decide) | exact leI_t.2 (by first | omega | decide) | exact not_t (eqI_f.2 (by first | omega | decide)) | exact eqS_t.2 rfl | exact not_t (eqS_f.2 (by decide)) | assumption) ?_ | refine AWp.kF rfl (by first | exact eqI_f.2 (by first | omega | decide) | exact ltI_f.2 (by first | omega | decide) | exact leI_f.2 (by first | omega | decide) | exact not_f (eqI_t.2 (by first | omega | decide)) | exact not_f (eqS_t.2 rfl) | exact eqS_f.2 (by decide) | assumption) ?_ | refine WpL.gT rfl (by decide) rfl rfl (by first | exact eqI_t.2 (by first | omega | decide) | exact ltI_t.2 (by first | omega | decide) | exact leI_t.2 (by first | omega | decide) | exact not_t (eqI_f.2 (by first | omega | decide)) | exact eqS_t.2 rfl | exact not_t (eqS_f.2 (by decide)) | assumption) ?_ | refine WpL.gF rfl (by decide) rfl rfl (by first | exact eqI_f.2 (by first | omega | decide) | exact ltI_f.2 (by first | omega | decide) | exact leI_f.2 (by first | omega | decide) | exact not_f (eqI_t.2 (by first | omega | decide)) | exact not_f (eqS_t.2 rfl) | exact eqS_f.2 (by decide) | assumption) ?_))
    (first | refine RetQ.same (.inr rfl) (ResL.cons (ResIs.tmp _ _ rfl) ResL.nil) ?_ rfl ?_ | refine RetQ.same (.inr rfl) (ResL.cons (ResIs.tmp _ _ rfl) (ResL.cons (ResIs.tmp _ _ rfl) ResL.nil)) ?_ rfl ?_ | refine RetQ.same (.inr rfl) (ResL.cons (ResIs.tmp _ _ rfl) (ResL.cons (ResIs.tmp _ _ rfl) (ResL.cons (ResIs.tmp _ _ rfl) ResL.nil))) ?_ rfl ?_ | refine RetQ.same (.inr rfl) ResL.nil ?_ rfl ?_ | refine RetQ.same (.inl rfl) (ResL.cons (ResIs.tmp _ _ rfl) ResL.nil) ?_ rfl ?_ | refine RetQ.same (.inl rfl) (ResL.cons (ResIs.tmp _ _ rfl) (ResL.cons (ResIs.tmp _ _ rfl) ResL.nil)) ?_ rfl ?_ | refine RetQ.same (.inl rfl) (ResL.cons (ResIs.tmp _ _ rfl) (ResL.cons (ResIs.tmp _ _ rfl) (ResL.cons (ResIs.tmp _ _ rfl) ResL.nil))) ?_ rfl ?_ | refine RetQ.same (.inl rfl) ResL.nil ?_ rfl ?_)
    · exact Le.of_eq rfl
    · exact .int _ _
end Go.Proofs.YtdfmefkjjdlbiaaDoor
