/-
  AvTab: a table of types, held against the program by the kernel.
-/
import Derived.Test.YtdfmefkjjdlbiaaDoorAvMore
namespace Go.Av
set_option linter.unusedVariables false

def zeroEq1 : AV → AV → Bool
  | .bool a, .bool b => a == b
  | .int k a, .int k' b => k == k' && a == b
  | .str a, .str b => a == b
  | .nilptr, .nilptr | .nilFunc, .nilFunc | .nilIface, .nilIface | .nilmap, .nilmap => true
  | .slc [] .nil, .slc [] .nil => true
  | .any, .any => true
  | _, _ => false
def zeroEqL : List AV → List AV → Bool
  | [], [] => true
  | a :: r, b :: s => zeroEq1 a b && zeroEqL r s
  | _, _ => false
def zeroEq : AV → AV → Bool
  | .agg a, .agg b => zeroEqL a b
  | a, b => zeroEq1 a b
theorem zeroEq1_eq {a b : AV} (h : zeroEq1 a b = true) : a = b := by
  unfold zeroEq1 at h
  split at h <;> simp_all
theorem zeroEqL_eq : ∀ {a b : List AV}, zeroEqL a b = true → a = b
  | [], [], _ => rfl
  | a :: r, b :: s, h => by
    simp only [zeroEqL, Bool.and_eq_true] at h
    rw [zeroEq1_eq h.1, zeroEqL_eq h.2]
  | [], _ :: _, h => by simp [zeroEqL] at h
  | _ :: _, [], h => by simp [zeroEqL] at h
theorem zeroEq_eq {a b : AV} (h : zeroEq a b = true) : a = b := by
  unfold zeroEq at h
  split at h
  · rw [zeroEqL_eq h]
  · exact zeroEq1_eq h

def tyCheck1 (P : Program) (t : Nat) (i : TyI) : Bool :=
  !i.d.known || match P.info? t, P.underlying t with
    | some info, some d => info.size == i.size && info.bytes == i.bytes && tyFits i.d d && (match i.zero with
      | none => true
      | some z => match info.zero with
        | some cv => zeroEq (ofConst cv) z
        | none => false)
    | _, _ => false
def tyCheckL (P : Program) : Nat → List TyI → Bool
  | _, [] => true
  | t, i :: r => tyCheck1 P t i && tyCheckL P (t + 1) r

theorem tyCheck1_ok {P : Program} {t : Nat} {i : TyI} (h : tyCheck1 P t i = true) (hk : i.d ≠ .other) : TyOk P t i := by
  have hk' : i.d.known = true := by cases hd : i.d <;> simp_all [Ty.known]
  unfold tyCheck1 at h
  rw [hk'] at h
  simp only [Bool.not_true, Bool.false_or] at h
  split at h
  · rename_i info d h1 h2
    simp only [Bool.and_eq_true, beq_iff_eq] at h
    obtain ⟨⟨⟨a, b⟩, c⟩, e⟩ := h
    refine ⟨⟨info, h1, a, b, fun z hz => ?_⟩, ⟨d, h2, c⟩⟩
    rw [hz] at e
    simp only at e
    split at e
    · rename_i cv hcv; exact ⟨cv, hcv, zeroEq_eq e⟩
    · cases e
  · cases h
theorem tyCheckL_at {P : Program} : ∀ {l : List TyI} {t k : Nat} {i : TyI}, tyCheckL P t l = true → l[k]? = some i → tyCheck1 P (t + k) i = true
  | [], _, _, _, _, h => by simp at h
  | x :: r, t, 0, i, h, e => by
    simp only [tyCheckL, Bool.and_eq_true] at h
    simp at e; subst e; exact h.1
  | x :: r, t, k + 1, i, h, e => by
    simp only [tyCheckL, Bool.and_eq_true] at h
    have := tyCheckL_at (k := k) h.2 (by simpa using e)
    rwa [show t + 1 + k = t + (k + 1) by omega] at this

/-- A table of types as a tree, by number. -/
inductive TyTree where
  | leaf (i : TyI)
  | node (m : Nat) (a b : TyTree)
def TyTree.get : TyTree → Nat → TyI
  | .leaf i, _ => i
  | .node m a b, t => cond (Nat.blt t m) (a.get t) (b.get t)
def noTy : TyI := ⟨.other, 0, 0, none⟩
/-- all its leaves, in order, as numbers from lo to hi -/
def TyTree.sameAs (T : TyTree) (l : List TyI) : Prop := ∀ t, (T.get t).d ≠ .other → l[t]? = some (T.get t)

theorem tab_ok {P : Program} {T : Nat → TyI} {l : List TyI} (h : tyCheckL P 0 l = true) (hT : ∀ t, (T t).d ≠ .other → l[t]? = some (T t)) : ∀ t, (T t).d ≠ .other → TyOk P t (T t) := fun t hk => by
  have := tyCheckL_at h (hT t hk)
  rw [Nat.zero_add] at this
  exact tyCheck1_ok this hk

end Go.Av
