/-
  Print.
-/
import Derived.Test.YtdfmefkjjdlbiaaDoorL55o
import Derived.Test.YtdfmefkjjdlbiaaDoorL55i
import Derived.Test.YtdfmefkjjdlbiaaDoorAvBld
namespace Go.Proofs.YtdfmefkjjdlbiaaDoor
open Go Go.Av
set_option maxRecDepth 100000
set_option linter.unusedVariables false
set_option linter.unusedSimpArgs false
attribute [local irreducible] ARounds AWp WpL OpStep OpStepR DrawL AThen ABlock RetQ PureF ACalls

def rightS (x : Step) : Bool := decide (0 ≤ x.kind ∧ x.kind < 8) && fineK x x.kind.toNat
def lineS (x : Step) : List UInt8 := lineK x x.kind.toNat
def printB (l : List Step) : List UInt8 := (l.map fun x => lineS x ++ [10]).flatten
def printR (l : List Step) : AV := if l.all rightS = true then .tuple [.str (printB l), .int .i64 0] else .tuple [.str [], .int .i64 1]
theorem printR_bad {l : List Step} {i : Nat} {x : Step} (hi : l[i]? = some x) (h : rightS x = false) : printR l = .tuple [.str [], .int .i64 1] := by
  unfold printR
  rw [if_neg]
  intro hl
  have := List.all_eq_true.1 hl x (List.mem_of_getElem? hi)
  rw [h] at this; cases this

theorem hw_at (k : Nat) (hk : k < 8) : aload C 9 wordsL (0 + (k : Int).toNat * (C.ty 9).size) = some (.str (wordAt k)) := by
  have hk' : k = 0 ∨ k = 1 ∨ k = 2 ∨ k = 3 ∨ k = 4 ∨ k = 5 ∨ k = 6 ∨ k = 7 := by omega
  rcases hk' with rfl | rfl | rfl | rfl | rfl | rfl | rfl | rfl <;> rfl
theorem find_at (b c k : Nat) (hk : k < 8) : findA (.str (wordAt k)) (formsE b c) 0 = some (some k) := by
  have hk' : k = 0 ∨ k = 1 ∨ k = 2 ∨ k = 3 ∨ k = 4 ∨ k = 5 ∨ k = 6 ∨ k = 7 := by omega
  rcases hk' with rfl | rfl | rfl | rfl | rfl | rfl | rfl | rfl <;> rfl
theorem look_at (b c k : Nat) (ok : Bool) (hk : k < 8) : aLook C 59 (formsE b c) ok (some k) = some (cond ok (.tuple [.agg [.int .i64 k, .slc (psK b c k) (endK k)], .bool true]) (.agg [.int .i64 k, .slc (psK b c k) (endK k)])) := by
  have hk' : k = 0 ∨ k = 1 ∨ k = 2 ∨ k = 3 ∨ k = 4 ∨ k = 5 ∨ k = 6 ∨ k = 7 := by omega
  rcases hk' with rfl | rfl | rfl | rfl | rfl | rfl | rfl | rfl <;> rfl
theorem ps_at (b c k i : Nat) (hk : k < 8) (hi : i < (psK b c k).length) : (psK b c k)[i]? = some [.func (fidOf (partK b c k i 0)) [] (capOf (partK b c k i 0)), .func (fidOf (partK b c k i 1)) [] (capOf (partK b c k i 1))] := by
  have hk' : k = 0 ∨ k = 1 ∨ k = 2 ∨ k = 3 ∨ k = 4 ∨ k = 5 ∨ k = 6 ∨ k = 7 := by omega
  rcases hk' with rfl | rfl | rfl | rfl | rfl | rfl | rfl | rfl
  · match i, hi with
    | 0, _ => rfl
    | 1, _ => rfl
    | 2, _ => rfl
    | 3, _ => rfl
  · match i, hi with | 0, _ => rfl
  · match i, hi with | 0, _ => rfl
  · match i, hi with | 0, _ => rfl
  · exact absurd hi (Nat.not_lt_zero _)
  · match i, hi with | 0, _ => rfl
  · match i, hi with
    | 0, _ => rfl
    | 1, _ => rfl
  · match i, hi with | 0, _ => rfl
theorem len_at (x : Step) (b c k : Nat) : (psK b c k).length = (wsK x k).length ∧ (oksK x k).length = (wsK x k).length ∧ (psK b c k).length = (psK 0 0 k).length ∧ (psK b c k).length ≤ 4 := by
  by_cases h : k < 8
  · have hk' : k = 0 ∨ k = 1 ∨ k = 2 ∨ k = 3 ∨ k = 4 ∨ k = 5 ∨ k = 6 ∨ k = 7 := by omega
    rcases hk' with rfl | rfl | rfl | rfl | rfl | rfl | rfl | rfl <;> simp [psK, wsK, oksK]
  · obtain ⟨m, rfl⟩ : ∃ m, k = m + 8 := ⟨k - 8, by omega⟩
    simp [psK, wsK, oksK]
theorem xs0_at (x : Step) (k : Nat) (hk : k < 8) : xsK x k 0 = kindStep k := by
  have hk' : k = 0 ∨ k = 1 ∨ k = 2 ∨ k = 3 ∨ k = 4 ∨ k = 5 ∨ k = 6 ∨ k = 7 := by omega
  rcases hk' with rfl | rfl | rfl | rfl | rfl | rfl | rfl | rfl <;> rfl
theorem wl_at (x : Step) (hx : Fit x) (k : Nat) : ∀ w, w ∈ wsK x k → w.length ≤ 100 := by
  intro w hw
  have h1 := itoa_len x.n hx.n.1 hx.n.2
  have h2 := itoa_len x.an hx.an.1 hx.an.2
  have h3 := hx.party
  have h4 := hx.adeal
  have h5 : (actW x.akind).length ≤ 100 := by
    unfold actW
    split
    · have : ∀ k, k < 12 → (actAt k).length ≤ 100 := by decide
      exact this _ (by omega)
    · exact Nat.zero_le _
  by_cases h : k < 8
  · have hk' : k = 0 ∨ k = 1 ∨ k = 2 ∨ k = 3 ∨ k = 4 ∨ k = 5 ∨ k = 6 ∨ k = 7 := by omega
    rcases hk' with rfl | rfl | rfl | rfl | rfl | rfl | rfl | rfl <;> simp only [wsK, List.mem_cons, List.mem_nil_iff, or_false] at hw
    · rcases hw with rfl | rfl | rfl | rfl <;> omega
    all_goals (first | (rcases hw with rfl | rfl <;> omega) | (subst hw; omega))
  · obtain ⟨m, rfl⟩ : ∃ m, k = m + 8 := ⟨k - 8, by omega⟩
    simp [wsK] at hw
theorem flatW_len : ∀ (ws : List (List UInt8)) (_ : ∀ w, w ∈ ws → w.length ≤ 100), (flatW ws).length ≤ 101 * ws.length
  | [], _ => by simp [flatW]
  | w :: ws, h => by
    have := flatW_len ws (fun y hy => h y (by simp [hy]))
    have h0 := h w (by simp)
    simp only [flatW, List.map_cons, List.flatten_cons, List.length_append, List.length_cons] at this ⊢
    omega
theorem wordAt_len : ∀ k, k < 8 → (wordAt k).length ≤ 10 := by decide
theorem wl_nosp (x : Step) (k : Nat) (hk : k < 8) (hok : (oksK x k).all id = true) : ∀ w, w ∈ wsK x k → (32 : UInt8) ∉ w := by
  intro w hw
  have act : inAct x.akind = true → (32 : UInt8) ∉ actW x.akind := fun h => by
    have h := of_decide_eq_true h
    unfold actW
    rw [if_pos h]
    exact act_nosp _ (by omega)
  have hk' : k = 0 ∨ k = 1 ∨ k = 2 ∨ k = 3 ∨ k = 4 ∨ k = 5 ∨ k = 6 ∨ k = 7 := by omega
  rcases hk' with rfl | rfl | rfl | rfl | rfl | rfl | rfl | rfl <;> simp only [wsK, List.mem_cons, List.mem_nil_iff, or_false] at hw <;> simp only [oksK, List.all_cons, List.all_nil, Bool.and_true, id, Bool.and_eq_true] at hok
  · rcases hw with rfl | rfl | rfl | rfl
    · exact name_nosp hok.1
    · exact act hok.2.1
    · exact name_nosp hok.2.2.1
    · exact itoa_nosp hok.2.2.2
  · subst hw; exact itoa_nosp hok
  · subst hw; exact itoa_nosp hok
  · subst hw; exact itoa_nosp hok
  · subst hw; exact name_nosp hok
  · rcases hw with rfl | rfl
    · exact name_nosp hok.1
    · exact itoa_nosp hok.2
  · subst hw; exact name_nosp hok
theorem lineK_len (x : Step) (hx : Fit x) (k : Nat) (hk : k < 8) : (lineK x k).length ≤ 420 := by
  unfold lineK
  have h1 := flatW_len _ (wl_at x hx k)
  have h2 := wordAt_len k hk
  have h3 := len_at x 0 0 k
  simp only [List.length_append]
  have : (wsK x k).length ≤ 4 := by omega
  have : 101 * (wsK x k).length ≤ 404 := by omega
  omega
theorem printB_len (l : List Step) (hl : ∀ x, x ∈ l → Fit x ∧ rightS x = true) : (printB l).length ≤ 421 * l.length := by
  induction l with
  | nil => simp [printB]
  | cons x r ih =>
    have := ih (fun y hy => hl y (by simp [hy]))
    obtain ⟨hf, hr⟩ := hl x (by simp)
    unfold rightS at hr
    simp only [Bool.and_eq_true, decide_eq_true_eq] at hr
    have h2 : (lineS x).length ≤ 420 := lineK_len x hf x.kind.toNat (by omega)
    simp only [printB, List.map_cons, List.flatten_cons, List.length_append, List.length_cons, List.length_nil] at this ⊢
    omega
end Go.Proofs.YtdfmefkjjdlbiaaDoor
