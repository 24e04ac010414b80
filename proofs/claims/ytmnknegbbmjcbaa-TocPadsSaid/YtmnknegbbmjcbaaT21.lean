/- Where the reference gives up early our many goes bad, too: the plain law. -/
import Derived.Test.YtmnknegbbmjcbaaT20
import Derived.Test.YtmnknegbbmjcbaaT17
namespace Go.Proofs.Ytmnknegbbmjcbaa
open Go.RowKit

def sumN (ls : List Int) : Nat → Nat
  | 0 => 0
  | k + 1 => sumN ls k + (ls.getD k 0).toNat
theorem sumN_ge (ls : List Int) {j k : Nat} (h : j < k) : (ls.getD j 0).toNat ≤ sumN ls k := by
  induction k with
  | zero => omega
  | succ k ih =>
    unfold sumN
    by_cases hj : j = k
    · subst hj; omega
    · have := ih (by omega)
      omega
theorem sumN_append (ls : List Int) (y : Int) : ∀ k, k ≤ ls.length → sumN (ls ++ [y]) k = sumN ls k := by
  intro k
  induction k with
  | zero => intro _; rfl
  | succ k ih =>
    intro hk
    unfold sumN
    rw [ih (by omega)]
    have e : (ls ++ [y]).getD k 0 = ls.getD k 0 := by
      simp only [List.getD_eq_getElem?_getD]
      rw [List.getElem?_append_left (by omega)]
    rw [e]
theorem sumN_snoc (ls : List Int) (y : Int) {k : Nat} (hk : ls.length = k) : sumN (ls ++ [y]) (k + 1) = sumN ls k + y.toNat := by
  show sumN (ls ++ [y]) k + ((ls ++ [y]).getD k 0).toNat = _
  rw [sumN_append ls y k (by omega)]
  subst hk
  simp
theorem frs_not {xs : List Int} {b : Bool} {ls : List Int} (k : Nat) (h : (frsM xs b ls k).2.2 = false) : b = false ∧ sumN ls k + (frsM xs b ls k).2.1.length = xs.length := by
  induction k with
  | zero => exact ⟨h, by simp [sumN, frsM]⟩
  | succ k ih =>
    simp only [frsM] at h ⊢
    unfold frameM at h ⊢
    split at h
    · cases h
    · rename_i hc
      obtain ⟨a, c⟩ := ih h
      rw [if_neg hc]
      refine ⟨a, ?_⟩
      unfold sumN
      simp only [List.length_drop]
      omega
theorem frs_bad (xs : List Int) (ls : List Int) (k : Nat) : (frsM xs true ls k).2.2 = true := by
  cases h : (frsM xs true ls k).2.2 with
  | true => rfl
  | false => cases (frs_not k h).1
theorem len_bad (xs : List Int) : (lenM xs true).2.2 = true := by
  unfold lenM
  cases xs with
  | nil => simp [byteM]
  | cons x xs =>
    cases xs with
    | nil => by_cases hx : 251 < x <;> simp [byteM, hx]
    | cons y ys => by_cases hx : 251 < x <;> simp [byteM, hx]
theorem lens_bad {xs : List Int} {b : Bool} {j k : Nat} (hjk : j ≤ k) (h : (lensM xs b j).2.2 = true) : (lensM xs b k).2.2 = true := by
  induction k with
  | zero =>
    have : j = 0 := by omega
    subst this
    exact h
  | succ k ih =>
    by_cases hj : j = k + 1
    · subst hj; exact h
    · have := ih (by omega)
      simp only [lensM]
      rw [this]
      exact len_bad _
theorem lens_rest {xs : List Int} {b : Bool} {j k : Nat} (hjk : j ≤ k) : (lensM xs b k).2.1.length ≤ (lensM xs b j).2.1.length := by
  induction k with
  | zero =>
    have : j = 0 := by omega
    subst this
    exact Nat.le_refl _
  | succ k ih =>
    by_cases hj : j = k + 1
    · subst hj; exact Nat.le_refl _
    · have := ih (by omega)
      simp only [lensM]
      exact Nat.le_trans (sub_len _ _).length_le this
theorem lens_get {xs : List Int} {b : Bool} {j k : Nat} (hjk : j < k) : (lensM xs b k).1.getD j 0 = (lenM (lensM xs b j).2.1 (lensM xs b j).2.2).1 := by
  induction k with
  | zero => omega
  | succ k ih =>
    have hl := lensM_length xs b k
    simp only [lensM]
    simp only [List.getD_eq_getElem?_getD]
    by_cases hj : j = k
    · subst hj
      rw [List.getElem?_append_right (by omega), hl]
      simp
    · rw [List.getElem?_append_left (by omega)]
      have := ih (by omega)
      simpa [List.getD_eq_getElem?_getD] using this
/-- The reference gives up while it reads the lengths: so does ours, in the end. -/
theorem unlike_early {ts : List Int} {m j : Nat} (hj : j < m - 1) (h : (rlenM (lensM ts false j).2.1 (lensM ts false j).2.2).2.2 = true) : (unlikeM ts m).2.2 = true := by
  unfold unlikeM
  dsimp only
  cases hb : (lensM ts false (m - 1)).2.2 with
  | true => exact frs_bad _ _ _
  | false =>
    cases hf : (frsM (lensM ts false (m - 1)).2.1 false (lensM ts false (m - 1)).1 (m - 1)).2.2 with
    | true => rfl
    | false =>
      exfalso
      obtain ⟨_, h2⟩ := frs_not (m - 1) hf
      unfold rlenM at h
      simp only [Bool.or_eq_true, decide_eq_true_eq] at h
      have h1 : (lensM ts false (j + 1)).2.2 = false := by
        cases hx : (lensM ts false (j + 1)).2.2 with
        | false => rfl
        | true =>
          have := lens_bad (show j + 1 ≤ m - 1 by omega) hx
          rw [hb] at this
          cases this
      rcases h with h | h
      · have : (lensM ts false (j + 1)).2.2 = true := h
        rw [h1] at this
        cases this
      · have h3 := sumN_ge (lensM ts false (m - 1)).1 hj
        rw [lens_get hj] at h3
        have h4 := lens_rest (xs := ts) (b := false) (show j + 1 ≤ m - 1 by omega)
        have h5 : (lensM ts false (j + 1)).2.1 = (lenM (lensM ts false j).2.1 (lensM ts false j).2.2).2.1 := rfl
        rw [h5] at h4
        omega
/-- Or behind the lengths, since they are too many bytes. -/
theorem unlike_sum {ts : List Int} {m : Nat} (h : (lensM ts false (m - 1)).2.1.length < sumN (lensM ts false (m - 1)).1 (m - 1)) : (unlikeM ts m).2.2 = true := by
  unfold unlikeM
  dsimp only
  cases hf : (frsM (lensM ts false (m - 1)).2.1 (lensM ts false (m - 1)).2.2 (lensM ts false (m - 1)).1 (m - 1)).2.2 with
  | true => rfl
  | false =>
    obtain ⟨_, h2⟩ := frs_not (m - 1) hf
    omega
/-- While the reference has not given up it stands where ours stands. -/
theorem rlen_same {xs : List Int} {b : Bool} (h : (rlenM xs b).2.2 = false) : rlenM xs b = lenM xs b := by
  unfold rlenM at h ⊢
  simp only [Bool.or_eq_false_iff, decide_eq_false_iff_not] at h
  rw [decide_eq_false h.2, Bool.or_false]
end Go.Proofs.Ytmnknegbbmjcbaa
