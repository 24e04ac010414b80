/- The plain law of TocTimes: how many frames, how long, how many bytes. -/
import Derived.Test.YtmnknegbbmjcbaaT13
namespace Go.Proofs.Ytmnknegbbmjcbaa
open Go.RowKit

def sumL (L : List (List Int)) : Nat := L.flatten.length
theorem sumL_snoc (L : List (List Int)) (l : List Int) : sumL (L ++ [l]) = sumL L + l.length := by simp [sumL]
theorem chunk_sum (xs : List Int) (k i : Nat) : sumL (chunkL xs k i) ≤ i * k := by
  induction i with
  | zero => simp [sumL, chunkL]
  | succ i ih =>
    rw [chunkL_succ, sumL_snoc, Nat.add_mul, Nat.one_mul]
    have : ((xs.drop (i * k)).take k).length ≤ k := by simp; omega
    omega
theorem equal_ok {m : Nat} {xs : List Int} (h : (equalM m xs false).2.2 = false) : (equalM m xs false).1.length = m ∧ sumL (equalM m xs false).1 ≤ xs.length := by
  unfold equalM at h ⊢
  split at h
  · cases h
  · rename_i hd
    rw [if_neg hd]
    refine ⟨chunkL_length _ _ _, Nat.le_trans (chunk_sum _ _ _) (Nat.mul_div_le _ _)⟩
theorem frame_sum (n : Nat) (xs : List Int) (b : Bool) : (frameM n xs b).1.length + (frameM n xs b).2.1.length ≤ xs.length := by
  unfold frameM
  split
  · simp
  · simp
    omega
theorem frs_sum (xs : List Int) (b : Bool) (ls : List Int) (k : Nat) : sumL (frsM xs b ls k).1 + (frsM xs b ls k).2.1.length ≤ xs.length := by
  induction k with
  | zero => simp [frsM, sumL]
  | succ k ih =>
    simp only [frsM]
    rw [sumL_snoc]
    have := frame_sum (ls.getD k 0).toNat (frsM xs b ls k).2.1 (frsM xs b ls k).2.2
    omega
theorem unlike_ok (zs : List Int) {m : Nat} (hm : 1 ≤ m) : (unlikeM zs m).1.length = m ∧ sumL (unlikeM zs m).1 ≤ zs.length := by
  unfold unlikeM
  dsimp only
  have h1 := (sub_lens zs false (m - 1)).length_le
  have h2 := frs_sum (lensM zs false (m - 1)).2.1 (lensM zs false (m - 1)).2.2 (lensM zs false (m - 1)).1 (m - 1)
  have h3 := frsM_length (lensM zs false (m - 1)).2.1 (lensM zs false (m - 1)).2.2 (lensM zs false (m - 1)).1 (m - 1)
  refine ⟨by rw [List.length_append, List.length_singleton]; omega, ?_⟩
  rw [sumL_snoc]
  omega
theorem rest_ok {x : Int} {m : Nat} {q : Nat × List Int × Bool} (hm : 1 ≤ m) (h : (restM x m q).2.2 = false) : (restM x m q).1.1.length = m ∧ sumL (restM x m q).1.1 ≤ q.2.1.length := by
  unfold restM at h ⊢
  split at h
  · cases h
  · rename_i hc
    rw [if_neg hc]
    have hl : (q.2.1.take (q.2.1.length - q.1)).length ≤ q.2.1.length := by simp
    split at h
    · rename_i hx
      rw [if_pos hx]
      obtain ⟨a, b⟩ := equal_ok h
      exact ⟨a, Nat.le_trans b hl⟩
    · rename_i hx
      rw [if_neg hx]
      obtain ⟨a, b⟩ := unlike_ok (q.2.1.take (q.2.1.length - q.1)) hm
      exact ⟨a, Nat.le_trans b hl⟩
theorem many_ok {ms : Int} {xs : List Int} (h : (manyM ms xs).2.2 = false) : 1 ≤ (manyM ms xs).1.1.length ∧ ((manyM ms xs).1.1.length : Int) * ms ≤ 120 ∧ sumL (manyM ms xs).1.1 ≤ xs.length := by
  unfold manyM at h ⊢
  split at h
  · cases h
  · rename_i hc
    rw [if_neg hc]
    have hm : 1 ≤ ((byteM xs false).1 % 64).toNat := by omega
    have h2 : (((byteM xs false).1 % 64).toNat : Int) * ms ≤ 120 := by
      rcases Int.lt_or_le 120 ((((byteM xs false).1 % 64).toNat : Int) * ms) with h' | h'
      · exact absurd (.inr h') hc
      · exact h'
    obtain ⟨a, b⟩ := rest_ok hm h
    rw [a]
    refine ⟨hm, h2, Nat.le_trans b ?_⟩
    have h3 := (sub_byte xs false).length_le
    split
    · exact Nat.le_trans (sub_pad _).length_le h3
    · exact h3
theorem found_ok {r : List Int} {h : Int} (hk : msM (h / 8).toNat ≤ 20 ∧ 10 ≤ msM (h / 8).toNat) (hf : (foundM r h).2.2 = false) : 1 ≤ (foundM r h).1.1.length ∧ ((foundM r h).1.1.length : Int) * msM (h / 8).toNat ≤ 120 ∧ sumL (foundM r h).1.1 ≤ r.length := by
  unfold foundM at hf ⊢
  split at hf
  · rename_i h1
    rw [if_pos h1]
    obtain ⟨a, b⟩ := equal_ok hf
    dsimp only at a b ⊢
    rw [a]
    exact ⟨by omega, by omega, b⟩
  · rename_i h1
    rw [if_neg h1]
    split at hf
    · rename_i h2
      rw [if_pos h2]
      obtain ⟨a, b⟩ := equal_ok hf
      dsimp only at a b ⊢
      rw [a]
      exact ⟨by omega, by omega, b⟩
    · rename_i h2
      rw [if_neg h2]
      split at hf
      · rename_i h3
        rw [if_pos h3]
        dsimp only
        refine ⟨by simp, by simp; omega, ?_⟩
        have h4 := frame_sum (lenM r false).1.toNat (lenM r false).2.1 (lenM r false).2.2
        have h5 := (sub_len r false).length_le
        simp [sumL]
        omega
      · rename_i h3
        rw [if_neg h3]
        exact many_ok hf
theorem parse_ok {xs : List Int} {p : Pk} (h : parseM xs = some p) : p.cfg < 12 ∧ 1 ≤ p.fr.length ∧ (p.fr.length : Int) * msM p.cfg ≤ 120 ∧ sumL p.fr < xs.length := by
  cases xs with
  | nil => cases h
  | cons x r =>
    rw [parseM_cons] at h
    split at h
    · cases h
    · rename_i h1
      split at h
      · cases h
      · rename_i h2
        have hf : (foundM r x).2.2 = false := by
          cases hb : (foundM r x).2.2 with
          | false => rfl
          | true => exact absurd (.inl hb) h2
        have hms := msM_rng (x / 8).toNat
        obtain ⟨a, b, c⟩ := found_ok ⟨hms.2, hms.1⟩ hf
        simp only [Option.some.injEq] at h
        subst h
        exact ⟨by show (x / 8).toNat < 12; omega, a, b, by simp only [List.length_cons]; exact Nat.lt_succ_of_le c⟩
end Go.Proofs.Ytmnknegbbmjcbaa
