/- The plain law of TocRepacks: what parses may be packed, in at most one byte more. -/
import Derived.Test.YtmnknegbbmjcbaaT32
namespace Go.Proofs.Ytmnknegbbmjcbaa
open Go.RowKit

theorem len_size {xs : List Int} {b : Bool} (h : (lenM xs b).2.2 = false) : (toldM (lenM xs b).1.toNat).length + (lenM xs b).2.1.length ≤ xs.length := by
  have hs : ∀ n : Nat, n ≤ 251 → (toldM n).length = 1 := fun n hn => by unfold toldM; rw [if_pos hn]; rfl
  cases xs with
  | nil => simp [lenM, byteM] at h
  | cons x xs =>
    by_cases hx : 251 < x
    · cases xs with
      | nil => simp [lenM, byteM, hx] at h
      | cons y ys =>
        rw [lenM_cons2, if_pos hx]
        have := told_len (x + 4 * y).toNat
        simp only [List.length_cons]
        omega
    · have e : lenM (x :: xs) b = (x, xs, b) := by
        unfold lenM byteM
        rw [if_neg (by dsimp only; exact hx)]
      rw [e]
      have := hs x.toNat (by omega)
      simp only [List.length_cons]
      omega
theorem lens_not {xs : List Int} {b : Bool} {k : Nat} (h : (lensM xs b (k + 1)).2.2 = false) : (lensM xs b k).2.2 = false := by
  cases hb : (lensM xs b k).2.2 with
  | false => rfl
  | true =>
    have := lens_bad (show k ≤ k + 1 by omega) hb
    rw [h] at this
    cases this
def toldsN (ls : List Int) : Nat := (ls.map fun y => (toldM y.toNat).length).sum
theorem lens_size {xs : List Int} {b : Bool} {k : Nat} (h : (lensM xs b k).2.2 = false) : toldsN (lensM xs b k).1 + (lensM xs b k).2.1.length ≤ xs.length := by
  induction k with
  | zero => simp [toldsN, lensM]
  | succ k ih =>
    have h1 := ih (lens_not h)
    have h2 := len_size (xs := (lensM xs b k).2.1) (b := (lensM xs b k).2.2) h
    simp only [lensM]
    have e : toldsN ((lensM xs b k).1 ++ [(lenM (lensM xs b k).2.1 (lensM xs b k).2.2).1]) = toldsN (lensM xs b k).1 + (toldM (lenM (lensM xs b k).2.1 (lensM xs b k).2.2).1.toNat).length := by simp [toldsN]
    rw [e]
    omega
/-- Frames that were taken whole are as long as was told. -/
theorem frs_lens {xs : List Int} {b : Bool} {ls : List Int} {k : Nat} (h : (frsM xs b ls k).2.2 = false) : (frsM xs b ls k).1.map List.length = (List.range k).map (fun i => (ls.getD i 0).toNat) := by
  induction k with
  | zero => simp [frsM]
  | succ k ih =>
    have hk : (frsM xs b ls k).2.2 = false := by
      cases hb : (frsM xs b ls k).2.2 with
      | false => rfl
      | true =>
        simp only [frsM] at h
        rw [hb] at h
        unfold frameM at h
        split at h <;> cases h
    simp only [frsM] at h ⊢
    rw [List.map_append, ih hk, List.range_succ, List.map_append]
    congr 1
    unfold frameM at h ⊢
    split at h
    · cases h
    · rename_i hc
      rw [if_neg hc]
      show [((frsM xs b ls k).2.1.take (ls.getD k 0).toNat).length] = [(ls.getD k 0).toNat]
      rw [List.length_take, Nat.min_eq_left (by omega)]
theorem lensB_len (L : List (List Int)) : (lensB L).length = ((L.map List.length).map fun n => (toldM n).length).sum := by
  induction L with
  | nil => rfl
  | cons l L ih =>
    unfold lensB at ih ⊢
    simp only [List.map_cons, List.flatten_cons, List.length_append, List.sum_cons]
    rw [ih]
theorem range_getD (ls : List Int) : (List.range ls.length).map (fun i => (ls.getD i 0).toNat) = ls.map Int.toNat := by
  apply List.ext_getElem
  · simp
  · intro i h1 h2
    simp only [List.length_map, List.length_range] at h1
    simp [h1]
theorem unlike_size {zs : List Int} {m : Nat} (h : (unlikeM zs m).2.2 = false) : (lensB (unlikeM zs m).1.dropLast).length + (unlikeM zs m).1.flatten.length ≤ zs.length := by
  unfold unlikeM at h ⊢
  dsimp only at h ⊢
  rw [List.dropLast_concat]
  obtain ⟨h1, h2⟩ := frs_not (m - 1) h
  have h3 := lens_size h1
  have h4 := frs_lens h
  have h5 := frs_sum (lensM zs false (m - 1)).2.1 (lensM zs false (m - 1)).2.2 (lensM zs false (m - 1)).1 (m - 1)
  have h6 := lensM_length zs false (m - 1)
  have h7 : (lensB (frsM (lensM zs false (m - 1)).2.1 (lensM zs false (m - 1)).2.2 (lensM zs false (m - 1)).1 (m - 1)).1).length = toldsN (lensM zs false (m - 1)).1 := by
    rw [lensB_len, h4]
    have h8 := range_getD (lensM zs false (m - 1)).1
    rw [h6] at h8
    rw [h8]
    unfold toldsN
    rw [List.map_map]
    rfl
  rw [h7, List.flatten_append, List.length_append]
  simp only [List.flatten_cons, List.flatten_nil, List.append_nil]
  unfold sumL at h5
  omega
theorem padB_len (n : Nat) : (padB n).length = if 0 < n then n / 254 + 1 else 0 := by
  unfold padB
  split <;> simp
theorem pad_size {xs : List Int} (h : (padM xs).2.2 = false) (hr : ∀ x ∈ xs, 0 ≤ x ∧ x ≤ 255) : (padB (padM xs).1).length + (padM xs).2.1.length ≤ xs.length + 1 ∧ (padM xs).1 / 254 + 1 + (padM xs).2.1.length ≤ xs.length + 1 := by
  induction xs with
  | nil => cases h
  | cons x xs ih =>
    have hx := hr x (by simp)
    unfold padM at h ⊢
    split
    · rename_i e
      rw [if_pos e] at h
      obtain ⟨a, b⟩ := ih h (fun y hy => hr y (by simp [hy]))
      dsimp only
      rw [padB_len]
      simp only [List.length_cons]
      split <;> omega
    · rename_i e
      dsimp only
      rw [padB_len]
      simp only [List.length_cons]
      split <;> omega
theorem pre_size {cfg : Nat} {ch : Int} {L : List (List Int)} {pad : Nat} : (preM cfg ch L pad).length ≤ 2 + (padB pad).length + (if unlikeB L = true then (lensB L.dropLast).length else 0) := by
  unfold preM
  split
  · simp; omega
  · split
    · simp; omega
    · split
      · rename_i h1 h2 h3
        obtain ⟨l1, l2, rfl⟩ : ∃ l1 l2, L = [l1, l2] := by
          match L, h3.2 with
          | [a, b], _ => exact ⟨a, b, rfl⟩
        have hu : unlikeB [l1, l2] = true := by
          cases hu : unlikeB [l1, l2] with
          | true => rfl
          | false => exact absurd ⟨h3.1, rfl, hu⟩ h2
        rw [if_pos hu]
        simp [lensB]
        omega
      · unfold severalM
        simp only [List.length_append, List.length_cons, List.length_nil]
        split <;> simp
theorem chunk_lens {xs : List Int} {k m : Nat} (h : m * k ≤ xs.length) : ∀ l ∈ chunkL xs k m, l.length = k := by
  intro l hl
  unfold chunkL at hl
  obtain ⟨j, hj, rfl⟩ := List.mem_map.1 hl
  have hj' : j < m := List.mem_range.1 hj
  have : (j + 1) * k ≤ m * k := Nat.mul_le_mul_right k hj'
  rw [Nat.add_mul, Nat.one_mul] at this
  simp
  omega
theorem equal_lens {m : Nat} {xs : List Int} (h : (equalM m xs false).2.2 = false) : unlikeB (equalM m xs false).1 = false ∧ (equalM m xs false).1.flatten.length ≤ xs.length := by
  obtain ⟨_, hs⟩ := equal_ok h
  refine ⟨?_, hs⟩
  unfold equalM at h ⊢
  split at h
  · cases h
  · rename_i hd
    rw [if_neg hd]
    have hl := chunk_lens (xs := xs) (k := xs.length / m) (m := m) (Nat.mul_div_le _ _)
    dsimp only
    unfold unlikeB anyL
    rw [List.any_eq_false]
    intro l hm
    have h1 := hl l hm
    have h2 : ((chunkL xs (xs.length / m) m).headD []).length = xs.length / m := by
      cases hc : chunkL xs (xs.length / m) m with
      | nil => rw [hc] at hm; cases hm
      | cons a t => exact hl a (by rw [hc]; simp)
    rw [h2, h1]
    simp
theorem rest_size {x : Int} {m : Nat} {q : Nat × List Int × Bool} (h : (restM x m q).2.2 = false) :
    (restM x m q).1.2 = q.1 ∧ (if unlikeB (restM x m q).1.1 = true then (lensB (restM x m q).1.1.dropLast).length else 0) + (restM x m q).1.1.flatten.length + q.1 ≤ q.2.1.length := by
  unfold restM at h ⊢
  split at h
  · cases h
  · rename_i hc
    rw [if_neg hc]
    have hl : (q.2.1.take (q.2.1.length - q.1)).length = q.2.1.length - q.1 := by simp
    have hq : ¬ q.2.1.length < q.1 := fun hh => hc (.inr hh)
    split at h
    · rename_i hx
      rw [if_pos hx]
      obtain ⟨a, b⟩ := equal_lens h
      dsimp only
      rw [a]
      refine ⟨rfl, ?_⟩
      simp only [Bool.false_eq_true, if_false]
      omega
    · rename_i hx
      rw [if_neg hx]
      have := unlike_size h
      dsimp only
      refine ⟨rfl, ?_⟩
      split <;> omega
theorem many_size {ms : Int} {xs : List Int} (h : (manyM ms xs).2.2 = false) (hr : ∀ x ∈ xs, 0 ≤ x ∧ x ≤ 255) (cfg : Nat) (ch : Int) :
    (preM cfg ch (manyM ms xs).1.1 (manyM ms xs).1.2).length + (manyM ms xs).1.1.flatten.length + (manyM ms xs).1.2 ≤ xs.length + 2 := by
  cases xs with
  | nil =>
    unfold manyM at h
    rw [if_pos (.inl (by simp [byteM]))] at h
    cases h
  | cons x r =>
    have hb : byteM (x :: r) false = (x, r, false) := rfl
    unfold manyM at h ⊢
    rw [hb] at h ⊢
    dsimp only at h ⊢
    split at h
    · cases h
    · rename_i hc
      rw [if_neg hc]
      have hp := pre_size (cfg := cfg) (ch := ch) (L := (restM x (x % 64).toNat (if x / 64 % 2 = 1 then padM r else (0, r, false))).1.1) (pad := (restM x (x % 64).toNat (if x / 64 % 2 = 1 then padM r else (0, r, false))).1.2)
      obtain ⟨e, hs⟩ := rest_size h
      rw [e] at hp ⊢
      have hq : (padB (if x / 64 % 2 = 1 then padM r else (0, r, false)).1).length + (if x / 64 % 2 = 1 then padM r else (0, r, false)).2.1.length ≤ r.length + 1 := by
        by_cases h6 : x / 64 % 2 = 1
        · rw [if_pos h6] at h ⊢
          have hn : (padM r).2.2 = false := by
            cases hb : (padM r).2.2 with
            | false => rfl
            | true =>
              unfold restM at h
              rw [if_pos (.inl hb)] at h
              cases h
          exact (pad_size hn (fun y hy => hr y (by simp [hy]))).1
        · rw [if_neg h6]
          simp [padB]
      simp only [List.length_cons]
      omega
/-- What parses may be packed again, in at most one byte more. -/
theorem repack_ok {xs : List Int} {p : Pk} (h : parseM xs = some p) (hp : p.pad ≤ 1000) (hr : ∀ x ∈ xs, 0 ≤ x ∧ x ≤ 255) : Good p.cfg p.ch p.fr p.pad ∧ (packM p.cfg p.ch p.fr p.pad).length ≤ xs.length + 1 := by
  obtain ⟨o1, o2, o3, _⟩ := parse_ok h
  have hlen : (packM p.cfg p.ch p.fr p.pad).length = (preM p.cfg p.ch p.fr p.pad).length + p.fr.flatten.length + p.pad := by
    unfold packM
    simp only [List.length_append, List.length_replicate]
  rw [hlen]
  cases xs with
  | nil => cases h
  | cons x r =>
    have hx := hr x (by simp)
    have hr' : ∀ y ∈ r, 0 ≤ y ∧ y ≤ 255 := fun y hy => hr y (by simp [hy])
    rw [parseM_cons] at h
    split at h
    · cases h
    · rename_i h1
      split at h
      · cases h
      · rename_i h2
        have hf : (foundM r x).2.2 = false := by
          cases hb : (foundM r x).2.2 with
          | false => rfl
          | true => exact absurd (.inl hb) h2
        have hl : longL (foundM r x).1.1 = false := by
          cases hb : longL (foundM r x).1.1 with
          | false => rfl
          | true => exact absurd (.inr hb) h2
        simp only [Option.some.injEq] at h
        subst h
        dsimp only at hp o1 o2 o3 ⊢
        have hms : msM (x / 8).toNat = 10 ∨ msM (x / 8).toNat = 20 := by unfold msM; omega
        refine ⟨⟨by omega, by omega, ?_, o2, ?_, fun l hm => ?_, by omega, by omega⟩, ?_⟩
        · have : x / 4 % 2 = 0 ∨ x / 4 % 2 = 1 := by omega
          rcases this with e | e <;> (rw [e]; simp)
        · rw [Int.toNat_natCast]
          rcases hms with e | e <;> (rw [e] at o3 ⊢; omega)
        · have := anyL_not hl l hm
          simp only [decide_eq_false_iff_not] at this
          omega
        · simp only [List.length_cons]
          have hx4 : x % 4 = 0 ∨ x % 4 = 1 ∨ x % 4 = 2 ∨ x % 4 = 3 := by omega
          rcases hx4 with hx4 | hx4 | hx4 | hx4
          · have e : foundM r x = (([r], 0), [], false) := by unfold foundM; rw [if_pos hx4, equal_1]
            rw [e]
            simp [preM]
            omega
          · have e : foundM r x = (((equalM 2 r false).1, 0), (equalM 2 r false).2) := by unfold foundM; rw [if_neg (by omega), if_pos hx4]
            rw [e] at hf ⊢
            obtain ⟨a, b⟩ := equal_lens hf
            obtain ⟨c, _⟩ := equal_ok hf
            dsimp only
            unfold preM
            rw [if_neg (by rw [c]; omega), if_pos ⟨rfl, c, a⟩]
            simp only [List.length_singleton]
            omega
          · have e : foundM r x = (([(frameM (lenM r false).1.toNat (lenM r false).2.1 (lenM r false).2.2).1, (frameM (lenM r false).1.toNat (lenM r false).2.1 (lenM r false).2.2).2.1], 0), [], (frameM (lenM r false).1.toNat (lenM r false).2.1 (lenM r false).2.2).2.2) := by unfold foundM; rw [if_neg (by omega), if_neg (by omega), if_pos hx4]
            rw [e] at hf ⊢
            dsimp only at hf ⊢
            unfold frameM at hf ⊢
            split at hf
            · cases hf
            · rename_i hc
              rw [if_neg hc]
              have hsz := len_size hf
              dsimp only
              have hfl : ((lenM r false).2.1.take (lenM r false).1.toNat).length = (lenM r false).1.toNat := by simp; omega
              have hpre : (preM (x / 8).toNat (1 + x / 4 % 2) [(lenM r false).2.1.take (lenM r false).1.toNat, (lenM r false).2.1.drop (lenM r false).1.toNat] 0).length ≤ 1 + (toldM (lenM r false).1.toNat).length := by
                unfold preM
                rw [if_neg (by simp)]
                split
                · simp
                · rw [if_pos ⟨rfl, rfl⟩]
                  simp only [List.headD_cons, List.length_append, List.length_singleton]
                  rw [hfl]
                  exact Nat.le_refl _
              have hsum : ([(lenM r false).2.1.take (lenM r false).1.toNat, (lenM r false).2.1.drop (lenM r false).1.toNat] : List (List Int)).flatten.length = (lenM r false).2.1.length := by
                rw [List.flatten_cons, List.flatten_cons, List.flatten_nil, List.append_nil, List.take_append_drop]
              rw [hsum]
              omega
          · have e : foundM r x = manyM (msM (x / 8).toNat) r := by unfold foundM; rw [if_neg (by omega), if_neg (by omega), if_neg (by omega)]
            rw [e] at hf ⊢
            exact many_size hf hr' _ _
end Go.Proofs.Ytmnknegbbmjcbaa
