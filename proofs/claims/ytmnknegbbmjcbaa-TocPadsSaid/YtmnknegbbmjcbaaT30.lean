/- The plain law: what was packed parses to the same. -/
import Derived.Test.YtmnknegbbmjcbaaT27
namespace Go.Proofs.Ytmnknegbbmjcbaa
open Go.RowKit

theorem lenM_cons2 (x y : Int) (xs : List Int) (b : Bool) : lenM (x :: y :: xs) b = if 251 < x then (x + 4 * y, xs, b) else (x, y :: xs, b) := rfl
theorem len_told {n : Nat} (hn : n ≤ 1275) (xs : List Int) (b : Bool) : lenM (toldM n ++ xs) b = ((n : Int), xs, b) := by
  unfold toldM
  split
  · simp only [List.cons_append, List.nil_append]
    unfold lenM byteM
    rw [if_neg (by dsimp only; omega)]
  · simp only [List.cons_append, List.nil_append]
    rw [lenM_cons2, if_pos (by omega)]
    simp only [Prod.mk.injEq, and_true]
    omega
theorem frame_app (l xs : List Int) (b : Bool) : frameM l.length (l ++ xs) b = (l, xs, b) := by
  unfold frameM
  rw [if_neg (by simp)]
  simp
theorem lens_app (D : List (List Int)) (xs : List Int) (hs : ∀ l ∈ D, l.length ≤ 1275) (k : Nat) (hk : k ≤ D.length) :
    lensM (lensB D ++ xs) false k = ((D.take k).map (fun l => (l.length : Int)), lensB (D.drop k) ++ xs, false) := by
  induction k with
  | zero => simp [lensM]
  | succ k ih =>
    have hd : D.drop k = D[k] :: D.drop (k + 1) := List.drop_eq_getElem_cons hk
    unfold lensM
    rw [ih (by omega)]
    have hl : lensB (D.drop k) ++ xs = toldM D[k].length ++ (lensB (D.drop (k + 1)) ++ xs) := by
      rw [hd]
      unfold lensB
      rw [List.map_cons, List.flatten_cons, List.append_assoc]
    dsimp only
    rw [hl, len_told (hs _ (List.getElem_mem hk))]
    dsimp only
    rw [List.take_add_one, List.getElem?_eq_getElem hk, List.map_append]
    rfl
theorem frs_app (L : List (List Int)) (ls : List Int) (hls : ∀ i, (h : i < L.length) → i + 1 < L.length → ls.getD i 0 = (L[i].length : Int)) (k : Nat) (hk : k + 1 ≤ L.length) :
    frsM L.flatten false ls k = (L.take k, (L.drop k).flatten, false) := by
  induction k with
  | zero => simp [frsM]
  | succ k ih =>
    have hd : L.drop k = L[k] :: L.drop (k + 1) := List.drop_eq_getElem_cons (by omega)
    unfold frsM
    rw [ih (by omega)]
    dsimp only
    rw [hls k (by omega) (by omega), Int.toNat_natCast, hd, List.flatten_cons, frame_app]
    dsimp only
    rw [List.take_add_one, List.getElem?_eq_getElem (by omega)]
    rfl
theorem unlike_app (L : List (List Int)) (hL : 1 ≤ L.length) (hs : ∀ l ∈ L, l.length ≤ 1275) : unlikeM (lensB L.dropLast ++ L.flatten) L.length = (L, [], false) := by
  have hdl : L.dropLast.length = L.length - 1 := List.length_dropLast
  have h1 := lens_app L.dropLast L.flatten (fun l hl => hs l ((List.dropLast_sublist L).subset hl)) (L.length - 1) (by omega)
  have h2 : L.dropLast.drop (L.length - 1) = [] := List.drop_of_length_le (by omega)
  have h3 : L.dropLast.take (L.length - 1) = L.dropLast := List.take_of_length_le (by omega)
  rw [h2, h3] at h1
  have h4 : lensB [] ++ L.flatten = L.flatten := rfl
  rw [h4] at h1
  unfold unlikeM
  rw [h1]
  dsimp only
  have h5 := frs_app L (L.dropLast.map fun l => (l.length : Int)) (fun i h h' => by
    have hi : i < L.dropLast.length := by omega
    rw [List.getD_eq_getElem?_getD, List.getElem?_map, List.getElem?_eq_getElem hi]
    simp [List.getElem_dropLast]) (L.length - 1) (by omega)
  rw [h5]
  dsimp only
  have h6 : L.drop (L.length - 1) = [L[L.length - 1]] := by
    rw [List.drop_eq_getElem_cons (by omega)]
    rw [List.drop_of_length_le (by omega)]
  rw [h6]
  have h7 : L.take (L.length - 1) ++ [L[L.length - 1]] = L := by
    rw [← h6]
    exact List.take_append_drop _ _
  simp only [List.flatten_cons, List.flatten_nil, List.append_nil]
  rw [h7]
theorem flat_len {L : List (List Int)} {q : Nat} (h : ∀ l ∈ L, l.length = q) : L.flatten.length = L.length * q := by
  induction L with
  | nil => simp
  | cons l L ih =>
    rw [List.flatten_cons, List.length_append, h l (by simp), ih (fun x hx => h x (by simp [hx])), List.length_cons, Nat.add_mul]
    omega
theorem flat_drop {L : List (List Int)} {q : Nat} (h : ∀ l ∈ L, l.length = q) (i : Nat) : L.flatten.drop (i * q) = (L.drop i).flatten := by
  induction i generalizing L with
  | zero => simp
  | succ i ih =>
    cases L with
    | nil => simp
    | cons l L =>
      have hl := h l (by simp)
      rw [List.flatten_cons, List.drop_succ_cons, ← ih (fun x hx => h x (by simp [hx])), List.drop_append, List.drop_of_length_le (by rw [hl, Nat.add_mul]; omega), List.nil_append, hl]
      congr 1
      rw [Nat.add_mul]
      omega
theorem chunk_flat {L : List (List Int)} {q : Nat} (h : ∀ l ∈ L, l.length = q) : chunkL L.flatten q L.length = L := by
  apply List.ext_getElem
  · rw [chunkL_length]
  · intro i h1 h2
    simp only [chunkL, List.getElem_map, List.getElem_range]
    rw [flat_drop h, List.drop_eq_getElem_cons h2, List.flatten_cons, List.take_append_of_le_length (by rw [h _ (List.getElem_mem h2)]; exact Nat.le_refl _), List.take_of_length_le (by rw [h _ (List.getElem_mem h2)]; exact Nat.le_refl _)]
theorem equal_app {L : List (List Int)} {q : Nat} (h : ∀ l ∈ L, l.length = q) (hL : 1 ≤ L.length) : equalM L.length L.flatten false = (L, [], false) := by
  have hl := flat_len h
  unfold equalM
  rw [hl, if_neg (by simp), Nat.mul_div_cancel_left q (by omega), chunk_flat h, List.drop_of_length_le (by omega)]
theorem pad_app (K r : Nat) (hr : r ≤ 253) (xs : List Int) : padM (List.replicate K 255 ++ [(r : Int)] ++ xs) = (254 * K + r, xs, false) := by
  induction K with
  | zero =>
    simp only [List.replicate_zero, List.nil_append, List.cons_append]
    unfold padM
    rw [if_neg (by omega)]
    simp
  | succ K ih =>
    rw [List.replicate_succ, List.cons_append, List.cons_append]
    unfold padM
    rw [if_pos rfl, ih]
    simp only [Prod.mk.injEq, and_true]
    omega
theorem pad_back {pad : Nat} (h : 0 < pad) (xs : List Int) : padM (padB pad ++ xs) = (pad, xs, false) := by
  unfold padB
  rw [if_pos h, pad_app (pad / 254) (pad % 254) (by omega)]
  simp only [Prod.mk.injEq, and_true]
  omega
theorem alike_len {L : List (List Int)} (h : unlikeB L = false) : ∀ l ∈ L, l.length = (L.headD []).length := fun l hl => by
  have := anyL_not h l hl
  simpa using this
theorem long_none {L : List (List Int)} (h : ∀ l ∈ L, l.length ≤ 1275) : longL L = false := by
  unfold longL anyL
  rw [List.any_eq_false]
  intro l hl
  have := h l hl
  simp only [decide_eq_true_eq]
  omega
/-- Behind code 3's head. -/
theorem several_back {k : Nat} {ch : Int} {L : List (List Int)} {pad : Nat} (G : Good k ch L pad) (hd : Int) (Z : List Int) (hZ : Z.length = pad) :
    ∃ r, severalM hd L pad ++ L.flatten ++ Z = hd :: r ∧ manyM (msM k) r = ((L, pad), [], false) ∨ (∃ t, severalM hd L pad ++ L.flatten ++ Z = hd :: r ∧ manyM (msM k) r = ((L, pad), t, false)) := by
  have n12 := G.n12
  have n1 := G.n1
  have n2 := G.n2
  rw [Int.toNat_natCast] at n2
  have hms : (L.length : Int) * msM k ≤ 120 := by
    have h2 : msM k = 10 ∨ msM k = 20 := by unfold msM; omega
    rcases h2 with h2 | h2 <;> (rw [h2] at n2 ⊢; omega)
  obtain ⟨u, hu⟩ : ∃ u, u = unlikeB L := ⟨_, rfl⟩
  obtain ⟨T, hT⟩ : ∃ T, T = (if u = true then lensB L.dropLast else []) ++ L.flatten := ⟨_, rfl⟩
  obtain ⟨N, hN⟩ : ∃ N, N = cntN L pad u := ⟨_, rfl⟩
  have hN1 : N % 64 = L.length := by
    rw [hN]; unfold cntN
    split <;> split <;> omega
  have hN2 : (N / 64) % 2 = if 0 < pad then 1 else 0 := by
    rw [hN]; unfold cntN
    split <;> split <;> omega
  have hN3 : N < 128 ↔ u = false := by
    rw [hN]; unfold cntN
    cases u <;> simp <;> split <;> omega
  refine ⟨(N : Int) :: (padB pad ++ (T ++ Z)), .inr ?_⟩
  have hb : byteM ((N : Int) :: (padB pad ++ (T ++ Z))) false = ((N : Int), padB pad ++ (T ++ Z), false) := rfl
  have hmod : ((N : Int) % 64).toNat = L.length := by omega
  have hrest : restM (N : Int) L.length (pad, T ++ Z, false) = (((if (N : Int) < 128 then (equalM L.length T false) else (unlikeM T L.length)).1, pad), (if (N : Int) < 128 then (equalM L.length T false) else (unlikeM T L.length)).2) := by
    unfold restM
    rw [if_neg (by simp; omega)]
    have ht : (T ++ Z).take ((T ++ Z).length - pad) = T := by
      rw [List.length_append, hZ, Nat.add_sub_cancel, List.take_left]
    dsimp only
    rw [ht]
    split <;> rfl
  have hsel : ∃ t, (if (N : Int) < 128 then (equalM L.length T false) else (unlikeM T L.length)) = (L, t, false) := by
    cases u with
    | false =>
      rw [if_pos (by have := hN3.2 rfl; omega)]
      have hTT : T = L.flatten := by rw [hT]; simp
      rw [hTT, equal_app (alike_len hu.symm) n1]
      exact ⟨_, rfl⟩
    | true =>
      rw [if_neg (by
        intro h
        have h2 := hN3.1 (by omega)
        cases h2)]
      have hTT : T = lensB L.dropLast ++ L.flatten := by rw [hT]; simp
      rw [hTT, unlike_app L n1 G.s]
      exact ⟨_, rfl⟩
  obtain ⟨t, hsel⟩ := hsel
  refine ⟨t, ?_, ?_⟩
  · unfold severalM
    rw [← hu, ← hN]
    simp only [hT, List.cons_append, List.nil_append, List.append_assoc]
  · unfold manyM
    rw [hb]
    dsimp only
    rw [hmod, if_neg (by omega)]
    have hq : (if (N : Int) / 64 % 2 = 1 then padM (padB pad ++ (T ++ Z)) else (0, padB pad ++ (T ++ Z), false)) = (pad, T ++ Z, false) := by
      by_cases hp : 0 < pad
      · rw [if_pos (by rw [if_pos hp] at hN2; omega), pad_back hp]
      · have hp0 : pad = 0 := by omega
        subst hp0
        rw [if_neg (by rw [if_neg hp] at hN2; omega)]
        rfl
    rw [hq, hrest, hsel]
theorem hd_parts {k : Nat} {ch : Int} (hch : ch = 1 ∨ ch = 2) (c : Int) (h0 : 0 ≤ c) (h3 : c ≤ 3) : (hdM k ch + c) / 8 = k ∧ (hdM k ch + c) % 4 = c ∧ 1 + ((hdM k ch + c) / 4) % 2 = ch := by
  unfold hdM
  rcases hch with rfl | rfl <;> omega
/-- What was packed, with whatever bytes at its end, parses to the same. -/
theorem parse_pre {k : Nat} {ch : Int} {L : List (List Int)} {pad : Nat} (G : Good k ch L pad) (Z : List Int) (hZ : Z.length = pad) : parseM (preM k ch L pad ++ L.flatten ++ Z) = some ⟨k, ch, L, pad⟩ := by
  have hk := G.c1
  have hlong := long_none G.s
  have fin : ∀ (c : Int) (r : List Int) (t : List Int), 0 ≤ c → c ≤ 3 → foundM r (hdM k ch + c) = ((L, pad), t, false) → parseM ((hdM k ch + c) :: r) = some ⟨k, ch, L, pad⟩ := by
    intro c r t h0 h3 hf
    obtain ⟨a, b, d⟩ := hd_parts (k := k) G.h c h0 h3
    rw [parseM_cons, if_neg (by rw [a]; omega), hf]
    dsimp only
    rw [hlong, if_neg (by simp), a, d, Int.toNat_natCast]
  unfold preM
  split
  · rename_i hc
    obtain ⟨rfl, h1⟩ := hc
    obtain ⟨l, rfl⟩ := List.length_eq_one_iff.1 h1
    have hz : Z = [] := List.eq_nil_of_length_eq_zero hZ
    subst hz
    have h := fin 0 l [] (by omega) (by omega) (by
      obtain ⟨_, b, _⟩ := hd_parts (k := k) G.h 0 (by omega) (by omega)
      unfold foundM
      rw [if_pos b, equal_1])
    rw [Int.add_zero] at h
    simpa using h
  · split
    · rename_i hc
      obtain ⟨rfl, h2, hu⟩ := hc
      obtain ⟨l1, l2, rfl⟩ : ∃ l1 l2, L = [l1, l2] := by
        match L, h2 with
        | [a, b], _ => exact ⟨a, b, rfl⟩
      have hz : Z = [] := List.eq_nil_of_length_eq_zero hZ
      subst hz
      have hl : l2.length = l1.length := alike_len hu l2 (by simp)
      have h := fin 1 (l1 ++ l2) [] (by omega) (by omega) (by
        obtain ⟨_, b, _⟩ := hd_parts (k := k) G.h 1 (by omega) (by omega)
        unfold foundM
        rw [if_neg (by omega), if_pos b, equal_2 (k := l1.length) (by simp; omega)]
        simp)
      simpa using h
    · split
      · rename_i hc
        obtain ⟨rfl, h2⟩ := hc
        obtain ⟨l1, l2, rfl⟩ : ∃ l1 l2, L = [l1, l2] := by
          match L, h2 with
          | [a, b], _ => exact ⟨a, b, rfl⟩
        have hz : Z = [] := List.eq_nil_of_length_eq_zero hZ
        subst hz
        have h := fin 2 (toldM l1.length ++ (l1 ++ l2)) [] (by omega) (by omega) (by
          obtain ⟨_, b, _⟩ := hd_parts (k := k) G.h 2 (by omega) (by omega)
          unfold foundM
          rw [if_neg (by omega), if_neg (by omega), if_pos b, len_told (G.s l1 (by simp)), Int.toNat_natCast, frame_app])
        simpa using h
      · obtain ⟨r, h⟩ := several_back G (hdM k ch + 3) Z hZ
        have h' : ∃ t, severalM (hdM k ch + 3) L pad ++ L.flatten ++ Z = (hdM k ch + 3) :: r ∧ manyM (msM k) r = ((L, pad), t, false) := by
          rcases h with h | h
          · exact ⟨_, h⟩
          · exact h
        obtain ⟨t, e1, e2⟩ := h'
        rw [e1]
        refine fin 3 r t (by omega) (by omega) ?_
        obtain ⟨a, b, _⟩ := hd_parts (k := k) G.h 3 (by omega) (by omega)
        unfold foundM
        rw [if_neg (by omega), if_neg (by omega), if_neg (by omega), a, Int.toNat_natCast]
        exact e2
theorem parse_pack {k : Nat} {ch : Int} {L : List (List Int)} {pad : Nat} (G : Good k ch L pad) : parseM (packM k ch L pad) = some ⟨k, ch, L, pad⟩ := parse_pre G _ (by simp)
end Go.Proofs.Ytmnknegbbmjcbaa
