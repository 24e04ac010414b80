/- The walk of EmphPlain: a comb of nought changes nothing; silence stays silence. -/
import Derived.Test.YtddlkglpgkdgkaaE8
namespace Go.Proofs.Ytddlkglpgkdgkaa
open Go.RowKit

theorem mulS_nought (b : Int) : mulS 0 b 15 = 0 := by
  unfold mulS
  rw [fac_id (a := 0) (by omega) (by omega), Int.zero_mul]
  decide
theorem mulS_nought' (a : Int) : mulS a 0 15 = 0 := by
  unfold mulS
  rw [fac_id (a := 0) (by omega) (by omega), Int.mul_zero]
  decide
theorem comb_nought (lag : Nat) (xs : List Int) (hx : ∀ x ∈ xs, -16777216 ≤ x ∧ x ≤ 16777216) : ∀ s, (mapS (stepK (combF lag 0)) s xs).1 = xs := by
  induction xs with
  | nil => intro s; rfl
  | cons x xs ih =>
    intro s
    have hb := hx x (by simp)
    have e0 : keptI x = x := keptI_id hb.1 hb.2
    simp only [mapS, stepK, combF, mulS_nought, e0, Int.add_zero]
    rw [ih (fun y hy => hx y (by simp [hy]))]
theorem keptI_zero : keptI 0 = 0 := keptI_id (by omega) (by omega)
theorem silent_raise (n : Nat) : mapS (stepK raiseF) newFlt (List.replicate n 0) = (List.replicate n 0, newFlt) := by
  induction n with
  | zero => rfl
  | succ n ih =>
    have e : (stepK raiseF newFlt 0) = (0, newFlt) := by simp only [stepK, raiseF, newFlt, keptI_zero, mulS_nought', Int.sub_self]
    rw [List.replicate_succ]
    simp only [mapS, e, ih]
theorem silent_lower (n : Nat) : mapS (stepK lowerF) newFlt (List.replicate n 0) = (List.replicate n 0, newFlt) := by
  induction n with
  | zero => rfl
  | succ n ih =>
    have e : (stepK lowerF newFlt 0) = (0, newFlt) := by simp only [stepK, lowerF, newFlt, keptI_zero, mulS_nought', Int.add_zero]
    rw [List.replicate_succ]
    simp only [mapS, e, ih]
theorem zeros_get (k : Nat) : zeros.getD k 0 = 0 := by
  unfold zeros
  rw [List.getD_eq_getElem?_getD, List.getElem?_replicate]
  split <;> rfl
theorem zeros_roll : (0 : Int) :: zeros.take 511 = zeros := by
  unfold zeros
  rw [List.take_replicate]
  exact (List.replicate_succ (n := 511) (a := (0 : Int))).symm
theorem silent_comb (lag : Nat) (g : Int) (n : Nat) : mapS (stepK (combF lag g)) newFlt (List.replicate n 0) = (List.replicate n 0, newFlt) := by
  induction n with
  | zero => rfl
  | succ n ih =>
    have e : (stepK (combF lag g) newFlt 0) = (0, newFlt) := by simp only [stepK, combF, newFlt, keptI_zero, zeros_get, mulS_nought', Int.add_zero, zeros_roll]
    rw [List.replicate_succ]
    simp only [mapS, e, ih]
theorem in24_of {xs : List Int} {n : Nat} (hn : xs.length = n) (h : ∀ j, j < n → -16777216 ≤ xs.getD j 0 ∧ xs.getD j 0 ≤ 16777216) : ∀ x ∈ xs, -16777216 ≤ x ∧ x ≤ 16777216 := by
  intro x hx
  obtain ⟨i, hi, rfl⟩ := List.getElem_of_mem hx
  have := h i (by omega)
  simpa [hi] using this

set_option maxRecDepth 100000 in
set_option maxHeartbeats 4000000 in
theorem plain_walk (A : Option Addr) (n c : Nat) (xs : List Int) (lag : Int) (w : World) (ha : ArgI w A n c xs) :
    Calls Try.prog 8 #[.slice A n c, .int .i64 lag] w (RetKept w (.bool true)) := by
  have HA := Lib.hid ha
  have hm := ha.most
  have hnc := ha.cp
  clear ha
  go_enter Try.func8, Try.ntmps8
  go_wp2_with fail
  refine (awake_calls _).mono ?_
  rintro e w0 ⟨rfl, k⟩
  have H0 := Lib.hid k
  clear k
  by_cases hgood : n ≤ 300 ∧ 1 ≤ lag ∧ lag ≤ 512
  · obtain ⟨hn, hl0, hl1⟩ := hgood
    obtain ⟨m, rfl⟩ := Int.eq_ofNat_of_zero_le (show 0 ≤ lag by omega)
    have hm0 : 1 ≤ m := by omega
    have hm1 : m ≤ 512 := by omega
    have hR : Hid (Rd w0 A xs) := Lib.hid (HA.out.reads.keep H0.out (by simp))
    have hAf : Hid (∀ a, A = some a → 0 < n → a.block < w.heap.size) := Lib.hid (fun a h h0 => HA.out.old a h h0)
    go_wp2_with fail
    go_loop [5] (fun i => ∃ k : Nat, k ≤ n ∧ i = .int .i64 k ∧ Hid (∀ j, j < k → -16777216 ≤ xs.getD j 0 ∧ xs.getD j 0 ≤ 16777216)) (fun i => n - (intOf i).toNat)
    case atStart => exact ⟨0, Nat.zero_le _, rfl, Lib.hid (fun j hj => by omega)⟩
    case round =>
      obtain ⟨k, hk, rfl, HS⟩ := hrel
      by_cases hlt : k < n
      · obtain ⟨a, rfl, hca⟩ := hR.out k (by rw [HA.out.ln]; exact hlt)
        have hca' := fun (_ : k < n) => hca
        obtain ⟨q, hq⟩ : ∃ q, q = xs.getD k 0 := ⟨_, rfl⟩
        rw [← hq] at hca'
        have HQ := Lib.hid hq
        clear hq hca
        by_cases h1 : q < -16777216
        · go_wp2
          go_ret
          exact ⟨rfl, H0.out⟩
        · by_cases h2 : 16777216 < q
          · go_wp2
            go_ret
            exact ⟨rfl, H0.out⟩
          · go_wp2
            go_round
            case rel => exact ⟨k + 1, by omega, by go_num, Lib.hid (fun j hj => by
              by_cases hjk : j < k
              · exact HS.out j hjk
              · obtain rfl : j = k := by omega
                rw [← HQ.out]; omega)⟩
            case measure => simp [intOf]; omega
      · obtain rfl : k = n := by omega
        have HX := Lib.hid (in24_of HA.out.ln HS.out)
        clear HS hR
        go_wp2_with fail
        refine (new_calls _).mono ?_
        rintro e w1 ⟨f, f1, rfl, f2, f3⟩
        have H1 : Hid (w.heap.size ≤ f ∧ Keep [] w w1 ∧ IsFil w1 f newFlt) := Lib.hid ⟨by have := H0.out.size; omega, H0.out.trans f2, f3⟩
        clear f1 f2 f3 H0
        go_wp2_with fail
        refine (comb_n f newFlt m 0 A xs k c w1 hm0 hm1 (by omega) (by omega) H1.out.2.2 HA.out.ln hnc (by omega) (HA.out.reads.keep H1.out.2.1 (by simp)) (fun a h h0 => by have := hAf.out a h h0; have := H1.out.1; omega)).mono ?_
        rintro e w2 ⟨y, a1, rfl, a2, a3, a4, a5⟩
        rw [comb_nought m xs HX.out] at a3
        have H2 : Hid (Keep [] w w2 ∧ Blk w2 y (ints xs).toArray 2) := Lib.hid ⟨H1.out.2.1.trans' a2 (by simp) (by simpa using H1.out.1), a3⟩
        clear a1 a2 a3 a4 a5 H1
        have hmk := make_ints k (by omega)
        go_wp2_with fail
        refine (new_calls _).mono ?_
        rintro e w3 ⟨g, f1, rfl, f2, f3⟩
        have H3 : Hid (w.heap.size ≤ g ∧ Keep [] w w3 ∧ Blk w3 y (ints xs).toArray 2 ∧ Blk w3 w2.heap.size (ints (List.replicate k 0)).toArray 2 ∧ IsFil w3 g newFlt) := by
          have z := H2.out.1.size
          simp only [World.size_alloc] at f1
          exact Lib.hid ⟨by omega, (H2.out.1.trans (Keep.alloc _ _ _)).trans f2, (H2.out.2.alloc _).keep f2 (by simp), (Blk.new w2 _ _).keep f2 (by simp), f3⟩
        clear f1 f2 f3 H2 hmk
        go_wp2_with fail
        have hz : Hid ((List.replicate k (0 : Int)).length = k) := Lib.hid (by simp)
        have hneg : Hid (∀ x, some (⟨w2.heap.size, 0, none⟩ : Addr) = some x → 0 < k → x.block ≠ g) := Lib.hid (by rintro x ⟨⟩ _; exact H3.out.2.2.2.1.ne H3.out.2.2.2.2.blk (by decide))
        refine (comb_n g newFlt m 20000 _ (List.replicate k 0) k k w3 hm0 hm1 (by omega) (by omega) H3.out.2.2.2.2 hz.out (by omega) (by omega) (Rd.ofBlk0 H3.out.2.2.2.1) hneg.out).mono ?_
        rintro e w4 ⟨v, a1, rfl, a2, a3, a4, a5⟩
        rw [silent_comb] at a3 a4
        have H4 : Hid (w.heap.size ≤ g ∧ Keep [] w w4 ∧ Blk w4 y (ints xs).toArray 2 ∧ Blk w4 w2.heap.size (ints (List.replicate k 0)).toArray 2 ∧ IsFil w4 g newFlt ∧ Blk w4 v (ints (List.replicate k 0)).toArray 2) := by
          obtain ⟨h1, h2, h3, h4, h5⟩ := H3.out
          exact Lib.hid ⟨h1, h2.trans' a2 (by simp) (by simpa using h1), h3.keep a2 (by simpa using h3.ne h5.blk (by decide)), h4.keep a2 (by simpa using h4.ne h5.blk (by decide)), a4, a3⟩
        clear a1 a2 a3 a4 a5 H3
        go_wp2_with fail
        refine (lsame_rr _ A xs xs k k k c w4 true HA.out.ln HA.out.ln (by omega) (by omega) (Rd.ofBlk0 H4.out.2.2.1) (HA.out.reads.keep H4.out.2.1 (by simp)) (by simp)).mono ?_
        rintro e w5 ⟨rfl, k5⟩
        have H5 : Hid (w.heap.size ≤ g ∧ Keep [] w w5 ∧ Blk w5 w2.heap.size (ints (List.replicate k 0)).toArray 2 ∧ IsFil w5 g newFlt ∧ Blk w5 v (ints (List.replicate k 0)).toArray 2) := by
          obtain ⟨h1, h2, h3, h4, h5, h6⟩ := H4.out
          exact Lib.hid ⟨h1, h2.trans k5, h4.keep k5 (by simp), h5.keep k5 (by simp), h6.keep k5 (by simp)⟩
        clear k5 H4
        go_wp2_with fail
        refine (lsame_rr _ _ _ _ k k k k w5 true hz.out hz.out (by omega) (by omega) (Rd.ofBlk0 H5.out.2.2.2.2) (Rd.ofBlk0 H5.out.2.2.1) (by simp)).mono ?_
        rintro e w6 ⟨rfl, k6⟩
        have H6 : Hid (w.heap.size ≤ g ∧ Keep [] w w6 ∧ Blk w6 w2.heap.size (ints (List.replicate k 0)).toArray 2 ∧ IsFil w6 g newFlt) := by
          obtain ⟨h1, h2, h3, h4, h5⟩ := H5.out
          exact Lib.hid ⟨h1, h2.trans k6, h3.keep k6 (by simp), h4.keep k6 (by simp)⟩
        clear k6 H5
        go_wp2_with fail
        refine (raise_n g newFlt _ (List.replicate k 0) k k w6 H6.out.2.2.2 hz.out (by omega) (by omega) (Rd.ofBlk0 H6.out.2.2.1) hneg.out).mono ?_
        rintro e w7 ⟨p, a1, rfl, a2, a3, a4, a5⟩
        rw [silent_raise] at a3 a4
        have H7 : Hid (w.heap.size ≤ g ∧ Keep [] w w7 ∧ Blk w7 w2.heap.size (ints (List.replicate k 0)).toArray 2 ∧ IsFil w7 g newFlt ∧ Blk w7 p (ints (List.replicate k 0)).toArray 2) := by
          obtain ⟨h1, h2, h3, h4⟩ := H6.out
          exact Lib.hid ⟨h1, h2.trans' a2 (by simp) (by simpa using h1), h3.keep a2 (by simpa using h3.ne h4.blk (by decide)), a4, a3⟩
        clear a1 a2 a3 a4 a5 H6
        go_wp2_with fail
        refine (lsame_rr _ _ _ _ k k k k w7 true hz.out hz.out (by omega) (by omega) (Rd.ofBlk0 H7.out.2.2.2.2) (Rd.ofBlk0 H7.out.2.2.1) (by simp)).mono ?_
        rintro e w8 ⟨rfl, k8⟩
        have H8 : Hid (w.heap.size ≤ g ∧ Keep [] w w8 ∧ Blk w8 w2.heap.size (ints (List.replicate k 0)).toArray 2 ∧ IsFil w8 g newFlt) := by
          obtain ⟨h1, h2, h3, h4, h5⟩ := H7.out
          exact Lib.hid ⟨h1, h2.trans k8, h3.keep k8 (by simp), h4.keep k8 (by simp)⟩
        clear k8 H7
        go_wp2_with fail
        refine (lower_n g newFlt _ (List.replicate k 0) k k w8 H8.out.2.2.2 hz.out (by omega) (by omega) (Rd.ofBlk0 H8.out.2.2.1) hneg.out).mono ?_
        rintro e w9 ⟨p2, a1, rfl, a2, a3, a4, a5⟩
        rw [silent_lower] at a3 a4
        have H9 : Hid (Keep [] w w9 ∧ Blk w9 w2.heap.size (ints (List.replicate k 0)).toArray 2 ∧ IsFil w9 g newFlt ∧ Blk w9 p2 (ints (List.replicate k 0)).toArray 2) := by
          obtain ⟨h1, h2, h3, h4⟩ := H8.out
          exact Lib.hid ⟨h2.trans' a2 (by simp) (by simpa using h1), h3.keep a2 (by simpa using h3.ne h4.blk (by decide)), a4, a3⟩
        clear a1 a2 a3 a4 a5 H8
        go_wp2_with fail
        refine (lsame_rr _ _ _ _ k k k k w9 true hz.out hz.out (by omega) (by omega) (Rd.ofBlk0 H9.out.2.2.2) (Rd.ofBlk0 H9.out.2.1) (by simp)).mono ?_
        rintro e w10 ⟨rfl, k10⟩
        have H10 := Lib.hid (And.intro (H9.out.1.trans k10) (H9.out.2.2.1.keep k10 (by simp)))
        clear k10 H9
        go_wp2_with fail
        refine (new_calls _).mono ?_
        rintro e w11 ⟨f', f1, rfl, f2, f3⟩
        have H11 := Lib.hid (And.intro (H10.out.1.trans f2) (And.intro (H10.out.2.keep f2 (by simp)) f3))
        clear f1 f2 f3 H10
        go_wp2_with fail
        refine (same_kept g f' newFlt newFlt w11 true H11.out.2.1 H11.out.2.2 (by simp)).mono ?_
        rintro e w12 ⟨rfl, k12⟩
        have H12 := Lib.hid (H11.out.1.trans k12)
        clear k12 H11
        go_wp2_with fail
        go_ret
        exact ⟨rfl, H12.out⟩
  · go_wp2_with fail
    all_goals first
      | (exfalso; omega)
      | (go_ret; exact ⟨rfl, H0.out⟩)
theorem plain_row (A : Option Addr) (n c : Nat) (zs : List Int) (lag : Int) (w : World) (h : IsRow .i64 w A n c zs) (_ : n * 8 ≤ 140737488351232) (_ : (Lit.int .i64 lag).wf = true) :
    Calls Try.prog 8 #[.slice A n c, .int .i64 lag] w fun e w' => e = .returned (.bool true) ∧ Below w.heap.size w w' :=
  (plain_walk A n c _ lag w h.arg).mono fun _ _ ⟨he, k⟩ => ⟨he, k.toBelow⟩
end Go.Proofs.Ytddlkglpgkdgkaa
