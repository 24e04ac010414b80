/- The walk of EmphBack: what is raised and lowered again is the sound itself. -/
import Derived.Test.YtddlkglpgkdgkaaE6
import Derived.Test.YtddlkglpgkdgkaaSz
namespace Go.Proofs.Ytddlkglpgkdgkaa
open Go.RowKit

/-! ### the plain law: raised and lowered is the same -/
theorem mul_bd27853 (b : Int) (h0 : -16777216 ≤ b) (h1 : b ≤ 16777216) : -14260737 ≤ mulS 27853 b 15 ∧ mulS 27853 b 15 ≤ 14260737 := by
  unfold mulS
  rw [fac_id (a := 27853) (by omega) (by omega), fac_id (a := b) (by omega) (by omega)]
  simp only [Nat.reduceSub, Int.reducePow]
  omega
theorem mul_bd16 (b : Int) (h0 : -32768 ≤ b) (h1 : b ≤ 32768) : -32768 ≤ mulS 27853 b 15 ∧ mulS 27853 b 15 ≤ 32768 := by
  unfold mulS
  rw [fac_id (a := 27853) (by omega) (by omega), fac_id (a := b) (by omega) (by omega)]
  simp only [Nat.reduceSub, Int.reducePow]
  omega
theorem back_law (xs : List Int) (hx : ∀ x ∈ xs, -32768 ≤ x ∧ x ≤ 32767) : ∀ (s t : Flt), s.up = t.low → -32768 ≤ s.up → s.up ≤ 32768 → (mapS (stepK lowerF) t (mapS (stepK raiseF) s xs).1).1 = xs := by
  induction xs with
  | nil => intro s t _ _ _; rfl
  | cons x xs ih =>
    intro s t h h0 h1
    have hb := hx x (by simp)
    have hm := mul_bd16 s.up h0 h1
    have e0 : keptI x = x := keptI_id (by omega) (by omega)
    have e1 : keptI (x - mulS 27853 s.up 15) = x - mulS 27853 s.up 15 := keptI_id (by omega) (by omega)
    have e2 : keptI (x - mulS 27853 s.up 15 + mulS 27853 t.low 15) = x := by rw [← h, Int.sub_add_cancel, e0]
    have e3 : keptI (keptI (x - mulS 27853 s.up 15)) = x - mulS 27853 s.up 15 := by rw [e1, e1]
    simp only [mapS, stepK, raiseF, lowerF, e0, e3, e2]
    congr 1
    exact ih (fun y hy => hx y (by simp [hy])) _ _ rfl (by show -32768 ≤ x; omega) (by show x ≤ 32768; omega)
theorem back_new (xs : List Int) (hx : ∀ x ∈ xs, -32768 ≤ x ∧ x ≤ 32767) : (mapS (stepK lowerF) (mapS (stepK raiseF) newFlt xs).2 (mapS (stepK raiseF) newFlt xs).1).1 = xs := by
  have hlow : (mapS (stepK raiseF) newFlt xs).2.low = 0 := by
    have : ∀ (l : List Int) (s : Flt), (mapS (stepK raiseF) s l).2.low = s.low := by
      intro l
      induction l with
      | nil => intro s; rfl
      | cons a l ih => intro s; simp only [mapS]; rw [ih]; rfl
    exact this xs newFlt
  exact back_law xs hx newFlt _ (by rw [hlow]; rfl) (by simp [newFlt]) (by simp [newFlt])
theorem in16_of {xs : List Int} {n : Nat} (hn : xs.length = n) (h : ∀ j, j < n → -32768 ≤ xs.getD j 0 ∧ xs.getD j 0 ≤ 32767) : ∀ x ∈ xs, -32768 ≤ x ∧ x ≤ 32767 := by
  intro x hx
  obtain ⟨i, hi, rfl⟩ := List.getElem_of_mem hx
  have := h i (by omega)
  simpa [hi] using this

set_option maxRecDepth 100000 in
set_option maxHeartbeats 2000000 in
theorem back_walk (A : Option Addr) (n c : Nat) (xs : List Int) (w : World) (ha : ArgI w A n c xs) : Calls Try.prog 5 #[.slice A n c] w (RetKept w (.bool true)) := by
  have HA := Lib.hid ha
  have hm := ha.most
  have hnc := ha.cp
  clear ha
  go_enter Try.func5, Try.ntmps5
  go_wp2_with fail
  refine (awake_calls _).mono ?_
  rintro e w0 ⟨rfl, k⟩
  have H0 := Lib.hid k
  clear k
  by_cases hbig : 1000 < n
  · go_wp2
    go_ret
    exact ⟨rfl, H0.out⟩
  · have hR : Hid (Rd w0 A xs) := Lib.hid (HA.out.reads.keep H0.out (by simp))
    go_wp2_with fail
    go_loop [3] (fun i => ∃ k : Nat, k ≤ n ∧ i = .int .i64 k ∧ Hid (∀ j, j < k → -32768 ≤ xs.getD j 0 ∧ xs.getD j 0 ≤ 32767)) (fun i => n - (intOf i).toNat)
    case atStart => exact ⟨0, Nat.zero_le _, rfl, Lib.hid (fun j hj => by omega)⟩
    case round =>
      obtain ⟨k, hk, rfl, HS⟩ := hrel
      by_cases hlt : k < n
      · obtain ⟨a, rfl, hca⟩ := hR.out k (by rw [HA.out.ln]; exact hlt)
        have hca' := fun (_ : k < n) => hca
        obtain ⟨q, hq⟩ : ∃ q, q = xs.getD k 0 := ⟨_, rfl⟩
        rw [← hq] at hca'
        have HQ := Lib.hid hq
        clear hq hca
        by_cases h1 : q < -32768
        · go_wp2
          go_ret
          exact ⟨rfl, H0.out⟩
        · by_cases h2 : 32767 < q
          · go_wp2
            go_ret
            exact ⟨rfl, H0.out⟩
          · go_wp2
            go_round
            case rel => exact ⟨k + 1, by omega, by go_num, Lib.hid (fun j hj => by
              by_cases hjk : j < k
              · exact HS.out j hjk
              · obtain rfl : j = k := by omega
                rw [← HQ.out]; omega)⟩
            case measure => simp [intOf]; omega
      · obtain rfl : k = n := by omega
        have HX := Lib.hid (in16_of HA.out.ln HS.out)
        clear HS
        go_wp2_with fail
        refine (new_calls _).mono ?_
        rintro e w1 ⟨f, f1, rfl, f2, f3⟩
        have H1 : Hid (w.heap.size ≤ f ∧ Keep [] w w1 ∧ IsFil w1 f newFlt) := Lib.hid ⟨by have := H0.out.size; omega, H0.out.trans f2, f3⟩
        clear f1 f2 f3 H0 hR
        have hAf : Hid (∀ a, A = some a → 0 < k → a.block < w.heap.size) := Lib.hid (fun a h h0 => HA.out.old a h h0)
        go_wp2_with fail
        refine (raise_calls f newFlt A xs k c w1 H1.out.2.2 HA.out.ln hnc (by omega) (HA.out.reads.keep H1.out.2.1 (by simp)) (fun a h h0 => by have := hAf.out a h h0; have := H1.out.1; omega)).mono ?_
        rintro e w2 ⟨_, rfl, g, a1, rfl, a2, a3, a4⟩
        have hl := mapS_length (stepK raiseF) xs newFlt
        rw [HA.out.ln] at hl
        rw [hl]
        have H2 : Hid (w.heap.size ≤ f ∧ f < g ∧ Keep [] w w2 ∧ IsFil w2 f (mapS (stepK raiseF) newFlt xs).2 ∧ Blk w2 g (ints (mapS (stepK raiseF) newFlt xs).1).toArray 2) := by
          obtain ⟨h1, h2, h3⟩ := H1.out
          have z := h3.lt
          exact Lib.hid ⟨h1, by omega, h2.trans' a2 (by simp) (by simpa using h1), a4, a3⟩
        have HL := Lib.hid hl
        clear a1 a2 a3 a4 H1 hl
        go_wp2_with fail
        refine (lower_calls f _ _ _ k k w2 H2.out.2.2.2.1 HL.out (by omega) (by omega) (Rd.ofBlk0 H2.out.2.2.2.2) (by rintro a ⟨⟩ _; have := H2.out.2.1; simp; omega)).mono ?_
        rintro e w3 ⟨_, rfl, y, a1, rfl, a2, a3, a4⟩
        rw [back_new xs HX.out] at *
        rw [HA.out.ln]
        have H3 : Hid (Keep [] w w3 ∧ Blk w3 y (ints xs).toArray 2) := by
          obtain ⟨h1, h2, h3, h4, h5⟩ := H2.out
          exact Lib.hid ⟨h3.trans' a2 (by simp) (by simpa using h1), a3⟩
        clear a1 a2 a3 a4 H2
        go_wp2_with fail
        refine (new_calls _).mono ?_
        rintro e w4 ⟨f', f1, rfl, f2, f3⟩
        have H4 : Hid (w.heap.size ≤ f' ∧ Keep [] w w4 ∧ IsFil w4 f' newFlt ∧ Blk w4 y (ints xs).toArray 2) := Lib.hid ⟨by have := H3.out.1.size; omega, H3.out.1.trans f2, f3, H3.out.2.keep f2 (by simp)⟩
        clear f1 f2 f3 H3
        go_wp2_with fail
        have kc := Keep.alloc [] w4 (.cells ([raiseP f', lowerP f'].map Stp.val).toArray 30)
        refine (chain_calls [f'] (fun s w => IsFil w f' s) [raiseP f', lowerP f'] newFlt (w4.alloc (.cells ([raiseP f', lowerP f'].map Stp.val).toArray 30)) (by simp [raise_good, lower_good])
          (by have := H4.out.2.2.1.lt; simp; omega) (fun s w w' h k => h.keep k (by simp)) (H4.out.2.2.1.keep kc (by simp)) A xs k c HA.out.ln hnc (by omega) (HA.out.reads.keep (H4.out.2.1.trans kc) (by simp)) HA.out.nil
          (some ⟨w4.heap.size, 0, none⟩) 2 2 rfl (by omega) (steps_lit [f'] _ w4 (by have := H4.out.2.2.1.lt; simp; omega))).mono ?_
        rintro e w5 ⟨v, rfl, m1, m2, m3, m4⟩
        have hc : (chainL [raiseP f', lowerP f'] newFlt xs).1 = xs := by
          simp only [chainL, List.foldl_cons, List.foldl_nil, raiseP, lowerP]
          exact back_new xs HX.out
        rw [hc] at m1
        have H5 : Hid (Keep [] w w5 ∧ Made w5 v xs ∧ Blk w5 y (ints xs).toArray 2) := by
          obtain ⟨h1, h2, h3, h4⟩ := H4.out
          have z := h3.lt
          have hy : y ≠ f' := Blk.ne h4 h3.blk (by decide)
          exact Lib.hid ⟨(h2.trans kc).trans' m2 (by simp) (by simpa using h1), m1, (h4.keep kc (by simp)).keep m2 (by simpa using hy)⟩
        clear m1 m2 m3 m4 H4 hc kc
        have hkk : ((k : Int) != (k : Int)) = false := by simp
        go_wp2_with fail
        refine (lsame_rm _ xs xs k k v w5 true HA.out.ln (by omega) (by rw [HA.out.ln]; omega) (Rd.ofBlk0 H5.out.2.2) H5.out.2.1 (by simp)).mono ?_
        rintro e w6 ⟨rfl, k6⟩
        have H6 : Hid (Keep [] w w6 ∧ Blk w6 y (ints xs).toArray 2) := Lib.hid ⟨H5.out.1.trans k6, H5.out.2.2.keep k6 (by simp)⟩
        clear k6 H5 hkk
        go_wp2_with fail
        go_loopw [8] (fun i wr => ∃ j : Nat, j ≤ k ∧ i = .int .i64 j ∧ Hid (Keep [] w wr ∧ Blk wr y (ints xs).toArray 2)) (fun i _ => k - (intOf i).toNat)
        case atStart => exact ⟨0, Nat.zero_le _, rfl, H6.out⟩
        case round =>
          obtain ⟨j, hj, rfl, HJ⟩ := hrel
          by_cases hlt2 : j < k
          · obtain ⟨a, rfl, hca⟩ := (HA.out.reads.keep HJ.out.1 (by simp)) j (by rw [HA.out.ln]; exact hlt2)
            have hcy := HJ.out.2.cell j
            rw [List.getElem?_toArray, ints_get xs j (by rw [HA.out.ln]; exact hlt2)] at hcy
            have hbd := HX.out (xs.getD j 0) (by
              have : j < xs.length := by rw [HA.out.ln]; exact hlt2
              simp [this])
            obtain ⟨hb0, hb1⟩ := hbd
            generalize xs.getD j 0 = q at *
            have hj0 : (0 : Int) ≤ (j : Int) := by omega
            have hj1 : (j : Int) < (k : Int) := by omega
            go_wp2_with fail
            go_quiet (fail)
            go_wp2_with fail
            go_roundw
            case rel => exact ⟨j + 1, by omega, by go_num, Lib.hid ⟨HJ.out.1.trans (Keep.drewN _ _ _), HJ.out.2.drewN _⟩⟩
            case measure => simp [intOf]; omega
          · go_wp2
            go_ret
            exact ⟨rfl, HJ.out.1⟩
theorem back_row (A : Option Addr) (n c : Nat) (zs : List Int) (w : World) (h : IsRow .i64 w A n c zs) (_ : n * 8 ≤ 140737488351232) :
    Calls Try.prog 5 #[.slice A n c] w fun e w' => e = .returned (.bool true) ∧ Below w.heap.size w w' :=
  (back_walk A n c _ w h.arg).mono fun _ _ ⟨he, k⟩ => ⟨he, k.toBelow⟩
end Go.Proofs.Ytddlkglpgkdgkaa
