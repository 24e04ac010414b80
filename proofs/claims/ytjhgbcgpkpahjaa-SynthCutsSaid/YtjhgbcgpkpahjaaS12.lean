/- The law's good: as Good. -/
import Derived.Test.YtjhgbcgpkpahjaaS7
namespace Go.Proofs.Ytjhgbcgpkpahjaa
open Go.RowKit

set_option maxRecDepth 100000 in
set_option maxHeartbeats 4000000 in
theorem lgood_calls (p : PartA) (w : World) (hp : IsPart w p) : Calls Try.prog 15 #[.agg p.cells] w (RetGood w (goodB p)) := by
  obtain ⟨A, n, c, xs, loud, lag, t0, t1, t2, t3, t4, B, m, d, fs⟩ := p
  have HPu : Hid (ArgI w A n c xs) := Lib.hid hp.pul
  have HPf : Hid (ArgI w B m d fs) := Lib.hid hp.fil
  clear hp
  change Calls _ _ #[.agg #[.slice A n c, .int .i64 loud, .int .i64 lag, .int .i64 t0, .int .i64 t1, .int .i64 t2, .int .i64 t3, .int .i64 t4, .slice B m d]] w _
  by_cases hg : 1 ≤ n ∧ n ≤ 480 ∧ 0 ≤ loud ∧ loud ≤ 262144 ∧ (lag = 0 ∨ (3 ≤ lag ∧ lag ≤ 318)) ∧ m ≤ 32
  · obtain ⟨hg1, hg2, hg3, hg4, hlag, hg5⟩ := hg
    have HG1 : Hid (goodB ⟨A, n, c, xs, loud, lag, t0, t1, t2, t3, t4, B, m, d, fs⟩ = (okL 16 xs && (okL 128 [t0, t1, t2, t3, t4] && okL 131072 fs))) := by
      have hl : lagOk lag = true := by rcases hlag with h | ⟨h, h'⟩ <;> simp [lagOk, h] <;> omega
      exact Lib.hid (by simp [goodB, PartA.taps, hl, hg1, hg2, hg3, hg4, hg5])
    rcases hlag with rfl | ⟨hl1, hl2⟩
    · have HS : Hid (Keep [] w (w.alloc (.cells #[.slice A n c, .int .i64 loud, .int .i64 0, .int .i64 t0, .int .i64 t1, .int .i64 t2, .int .i64 t3, .int .i64 t4, .slice B m d] 31)) ∧ Blk (w.alloc (.cells #[.slice A n c, .int .i64 loud, .int .i64 0, .int .i64 t0, .int .i64 t1, .int .i64 t2, .int .i64 t3, .int .i64 t4, .slice B m d] 31)) w.heap.size #[.slice A n c, .int .i64 loud, .int .i64 0, .int .i64 t0, .int .i64 t1, .int .i64 t2, .int .i64 t3, .int .i64 t4, .slice B m d] 31) := Lib.hid ⟨Keep.alloc [] w _, Blk.new w _ _⟩
      go_enter Try.func15, Try.ntmps15
      go_wp2_with fail
      go_loopw [3] (fun i wr => ∃ k : Nat, k ≤ n ∧ i = .int .i64 k ∧ Hid (Keep [] w wr ∧ Blk wr w.heap.size #[.slice A n c, .int .i64 loud, .int .i64 0, .int .i64 t0, .int .i64 t1, .int .i64 t2, .int .i64 t3, .int .i64 t4, .slice B m d] 31) ∧ Hid (∀ j, j < k → okI 16 (xs.getD j 0) = true)) (fun i _ => n - (intOf i).toNat)
      case atStart => exact ⟨0, Nat.zero_le _, rfl, HS, Lib.hid (fun j hj => by omega)⟩
      case round =>
        obtain ⟨k, hk, rfl, HS, HQ⟩ := hrel
        have c0 : wr.cell? ⟨w.heap.size, 0, none⟩ = some (.slice A n c) := HS.out.2.cell 0
        have c8 : wr.cell? ⟨w.heap.size, 8, none⟩ = some (.slice B m d) := HS.out.2.cell 8
        by_cases hlt : k < n
        · obtain ⟨a, rfl, hca⟩ := HPu.out.reads k (by rw [HPu.out.ln]; exact hlt)
          have hcw : wr.cell? (a.add k) = some (.int .i64 (xs.getD k 0)) := HS.out.1.cell hca (by simp)
          obtain ⟨x, hx⟩ : ∃ x, x = xs.getD k 0 := ⟨_, rfl⟩
          rw [← hx] at hcw
          have HX := Lib.hid hx
          clear hx hca
          by_cases hb1 : x < -16
          · go_wp2_with fail
            go_ret
            exact ⟨by rw [HG1.out, okL_not HPu.out.ln hlt (m := 16) (by rw [← HX.out]; simp [okI]; omega)]; rfl, HS.out.1⟩
          · by_cases hb2 : 16 < x
            · go_wp2_with fail
              go_ret
              exact ⟨by rw [HG1.out, okL_not HPu.out.ln hlt (m := 16) (by rw [← HX.out]; simp [okI]; omega)]; rfl, HS.out.1⟩
            · go_wp2_with fail
              go_roundw
              case rel => exact ⟨k + 1, by omega, by go_num, HS, Lib.hid (fun j hj => by
                by_cases hjk : j < k
                · exact HQ.out j hjk
                · obtain rfl : j = k := by omega
                  rw [← HX.out]; simp [okI]; omega)⟩
              case measure => simp [intOf]; omega
        · obtain rfl : n = k := by omega
          have HG0 : Hid (goodB ⟨A, n, c, xs, loud, 0, t0, t1, t2, t3, t4, B, m, d, fs⟩ = (okL 128 [t0, t1, t2, t3, t4] && okL 131072 fs)) := Lib.hid (by rw [HG1.out, okL_of HPu.out.ln HQ.out]; rfl)
          go_wp2_with fail
          clear c0 c8 HQ
          go_loopw [4] (fun i wr => ∃ k : Nat, k ≤ 5 ∧ i = .int .i64 k ∧ Hid (Keep [] w wr ∧ Blk wr w.heap.size #[.slice A n c, .int .i64 loud, .int .i64 0, .int .i64 t0, .int .i64 t1, .int .i64 t2, .int .i64 t3, .int .i64 t4, .slice B m d] 31) ∧ Hid (∀ j, j < k → okI 128 ([t0, t1, t2, t3, t4].getD j 0) = true)) (fun i _ => 5 - (intOf i).toNat)
          case atStart => exact ⟨0, Nat.zero_le _, rfl, HS, Lib.hid (fun j hj => by omega)⟩
          case round =>
            obtain ⟨k, hk, rfl, HS, HQ⟩ := hrel
            have c0 : wr.cell? ⟨w.heap.size, 0, none⟩ = some (.slice A n c) := HS.out.2.cell 0
            have c8 : wr.cell? ⟨w.heap.size, 8, none⟩ = some (.slice B m d) := HS.out.2.cell 8
            by_cases hlt : k < 5
            · have hcw : wr.cell? ⟨w.heap.size, 3 + k, none⟩ = some (.int .i64 ([t0, t1, t2, t3, t4].getD k 0)) := by
                obtain ⟨a, ha, hca⟩ := part_taps HS.out.2 k hlt
                cases ha
                have e : (⟨w.heap.size, 3, none⟩ : Addr).add k = ⟨w.heap.size, 3 + k, none⟩ := by unfold Addr.add; split <;> simp_all
                rwa [e] at hca
              obtain ⟨x, hx⟩ : ∃ x, x = [t0, t1, t2, t3, t4].getD k 0 := ⟨_, rfl⟩
              rw [← hx] at hcw
              have HX := Lib.hid hx
              clear hx
              have hk0 : (0 : Int) ≤ (k : Int) := by omega
              have hk1 : (k : Int) < 5 := by omega
              by_cases hb1 : x < -128
              · go_wp2_with fail
                go_ret
                exact ⟨by rw [HG0.out, okL_not (n := 5) rfl hlt (m := 128) (by rw [← HX.out]; simp [okI]; omega)]; rfl, HS.out.1⟩
              · by_cases hb2 : 128 < x
                · go_wp2_with fail
                  go_ret
                  exact ⟨by rw [HG0.out, okL_not (n := 5) rfl hlt (m := 128) (by rw [← HX.out]; simp [okI]; omega)]; rfl, HS.out.1⟩
                · go_wp2_with fail
                  go_roundw
                  case rel => exact ⟨k + 1, by omega, by go_num, HS, Lib.hid (fun j hj => by
                    by_cases hjk : j < k
                    · exact HQ.out j hjk
                    · obtain rfl : j = k := by omega
                      rw [← HX.out]; simp [okI]; omega)⟩
                  case measure => simp [intOf]; omega
            · obtain rfl : k = 5 := by omega
              have HG : Hid (goodB ⟨A, n, c, xs, loud, 0, t0, t1, t2, t3, t4, B, m, d, fs⟩ = okL 131072 fs) := Lib.hid (by rw [HG0.out, okL_of (n := 5) rfl HQ.out]; rfl)
              go_wp2_with fail
              clear c0 c8 HQ
              go_loopw [5] (fun i wr => ∃ k : Nat, k ≤ m ∧ i = .int .i64 k ∧ Hid (Keep [] w wr ∧ Blk wr w.heap.size #[.slice A n c, .int .i64 loud, .int .i64 0, .int .i64 t0, .int .i64 t1, .int .i64 t2, .int .i64 t3, .int .i64 t4, .slice B m d] 31) ∧ Hid (∀ j, j < k → okI 131072 (fs.getD j 0) = true)) (fun i _ => m - (intOf i).toNat)
              case atStart => exact ⟨0, Nat.zero_le _, rfl, HS, Lib.hid (fun j hj => by omega)⟩
              case round =>
                obtain ⟨k, hk, rfl, HS, HQ⟩ := hrel
                have c0 : wr.cell? ⟨w.heap.size, 0, none⟩ = some (.slice A n c) := HS.out.2.cell 0
                have c8 : wr.cell? ⟨w.heap.size, 8, none⟩ = some (.slice B m d) := HS.out.2.cell 8
                by_cases hlt : k < m
                · obtain ⟨a, rfl, hca⟩ := HPf.out.reads k (by rw [HPf.out.ln]; exact hlt)
                  have hcw : wr.cell? (a.add k) = some (.int .i64 (fs.getD k 0)) := HS.out.1.cell hca (by simp)
                  obtain ⟨x, hx⟩ : ∃ x, x = fs.getD k 0 := ⟨_, rfl⟩
                  rw [← hx] at hcw
                  have HX := Lib.hid hx
                  clear hx hca
                  by_cases hb1 : x < -131072
                  · go_wp2_with fail
                    go_ret
                    exact ⟨by rw [HG.out, okL_not HPf.out.ln hlt (m := 131072) (by rw [← HX.out]; simp [okI]; omega)]; rfl, HS.out.1⟩
                  · by_cases hb2 : 131072 < x
                    · go_wp2_with fail
                      go_ret
                      exact ⟨by rw [HG.out, okL_not HPf.out.ln hlt (m := 131072) (by rw [← HX.out]; simp [okI]; omega)]; rfl, HS.out.1⟩
                    · go_wp2_with fail
                      go_roundw
                      case rel => exact ⟨k + 1, by omega, by go_num, HS, Lib.hid (fun j hj => by
                        by_cases hjk : j < k
                        · exact HQ.out j hjk
                        · obtain rfl : j = k := by omega
                          rw [← HX.out]; simp [okI]; omega)⟩
                      case measure => simp [intOf]; omega
                · go_wp2_with fail
                  go_ret
                  obtain rfl : m = k := by omega
                  exact ⟨by rw [HG.out, okL_of HPf.out.ln HQ.out]; rfl, HS.out.1⟩
    · have hl3 : ¬ lag = 0 := by omega
      have HS : Hid (Keep [] w (w.alloc (.cells #[.slice A n c, .int .i64 loud, .int .i64 lag, .int .i64 t0, .int .i64 t1, .int .i64 t2, .int .i64 t3, .int .i64 t4, .slice B m d] 31)) ∧ Blk (w.alloc (.cells #[.slice A n c, .int .i64 loud, .int .i64 lag, .int .i64 t0, .int .i64 t1, .int .i64 t2, .int .i64 t3, .int .i64 t4, .slice B m d] 31)) w.heap.size #[.slice A n c, .int .i64 loud, .int .i64 lag, .int .i64 t0, .int .i64 t1, .int .i64 t2, .int .i64 t3, .int .i64 t4, .slice B m d] 31) := Lib.hid ⟨Keep.alloc [] w _, Blk.new w _ _⟩
      go_enter Try.func15, Try.ntmps15
      go_wp2_with fail
      go_loopw [3] (fun i wr => ∃ k : Nat, k ≤ n ∧ i = .int .i64 k ∧ Hid (Keep [] w wr ∧ Blk wr w.heap.size #[.slice A n c, .int .i64 loud, .int .i64 lag, .int .i64 t0, .int .i64 t1, .int .i64 t2, .int .i64 t3, .int .i64 t4, .slice B m d] 31) ∧ Hid (∀ j, j < k → okI 16 (xs.getD j 0) = true)) (fun i _ => n - (intOf i).toNat)
      case atStart => exact ⟨0, Nat.zero_le _, rfl, HS, Lib.hid (fun j hj => by omega)⟩
      case round =>
        obtain ⟨k, hk, rfl, HS, HQ⟩ := hrel
        have c0 : wr.cell? ⟨w.heap.size, 0, none⟩ = some (.slice A n c) := HS.out.2.cell 0
        have c8 : wr.cell? ⟨w.heap.size, 8, none⟩ = some (.slice B m d) := HS.out.2.cell 8
        by_cases hlt : k < n
        · obtain ⟨a, rfl, hca⟩ := HPu.out.reads k (by rw [HPu.out.ln]; exact hlt)
          have hcw : wr.cell? (a.add k) = some (.int .i64 (xs.getD k 0)) := HS.out.1.cell hca (by simp)
          obtain ⟨x, hx⟩ : ∃ x, x = xs.getD k 0 := ⟨_, rfl⟩
          rw [← hx] at hcw
          have HX := Lib.hid hx
          clear hx hca
          by_cases hb1 : x < -16
          · go_wp2_with fail
            go_ret
            exact ⟨by rw [HG1.out, okL_not HPu.out.ln hlt (m := 16) (by rw [← HX.out]; simp [okI]; omega)]; rfl, HS.out.1⟩
          · by_cases hb2 : 16 < x
            · go_wp2_with fail
              go_ret
              exact ⟨by rw [HG1.out, okL_not HPu.out.ln hlt (m := 16) (by rw [← HX.out]; simp [okI]; omega)]; rfl, HS.out.1⟩
            · go_wp2_with fail
              go_roundw
              case rel => exact ⟨k + 1, by omega, by go_num, HS, Lib.hid (fun j hj => by
                by_cases hjk : j < k
                · exact HQ.out j hjk
                · obtain rfl : j = k := by omega
                  rw [← HX.out]; simp [okI]; omega)⟩
              case measure => simp [intOf]; omega
        · obtain rfl : n = k := by omega
          have HG0 : Hid (goodB ⟨A, n, c, xs, loud, lag, t0, t1, t2, t3, t4, B, m, d, fs⟩ = (okL 128 [t0, t1, t2, t3, t4] && okL 131072 fs)) := Lib.hid (by rw [HG1.out, okL_of HPu.out.ln HQ.out]; rfl)
          go_wp2_with fail
          clear c0 c8 HQ
          go_loopw [4] (fun i wr => ∃ k : Nat, k ≤ 5 ∧ i = .int .i64 k ∧ Hid (Keep [] w wr ∧ Blk wr w.heap.size #[.slice A n c, .int .i64 loud, .int .i64 lag, .int .i64 t0, .int .i64 t1, .int .i64 t2, .int .i64 t3, .int .i64 t4, .slice B m d] 31) ∧ Hid (∀ j, j < k → okI 128 ([t0, t1, t2, t3, t4].getD j 0) = true)) (fun i _ => 5 - (intOf i).toNat)
          case atStart => exact ⟨0, Nat.zero_le _, rfl, HS, Lib.hid (fun j hj => by omega)⟩
          case round =>
            obtain ⟨k, hk, rfl, HS, HQ⟩ := hrel
            have c0 : wr.cell? ⟨w.heap.size, 0, none⟩ = some (.slice A n c) := HS.out.2.cell 0
            have c8 : wr.cell? ⟨w.heap.size, 8, none⟩ = some (.slice B m d) := HS.out.2.cell 8
            by_cases hlt : k < 5
            · have hcw : wr.cell? ⟨w.heap.size, 3 + k, none⟩ = some (.int .i64 ([t0, t1, t2, t3, t4].getD k 0)) := by
                obtain ⟨a, ha, hca⟩ := part_taps HS.out.2 k hlt
                cases ha
                have e : (⟨w.heap.size, 3, none⟩ : Addr).add k = ⟨w.heap.size, 3 + k, none⟩ := by unfold Addr.add; split <;> simp_all
                rwa [e] at hca
              obtain ⟨x, hx⟩ : ∃ x, x = [t0, t1, t2, t3, t4].getD k 0 := ⟨_, rfl⟩
              rw [← hx] at hcw
              have HX := Lib.hid hx
              clear hx
              have hk0 : (0 : Int) ≤ (k : Int) := by omega
              have hk1 : (k : Int) < 5 := by omega
              by_cases hb1 : x < -128
              · go_wp2_with fail
                go_ret
                exact ⟨by rw [HG0.out, okL_not (n := 5) rfl hlt (m := 128) (by rw [← HX.out]; simp [okI]; omega)]; rfl, HS.out.1⟩
              · by_cases hb2 : 128 < x
                · go_wp2_with fail
                  go_ret
                  exact ⟨by rw [HG0.out, okL_not (n := 5) rfl hlt (m := 128) (by rw [← HX.out]; simp [okI]; omega)]; rfl, HS.out.1⟩
                · go_wp2_with fail
                  go_roundw
                  case rel => exact ⟨k + 1, by omega, by go_num, HS, Lib.hid (fun j hj => by
                    by_cases hjk : j < k
                    · exact HQ.out j hjk
                    · obtain rfl : j = k := by omega
                      rw [← HX.out]; simp [okI]; omega)⟩
                  case measure => simp [intOf]; omega
            · obtain rfl : k = 5 := by omega
              have HG : Hid (goodB ⟨A, n, c, xs, loud, lag, t0, t1, t2, t3, t4, B, m, d, fs⟩ = okL 131072 fs) := Lib.hid (by rw [HG0.out, okL_of (n := 5) rfl HQ.out]; rfl)
              go_wp2_with fail
              clear c0 c8 HQ
              go_loopw [5] (fun i wr => ∃ k : Nat, k ≤ m ∧ i = .int .i64 k ∧ Hid (Keep [] w wr ∧ Blk wr w.heap.size #[.slice A n c, .int .i64 loud, .int .i64 lag, .int .i64 t0, .int .i64 t1, .int .i64 t2, .int .i64 t3, .int .i64 t4, .slice B m d] 31) ∧ Hid (∀ j, j < k → okI 131072 (fs.getD j 0) = true)) (fun i _ => m - (intOf i).toNat)
              case atStart => exact ⟨0, Nat.zero_le _, rfl, HS, Lib.hid (fun j hj => by omega)⟩
              case round =>
                obtain ⟨k, hk, rfl, HS, HQ⟩ := hrel
                have c0 : wr.cell? ⟨w.heap.size, 0, none⟩ = some (.slice A n c) := HS.out.2.cell 0
                have c8 : wr.cell? ⟨w.heap.size, 8, none⟩ = some (.slice B m d) := HS.out.2.cell 8
                by_cases hlt : k < m
                · obtain ⟨a, rfl, hca⟩ := HPf.out.reads k (by rw [HPf.out.ln]; exact hlt)
                  have hcw : wr.cell? (a.add k) = some (.int .i64 (fs.getD k 0)) := HS.out.1.cell hca (by simp)
                  obtain ⟨x, hx⟩ : ∃ x, x = fs.getD k 0 := ⟨_, rfl⟩
                  rw [← hx] at hcw
                  have HX := Lib.hid hx
                  clear hx hca
                  by_cases hb1 : x < -131072
                  · go_wp2_with fail
                    go_ret
                    exact ⟨by rw [HG.out, okL_not HPf.out.ln hlt (m := 131072) (by rw [← HX.out]; simp [okI]; omega)]; rfl, HS.out.1⟩
                  · by_cases hb2 : 131072 < x
                    · go_wp2_with fail
                      go_ret
                      exact ⟨by rw [HG.out, okL_not HPf.out.ln hlt (m := 131072) (by rw [← HX.out]; simp [okI]; omega)]; rfl, HS.out.1⟩
                    · go_wp2_with fail
                      go_roundw
                      case rel => exact ⟨k + 1, by omega, by go_num, HS, Lib.hid (fun j hj => by
                        by_cases hjk : j < k
                        · exact HQ.out j hjk
                        · obtain rfl : j = k := by omega
                          rw [← HX.out]; simp [okI]; omega)⟩
                      case measure => simp [intOf]; omega
                · go_wp2_with fail
                  go_ret
                  obtain rfl : m = k := by omega
                  exact ⟨by rw [HG.out, okL_of HPf.out.ln HQ.out]; rfl, HS.out.1⟩
  · have e : goodB ⟨A, n, c, xs, loud, lag, t0, t1, t2, t3, t4, B, m, d, fs⟩ = false := by
      cases h : goodB ⟨A, n, c, xs, loud, lag, t0, t1, t2, t3, t4, B, m, d, fs⟩ with
      | false => rfl
      | true =>
        exfalso
        simp only [goodB, Bool.and_eq_true, decide_eq_true_eq] at h
        exact hg ⟨h.1, h.2.1, h.2.2.2.1, h.2.2.2.2.1, lagOk_of h.2.2.2.2.2.1, h.2.2.2.2.2.2.2.1⟩
    rw [e]; clear e HPu HPf
    go_enter Try.func15, Try.ntmps15
    go_wp2_with fail
    all_goals first
      | (exfalso; omega)
      | (go_ret; exact ⟨rfl, Keep.alloc [] w _⟩)
end Go.Proofs.Ytjhgbcgpkpahjaa
