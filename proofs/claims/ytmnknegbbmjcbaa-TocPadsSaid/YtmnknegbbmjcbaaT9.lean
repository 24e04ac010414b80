/- toc.Good. -/
import Derived.Test.YtmnknegbbmjcbaaT8
namespace Go.Proofs.Ytmnknegbbmjcbaa
open Go.RowKit

def goodM (cfg ch : Int) (L : List (List Int)) (pad : Int) : Bool :=
  decide (0 ≤ cfg) && decide (cfg < 12) && (decide (ch = 1) || decide (ch = 2)) && decide (1 ≤ L.length) && decide ((L.length : Int) ≤ 120 / msM cfg.toNat) && !longL L && decide (0 ≤ pad) && decide (pad ≤ 1000)
structure GdSt (w wr : World) (b cb : Nat) (cfg ch : Int) (FA : Option Addr) (n fc : Nat) (pad : Int) (L : List (List Int)) (mo ra ms : Int) : Prop where
  kept : Keep [] w wr
  bx : Blk wr b #[.int .i64 cfg, .int .i64 ch, .slice FA n fc, .int .i64 pad] 25
  cf : Blk wr cb #[.int .i64 mo, .int .i64 ra, .int .i64 ms] 31
  fr : FrR wr FA n fc L
theorem containsLong_b (A : Option Addr) (n c : Nat) (L : List (List Int)) (w : World) (b : Bool) (hb : anyL (fun n => decide (1275 < n)) L = b) (h : FrR w A n c L) :
    Calls Try.prog 28 #[.slice A n c, .func (.func 29) #[] #[]] w fun e w' => e = .returned (.bool b) ∧ w = w' := by
  subst hb
  exact containsLong A n c L w h
set_option maxHeartbeats 4000000
theorem good_calls (cfg ch pad : Int) (FA : Option Addr) (n fc : Nat) (L : List (List Int)) (w : World) (h : FrR w FA n fc L) :
    Calls Try.prog 15 #[.agg #[.int .i64 cfg, .int .i64 ch, .slice FA n fc, .int .i64 pad]] w (RetK w (.bool (goodM cfg ch L pad))) := by
  have HF := Lib.hid h
  have hn := h.ln
  have hcp := h.cp
  have hmo := h.most
  have HN := Lib.hid hn
  clear h hn
  have HB : Hid (Blk (w.alloc (.cells #[.int .i64 cfg, .int .i64 ch, .slice FA n fc, .int .i64 pad] 25)) w.heap.size #[.int .i64 cfg, .int .i64 ch, .slice FA n fc, .int .i64 pad] 25) := Lib.hid (Blk.new w _ _)
  go_enter Try.func15, Try.ntmps15
  go_wp2_with fail
  by_cases hcfg : cfg < 0 ∨ 12 ≤ cfg
  · have HG : Hid (goodM cfg ch L pad = false) := Lib.hid (by
      unfold goodM
      rcases hcfg with h | h
      · rw [decide_eq_false (show ¬ 0 ≤ cfg by omega)]; rfl
      · rw [decide_eq_false (show ¬ cfg < 12 by omega)]; simp)
    refine (of_bad _ cfg hcfg).mono ?_
    rintro e w2 ⟨rfl, k2⟩
    have K2 := Lib.hid (((Keep.alloc [] w _).trans k2).trans (Keep.alloc [] w2 (.cells #[.int .i64 0, .int .i64 0, .int .i64 0] 31)))
    clear k2 hcfg
    unfold ofBad cfgV
    go_wp2_with fail
    go_quiet (fail)
    go_wp2_with fail
    go_ret
    rw [HG.out]
    exact ⟨rfl, K2.out.trans (Keep.drewN _ _ _)⟩
  · obtain ⟨k, rfl⟩ := Int.eq_ofNat_of_zero_le (show 0 ≤ cfg by omega)
    have hk : k < 12 := by omega
    have HCF : Hid (0 ≤ (k : Int) ∧ (k : Int) < 12) := Lib.hid ⟨by omega, by omega⟩
    refine (of_ok _ k hk).mono ?_
    rintro e w2 ⟨rfl, k2⟩
    unfold ofV cfgV
    obtain ⟨ms, hms⟩ : ∃ ms, ms = msM k := ⟨_, rfl⟩
    have hmr : ms = 10 ∨ ms = 20 := by rw [hms]; unfold msM; omega
    have HMS : Hid (msM (k : Int).toNat = ms) := Lib.hid (by rw [Int.toNat_natCast, hms])
    rw [← hms]
    clear hms
    generalize modeM k = mo at *
    generalize rateM k = ra at *
    have KQ := Lib.hid (((Keep.alloc [] w (.cells #[.int .i64 k, .int .i64 ch, .slice FA n fc, .int .i64 pad] 25)).trans k2).trans (Keep.alloc [] w2 (.cells #[.int .i64 mo, .int .i64 ra, .int .i64 ms] 31)))
    have HBQ := Lib.hid ((HB.out.keep k2 (by simp)).keep (Keep.alloc [] w2 (.cells #[.int .i64 mo, .int .i64 ra, .int .i64 ms] 31)) (by simp))
    have HCQ : Hid (Blk (w2.alloc (.cells #[.int .i64 mo, .int .i64 ra, .int .i64 ms] 31)) w2.heap.size #[.int .i64 mo, .int .i64 ra, .int .i64 ms] 31) := Lib.hid (Blk.new w2 _ _)
    have HFQ := Lib.hid (HF.out.keep0 KQ.out)
    obtain ⟨q, hq⟩ : ∃ q : Int, q = 120 / ms := ⟨_, rfl⟩
    have hq1 : wrap64 (120 / ms) = q := by rw [← hq]; rcases hmr with h | h <;> (rw [h] at hq; unfold wrap64; omega)
    have hq2 : IntKind.i64.wrap (120 / ms) = q := by rw [wrapEq']; exact hq1
    have hq3 : IntKind.i64.wrap (Int.tdiv 120 ms) = q := by rw [Int.tdiv_eq_ediv_of_nonneg (by omega)]; exact hq2
    have hms0 : ms ≠ 0 := by omega
    have HQ := Lib.hid hq
    clear hq hmr k2 HB hk
    obtain ⟨cb, hcb⟩ : ∃ cb, cb = w2.heap.size := ⟨_, rfl⟩
    go_wp2_with fail
    rw [← hcb] at HCQ ⊢
    generalize w2.alloc (.cells #[.int .i64 mo, .int .i64 ra, .int .i64 ms] 31) = wq at *
    clear hcb
    have b0 : wq.cell? ⟨w.heap.size, 0, none⟩ = some (.int .i64 k) := HBQ.out.cell 0
    have b1 : wq.cell? ⟨w.heap.size, 1, none⟩ = some (.int .i64 ch) := HBQ.out.cell 1
    have b2 : wq.cell? ⟨w.heap.size, 2, none⟩ = some (.slice FA n fc) := HBQ.out.cell 2
    have b3 : wq.cell? ⟨w.heap.size, 3, none⟩ = some (.int .i64 pad) := HBQ.out.cell 3
    have b4 : wq.cell? ⟨cb, 2, none⟩ = some (.int .i64 ms) := HCQ.out.cell 2
    by_cases hc1 : ch = 1
    · subst hc1
      have HCH : Hid (decide ((1 : Int) = 1) || decide ((1 : Int) = 2)) := Lib.hid (by decide)
      by_cases hn1 : 1 ≤ n
      · have hd1 : decide ((1 : Int) ≤ (n : Int)) = true := decide_eq_true (by omega)
        by_cases hn2 : (n : Int) ≤ q
        · have hd2 : decide ((n : Int) ≤ q) = true := decide_eq_true hn2
          have hn3 : (L.length : Int) ≤ 120 / msM (k : Int).toNat := by rw [HN.out, HMS.out, ← HQ.out]; exact hn2
          have HN3 := Lib.hid hn3
          cases hl : longL L with
          | true =>
            have HLB : Hid (anyL (fun n => decide (1275 < n)) L = true) := Lib.hid hl
            have HG : Hid (goodM k 1 L pad = false) := Lib.hid (by unfold goodM; rw [hl]; simp)
            clear hl hn3
            go_wp2_with fail
            go_quiet ((exact qq (containsLong_b FA n fc L _ _ HLB.out (HFQ.out.keep0 (Keep.drewN _ _ _)))))
            go_wp2_with fail
            go_ret
            rw [HG.out]
            exact ⟨rfl, KQ.out.trans (Keep.drewN _ _ _)⟩
          | false =>
            have HLB : Hid (anyL (fun n => decide (1275 < n)) L = false) := Lib.hid hl
            have HL0 := Lib.hid hl
            clear hl hn3
            by_cases hp0 : 0 ≤ pad
            · have hd3 : decide ((0 : Int) ≤ pad) = true := decide_eq_true hp0
              by_cases hp1 : pad ≤ 1000
              · have hd4 : decide (pad ≤ 1000) = true := decide_eq_true hp1
                have HG : Hid (goodM k 1 L pad = true) := Lib.hid (by
                  unfold goodM
                  rw [HL0.out, HN.out, decide_eq_true HCF.out.1, decide_eq_true HCF.out.2, decide_eq_true hn1, ← HN.out, decide_eq_true HN3.out, decide_eq_true hp0, decide_eq_true hp1]
                  simp)
                go_wp2_with fail
                go_quiet ((exact qq (containsLong_b FA n fc L _ _ HLB.out (HFQ.out.keep0 (Keep.drewN _ _ _)))))
                go_wp2_with fail
                go_ret
                rw [HG.out]
                exact ⟨rfl, KQ.out.trans (Keep.drewN _ _ _)⟩
              · have hd4 : decide (pad ≤ 1000) = false := decide_eq_false hp1
                have HG : Hid (goodM k 1 L pad = false) := Lib.hid (by unfold goodM; rw [decide_eq_false hp1]; simp)
                go_wp2_with fail
                go_quiet ((exact qq (containsLong_b FA n fc L _ _ HLB.out (HFQ.out.keep0 (Keep.drewN _ _ _)))))
                go_wp2_with fail
                go_ret
                rw [HG.out]
                exact ⟨rfl, KQ.out.trans (Keep.drewN _ _ _)⟩
            · have hd3 : decide ((0 : Int) ≤ pad) = false := decide_eq_false hp0
              have HG : Hid (goodM k 1 L pad = false) := Lib.hid (by unfold goodM; rw [decide_eq_false hp0]; simp)
              go_wp2_with fail
              go_quiet ((exact qq (containsLong_b FA n fc L _ _ HLB.out (HFQ.out.keep0 (Keep.drewN _ _ _)))))
              go_wp2_with fail
              go_ret
              rw [HG.out]
              exact ⟨rfl, KQ.out.trans (Keep.drewN _ _ _)⟩
        · have hd2 : decide ((n : Int) ≤ q) = false := decide_eq_false hn2
          have hn3 : ¬ (L.length : Int) ≤ 120 / msM (k : Int).toNat := by rw [HN.out, HMS.out, ← HQ.out]; exact hn2
          have HG : Hid (goodM k 1 L pad = false) := Lib.hid (by unfold goodM; rw [decide_eq_false hn3]; simp)
          clear hn3
          go_wp2_with fail
          go_quiet (fail)
          go_wp2_with fail
          go_ret
          rw [HG.out]
          exact ⟨rfl, KQ.out.trans (Keep.drewN _ _ _)⟩
      · have hd1 : decide ((1 : Int) ≤ (n : Int)) = false := decide_eq_false (by omega)
        have HG : Hid (goodM k 1 L pad = false) := Lib.hid (by unfold goodM; rw [HN.out, decide_eq_false hn1]; simp)
        go_wp2_with fail
        go_quiet (fail)
        go_wp2_with fail
        go_ret
        rw [HG.out]
        exact ⟨rfl, KQ.out.trans (Keep.drewN _ _ _)⟩

    · by_cases hc2 : ch = 2
      · subst hc2
        have HCH : Hid (decide ((2 : Int) = 1) || decide ((2 : Int) = 2)) := Lib.hid (by decide)
        by_cases hn1 : 1 ≤ n
        · have hd1 : decide ((1 : Int) ≤ (n : Int)) = true := decide_eq_true (by omega)
          by_cases hn2 : (n : Int) ≤ q
          · have hd2 : decide ((n : Int) ≤ q) = true := decide_eq_true hn2
            have hn3 : (L.length : Int) ≤ 120 / msM (k : Int).toNat := by rw [HN.out, HMS.out, ← HQ.out]; exact hn2
            have HN3 := Lib.hid hn3
            cases hl : longL L with
            | true =>
              have HLB : Hid (anyL (fun n => decide (1275 < n)) L = true) := Lib.hid hl
              have HG : Hid (goodM k 2 L pad = false) := Lib.hid (by unfold goodM; rw [hl]; simp)
              clear hl hn3
              go_wp2_with fail
              go_quiet ((exact qq (containsLong_b FA n fc L _ _ HLB.out (HFQ.out.keep0 (Keep.drewN _ _ _)))))
              go_wp2_with fail
              go_ret
              rw [HG.out]
              exact ⟨rfl, KQ.out.trans (Keep.drewN _ _ _)⟩
            | false =>
              have HLB : Hid (anyL (fun n => decide (1275 < n)) L = false) := Lib.hid hl
              have HL0 := Lib.hid hl
              clear hl hn3
              by_cases hp0 : 0 ≤ pad
              · have hd3 : decide ((0 : Int) ≤ pad) = true := decide_eq_true hp0
                by_cases hp1 : pad ≤ 1000
                · have hd4 : decide (pad ≤ 1000) = true := decide_eq_true hp1
                  have HG : Hid (goodM k 2 L pad = true) := Lib.hid (by
                    unfold goodM
                    rw [HL0.out, HN.out, decide_eq_true HCF.out.1, decide_eq_true HCF.out.2, decide_eq_true hn1, ← HN.out, decide_eq_true HN3.out, decide_eq_true hp0, decide_eq_true hp1]
                    simp)
                  go_wp2_with fail
                  go_quiet ((exact qq (containsLong_b FA n fc L _ _ HLB.out (HFQ.out.keep0 (Keep.drewN _ _ _)))))
                  go_wp2_with fail
                  go_ret
                  rw [HG.out]
                  exact ⟨rfl, KQ.out.trans (Keep.drewN _ _ _)⟩
                · have hd4 : decide (pad ≤ 1000) = false := decide_eq_false hp1
                  have HG : Hid (goodM k 2 L pad = false) := Lib.hid (by unfold goodM; rw [decide_eq_false hp1]; simp)
                  go_wp2_with fail
                  go_quiet ((exact qq (containsLong_b FA n fc L _ _ HLB.out (HFQ.out.keep0 (Keep.drewN _ _ _)))))
                  go_wp2_with fail
                  go_ret
                  rw [HG.out]
                  exact ⟨rfl, KQ.out.trans (Keep.drewN _ _ _)⟩
              · have hd3 : decide ((0 : Int) ≤ pad) = false := decide_eq_false hp0
                have HG : Hid (goodM k 2 L pad = false) := Lib.hid (by unfold goodM; rw [decide_eq_false hp0]; simp)
                go_wp2_with fail
                go_quiet ((exact qq (containsLong_b FA n fc L _ _ HLB.out (HFQ.out.keep0 (Keep.drewN _ _ _)))))
                go_wp2_with fail
                go_ret
                rw [HG.out]
                exact ⟨rfl, KQ.out.trans (Keep.drewN _ _ _)⟩
          · have hd2 : decide ((n : Int) ≤ q) = false := decide_eq_false hn2
            have hn3 : ¬ (L.length : Int) ≤ 120 / msM (k : Int).toNat := by rw [HN.out, HMS.out, ← HQ.out]; exact hn2
            have HG : Hid (goodM k 2 L pad = false) := Lib.hid (by unfold goodM; rw [decide_eq_false hn3]; simp)
            clear hn3
            go_wp2_with fail
            go_quiet (fail)
            go_wp2_with fail
            go_ret
            rw [HG.out]
            exact ⟨rfl, KQ.out.trans (Keep.drewN _ _ _)⟩
        · have hd1 : decide ((1 : Int) ≤ (n : Int)) = false := decide_eq_false (by omega)
          have HG : Hid (goodM k 2 L pad = false) := Lib.hid (by unfold goodM; rw [HN.out, decide_eq_false hn1]; simp)
          go_wp2_with fail
          go_quiet (fail)
          go_wp2_with fail
          go_ret
          rw [HG.out]
          exact ⟨rfl, KQ.out.trans (Keep.drewN _ _ _)⟩

      · have e1 : (ch == 1) = false := by simpa using hc1
        have e2 : (ch == 2) = false := by simpa using hc2
        have HG : Hid (goodM k ch L pad = false) := Lib.hid (by unfold goodM; rw [decide_eq_false hc1, decide_eq_false hc2]; simp)
        clear hc1 hc2
        go_wp2_with fail
        go_quiet (fail)
        go_wp2_with fail
        go_ret
        rw [HG.out]
        exact ⟨rfl, KQ.out.trans (Keep.drewN _ _ _)⟩
end Go.Proofs.Ytmnknegbbmjcbaa
