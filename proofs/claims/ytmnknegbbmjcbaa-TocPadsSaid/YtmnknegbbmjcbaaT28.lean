/- The reference's GoodPacket, put. -/
import Derived.Test.YtmnknegbbmjcbaaT27
namespace Go.Proofs.Ytmnknegbbmjcbaa
open Go.RowKit

theorem not_good {cfg ch : Int} {L : List (List Int)} {pad : Int} (h : ¬ Good cfg ch L pad) : goodM cfg ch L pad = false := by
  cases hg : goodM cfg ch L pad with
  | false => rfl
  | true => exact absurd (good_of hg) h
theorem ms_calls_b (w : World) (n : Nat) (ms : Int) (hms : ms = msM n) (h : n < 12) : Calls Try.prog 22 #[.int .i64 n] w (fun e w' => e = .returned (.int .i64 ms) ∧ w = w') := by
  subst hms
  exact ms_calls w n h
set_option maxRecDepth 100000
set_option maxHeartbeats 4000000
theorem goodp_calls (cfg ch pad : Int) (FA : Option Addr) (n fc : Nat) (L : List (List Int)) (w : World) (h : FrR w FA n fc L) :
    Calls Try.prog 18 #[.agg #[.int .i64 cfg, .int .i64 ch, .slice FA n fc, .int .i64 pad]] w (RetK w (.bool (goodM cfg ch L pad))) := by
  have K0 := Lib.hid (Keep.alloc [] w (.cells #[.int .i64 cfg, .int .i64 ch, .slice FA n fc, .int .i64 pad] 39))
  have HF := Lib.hid (h.keep0 K0.out)
  have HN := Lib.hid h.ln
  have hcp := h.cp
  have hmo := h.most
  have HB : Hid (Blk (w.alloc (.cells #[.int .i64 cfg, .int .i64 ch, .slice FA n fc, .int .i64 pad] 39)) w.heap.size #[.int .i64 cfg, .int .i64 ch, .slice FA n fc, .int .i64 pad] 39) := Lib.hid (Blk.new w _ _)
  clear h
  go_enter Try.func18, Try.ntmps18
  go_upto_region 1 with fail
  generalize w.alloc (.cells #[.int .i64 cfg, .int .i64 ch, .slice FA n fc, .int .i64 pad] 39) = wq at *
  have b0 : wq.cell? ⟨w.heap.size, 0, none⟩ = some (.int .i64 cfg) := HB.out.cell 0
  have b1 : wq.cell? ⟨w.heap.size, 1, none⟩ = some (.int .i64 ch) := HB.out.cell 1
  have b2 : wq.cell? ⟨w.heap.size, 2, none⟩ = some (.slice FA n fc) := HB.out.cell 2
  have b3 : wq.cell? ⟨w.heap.size, 3, none⟩ = some (.int .i64 pad) := HB.out.cell 3
  by_cases h0 : cfg < 0
  · have d00 : decide (cfg < 0) = true := decide_eq_true (by omega)
    have HG : Hid (goodM cfg ch L pad = false) := Lib.hid (not_good (fun G => by have := G.c0; omega))
    go_quiet (fail)
    go_wp2_with fail
    go_ret
    rw [HG.out]
    exact ⟨rfl, K0.out.trans (Keep.drewN _ _ _)⟩
  · have d00 : decide (cfg < 0) = false := decide_eq_false (by omega)
    by_cases h1 : 11 < cfg
    · have d10 : decide (11 < cfg) = true := decide_eq_true (by omega)
      have HG : Hid (goodM cfg ch L pad = false) := Lib.hid (not_good (fun G => by have := G.c1; omega))
      go_quiet (fail)
      go_wp2_with fail
      go_ret
      rw [HG.out]
      exact ⟨rfl, K0.out.trans (Keep.drewN _ _ _)⟩
    · have d10 : decide (11 < cfg) = false := decide_eq_false (by omega)
      by_cases h2 : ch < 1
      · have d20 : decide (ch < 1) = true := decide_eq_true (by omega)
        have HG : Hid (goodM cfg ch L pad = false) := Lib.hid (not_good (fun G => by rcases G.h with e | e <;> omega))
        go_quiet (fail)
        go_wp2_with fail
        go_ret
        rw [HG.out]
        exact ⟨rfl, K0.out.trans (Keep.drewN _ _ _)⟩
      · have d20 : decide (ch < 1) = false := decide_eq_false (by omega)
        by_cases h3 : 2 < ch
        · have d30 : decide (2 < ch) = true := decide_eq_true (by omega)
          have HG : Hid (goodM cfg ch L pad = false) := Lib.hid (not_good (fun G => by rcases G.h with e | e <;> omega))
          go_quiet (fail)
          go_wp2_with fail
          go_ret
          rw [HG.out]
          exact ⟨rfl, K0.out.trans (Keep.drewN _ _ _)⟩
        · have d30 : decide (2 < ch) = false := decide_eq_false (by omega)
          by_cases h4 : (n : Int) < 1
          · have d40 : decide ((n : Int) < 1) = true := decide_eq_true (by omega)
            have d41 : decide (n < 1) = true := decide_eq_true (by omega)
            have HG : Hid (goodM cfg ch L pad = false) := Lib.hid (not_good (fun G => by have := G.n1; rw [HN.out] at this; omega))
            go_quiet (fail)
            go_wp2_with fail
            go_ret
            rw [HG.out]
            exact ⟨rfl, K0.out.trans (Keep.drewN _ _ _)⟩
          · have d40 : decide ((n : Int) < 1) = false := decide_eq_false (by omega)
            have d41 : decide (n < 1) = false := decide_eq_false (by omega)
            by_cases h5 : 12 < (n : Int)
            · have d50 : decide (12 < (n : Int)) = true := decide_eq_true (by omega)
              have d51 : decide (12 < n) = true := decide_eq_true (by omega)
              have HG : Hid (goodM cfg ch L pad = false) := Lib.hid (not_good (fun G => by have := G.n12; rw [HN.out] at this; omega))
              go_quiet (fail)
              go_wp2_with fail
              go_ret
              rw [HG.out]
              exact ⟨rfl, K0.out.trans (Keep.drewN _ _ _)⟩
            · have d50 : decide (12 < (n : Int)) = false := decide_eq_false (by omega)
              have d51 : decide (12 < n) = false := decide_eq_false (by omega)
              obtain ⟨k, hkc⟩ : ∃ k : Nat, cfg = (k : Int) := Int.eq_ofNat_of_zero_le (by omega)
              have hk : k < 12 := by omega
              have HCK : Hid (cfg.toNat = k) := Lib.hid (by rw [hkc, Int.toNat_natCast])
              rw [hkc] at b0
              have d20 : decide ((k : Int) < 0) = false := decide_eq_false (by omega)
              have d21 : decide (11 < (k : Int)) = false := decide_eq_false (by omega)
              have d22 : decide (11 < k) = false := decide_eq_false (by omega)
              have HKC := Lib.hid hkc
              clear hkc
              obtain ⟨ms, hms⟩ : ∃ ms, ms = msM k := ⟨_, rfl⟩
              have hmr : ms = 10 ∨ ms = 20 := by rw [hms]; unfold msM; omega
              have HMS := Lib.hid hms
              have HMR := Lib.hid hmr
              obtain ⟨q, hq⟩ : ∃ q : Int, q = (n : Int) * ms := ⟨_, rfl⟩
              have hq1 : wrap64 ((n : Int) * ms) = q := by rcases hmr with e | e <;> (rw [e] at hq ⊢; unfold wrap64; omega)
              have hq2 : IntKind.i64.wrap ((n : Int) * ms) = q := by rw [wrapEq']; exact hq1
              have HQ := Lib.hid hq
              clear hq hms hmr
              by_cases h6 : 120 < q
              · have d60 : decide (120 < q) = true := decide_eq_true (by omega)
                have HG : Hid (goodM cfg ch L pad = false) := Lib.hid (not_good (fun G => by have g := G.n2; rw [HN.out, HCK.out, ← HMS.out] at g; have hq := HQ.out; rcases HMR.out with e | e <;> (rw [e] at g hq; omega)))
                go_quiet ((exact qq (ms_calls_b _ k ms HMS.out hk)))
                go_wp2_with fail
                go_ret
                rw [HG.out]
                exact ⟨rfl, K0.out.trans (Keep.drewN _ _ _)⟩
              · have d60 : decide (120 < q) = false := decide_eq_false (by omega)
                by_cases h7 : pad < 0
                · have d70 : decide (pad < 0) = true := decide_eq_true (by omega)
                  have HG : Hid (goodM cfg ch L pad = false) := Lib.hid (not_good (fun G => by have := G.p0; omega))
                  go_quiet ((exact qq (ms_calls_b _ k ms HMS.out hk)))
                  go_wp2_with fail
                  go_ret
                  rw [HG.out]
                  exact ⟨rfl, K0.out.trans (Keep.drewN _ _ _)⟩
                · have d70 : decide (pad < 0) = false := decide_eq_false (by omega)
                  by_cases h8 : 1000 < pad
                  · have d80 : decide (1000 < pad) = true := decide_eq_true (by omega)
                    have HG : Hid (goodM cfg ch L pad = false) := Lib.hid (not_good (fun G => by have := G.p1; omega))
                    go_quiet ((exact qq (ms_calls_b _ k ms HMS.out hk)))
                    go_wp2_with fail
                    go_ret
                    rw [HG.out]
                    exact ⟨rfl, K0.out.trans (Keep.drewN _ _ _)⟩
                  · have d80 : decide (1000 < pad) = false := decide_eq_false (by omega)
                    have HGD : Hid (∀ l, l ∈ L → True) := Lib.hid (fun _ _ => trivial)
                    have HGG : Hid ((∀ l ∈ L, l.length ≤ 1275) → Good cfg ch L pad) := Lib.hid (fun hs => ⟨by omega, by omega, by omega, by rw [HN.out]; omega, by
                      rw [HN.out, HCK.out, ← HMS.out]
                      have hq := HQ.out
                      rcases HMR.out with e | e <;> (rw [e] at hq ⊢; omega), hs, by omega, by omega⟩)
                    go_quiet ((exact qq (ms_calls_b _ k ms HMS.out hk)))
                    clear d20 d21 d22
                    have HB' : Hid (Blk (wq.drewN nq) w.heap.size #[.int .i64 cfg, .int .i64 ch, .slice FA n fc, .int .i64 pad] 39) := Lib.hid (HB.out.drewN _)
                    have KK := Lib.hid (K0.out.trans (Keep.drewN [] wq nq))
                    have HF' := Lib.hid (HF.out.keep0 (Keep.drewN [] wq nq))
                    generalize wq.drewN nq = wz at *
                    have z2 : wz.cell? ⟨w.heap.size, 2, none⟩ = some (.slice FA n fc) := HB'.out.cell 2
                    clear b0 b1 b2 b3
                    go_wp2_with fail
                    go_loopw [3] (fun i wr => ∃ z : Nat, z ≤ n ∧ i = .int .i64 z ∧ wr = wz ∧ Hid (∀ j l, j < z → L[j]? = some l → ((fun n => decide (1275 < n)) : Nat → Bool) l.length = false)) (fun i _ => n - (intOf i).toNat)
                    case atStart => exact ⟨0, by omega, rfl, rfl, Lib.hid (fun j l hj => by omega)⟩
                    case round =>
                      obtain ⟨z, hz, rfl, hwr, HS⟩ := hrel
                      subst hwr
                      by_cases hlt : z < n
                      · obtain ⟨l, hl⟩ : ∃ l, L[z]? = some l := ⟨_, List.getElem?_eq_getElem (by rw [HN.out]; exact hlt)⟩
                        obtain ⟨a, X, d, rfl, hca, _⟩ := HF'.out.at_ z l hl
                        obtain ⟨q, hq⟩ : ∃ q, q = l.length := ⟨_, rfl⟩
                        rw [← hq] at hca
                        have HQ := Lib.hid hq
                        have HL := Lib.hid hl
                        have hz0 : (0 : Int) ≤ (z : Int) := by omega
                        have hz1 : (z : Int) < (n : Int) := by omega
                        clear hq hl
                        by_cases ho : 1275 < q
                        · have HG : Hid (goodM cfg ch L pad = false) := Lib.hid (not_good (fun G => by
                            have := G.s l (List.mem_of_getElem? HL.out)
                            have := HQ.out
                            omega))
                          go_wp2_with fail
                          go_ret
                          rw [HG.out]
                          exact ⟨rfl, KK.out⟩
                        · go_wp2_with fail
                          go_roundw
                          case rel => exact ⟨z + 1, by omega, by go_num, by trivial, Lib.hid (fun j l' hj hl' => by
                            by_cases hjk : j < z
                            · exact HS.out j l' hjk hl'
                            · obtain rfl : j = z := by omega
                              have e := HL.out.symm.trans hl'
                              simp only [Option.some.injEq] at e
                              subst e
                              rw [← HQ.out]
                              exact decide_eq_false ho)⟩
                          case measure => simp [intOf]; omega
                      · obtain rfl : z = n := by omega
                        have HG : Hid (goodM cfg ch L pad = true) := Lib.hid (good_iff (HGG.out (fun l hl => by
                          have := anyL_not (anyL_false (P := fun n => decide (1275 < n)) HN.out HS.out) l hl
                          simp only [decide_eq_false_iff_not] at this
                          omega)))
                        have y2 : wr.cell? ⟨w.heap.size, 2, none⟩ = some (.slice FA z fc) := z2
                        go_wp2_with fail
                        go_ret
                        rw [HG.out]
                        exact ⟨rfl, KK.out⟩
theorem put_calls (w : World) (v : Value) (xs : List Int) (n : Nat) (hm : MadeV w 5 v (bytes xs)) (hn : n ≤ 1275) (hx : xs.length ≤ 100000) :
    Calls Try.prog 37 #[v, .int .i64 n] w (RetA v w (xs ++ toldM n)) := by
  obtain ⟨A, c, hv, _⟩ := hm.reads
  obtain ⟨k, hk⟩ : ∃ k, k = (bytes xs).length := ⟨_, rfl⟩
  rw [← hk] at hv
  subst hv
  have HM := Lib.hid hm
  have HX : Hid ((bytes xs).length ≤ 100000) := Lib.hid (by rw [bytes_length]; exact hx)
  clear hm hk hx
  by_cases h : n ≤ 251
  · have hc : IntKind.u8.wrap (n : Int) = (n : Int) := small8 (by omega)
    have HT : Hid (toldM n = [(n : Int)]) := Lib.hid (by unfold toldM; rw [if_pos h])
    have HA : Hid (MadeV (w.alloc (.cells #[.int .u8 n] 5)) 5 (.slice A k c) (bytes xs)) := Lib.hid (HM.out.keep0 (Keep.alloc [] _ _))
    have HR : Hid (RdV (w.alloc (.cells #[.int .u8 n] 5)) (some ⟨w.heap.size, 0, none⟩) (bytes [(n : Int)])) := Lib.hid (rdV_lit w 5 (bytes [(n : Int)]))
    go_enter Try.func37, Try.ntmps37
    go_wp2_with (at_builtin; refine append_v slB (by first | rfl | kernel_rfl) _ _ rfl _ (bytes xs) rfl HA.out _ _ _ (bytes [(n : Int)]) rfl rfl HR.out (bytes_one _) (by have := HX.out; simp; omega) (by have := HX.out; simp; omega) (fun hA => by cases hA) ?_)
    intro v' w' m1 m2 m3
    have H1 := Lib.hid m1
    have H2 := Lib.hid m2
    have H3 := Lib.hid m3
    clear m1 m2 m3
    go_wp2_with fail
    go_ret
    refine ⟨v', rfl, ?_, ?_, ?_⟩
    · rw [HT.out, bytes_append]; exact H1.out
    · exact ((Keep.alloc [] w _).of0 _).trans H2.out
    · rcases H3.out with e | e
      · exact .inl e
      · refine .inr (fun b hb => ?_)
        rw [hb] at e
        simp only [Option.some.injEq] at e
        omega
  · obtain ⟨q, hq⟩ : ∃ q, q = 252 + n % 4 := ⟨_, rfl⟩
    obtain ⟨r, hr⟩ : ∃ r, r = (n - q) / 4 := ⟨_, rfl⟩
    have hq2 : q ≤ 255 := by omega
    have hr2 : r ≤ 255 := by omega
    have HT : Hid (toldM n = [(q : Int), (r : Int)]) := Lib.hid (by unfold toldM; rw [if_neg h, ← hq, ← hr])
    have e0 : wrap64 (252 + (n : Int) % 4) = (q : Int) := by rw [show (252 : Int) + (n : Int) % 4 = (q : Int) by omega]; exact small64 (Nat.le_trans hq2 (by decide))
    have e1 : IntKind.i64.wrap (252 + (n : Int) % 4) = (q : Int) := by rw [wrapEq']; exact e0
    have e2 : wrap64 ((n : Int) - (q : Int)) = ((n - q : Nat) : Int) := by rw [show (n : Int) - (q : Int) = ((n - q : Nat) : Int) by omega]; exact small64 (by omega)
    have e3 : IntKind.i64.wrap ((n : Int) - (q : Int)) = ((n - q : Nat) : Int) := by rw [wrapEq']; exact e2
    have e40 : ((n - q : Nat) : Int) / 4 = (r : Int) := by rw [hr]; rfl
    have e4 : wrap64 (((n - q : Nat) : Int) / 4) = (r : Int) := by rw [e40]; exact small64 (Nat.le_trans hr2 (by decide))
    have e5 : IntKind.i64.wrap (((n - q : Nat) : Int) / 4) = (r : Int) := by rw [wrapEq']; exact e4
    have e6 : IntKind.u8.wrap (q : Int) = (q : Int) := small8 hq2
    have e7 : IntKind.u8.wrap (r : Int) = (r : Int) := small8 hr2
    obtain ⟨d, hd⟩ : ∃ d, d = n - q := ⟨_, rfl⟩
    rw [← hd] at e2 e3 e4 e5
    clear hq hr hd e40
    have HA : Hid (MadeV (w.alloc (.cells #[.int .u8 q, .int .u8 r] 5)) 5 (.slice A k c) (bytes xs)) := Lib.hid (HM.out.keep0 (Keep.alloc [] _ _))
    have HR : Hid (RdV (w.alloc (.cells #[.int .u8 q, .int .u8 r] 5)) (some ⟨w.heap.size, 0, none⟩) (bytes [(q : Int), (r : Int)])) := Lib.hid (rdV_lit w 5 (bytes [(q : Int), (r : Int)]))
    go_enter Try.func37, Try.ntmps37
    go_wp2_with (at_builtin; refine append_v slB (by first | rfl | kernel_rfl) _ _ rfl _ (bytes xs) rfl HA.out _ _ _ (bytes [(q : Int), (r : Int)]) rfl rfl HR.out (bytes_one _) (by have := HX.out; simp; omega) (by have := HX.out; simp; omega) (fun hA => by cases hA) ?_)
    intro v' w' m1 m2 m3
    have H1 := Lib.hid m1
    have H2 := Lib.hid m2
    have H3 := Lib.hid m3
    clear m1 m2 m3
    go_wp2_with fail
    go_ret
    refine ⟨v', rfl, ?_, ?_, ?_⟩
    · rw [HT.out, bytes_append]; exact H1.out
    · exact ((Keep.alloc [] w _).of0 _).trans H2.out
    · rcases H3.out with e | e
      · exact .inl e
      · refine .inr (fun b hb => ?_)
        rw [hb] at e
        simp only [Option.some.injEq] at e
        omega
end Go.Proofs.Ytmnknegbbmjcbaa
