/- awake. -/
import Derived.Test.YtmnknegbbmjcbaaT12
namespace Go.Proofs.Ytmnknegbbmjcbaa
open Go.RowKit

theorem aw_parse : parseM [72, 5] = some ⟨9, 1, [[5]], 0⟩ := by kernel_rfl
theorem aw_good : goodM 0 1 [[1], [2]] 0 = true := by kernel_rfl
theorem aw_good9 : goodM 9 1 [[5]] 0 = true := by kernel_rfl
theorem aw_num {k c : Int} (h : NumR 2 16000 20 k c) : k = 9 ∧ c = 0 := by
  rcases h with ⟨n, hn, h1, _, hk, hc⟩ | ⟨h, _⟩
  · have : ∀ m : Fin 12, isCfg 2 16000 20 m.1 = true → m.1 = 9 := by decide +kernel
    have h9 := this ⟨n, hn⟩ h1
    have h9' : n = 9 := h9
    subst h9'
    exact ⟨hk, hc⟩
  · have := h 9 (by omega)
    cases this
theorem argB_lit (w : World) (xs : List Int) (h1 : xs.length ≤ 1000) (hr : ∀ x ∈ xs, 0 ≤ x ∧ x ≤ 255) : ArgB (w.alloc (.cells (bytes xs).toArray 5)) (some ⟨w.heap.size, 0, none⟩) xs.length xs.length xs :=
  ⟨rfl, Nat.le_refl _, by omega, rdV_lit w _ _, (fun h => by cases h), (fun a ha _ => by cases ha; simp), hr, by omega⟩
theorem aw_frames (w : World) : FrR (((w.alloc (.cells #[.int .u8 1] 5)).alloc (.cells #[.int .u8 2] 5)).alloc (.cells #[.slice (some ⟨w.heap.size, 0, none⟩) 1 1, .slice (some ⟨w.heap.size + 1, 0, none⟩) 1 1] 29)) (some ⟨w.heap.size + 2, 0, none⟩) 2 2 [[1], [2]] := by
  have k1 := Keep.alloc [] (w.alloc (.cells #[.int .u8 1] 5)) (.cells #[.int .u8 2] 5)
  have k2 := Keep.alloc [] ((w.alloc (.cells #[.int .u8 1] 5)).alloc (.cells #[.int .u8 2] 5)) (.cells #[.slice (some ⟨w.heap.size, 0, none⟩) 1 1, .slice (some ⟨w.heap.size + 1, 0, none⟩) 1 1] 29)
  have a1 := ((argB_lit w [1] (by simp) (by simp)).keep0 k1).keep0 k2
  have a2 := (argB_lit (w.alloc (.cells #[.int .u8 1] 5)) [2] (by simp) (by simp)).keep0 k2
  rw [World.size_alloc] at a2
  have hb := Blk.new ((w.alloc (.cells #[.int .u8 1] 5)).alloc (.cells #[.int .u8 2] 5)) #[.slice (some ⟨w.heap.size, 0, none⟩) 1 1, .slice (some ⟨w.heap.size + 1, 0, none⟩) 1 1] 29
  rw [World.size_alloc, World.size_alloc] at hb
  refine ⟨rfl, Nat.le_refl _, by omega, (fun h => by cases h), fun i l hl => ?_⟩
  match i, hl with
  | 0, hl =>
    simp only [List.getElem?_cons_zero, Option.some.injEq] at hl
    subst hl
    exact ⟨_, _, _, rfl, by rw [add_plain]; exact hb.cell 0, a1⟩
  | 1, hl =>
    simp only [List.getElem?_cons_succ, List.getElem?_cons_zero, Option.some.injEq] at hl
    subst hl
    exact ⟨_, _, _, rfl, by rw [add_plain]; exact hb.cell 1, a2⟩
  | i + 2, hl => simp at hl
set_option maxHeartbeats 4000000
theorem awake_calls (w : World) : Calls Try.prog 10 #[] w (RetK w (.bool true)) := by
  have heq := eq_cfg
  have HA0 : Hid (ArgB (w.alloc (.cells #[.int .u8 72, .int .u8 5] 5)) (some ⟨w.heap.size, 0, none⟩) 2 2 [72, 5]) := Lib.hid (argB_lit w [72, 5] (by simp) (by simp))
  go_enter Try.func10, Try.ntmps10
  go_wp2_with fail
  refine (parse_calls _ 2 2 [72, 5] _ HA0.out).mono ?_
  rintro e w1 ⟨k1, h1⟩
  rw [aw_parse] at h1
  obtain ⟨v, rfl, hf⟩ := h1
  obtain ⟨FA, fc, rfl, hr⟩ := hf.reads (by intro l hl; simp only [List.mem_singleton] at hl; subst hl; exact ⟨by simp, by simp⟩)
  have K1 := Lib.hid ((Keep.alloc [] w _).trans k1)
  have HR1 : Hid (FrR w1 FA 1 fc [[5]]) := Lib.hid hr
  clear k1 hf hr HA0
  unfold pkV
  have HP := Lib.hid (Blk.new w1 #[.int .i64 9, .int .i64 1, .slice FA 1 fc, .int .i64 0] 25)
  have HF2 : Hid (FrR ((((w1.alloc (.cells #[.int .i64 9, .int .i64 1, .slice FA 1 fc, .int .i64 0] 25)).alloc (.cells #[.int .u8 1] 5)).alloc (.cells #[.int .u8 2] 5)).alloc (.cells #[.slice (some ⟨w1.heap.size + 1, 0, none⟩) 1 1, .slice (some ⟨w1.heap.size + 1 + 1, 0, none⟩) 1 1] 29)) (some ⟨w1.heap.size + 1 + 1 + 1, 0, none⟩) 2 2 [[1], [2]]) := by
    have h := aw_frames (w1.alloc (.cells #[.int .i64 9, .int .i64 1, .slice FA 1 fc, .int .i64 0] 25))
    rw [World.size_alloc] at h
    exact Lib.hid h
  have KA : Hid (Keep [] (w1.alloc (.cells #[.int .i64 9, .int .i64 1, .slice FA 1 fc, .int .i64 0] 25)) ((((w1.alloc (.cells #[.int .i64 9, .int .i64 1, .slice FA 1 fc, .int .i64 0] 25)).alloc (.cells #[.int .u8 1] 5)).alloc (.cells #[.int .u8 2] 5)).alloc (.cells #[.slice (some ⟨w1.heap.size + 1, 0, none⟩) 1 1, .slice (some ⟨w1.heap.size + 1 + 1, 0, none⟩) 1 1] 29))) := Lib.hid (((Keep.alloc [] _ _).trans (Keep.alloc [] _ _)).trans (Keep.alloc [] _ _))
  go_wp2_with fail
  refine (pack_two _ 2 [1] [2] _ HF2.out aw_good rfl (by simp)).mono ?_
  rintro e w2 ⟨pv, rfl, p1, p2, p3⟩
  obtain ⟨BA, bc, hbv, hba⟩ := p1.argB (by intro x hx; simp at hx; rcases hx with rfl | rfl | rfl <;> omega) (by simp)
  have hl3 : ([1] ++ [1] ++ [2] : List Int).length = 3 := rfl
  rw [hl3] at hbv hba
  subst hbv
  have k2 := KA.out.trans p2
  have HP2 := Lib.hid (HP.out.keep k2 (by simp))
  have HR2 := Lib.hid ((HR1.out.keep0 (Keep.alloc [] _ _)).keep0 k2)
  have HB2 : Hid (ArgB w2 BA 3 bc [1, 1, 2]) := Lib.hid hba
  have K2 := Lib.hid ((K1.out.trans (Keep.alloc [] _ _)).trans k2)
  clear p1 p2 p3 hba hl3 k2 KA HF2 HP HR1 K1
  go_wp2_with fail
  refine (of_ok _ 9 (by omega)).mono ?_
  rintro e w3 ⟨rfl, k3⟩
  unfold ofV cfgV
  rw [show modeM 9 = 2 from rfl, show rateM 9 = 16000 from rfl, show msM 9 = 20 from rfl]
  have kk := k3.trans (Keep.alloc [] w3 (.cells #[.int .i64 2, .int .i64 16000, .int .i64 20] 31))
  have HP3 := Lib.hid (HP2.out.keep kk (by simp))
  have HR3 := Lib.hid (HR2.out.keep0 kk)
  have HB3 := Lib.hid (HB2.out.keep0 kk)
  have K3 := Lib.hid (K2.out.trans kk)
  have HC3 := Lib.hid (Blk.new w3 #[.int .i64 2, .int .i64 16000, .int .i64 20] 31)
  clear kk k3 HP2 HR2 HB2 K2
  go_wp2_with fail
  refine (number_calls 2 16000 20 _).mono ?_
  rintro e w4 ⟨⟨nk, nc, rfl, hnum⟩, k4⟩
  obtain ⟨rfl, rfl⟩ := aw_num hnum
  have HP4 := Lib.hid (HP3.out.keep k4 (by simp))
  have HR4 := Lib.hid (HR3.out.keep0 k4)
  have HB4 := Lib.hid (HB3.out.keep0 k4)
  have K4 := Lib.hid (K3.out.trans k4)
  have HC4 := Lib.hid (HC3.out.keep k4 (by simp))
  clear hnum k4 HP3 HR3 HB3 K3 HC3
  have p0 : w4.cell? ⟨w1.heap.size, 0, none⟩ = some (.int .i64 9) := HP4.out.cell 0
  have p1 : w4.cell? ⟨w1.heap.size, 1, none⟩ = some (.int .i64 1) := HP4.out.cell 1
  have p2 : w4.cell? ⟨w1.heap.size, 2, none⟩ = some (.slice FA 1 fc) := HP4.out.cell 2
  have p3 : w4.cell? ⟨w1.heap.size, 3, none⟩ = some (.int .i64 0) := HP4.out.cell 3
  have c0 : w4.cell? ⟨w3.heap.size, 0, none⟩ = some (.int .i64 2) := HC4.out.cell 0
  have c1 : w4.cell? ⟨w3.heap.size, 1, none⟩ = some (.int .i64 16000) := HC4.out.cell 1
  have c2 : w4.cell? ⟨w3.heap.size, 2, none⟩ = some (.int .i64 20) := HC4.out.cell 2
  obtain ⟨fa, X, d, rfl, hca, hax⟩ := HR4.out.at_ 0 [5] rfl
  rw [Addr.add_zero'] at hca
  have hs1 : (convert 29 9 (.slice X 1 d)).run Try.prog w4 = .ok (.string ⟨#[5]⟩) w4 := run_str w4 X 1 d [5] hax.reads rfl hax.nil
  have hs2 : (convert 29 9 (.slice BA 3 bc)).run Try.prog w4 = .ok (.string ⟨#[1, 1, 2]⟩) w4 := run_str w4 BA 3 bc [1, 1, 2] HB4.out.reads rfl HB4.out.nil
  have hca' : w4.cell? fa = some (.slice X 1 d) := hca
  clear hca hax HB4 HP4 HC4
  go_wp2_with fail
  refine (good_calls 9 1 0 (some fa) 1 fc [[5]] _ HR4.out).mono ?_
  rintro e w5 ⟨rfl, k5⟩
  rw [aw_good9]
  have K5 := Lib.hid (K4.out.trans k5)
  clear k5 K4 HR4
  go_wp2_with fail
  go_ret
  exact ⟨rfl, K5.out⟩
end Go.Proofs.Ytmnknegbbmjcbaa
