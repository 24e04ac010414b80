/- The walk of TocConfigs; a config that comes in by value, opened. -/
import Derived.Test.YtmnknegbbmjcbaaT14
import Derived.Deep.RegionHeld3
import Derived.Lib.SmallJoins
namespace Go.Proofs.Ytmnknegbbmjcbaa
open Go.RowKit Go.ChangeShapes Go.WideShapes Go.Deep Go.Joins

theorem eq_cfg_ne (W : World) (a b c m r s : Int) : (binOp .neq 31 (.agg #[.int .i64 a, .int .i64 b, .int .i64 c]) (.agg #[.int .i64 m, .int .i64 r, .int .i64 s])).run Try.prog W = .ok (.bool (!(decide (a = m) && (decide (b = r) && decide (c = s))))) W := by
  go_simp
  by_cases h1 : a = m <;> by_cases h2 : b = r <;> by_cases h3 : c = s <;> simp [h1, h2, h3]
theorem isCfg_symm (m r s : Int) (n : Nat) : (decide (m = modeM n) && (decide (r = rateM n) && decide (s = msM n))) = isCfg m r s n := by
  unfold isCfg
  rw [decide_eq_decide.2 (eq_comm : m = modeM n ↔ _), decide_eq_decide.2 (eq_comm : r = rateM n ↔ _), decide_eq_decide.2 (eq_comm : s = msM n ↔ _)]
theorem num_at {m r s k c : Int} {i : Nat} (h : NumR m r s k c) (hi : i < 12) (h1 : isCfg m r s i = true) (h0 : ∀ j, j < i → isCfg m r s j = false) : k = i ∧ c = 0 := by
  rcases h with ⟨n, hn, hn1, hn0, hk, hc⟩ | ⟨h, _⟩
  · rcases Nat.lt_trichotomy n i with h | h | h
    · rw [h0 n h] at hn1; cases hn1
    · subst h; exact ⟨hk, hc⟩
    · rw [hn0 i h] at h1; cases h1
  · rw [h i hi] at h1; cases h1
theorem num_none {m r s k c : Int} (h : NumR m r s k c) (h0 : ∀ j, j < 12 → isCfg m r s j = false) : k = 0 ∧ c = 1 := by
  rcases h with ⟨n, hn, hn1, _⟩ | ⟨_, h1, h2⟩
  · rw [h0 n hn] at hn1; cases hn1
  · exact ⟨h1, h2⟩
/-- The box of the config, kept. -/
structure CgSt (w wr : World) (b : Nat) (m r s : Int) : Prop where
  kept : Keep [] w wr
  bx : Blk wr b #[.int .i64 m, .int .i64 r, .int .i64 s] 31
theorem CgSt.keep {w wr w' : World} {b : Nat} {m r s : Int} (h : CgSt w wr b m r s) (k : Keep [] wr w') : CgSt w w' b m r s := ⟨h.kept.trans k, h.bx.keep k (by simp)⟩
theorem CgSt.drew {w wr : World} {b : Nat} {m r s : Int} (h : CgSt w wr b m r s) : CgSt w wr.drew b m r s := h.keep (Keep.drew _ _)
def Three (w : World) (b : Nat) (m r s : Int) : Prop := w.cell? ⟨b, 0, none⟩ = some (.int .i64 m) ∧ w.cell? ⟨b, 1, none⟩ = some (.int .i64 r) ∧ w.cell? ⟨b, 2, none⟩ = some (.int .i64 s)
theorem three_of {w : World} {b : Nat} {m r s : Int} (h : Blk w b #[.int .i64 m, .int .i64 r, .int .i64 s] 31) : Three w b m r s := ⟨h.cell 0, h.cell 1, h.cell 2⟩
structure CgTwo (w wr : World) (b x : Nat) (m r s a c d : Int) : Prop where
  st : CgSt w wr b m r s
  xb : Blk wr x #[.int .i64 a, .int .i64 c, .int .i64 d] 31
theorem CgTwo.keep {w wr w' : World} {b x : Nat} {m r s a c d : Int} (h : CgTwo w wr b x m r s a c d) (k : Keep [] wr w') : CgTwo w w' b x m r s a c d := ⟨h.st.keep k, h.xb.keep k (by simp)⟩
theorem CgTwo.drew {w wr : World} {b x : Nat} {m r s a c d : Int} (h : CgTwo w wr b x m r s a c d) : CgTwo w wr.drew b x m r s a c d := h.keep (Keep.drew _ _)
attribute [local go_sem ↓] Go.wp_at_zero Go.wp_at_succ
set_option maxHeartbeats 4000000
theorem ms_keep (w : World) (n : Nat) (h : n < 12) : Calls Try.prog 22 #[.int .i64 n] w (RetK w (.int .i64 (msM n))) := (ms_calls w n h).mono fun _ _ ⟨he, hw⟩ => ⟨he, hw ▸ Keep.refl [] _⟩
theorem configs_walk (n m r s : Int) (w : World) : Calls Try.prog 6 #[.int .i64 n, .agg #[.int .i64 m, .int .i64 r, .int .i64 s]] w (RetK w (.bool true)) := by
  have heq := eq_cfg
  have hne := eq_cfg_ne
  have HB0 : Hid (CgSt w (w.alloc (.cells #[.int .i64 m, .int .i64 r, .int .i64 s] 31)) w.heap.size m r s) := Lib.hid ⟨Keep.alloc [] _ _, Blk.new w _ _⟩
  go_enter Try.func6, Try.ntmps6
  go_wp2_with fail
  refine (awake_calls _).mono ?_
  rintro e w1 ⟨rfl, k1⟩
  have HB1 := Lib.hid (HB0.out.keep k1)
  clear k1 HB0
  by_cases hn : n < 0 ∨ 12 ≤ n
  · have HN := Lib.hid hn
    go_wp2_with fail
    refine (of_bad _ n hn).mono ?_
    rintro e w2 ⟨rfl, k2⟩
    have HB2 := Lib.hid (HB1.out.keep (k2.trans (Keep.alloc [] w2 (.cells #[.int .i64 0, .int .i64 0, .int .i64 0] 31))))
    clear k2 HB1
    unfold ofBad cfgV
    obtain ⟨c0, c1, c2⟩ := three_of HB2.out.bx
    by_cases hn0 : n < 0
    · clear hn
      go_wp2_with fail
      refine (number_calls m r s _).mono ?_
      rintro e w3 ⟨⟨nk, nc, rfl, hnum⟩, k3⟩
      have HNUM := Lib.hid hnum
      have HB3 := Lib.hid (HB2.out.keep k3)
      clear hnum k3 HB2 c0 c1 c2
      go_wp2_with fail
      go_loopw [9] (fun i wr => ∃ j : Nat, j ≤ 12 ∧ i = .int .i64 j ∧ Hid (CgSt w wr w.heap.size m r s ∧ ∀ q, q < j → isCfg m r s q = false)) (fun i _ => 12 - (intOf i).toNat)
      case atStart => exact ⟨0, by omega, rfl, Lib.hid ⟨HB3.out, fun q hq => by omega⟩⟩
      case round =>
        clear HB3
        obtain ⟨j, hj, rfl, HS⟩ := hrel
        have HJ := Lib.hid HS.out.2
        have HM := Lib.hid HS.out.1
        clear HS
        by_cases hlt : j < 12
        · go_wp2_with fail
          go_region_held3 (fun w' => w'.cell? ⟨w.heap.size, 0, none⟩ = some (.int .i64 m) ∧ w'.cell? ⟨w.heap.size, 1, none⟩ = some (.int .i64 r) ∧ w'.cell? ⟨w.heap.size, 2, none⟩ = some (.int .i64 s)) (first | exact three_of (Hid.out HM).bx | exact three_of (Hid.out HM).drew.bx)
            (first
              | (go_at_call 20; refine (mode_calls _ j hlt).mono ?_; rintro e w' ⟨rfl, kk⟩; have hm := (by first | exact (Hid.out HM).keep kk | exact (Hid.out HM).drew.keep kk : CgSt w w' w.heap.size m r s); clear HM kk; have HM := Lib.hid hm; clear hm)
              | (go_at_call 21; refine (rate_calls _ j hlt).mono ?_; rintro e w' ⟨rfl, kk⟩; have hm := (by first | exact (Hid.out HM).keep kk | exact (Hid.out HM).drew.keep kk : CgSt w w' w.heap.size m r s); clear HM kk; have HM := Lib.hid hm; clear hm)
              | (go_at_call 22; refine (ms_keep _ j hlt).mono ?_; rintro e w' ⟨rfl, kk⟩; have hm := (by first | exact (Hid.out HM).keep kk | exact (Hid.out HM).drew.keep kk : CgSt w w' w.heap.size m r s); clear HM kk; have HM := Lib.hid hm; clear hm))
          have hsy := isCfg_symm m r s j
          rw [hsy]
          clear hsy
          cases hc : isCfg m r s j with
          | true =>
            obtain ⟨rfl, rfl⟩ := num_at HNUM.out hlt hc HJ.out
            clear hc
            go_wp2_with fail
            go_ret
            exact ⟨rfl, HM.out.kept⟩
          | false =>
            have HC := Lib.hid hc
            clear hc
            go_wp2_with fail
            go_roundw
            case rel => exact ⟨j + 1, by omega, by go_num, Lib.hid ⟨HM.out, fun q hq => by
              by_cases hqj : q < j
              · exact HJ.out q hqj
              · obtain rfl : q = j := by omega
                exact HC.out⟩⟩
            case measure => simp [intOf]; omega
        · obtain rfl : j = 12 := by omega
          obtain ⟨rfl, rfl⟩ := num_none HNUM.out HJ.out
          go_wp2_with fail
          go_ret
          exact ⟨rfl, HM.out.kept⟩
    · have hn1 : 11 < n := by omega
      clear hn
      go_wp2_with fail
      refine (number_calls m r s _).mono ?_
      rintro e w3 ⟨⟨nk, nc, rfl, hnum⟩, k3⟩
      have HNUM := Lib.hid hnum
      have HB3 := Lib.hid (HB2.out.keep k3)
      clear hnum k3 HB2 c0 c1 c2
      go_wp2_with fail
      go_loopw [9] (fun i wr => ∃ j : Nat, j ≤ 12 ∧ i = .int .i64 j ∧ Hid (CgSt w wr w.heap.size m r s ∧ ∀ q, q < j → isCfg m r s q = false)) (fun i _ => 12 - (intOf i).toNat)
      case atStart => exact ⟨0, by omega, rfl, Lib.hid ⟨HB3.out, fun q hq => by omega⟩⟩
      case round =>
        clear HB3
        obtain ⟨j, hj, rfl, HS⟩ := hrel
        have HJ := Lib.hid HS.out.2
        have HM := Lib.hid HS.out.1
        clear HS
        by_cases hlt : j < 12
        · go_wp2_with fail
          go_region_held3 (fun w' => w'.cell? ⟨w.heap.size, 0, none⟩ = some (.int .i64 m) ∧ w'.cell? ⟨w.heap.size, 1, none⟩ = some (.int .i64 r) ∧ w'.cell? ⟨w.heap.size, 2, none⟩ = some (.int .i64 s)) (first | exact three_of (Hid.out HM).bx | exact three_of (Hid.out HM).drew.bx)
            (first
              | (go_at_call 20; refine (mode_calls _ j hlt).mono ?_; rintro e w' ⟨rfl, kk⟩; have hm := (by first | exact (Hid.out HM).keep kk | exact (Hid.out HM).drew.keep kk : CgSt w w' w.heap.size m r s); clear HM kk; have HM := Lib.hid hm; clear hm)
              | (go_at_call 21; refine (rate_calls _ j hlt).mono ?_; rintro e w' ⟨rfl, kk⟩; have hm := (by first | exact (Hid.out HM).keep kk | exact (Hid.out HM).drew.keep kk : CgSt w w' w.heap.size m r s); clear HM kk; have HM := Lib.hid hm; clear hm)
              | (go_at_call 22; refine (ms_keep _ j hlt).mono ?_; rintro e w' ⟨rfl, kk⟩; have hm := (by first | exact (Hid.out HM).keep kk | exact (Hid.out HM).drew.keep kk : CgSt w w' w.heap.size m r s); clear HM kk; have HM := Lib.hid hm; clear hm))
          have hsy := isCfg_symm m r s j
          rw [hsy]
          clear hsy
          cases hc : isCfg m r s j with
          | true =>
            obtain ⟨rfl, rfl⟩ := num_at HNUM.out hlt hc HJ.out
            clear hc
            go_wp2_with fail
            go_ret
            exact ⟨rfl, HM.out.kept⟩
          | false =>
            have HC := Lib.hid hc
            clear hc
            go_wp2_with fail
            go_roundw
            case rel => exact ⟨j + 1, by omega, by go_num, Lib.hid ⟨HM.out, fun q hq => by
              by_cases hqj : q < j
              · exact HJ.out q hqj
              · obtain rfl : q = j := by omega
                exact HC.out⟩⟩
            case measure => simp [intOf]; omega
        · obtain rfl : j = 12 := by omega
          obtain ⟨rfl, rfl⟩ := num_none HNUM.out HJ.out
          go_wp2_with fail
          go_ret
          exact ⟨rfl, HM.out.kept⟩
  · obtain ⟨k, rfl⟩ := Int.eq_ofNat_of_zero_le (show 0 ≤ n by omega)
    have hk : k < 12 := by omega
    go_wp2_with fail
    refine (of_ok _ k hk).mono ?_
    rintro e w2 ⟨rfl, k2⟩
    unfold ofV cfgV
    have HM : Hid (CgTwo w (w2.alloc (.cells #[.int .i64 (modeM k), .int .i64 (rateM k), .int .i64 (msM k)] 31)) w.heap.size w2.heap.size m r s (modeM k) (rateM k) (msM k)) := Lib.hid ⟨HB1.out.keep (k2.trans (Keep.alloc [] w2 _)), Blk.new w2 _ _⟩
    clear k2 HB1 hn
    have hk1 : ¬ (11 < (k : Int)) := by omega
    obtain ⟨xb, hxb⟩ : ∃ xb, xb = w2.heap.size := ⟨_, rfl⟩
    go_wp2_with fail
    rw [← hxb] at HM ⊢
    generalize w2.alloc (.cells #[.int .i64 (modeM k), .int .i64 (rateM k), .int .i64 (msM k)] 31) = wq at *
    clear hxb
    go_region_held3 (fun w' => w'.cell? ⟨xb, 0, none⟩ = some (.int .i64 (modeM k)) ∧ w'.cell? ⟨xb, 1, none⟩ = some (.int .i64 (rateM k)) ∧ w'.cell? ⟨xb, 2, none⟩ = some (.int .i64 (msM k))) (first | exact three_of (Hid.out HM).xb | exact three_of (Hid.out HM).drew.xb)
      (first
        | (go_at_call 20; refine (mode_calls _ k hk).mono ?_; rintro e w' ⟨rfl, kk⟩; have hm := (by first | exact (Hid.out HM).keep kk | exact (Hid.out HM).drew.keep kk : CgTwo w w' w.heap.size xb m r s (modeM k) (rateM k) (msM k)); clear HM kk; have HM := Lib.hid hm; clear hm)
        | (go_at_call 21; refine (rate_calls _ k hk).mono ?_; rintro e w' ⟨rfl, kk⟩; have hm := (by first | exact (Hid.out HM).keep kk | exact (Hid.out HM).drew.keep kk : CgTwo w w' w.heap.size xb m r s (modeM k) (rateM k) (msM k)); clear HM kk; have HM := Lib.hid hm; clear hm)
        | (go_at_call 22; refine (ms_keep _ k hk).mono ?_; rintro e w' ⟨rfl, kk⟩; have hm := (by first | exact (Hid.out HM).keep kk | exact (Hid.out HM).drew.keep kk : CgTwo w w' w.heap.size xb m r s (modeM k) (rateM k) (msM k)); clear HM kk; have HM := Lib.hid hm; clear hm))
    have HB2 := Lib.hid HM.out.st
    clear HM
    obtain ⟨c0, c1, c2⟩ := three_of HB2.out.bx
    go_wp2_with fail
    refine (number_calls m r s _).mono ?_
    rintro e w3 ⟨⟨nk, nc, rfl, hnum⟩, k3⟩
    have HNUM := Lib.hid hnum
    have HB3 := Lib.hid (HB2.out.keep k3)
    clear hnum k3 HB2 c0 c1 c2
    go_wp2_with fail
    go_loopw [9] (fun i wr => ∃ j : Nat, j ≤ 12 ∧ i = .int .i64 j ∧ Hid (CgSt w wr w.heap.size m r s ∧ ∀ q, q < j → isCfg m r s q = false)) (fun i _ => 12 - (intOf i).toNat)
    case atStart => exact ⟨0, by omega, rfl, Lib.hid ⟨HB3.out, fun q hq => by omega⟩⟩
    case round =>
      clear HB3
      obtain ⟨j, hj, rfl, HS⟩ := hrel
      have HJ := Lib.hid HS.out.2
      have HM := Lib.hid HS.out.1
      clear HS
      by_cases hlt : j < 12
      · go_wp2_with fail
        go_region_held3 (fun w' => w'.cell? ⟨w.heap.size, 0, none⟩ = some (.int .i64 m) ∧ w'.cell? ⟨w.heap.size, 1, none⟩ = some (.int .i64 r) ∧ w'.cell? ⟨w.heap.size, 2, none⟩ = some (.int .i64 s)) (first | exact three_of (Hid.out HM).bx | exact three_of (Hid.out HM).drew.bx)
          (first
            | (go_at_call 20; refine (mode_calls _ j hlt).mono ?_; rintro e w' ⟨rfl, kk⟩; have hm := (by first | exact (Hid.out HM).keep kk | exact (Hid.out HM).drew.keep kk : CgSt w w' w.heap.size m r s); clear HM kk; have HM := Lib.hid hm; clear hm)
            | (go_at_call 21; refine (rate_calls _ j hlt).mono ?_; rintro e w' ⟨rfl, kk⟩; have hm := (by first | exact (Hid.out HM).keep kk | exact (Hid.out HM).drew.keep kk : CgSt w w' w.heap.size m r s); clear HM kk; have HM := Lib.hid hm; clear hm)
            | (go_at_call 22; refine (ms_keep _ j hlt).mono ?_; rintro e w' ⟨rfl, kk⟩; have hm := (by first | exact (Hid.out HM).keep kk | exact (Hid.out HM).drew.keep kk : CgSt w w' w.heap.size m r s); clear HM kk; have HM := Lib.hid hm; clear hm))
        have hsy := isCfg_symm m r s j
        rw [hsy]
        clear hsy
        cases hc : isCfg m r s j with
        | true =>
          obtain ⟨rfl, rfl⟩ := num_at HNUM.out hlt hc HJ.out
          clear hc
          go_wp2_with fail
          go_ret
          exact ⟨rfl, HM.out.kept⟩
        | false =>
          have HC := Lib.hid hc
          clear hc
          go_wp2_with fail
          go_roundw
          case rel => exact ⟨j + 1, by omega, by go_num, Lib.hid ⟨HM.out, fun q hq => by
            by_cases hqj : q < j
            · exact HJ.out q hqj
            · obtain rfl : q = j := by omega
              exact HC.out⟩⟩
          case measure => simp [intOf]; omega
      · obtain rfl : j = 12 := by omega
        obtain ⟨rfl, rfl⟩ := num_none HNUM.out HJ.out
        go_wp2_with fail
        go_ret
        exact ⟨rfl, HM.out.kept⟩
theorem open_cfg {H : Type} {enc : TypeId × Value → H} {W : World} {base : Nat} {v : Value} {d : DataW H} {ps : List MemPlace} (hv : Value.okWide Try.prog W .any base 31 v) (h : DataW.Trod enc Try.prog W 0 (fun _ => true) true 31 v d ps) :
    ∃ z : Int × Int × Int, v = .agg #[.int .i64 z.1, .int .i64 z.2.1, .int .i64 z.2.2] := by
  obtain ⟨cs, rfl, _⟩ := okWide_struct Try.underlying31 hv
  obtain ⟨fuel, hf⟩ := h
  obtain ⟨xs, n, _, _, hl, hlen, hf⟩ := DataW.trod_struct Try.underlying31 hf
  have c1 : Try.prog.cellsOf 3 = 1 := by kernel_rfl
  have c5 : Try.prog.cellsOf 31 = 3 := by kernel_rfl
  have hlen3 : xs.length = 3 := hlen
  have h0 := hf 0 _ rfl
  have h1 := hf 1 _ rfl
  have h2 := hf 2 _ rfl
  have hcs : (Value.agg cs).cells.toList = cs.toList := rfl
  replace h0 : DataW.trod enc Try.prog W 0 (fun _ => true) true n 3 ((cs.toList.drop 0).take (Try.prog.cellsOf 3)) = xs[0]? := h0
  replace h1 : DataW.trod enc Try.prog W 0 (fun _ => true) true n 3 ((cs.toList.drop 1).take (Try.prog.cellsOf 3)) = xs[1]? := h1
  replace h2 : DataW.trod enc Try.prog W 0 (fun _ => true) true n 3 ((cs.toList.drop 2).take (Try.prog.cellsOf 3)) = xs[2]? := h2
  rw [c1] at h0 h1 h2
  rw [List.getElem?_eq_getElem (by omega)] at h0 h1 h2
  rw [c5] at hl
  obtain ⟨a, e0, _, _⟩ := DataW.trod_int Try.underlying3 h0
  obtain ⟨b, e1, _, _⟩ := DataW.trod_int Try.underlying3 h1
  obtain ⟨c, e2, _, _⟩ := DataW.trod_int Try.underlying3 h2
  refine ⟨(a, b, c), ?_⟩
  obtain ⟨cs⟩ := cs
  have hl3 : cs.length = 3 := hl
  obtain ⟨x, y, z, rfl⟩ : ∃ x y z, cs = [x, y, z] := by
    match cs, hl3 with
    | [x, y, z], _ => exact ⟨x, y, z, rfl⟩
  simp at e0 e1 e2
  simp [e0, e1, e2]
theorem configs_row (n : Int) (v : Value) (z : Int × Int × Int) (w : World) (_ : (Lit.int .i64 n).wf = true) (h : v = .agg #[.int .i64 z.1, .int .i64 z.2.1, .int .i64 z.2.2]) :
    Calls Try.prog 6 #[.int .i64 n, v] w fun e w' => e = .returned (.bool true) ∧ Below w.heap.size w w' := by
  subst h
  exact (configs_walk n z.1 z.2.1 z.2.2 w).mono fun _ _ ⟨he, k⟩ => ⟨he, k.toBelow⟩
end Go.Proofs.Ytmnknegbbmjcbaa
