/- SynthSilence. -/
import Derived.Test.YtjhgbcgpkpahjaaS10
namespace Go.Proofs.Ytjhgbcgpkpahjaa
open Go.RowKit

theorem fac_0 : fac 0 = 0 := by decide +kernel
theorem mulS_07 (a : Int) : mulS a 0 7 = 0 := by unfold mulS; rw [fac_0, Int.mul_zero]; decide
theorem mulS_012 (a : Int) : mulS a 0 12 = 0 := by unfold mulS; rw [fac_0, Int.mul_zero]; decide
theorem zeros_getD (n j : Nat) : (List.replicate n (0 : Int)).getD j 0 = 0 := by
  simp only [List.getD_eq_getElem?_getD, List.getElem?_replicate]
  split <;> rfl
theorem wrap64_0 : wrap64 0 = 0 := by unfold wrap64; omega
theorem tapSum_0 (taps : List Int) (m base n : Nat) : tapSum taps (List.replicate m 0) base 0 n = 0 := by
  induction n with
  | zero => rfl
  | succ n ih => rw [tapSum_succ, ih, tapF, zeros_getD, mulS_07]; exact wrap64_0
theorem filSum_0 (fs : List Int) (m n : Nat) : filSum fs (List.replicate m 0) 0 n = 0 := by
  induction n with
  | zero => rfl
  | succ n ih => rw [filSum_succ, ih, filF, zeros_getD, mulS_012]; exact wrap64_0
theorem zero_step : (keptI 0, (⟨0 :: (List.replicate 320 (0 : Int)).take 319, keptI 0 :: (List.replicate 32 (0 : Int)).take 31⟩ : Vc)) = (0, newV) := by kernel_rfl
theorem stepV_0 (loud lag : Int) (taps fs : List Int) : stepV loud lag taps fs newV 0 = (0, newV) := by
  have h1 : exR loud lag taps newV.r 0 = 0 := by
    unfold exR
    rw [Int.zero_mul, wrap64_0, show newV.r = List.replicate 320 0 from rfl, tapSum_0]
    split <;> decide
  unfold stepV
  rw [h1, show newV.o = List.replicate 32 0 from rfl, filSum_0, show newV.r = List.replicate 320 0 from rfl]
  exact zero_step
theorem silent (loud lag : Int) (taps fs : List Int) (n : Nat) : mapS (stepV loud lag taps fs) newV (List.replicate n 0) = (List.replicate n 0, newV) := by
  induction n with
  | zero => rfl
  | succ n ih => rw [List.replicate_succ, mapS, stepV_0, ih]
def silP (a n : Nat) (B : Option Addr) (m d : Nat) (fs : List Int) : PartA := ⟨some ⟨a, 0, none⟩, n, n, List.replicate n 0, 5, 20, 9, 9, 9, 9, 9, B, m, d, fs⟩
theorem silP_is {w w0 : World} {n : Nat} {B : Option Addr} {m d : Nat} {fs : List Int} (hn : n ≤ 1000000) (h : ArgI w0 B m d fs) (k : Keep [] w0 w) :
    IsPart (w.alloc (.cells (ints (List.replicate n 0)).toArray 2)) (silP w.heap.size n B m d fs) := by
  have h1 := ArgI.lit w (List.replicate n 0) (by simpa using hn)
  rw [List.length_replicate] at h1
  exact ⟨h1, h.keep0 (k.trans (Keep.alloc [] _ _))⟩
set_option maxRecDepth 100000 in
set_option maxHeartbeats 2000000 in
theorem silence_walk (A : Option Addr) (n c : Nat) (l : List PartA) (q : Int) (B : Option Addr) (m d : Nat) (fs : List Int) (w : World) (ha : Parts w A n c l) (hb : ArgI w B m d fs) :
    Calls Try.prog 6 #[.slice A n c, .int .i64 q, .slice B m d] w (RetKept w (.bool true)) := by
  have HA := Lib.hid ha
  have HBF := Lib.hid hb
  have hm := ha.most
  have hnc := ha.cp
  have hm2 := hb.most
  have hnc2 := hb.cp
  clear ha hb
  by_cases hgood : n ≤ 5 ∧ 1 ≤ q ∧ q ≤ 100 ∧ m ≤ 32
  · obtain ⟨hg1, hg2, hg3, hg4⟩ := hgood
    obtain ⟨z, rfl⟩ := Int.eq_ofNat_of_zero_le (show 0 ≤ q by omega)
    have hmk := make_ints z (by omega)
    go_enter Try.func6, Try.ntmps6
    go_wp2_with fail
    refine (awake_calls _).mono ?_
    rintro e w0 ⟨rfl, k0⟩
    have H0 := Lib.hid k0
    clear k0
    go_wp2_with fail
    refine (new_calls _).mono ?_
    rintro e w1 ⟨f, f1, rfl, f2, f3⟩
    have H1 : Hid (BdSt w w1 f newV) := Lib.hid ⟨H0.out.trans f2, by have := H0.out.size; omega, f3⟩
    clear f1 f2 f3 H0
    go_wp2_with fail
    go_loopw [8] (fun i wr => ∃ (k : Nat) (s : Vc), k ≤ n ∧ i = .int .i64 k ∧ BdSt w wr f s) (fun i _ => n - (intOf i).toNat)
    case atStart => exact ⟨0, _, Nat.zero_le _, rfl, H1.out⟩
    case round =>
      obtain ⟨k, s, hk, rfl, HS⟩ := hrel
      have HS := Lib.hid HS
      by_cases hlt : k < n
      · obtain ⟨p, hp⟩ : ∃ p, l[k]? = some p := ⟨_, List.getElem?_eq_getElem (by rw [HA.out.ln]; exact hlt)⟩
        obtain ⟨a, rfl, hca, hax⟩ := HA.out.at_ k p hp
        have HCW : Hid (∀ j v, p.list[j]? = some v → wr.cell? ((a.add (k * 9)).add j) = some v) := Lib.hid (fun j v hv => HS.out.kept.cell (hca j v hv) (by simp))
        have HX := Lib.hid hax
        clear hca hax hp hmk
        go_wp2_with (refine wpList_load_agg rfl 31 _ rfl (a.add (k * 9)) rfl _ HCW.out _ Try.underlying31 rfl (by kernel_rfl) ?_)
        refine (run_any f s p _ (HX.out.keep0 HS.out.kept) HS.out.vc (fun x hx h0 => by have := HX.out.pul.old x hx h0; have := HS.out.of; omega) (fun x hx h0 => by have := HX.out.fil.old x hx h0; have := HS.out.of; omega)).mono ?_
        rintro e w2 ⟨Ay, cy, code, s', ys, rfl, hran⟩
        have HS2 := Lib.hid (HS.out.ran hran)
        clear hran
        go_wp2_with fail
        go_roundw
        case rel => exact ⟨k + 1, s', by omega, by go_num, HS2.out⟩
        case measure => simp [intOf]; omega
      · go_wp2_with fail
        refine (reset_calls f s _ HS.out.vc).mono ?_
        rintro e w4 ⟨rfl, r1, r2⟩
        have H4 : Hid (BdSt w w4 f newV) := Lib.hid ⟨HS.out.kept.trans' r1 (by simp) (by simpa using HS.out.of), HS.out.of, r2⟩
        clear r1 r2 HS
        go_wp2_with fail
        refine (new_calls _).mono ?_
        rintro e w5 ⟨g, n1, rfl, n2, n3⟩
        have H5 := Lib.hid (H4.out.keep n2)
        have HN5 := Lib.hid n3
        clear n1 n2 n3 H4
        go_wp2_with fail
        refine (same_calls f g newV newV _ H5.out.vc HN5.out).mono ?_
        rintro e w6 ⟨rfl, k6⟩
        rw [decide_eq_true (rfl : newV = newV)]
        have H6 := Lib.hid (H5.out.keep k6)
        clear k6 H5 HN5
        go_wp2_with fail
        have HP := Lib.hid (silP_is (n := z) (by omega) HBF.out H6.out.kept)
        have H7 := Lib.hid (H6.out.keep (Keep.alloc [] w6 (.cells (ints (List.replicate z 0)).toArray 2)))
        have HLT := Lib.hid H6.out.vc.lt
        have HO := Lib.hid (fun x (hx : B = some x) (h0 : 0 < m) => HBF.out.old x hx h0)
        have HOF := Lib.hid H6.out.of
        clear H6
        cases hgd : goodB (silP w6.heap.size z B m d fs) with
        | false =>
          have HGD := Lib.hid hgd
          clear hgd
          refine (run_bad f _ _ HP.out HGD.out).mono ?_
          rintro e w8 ⟨rfl, k8⟩
          have H8 := Lib.hid (H7.out.keep k8)
          clear k8
          go_wp2_with fail
          go_ret
          exact ⟨rfl, H8.out.kept⟩
        | true =>
          have HGD := Lib.hid hgd
          clear hgd
          refine (run_calls f newV _ _ HP.out HGD.out H7.out.vc (by rintro a ⟨⟩ _; have := HLT.out; simp; omega) (fun x hx h0 => by have := HO.out x hx h0; have := HOF.out; omega)).mono ?_
          rintro e w8 ⟨v, rfl, h1, h2, h3, h4⟩
          have H8 : Hid (Keep [] w w8) := Lib.hid (H7.out.kept.trans' h1 (by simp) (by simpa using H7.out.of))
          have h3' : Made w8 v (mapS (stepV 5 20 [9, 9, 9, 9, 9] fs) newV (List.replicate z 0)).1 := h3
          rw [silent] at h3'
          have H9 := Lib.hid h3'
          clear h1 h2 h3 h3' h4
          go_wp2_with fail
          have hml := made_lit w8 (List.replicate z 0) (by simp; omega)
          rw [List.length_replicate] at hml
          have HML := Lib.hid hml
          clear hml
          refine (lsame_mm _ _ (List.replicate z 0) (List.replicate z 0) _ true (by simp; omega) (by simp; omega) (H9.out.keep (Keep.alloc [] _ _) (by simp)) HML.out (by simp)).mono ?_
          rintro e w9 ⟨rfl, k9⟩
          have H10 := Lib.hid (H8.out.trans ((Keep.alloc [] _ _).trans k9))
          clear k9
          go_wp2_with fail
          go_ret
          exact ⟨rfl, H10.out⟩
  · go_enter Try.func6, Try.ntmps6
    go_wp2_with fail
    refine (awake_calls _).mono ?_
    rintro e w0 ⟨rfl, k0⟩
    have H0 := Lib.hid k0
    clear k0
    go_wp2_with fail
    all_goals first
      | (exfalso; omega)
      | (go_ret; exact ⟨rfl, H0.out⟩)
theorem silence_row (A : Option Addr) (n c : Nat) (l : List PartA) (q : Int) (B : Option Addr) (m d : Nat) (zs : List Int) (w : World) (h : Parts w A n c l) (_ : (Lit.int .i64 q).wf = true) (h2 : IsRow .i64 w B m d zs) (_ : m * 8 ≤ 140737488351232) :
    Calls Try.prog 6 #[.slice A n c, .int .i64 q, .slice B m d] w fun e w' => e = .returned (.bool true) ∧ Below w.heap.size w w' :=
  (silence_walk A n c l q B m d _ w h h2.arg).mono fun _ _ ⟨he, k⟩ => ⟨he, k.toBelow⟩
end Go.Proofs.Ytjhgbcgpkpahjaa
