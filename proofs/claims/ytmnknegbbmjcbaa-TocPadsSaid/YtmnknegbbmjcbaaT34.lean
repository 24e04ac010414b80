/- The walk of TocRepacks. -/
import Derived.Test.YtmnknegbbmjcbaaT33
namespace Go.Proofs.Ytmnknegbbmjcbaa
open Go.RowKit

set_option maxRecDepth 100000
set_option maxHeartbeats 4000000
theorem repacks_walk (A : Option Addr) (n c : Nat) (xs : List Int) (w : World) (h : ArgB w A n c xs) :
    Calls Try.prog 7 #[.slice A n c] w (RetK w (.bool true)) := by
  have H := Lib.hid h
  have hn := h.ln
  have hcp := h.cp
  have hmo := h.most
  have hbg := h.big
  have HN := Lib.hid hn
  clear h hn
  go_enter Try.func7, Try.ntmps7
  go_wp2_with fail
  refine (awake_calls _).mono ?_
  rintro e w1 ⟨rfl, k1⟩
  have K1 := Lib.hid k1
  clear k1
  go_wp2_with fail
  refine (parse_calls A n c xs _ (H.out.keep0 K1.out)).mono ?_
  rintro e w3 ⟨k3, h3⟩
  cases hp : parseM xs with
  | none =>
    rw [hp] at h3
    have h3' : e = .returned (.tuple #[pkV 0 0 (.slice none 0 0) 0, .int .i64 3]) := h3
    subst h3'
    unfold pkV
    have K4 := Lib.hid ((K1.out.trans k3).trans (Keep.alloc [] w3 (.cells #[.int .i64 0, .int .i64 0, .slice none 0 0, .int .i64 0] 25)))
    clear k3 h3 hp
    go_wp2_with fail
    go_ret
    exact ⟨rfl, K4.out⟩
  | some p =>
    rw [hp] at h3
    obtain ⟨fv, rfl, hf⟩ := h3
    have hfit := parse_fit hp H.out.rng (by rw [HN.out]; omega)
    obtain ⟨FA, fc, rfl, hfr⟩ := hf.reads hfit
    have HP := Lib.hid hp
    have HFT := Lib.hid hfit
    obtain ⟨cfg, ch, L, pad⟩ := p
    obtain ⟨m, hm⟩ : ∃ m, m = L.length := ⟨_, rfl⟩
    dsimp only at hfr HFT ⊢
    rw [← hm] at hfr ⊢
    unfold pkV
    have ka := Keep.alloc [] w3 (.cells #[.int .i64 cfg, .int .i64 ch, .slice FA m fc, .int .i64 pad] 25)
    have HF4 := Lib.hid (hfr.keep0 ka)
    have K4 := Lib.hid (K1.out.trans (k3.trans ka))
    have HB4 : Hid (Blk (w3.alloc (.cells #[.int .i64 cfg, .int .i64 ch, .slice FA m fc, .int .i64 pad] 25)) w3.heap.size #[.int .i64 cfg, .int .i64 ch, .slice FA m fc, .int .i64 pad] 25) := Lib.hid (Blk.new w3 _ _)
    have HM := Lib.hid hm
    clear k3 ka hf hfr hfit hp hm K1
    by_cases hpd : 1000 < pad
    · go_wp2_with fail
      go_ret
      exact ⟨rfl, K4.out⟩
    · have hpd' : ¬ (1000 < (pad : Int)) := by omega
      obtain ⟨G, hsz⟩ := repack_ok HP.out (by dsimp only; omega) H.out.rng
      dsimp only at G hsz
      have HG := Lib.hid G
      have HSZ := Lib.hid hsz
      clear G hsz
      go_wp2_with (refine wpList_load_row rfl 25 _ rfl w3.heap.size rfl 25 _ (0, 0) _ HB4.out Try.underlying25 rfl (pk_size _ _ _ _ _ _) ?_)
      refine (pack_calls cfg ch pad FA m fc L _ HF4.out (good_iff HG.out)).mono ?_
      rintro e w5 ⟨v, rfl, m1, k5, _⟩
      obtain ⟨P, hP⟩ : ∃ P, P = packM cfg ch L pad := ⟨_, rfl⟩
      have hrng := pack_rng HG.out HFT.out
      have hlen := pack_len HG.out
      have hpar := parse_pack HG.out
      rw [← hP] at m1 hrng hlen hpar HSZ
      have HPAR := Lib.hid hpar
      obtain ⟨BA, bc, hbv, hba⟩ := m1.argB hrng (by omega)
      obtain ⟨bn, hbn⟩ : ∃ bn, bn = P.length := ⟨_, rfl⟩
      rw [← hbn] at hbv hba HSZ
      subst hbv
      have hle : bn ≤ n + 1 := by have := HSZ.out; rw [HN.out] at this; exact this
      have HA5 := Lib.hid hba
      have HB5 := Lib.hid (HB4.out.keep k5 (by simp))
      have HF5 := Lib.hid (HF4.out.keep0 k5)
      have K5 := Lib.hid (K4.out.trans k5)
      clear k5 HB4 HF4 K4 m1 hP hrng hlen hpar hba hbn
      go_wp2_with fail
      refine (parse_calls BA bn bc P _ HA5.out).mono ?_
      rintro e w6 ⟨k6, h6⟩
      rw [HPAR.out] at h6
      obtain ⟨gv, rfl, hg⟩ := h6
      obtain ⟨QA, qc, rfl, hq⟩ := hg.reads HFT.out
      dsimp only at hq ⊢
      rw [← HM.out] at hq ⊢
      have ka := Keep.alloc [] w6 (.cells #[.int .i64 cfg, .int .i64 ch, .slice QA m qc, .int .i64 pad] 25)
      have k7 := k6.trans ka
      have K7 := Lib.hid (K5.out.trans k7)
      have HB7 := Lib.hid (HB5.out.keep k7 (by simp))
      have HF7 := Lib.hid (HF5.out.keep0 k7)
      have HQ7 := Lib.hid (hq.keep0 ka)
      have HC7 : Hid (Blk (w6.alloc (.cells #[.int .i64 cfg, .int .i64 ch, .slice QA m qc, .int .i64 pad] 25)) w6.heap.size #[.int .i64 cfg, .int .i64 ch, .slice QA m qc, .int .i64 pad] 25) := Lib.hid (Blk.new w6 _ _)
      clear k6 ka k7 hg hq K5 HB5 HF5 HA5
      unfold pkV
      obtain ⟨b0, b1, b2, b3⟩ := HB7.out.four
      obtain ⟨c0, c1, c2, c3⟩ := HC7.out.four
      go_wp2_with fail
      refine (is_calls cfg ch pad QA FA m qc fc L _ HQ7.out HF7.out).mono ?_
      rintro e w8 ⟨rfl, k8⟩
      have K8 := Lib.hid (K7.out.trans k8)
      clear k8 b0 b1 b2 b3 c0 c1 c2 c3
      have hle2 : (bn : Int) ≤ (n : Int) + 1 := by omega
      go_wp2_with fail
      go_ret
      exact ⟨rfl, K8.out⟩
theorem repacks_row' (A : Option Addr) (n c : Nat) (zs : List Int) (w : World) (h : IsRow .u8 w A n c zs) (y : n * 1 ≤ 140737488351232) :
    Calls Try.prog 7 #[.slice A n c] w fun e w' => e = .returned (.bool true) ∧ Below w.heap.size w w' :=
  (repacks_walk A n c _ w (h.argB y)).mono fun _ _ ⟨he, k⟩ => ⟨he, k.toBelow⟩
end Go.Proofs.Ytmnknegbbmjcbaa
