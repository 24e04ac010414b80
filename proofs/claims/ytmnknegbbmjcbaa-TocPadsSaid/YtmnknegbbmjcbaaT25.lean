/- The walk of TocParses. -/
import Derived.Test.YtmnknegbbmjcbaaT24
import Derived.Test.YtmnknegbbmjcbaaT19
namespace Go.Proofs.Ytmnknegbbmjcbaa
open Go.RowKit

theorem parse_fit {xs : List Int} {p : Pk} (h : parseM xs = some p) (hr : ∀ x ∈ xs, 0 ≤ x ∧ x ≤ 255) (hb : xs.length ≤ 140737488355328) : Fit p.fr := by
  cases xs with
  | nil => cases h
  | cons x r =>
    rw [parseM_cons] at h
    split at h
    · cases h
    · split at h
      · cases h
      · simp only [Option.some.injEq] at h
        subst h
        exact (sub_found r x).fit (fun y hy => hr y (by simp [hy])) (by simp only [List.length_cons] at hb; omega)
set_option maxHeartbeats 4000000
theorem parses_walk (A : Option Addr) (n c : Nat) (xs : List Int) (w : World) (h : ArgB w A n c xs) :
    Calls Try.prog 4 #[.slice A n c] w (RetK w (.bool true)) := by
  have H := Lib.hid h
  have hn := h.ln
  have hcp := h.cp
  have hmo := h.most
  have hbg := h.big
  have HN := Lib.hid hn
  clear h hn
  go_enter Try.func4, Try.ntmps4
  go_wp2_with fail
  refine (awake_calls _).mono ?_
  rintro e w1 ⟨rfl, k1⟩
  have K1 := Lib.hid k1
  clear k1
  have HA1 := Lib.hid (H.out.keep0 K1.out)
  have HML : Hid (MadeV (w1.alloc (.cells #[] 5)) 5 (.slice (some ⟨w1.heap.size, 0, none⟩) 0 0) []) := Lib.hid (MadeV.lit w1 5 [] (by simp))
  have HR1 : Hid (RdV (w1.alloc (.cells #[] 5)) A (bytes xs)) := Lib.hid (HA1.out.reads.keep0 (Keep.alloc [] _ _))
  have HLB : Hid ((bytes xs).length = n) := Lib.hid (by rw [bytes_length]; exact HN.out)
  go_wp2_with (at_builtin; refine append_v slB (by first | rfl | kernel_rfl) _ _ rfl _ [] rfl HML.out _ _ _ (bytes xs) rfl HLB.out HR1.out (bytes_one _) (by simp; omega) (by simp; omega) (fun hA => H.out.nil hA) ?_)
  intro v' w2 m1 m2 m3
  change MadeV w2 _ v' (bytes xs) at m1
  obtain ⟨MA, mc, hv', hma⟩ := m1.argB H.out.rng (by rw [HN.out]; omega)
  rw [HN.out] at hv' hma
  subst hv'
  have k2 : Keep [] w1 w2 := (Keep.alloc [] w1 _).trans' m2 (by simp) (by simp [Value.ownBlock])
  have HMA := Lib.hid hma
  have K2 := Lib.hid (K1.out.trans k2)
  have HA2 := Lib.hid (HA1.out.keep0 k2)
  clear m1 m2 m3 k2 hma HML HR1 HLB HA1 K1
  go_wp2_with fail
  refine (parse_calls MA n mc xs _ HMA.out).mono ?_
  rintro e w3 ⟨k3, h3⟩
  cases hp : parseM xs with
  | none =>
    rw [hp] at h3
    have h3' : e = .returned (.tuple #[pkV 0 0 (.slice none 0 0) 0, .int .i64 3]) := h3
    subst h3'
    unfold pkV
    have HP := Lib.hid hp
    have k4 := k3.trans (Keep.alloc [] w3 (.cells #[.int .i64 0, .int .i64 0, .slice none 0 0, .int .i64 0] 25))
    have K4 := Lib.hid (K2.out.trans k4)
    have HA4 := Lib.hid (HA2.out.keep0 k4)
    have HB4 := Lib.hid (Blk.new w3 #[.int .i64 0, .int .i64 0, .slice none 0 0, .int .i64 0] 25)
    clear k3 k4 h3 hp
    go_wp2_with fail
    refine (rparse_calls A n c xs _ HA4.out).mono ?_
    rintro e w5 ⟨k5, h5⟩
    rw [HP.out] at h5
    have h5' : e = .returned (.tuple #[pkV 0 0 (.slice none 0 0) 0, .bool false]) := h5
    subst h5'
    unfold pkV
    have k6 := k5.trans (Keep.alloc [] w5 (.cells #[.int .i64 0, .int .i64 0, .slice none 0 0, .int .i64 0] 39))
    have K6 := Lib.hid (K4.out.trans k6)
    have HB6 := Lib.hid (HB4.out.keep k6 (by simp))
    clear k5 k6 h5
    have b0 : (w5.alloc (.cells #[.int .i64 0, .int .i64 0, .slice none 0 0, .int .i64 0] 39)).cell? ⟨w3.heap.size, 0, none⟩ = some (.int .i64 0) := HB6.out.cell 0
    have b1 : (w5.alloc (.cells #[.int .i64 0, .int .i64 0, .slice none 0 0, .int .i64 0] 39)).cell? ⟨w3.heap.size, 1, none⟩ = some (.int .i64 0) := HB6.out.cell 1
    have b2 : (w5.alloc (.cells #[.int .i64 0, .int .i64 0, .slice none 0 0, .int .i64 0] 39)).cell? ⟨w3.heap.size, 2, none⟩ = some (.slice none 0 0) := HB6.out.cell 2
    have b3 : (w5.alloc (.cells #[.int .i64 0, .int .i64 0, .slice none 0 0, .int .i64 0] 39)).cell? ⟨w3.heap.size, 3, none⟩ = some (.int .i64 0) := HB6.out.cell 3
    go_wp2_with fail
    refine (is_calls 0 0 0 none none 0 0 0 [] _ (FrR.empty _) (FrR.empty _)).mono ?_
    rintro e w7 ⟨rfl, k7⟩
    have K7 := Lib.hid (K6.out.trans k7)
    clear k7
    go_wp2_with fail
    go_ret
    exact ⟨rfl, K7.out⟩
  | some p =>
    rw [hp] at h3
    obtain ⟨fv, rfl, hf⟩ := h3
    have hfit := parse_fit hp H.out.rng (by rw [HN.out]; omega)
    obtain ⟨FA, fc, rfl, hfr⟩ := hf.reads hfit
    have HP := Lib.hid hp
    have HFT := Lib.hid hfit
    obtain ⟨m, hm⟩ : ∃ m, m = p.fr.length := ⟨_, rfl⟩
    rw [← hm] at hfr ⊢
    unfold pkV
    have k4 := k3.trans (Keep.alloc [] w3 (.cells #[.int .i64 p.cfg, .int .i64 p.ch, .slice FA m fc, .int .i64 p.pad] 25))
    have HF4 := Lib.hid (hfr.keep0 (Keep.alloc [] w3 (.cells #[.int .i64 p.cfg, .int .i64 p.ch, .slice FA m fc, .int .i64 p.pad] 25)))
    have K4 := Lib.hid (K2.out.trans k4)
    have HA4 := Lib.hid (HA2.out.keep0 k4)
    have HB4 := Lib.hid (Blk.new w3 #[.int .i64 p.cfg, .int .i64 p.ch, .slice FA m fc, .int .i64 p.pad] 25)
    have HM := Lib.hid hm
    clear k3 k4 hf hfr hfit hp hm
    go_wp2_with fail
    refine (rparse_calls A n c xs _ HA4.out).mono ?_
    rintro e w5 ⟨k5, h5⟩
    rw [HP.out] at h5
    obtain ⟨gv, rfl, hg⟩ := h5
    obtain ⟨GA, gc, rfl, hgr⟩ := hg.reads HFT.out
    rw [← HM.out] at hgr ⊢
    unfold pkV
    have ka := Keep.alloc [] w5 (.cells #[.int .i64 p.cfg, .int .i64 p.ch, .slice GA m gc, .int .i64 p.pad] 39)
    have k6 := k5.trans ka
    have HG6 := Lib.hid (hgr.keep0 ka)
    have HF6 := Lib.hid (HF4.out.keep0 k6)
    have K6 := Lib.hid (K4.out.trans k6)
    have HB6 := Lib.hid (HB4.out.keep k6 (by simp))
    have HC6 := Lib.hid (Blk.new w5 #[.int .i64 p.cfg, .int .i64 p.ch, .slice GA m gc, .int .i64 p.pad] 39)
    clear k5 k6 ka hg hgr
    have b0 : (w5.alloc (.cells #[.int .i64 p.cfg, .int .i64 p.ch, .slice GA m gc, .int .i64 p.pad] 39)).cell? ⟨w3.heap.size, 0, none⟩ = some (.int .i64 p.cfg) := HB6.out.cell 0
    have b1 : (w5.alloc (.cells #[.int .i64 p.cfg, .int .i64 p.ch, .slice GA m gc, .int .i64 p.pad] 39)).cell? ⟨w3.heap.size, 1, none⟩ = some (.int .i64 p.ch) := HB6.out.cell 1
    have b2 : (w5.alloc (.cells #[.int .i64 p.cfg, .int .i64 p.ch, .slice GA m gc, .int .i64 p.pad] 39)).cell? ⟨w3.heap.size, 2, none⟩ = some (.slice FA m fc) := HB6.out.cell 2
    have b3 : (w5.alloc (.cells #[.int .i64 p.cfg, .int .i64 p.ch, .slice GA m gc, .int .i64 p.pad] 39)).cell? ⟨w3.heap.size, 3, none⟩ = some (.int .i64 p.pad) := HB6.out.cell 3
    have c0 : (w5.alloc (.cells #[.int .i64 p.cfg, .int .i64 p.ch, .slice GA m gc, .int .i64 p.pad] 39)).cell? ⟨w5.heap.size, 0, none⟩ = some (.int .i64 p.cfg) := HC6.out.cell 0
    have c1 : (w5.alloc (.cells #[.int .i64 p.cfg, .int .i64 p.ch, .slice GA m gc, .int .i64 p.pad] 39)).cell? ⟨w5.heap.size, 1, none⟩ = some (.int .i64 p.ch) := HC6.out.cell 1
    have c2 : (w5.alloc (.cells #[.int .i64 p.cfg, .int .i64 p.ch, .slice GA m gc, .int .i64 p.pad] 39)).cell? ⟨w5.heap.size, 2, none⟩ = some (.slice GA m gc) := HC6.out.cell 2
    have c3 : (w5.alloc (.cells #[.int .i64 p.cfg, .int .i64 p.ch, .slice GA m gc, .int .i64 p.pad] 39)).cell? ⟨w5.heap.size, 3, none⟩ = some (.int .i64 p.pad) := HC6.out.cell 3
    go_wp2_with fail
    refine (is_calls p.cfg p.ch p.pad FA GA m fc gc p.fr _ HF6.out HG6.out).mono ?_
    rintro e w7 ⟨rfl, k7⟩
    have K7 := Lib.hid (K6.out.trans k7)
    clear k7
    go_wp2_with fail
    go_ret
    exact ⟨rfl, K7.out⟩
theorem parses_row (A : Option Addr) (n c : Nat) (xs : List Int) (w : World) (h : ArgB w A n c xs) :
    Calls Try.prog 4 #[.slice A n c] w fun e w' => e = .returned (.bool true) ∧ Below w.heap.size w w' :=
  (parses_walk A n c xs w h).mono fun _ _ ⟨he, k⟩ => ⟨he, k.toBelow⟩
theorem parses_row' (A : Option Addr) (n c : Nat) (zs : List Int) (w : World) (h : IsRow .u8 w A n c zs) (y : n * 1 ≤ 140737488351232) :
    Calls Try.prog 4 #[.slice A n c] w fun e w' => e = .returned (.bool true) ∧ Below w.heap.size w w' := parses_row A n c _ w (h.argB y)
end Go.Proofs.Ytmnknegbbmjcbaa
