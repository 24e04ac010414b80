/- The three closures of emph: what each does to its filter. -/
import Derived.Test.YtddlkglpgkdgkaaFx
namespace Go.Proofs.Ytddlkglpgkdgkaa
open Go.RowKit

/-- A filter's cells. -/
def filt (up low : Int) (c : List Int) : Array Value := (.int .i64 up :: .int .i64 low :: ints c).toArray
theorem filt_0 (up low : Int) (c : List Int) : (filt up low c)[0]? = some (.int .i64 up) := by simp [filt]
theorem filt_1 (up low : Int) (c : List Int) : (filt up low c)[1]? = some (.int .i64 low) := by simp [filt]
theorem filt_set0 (up low v : Int) (c : List Int) : (filt up low c).setIfInBounds 0 (.int .i64 v) = filt v low c := by
  apply Array.ext'; simp [filt]
theorem filt_set1 (up low v : Int) (c : List Int) : (filt up low c).setIfInBounds 1 (.int .i64 v) = filt up v c := by
  apply Array.ext'; simp [filt]
theorem filt_c (up low : Int) (c : List Int) (k : Nat) : (filt up low c)[2 + k]? = (c[k]?).map (Value.int .i64) := by
  rw [Nat.add_comm]; simp [filt, ints]
theorem filt_c' (up low : Int) (c : List Int) (k : Nat) (h : k < c.length) : (filt up low c)[2 + k]? = some (.int .i64 (c.getD k 0)) := by
  rw [filt_c]; simp [h]

def Fil (w : World) (b : Nat) (up low : Int) (c : List Int) : Prop := Blk w b (filt up low c) 47
def RetFil (bf : Nat) (w : World) (r up low : Int) (c : List Int) (e : Ending) (w' : World) : Prop := e = .returned (.int .i64 r) ∧ Keep [bf] w w' ∧ Fil w' bf up low c

set_option maxHeartbeats 400000 in
theorem raise1_calls (v up low : Int) (c : List Int) (bf bx : Nat) (w : World) (hv : -16777216 ≤ v) (hv' : v ≤ 16777216) (hf : Fil w bf up low c)
    (hx : Blk w bx #[.pointer (some ⟨bf, 0, none⟩)] 23) :
    Calls Try.prog 26 #[.int .i64 v, .pointer (some ⟨bx, 0, none⟩)] w (RetFil bf w (keptI (v - mulS 27853 up 15)) v low c) := by
  have c0 := hf.cell 0
  rw [filt_0] at c0
  have f0 := hf.free 0
  have cx := hx.one
  have hm := mulS_bd15 27853 up (by omega) (by omega)
  obtain ⟨hm1, hm2⟩ := hm
  have hs := hf.set 0 (.int .i64 v)
  rw [filt_set0] at hs
  have HS := Lib.hid hs
  clear hf hx hs
  go_enter Try.func26, Try.ntmps26
  go_wp2_with fail
  refine (mul_calls _ _ 15 (by omega) (by omega) _).mono ?_; rintro e w' ⟨rfl, rfl⟩
  go_wp2_with fail
  refine (kept_calls _ _).mono ?_; rintro e w' ⟨rfl, rfl⟩
  go_wp2_with fail
  go_ret
  exact ⟨rfl, Keep.setb _ _ _ _, HS.out⟩

set_option maxHeartbeats 400000 in
theorem lower1_calls (v up low : Int) (c : List Int) (bf bx : Nat) (w : World) (hv : -16777216 ≤ v) (hv' : v ≤ 16777216) (hf : Fil w bf up low c)
    (hx : Blk w bx #[.pointer (some ⟨bf, 0, none⟩)] 23) :
    Calls Try.prog 27 #[.int .i64 v, .pointer (some ⟨bx, 0, none⟩)] w
      (RetFil bf w (keptI (v + mulS 27853 low 15)) up (keptI (v + mulS 27853 low 15)) c) := by
  have c0 := hf.cell 1
  rw [filt_1] at c0
  have f0 := hf.free 1
  have cx := hx.one
  have hm := mulS_bd15 27853 low (by omega) (by omega)
  obtain ⟨hm1, hm2⟩ := hm
  have hs := hf.drew.set 1 (.int .i64 (keptI (v + mulS 27853 low 15)))
  rw [filt_set1] at hs
  have HS := Lib.hid hs
  clear hf hx hs
  go_enter Try.func27, Try.ntmps27
  go_wp2_with fail
  go_still_tail 11, (by kernel_rfl)
  still_call (qs (mul_calls _ _ 15 (by omega) (by omega) _))
  repeat still_step
  still_call (qs (kept_calls _ _))
  repeat still_step
  refine wpStill_nil ?_
  change wpList _ _ _ _ _ w.drew
  go_wp2
  go_ret
  exact ⟨rfl, (Keep.drew _ _).trans (Keep.setb _ _ _ _), HS.out⟩

theorem comb_row (up low : Int) (c : List Int) (y : Int) (hc : c.length = 512) :
    (((filt up low c).toList.take 3 ++ (ints (c.take 511) ++ (filt up low c).toList.drop (3 + (ints (c.take 511)).length))).toArray.setIfInBounds 2 (.int .i64 y)) = filt up low (y :: c.take 511) := by
  apply Array.ext'
  obtain ⟨x, rest, rfl⟩ : ∃ x rest, c = x :: rest := by
    cases c with
    | nil => simp at hc
    | cons x rest => exact ⟨x, rest, rfl⟩
  simp only [List.length_cons] at hc
  have hl : rest.length = 511 := by omega
  simp [filt, ints, hl]

set_option maxHeartbeats 1000000 in
theorem comb1_calls (v g up low q : Int) (c : List Int) (lag : Nat) (bf bg bx bl : Nat) (w : World) (hv : -16777216 ≤ v) (hv' : v ≤ 16777216) (hg0 : 0 ≤ g) (hg1 : g ≤ 24576) (hl0 : 1 ≤ lag) (hl1 : lag ≤ 512) (hc : c.length = 512)
    (hq : c.getD (lag - 1) 0 = q) (hf : Fil w bf up low c)
    (hg : Blk w bg #[.int .i64 g] 2) (hx : Blk w bx #[.pointer (some ⟨bf, 0, none⟩)] 23) (hl : Blk w bl #[.int .i64 lag] 3) :
    Calls Try.prog 23 #[.int .i64 v, .pointer (some ⟨bg, 0, none⟩), .pointer (some ⟨bx, 0, none⟩), .pointer (some ⟨bl, 0, none⟩)] w
      (RetFil bf w (keptI (v + mulS g q 15)) up low (keptI (v + mulS g q 15) :: c.take 511)) := by
  have c1 := hf.cell (2 + (lag - 1))
  rw [filt_c' _ _ _ _ (by omega), hq] at c1
  clear hq
  have cx := hx.one
  have cg := hg.one
  have cl := hl.one
  have hm := mulS_bd15 g q (by omega) (by omega)
  obtain ⟨hm1, hm2⟩ := hm
  have hne : bx ≠ bf := hx.ne hf (by decide)
  have HF := Lib.hid hf
  have HX := Lib.hid hx
  have HC := Lib.hid hc
  clear hf hg hx hl hc
  go_enter Try.func23, Try.ntmps23
  go_wp2_with fail
  go_quiet ((first | exact qq (mul_calls _ _ 15 (by omega) (by omega) _) | exact qq (kept_calls _ _)))
  have cx1 : (w.drewN nq).cell? ⟨bx, 0, none⟩ = some (.pointer (some ⟨bf, 0, none⟩)) := cx
  have K1 := Lib.hid (Keep.drewN [bf] w nq)
  have HF1 := Lib.hid (show Fil (w.drewN nq) bf up low c from HF.out)
  have HX1 := Lib.hid (show Blk (w.drewN nq) bx #[.pointer (some ⟨bf, 0, none⟩)] 23 from HX.out)
  generalize w.drewN nq = w1 at *
  go_wp2_with fail
  go_still_tail 8, (by kernel_rfl)
  change wpList _ _ _ _ _ w1.drew
  have hf2 := HF1.out.drew
  refine wpList_copy_own rfl _ _ _ _ rfl 2 Try.underlying25 (by kernel_rfl) bf 3 511 511 ⟨bf, 2, none⟩ 512 512 rfl rfl _ _ hf2 (ints (c.take 511)) (by simp [ints, HC.out]) ?c1 (by simp [ints, filt, HC.out]) (ints_one _) ?_
  case c1 =>
    intro j v hj
    have hj' : j < 511 := by
      have := (List.getElem?_eq_some_iff.1 hj).1
      simp only [ints, List.length_map, List.length_take, HC.out] at this
      omega
    have : (⟨bf, 2, none⟩ : Addr).add j = ⟨bf, 2 + j, none⟩ := by unfold Addr.add; split <;> simp_all
    rw [this, hf2.cell, filt_c]
    rw [← hj]
    simp [ints, hj']
  have hb2 := hf2.row ((filt up low c).toList.take 3 ++ (ints (c.take 511) ++ (filt up low c).toList.drop (3 + (ints (c.take 511)).length))).toArray
  have k2 : Keep [bf] w (w1.drew.setRow bf ((filt up low c).toList.take 3 ++ (ints (c.take 511) ++ (filt up low c).toList.drop (3 + (ints (c.take 511)).length))).toArray) :=
    (K1.out.trans (Keep.drew _ _)).trans (Keep.row _ _ _)
  have hx2 := HX1.out.drew.keep (Keep.row w1.drew bf ((filt up low c).toList.take 3 ++ (ints (c.take 511) ++ (filt up low c).toList.drop (3 + (ints (c.take 511)).length))).toArray) (by simpa using hne)
  generalize w1.drew.setRow bf _ = w2 at *
  have cx2 := hx2.one
  have f2 := hb2.free 2
  have e2 : w2.cell? ⟨bf, 2, none⟩ = some ((((filt up low c).toList.take 3 ++ (ints (c.take 511) ++ (filt up low c).toList.drop (3 + (ints (c.take 511)).length))).toArray.getD 2 undef)) := by
    rw [hb2.cell]
    simp [filt, ints, HC.out]
  generalize Array.getD _ 2 undef = old at e2
  have hs := hb2.set 2 (.int .i64 (keptI (v + mulS g q 15)))
  rw [comb_row _ _ _ _ HC.out] at hs
  have HS := Lib.hid hs
  have K2 := Lib.hid k2
  clear hs k2 hx2 hb2 hf2
  go_wp2
  go_ret
  exact ⟨rfl, K2.out.trans (Keep.setb _ _ _ _), HS.out⟩
end Go.Proofs.Ytddlkglpgkdgkaa
