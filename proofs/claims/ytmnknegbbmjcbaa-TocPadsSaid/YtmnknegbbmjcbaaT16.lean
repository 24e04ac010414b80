/- The reference's taker: one, length, some. -/
import Derived.Test.YtmnknegbbmjcbaaT13
namespace Go.Proofs.Ytmnknegbbmjcbaa
open Go.RowKit

set_option maxHeartbeats 2000000
theorem one_calls (w0 w : World) (g : Nat) (xs : List Int) (bad : Bool) (h : Rdr 64 w0 w g xs bad) :
    Calls Try.prog 33 #[.pointer (some ⟨g, 0, none⟩)] w (RetR 64 w0 w g (byteM xs bad)) := by
  obtain ⟨A, n, c, hb, ha⟩ := h.at_
  have HK := Lib.hid h.kept
  have HG := Lib.hid h.og
  have HB := Lib.hid hb
  have HA := Lib.hid ha
  have c0 : w.cell? ⟨g, 0, none⟩ = some (.slice A n c) := hb.cell 0
  have c1 : w.cell? ⟨g, 1, none⟩ = some (.bool bad) := hb.cell 1
  have f0 := hb.free 0
  have f1 := hb.free 1
  cases xs with
  | nil =>
    have hn := ha.ln
    simp only [List.length_nil] at hn
    subst hn
    clear ha hb h
    go_enter Try.func33, Try.ntmps33
    go_wp2_with fail
    go_ret
    exact ⟨rfl, Rdr.store HK.out HG.out HB.out (A' := A) (n' := 0) (c' := c) (bad' := true) rfl HA.out, Keep.setb _ _ _ _⟩
  | cons x xs =>
    have hn := ha.ln
    simp only [List.length_cons] at hn
    have hcp := ha.cp
    have hmo := ha.most
    obtain ⟨hx0, hx1⟩ := rng_of ha
    obtain ⟨a, rfl, hca⟩ := ha.reads 0 (.int .u8 x) rfl
    rw [Addr.add_zero'] at hca
    have hcw := h.kept.cell hca (by simp)
    obtain ⟨A', hcf, hrf, hbf, hnf⟩ := cut_from_v slB (some a) n c 1 (by omega) hcp
    have HF : Hid (ArgB w0 A' (n - 1) (c - 1) xs) := Lib.hid (ha.from_ (by omega : 1 ≤ n) hrf hbf hnf)
    have hcf' : ∀ W : World, (Instr.slice 29 (.slice (some a) n c) (some (.int .i64 1)) none none).run Try.prog W = .ok (.slice A' (n - 1) (c - 1)) W := hcf
    clear ha hb h hca hrf hbf hnf hcf
    have h0 : (0 : Int) < (n : Int) := by omega
    have h1 : n ≠ 0 := by omega
    clear hn
    go_enter Try.func33, Try.ntmps33
    go_wp2_with fail
    go_ret
    exact ⟨rfl, Rdr.store HK.out HG.out HB.out (A' := A') (n' := n - 1) (c' := c - 1) (bad' := bad) rfl HF.out, Keep.setb _ _ _ _⟩
/-- The reference's length also looks whether so many are left. -/
def rlenM (xs : List Int) (bad : Bool) : Int × List Int × Bool :=
  ((lenM xs bad).1, (lenM xs bad).2.1, (lenM xs bad).2.2 || decide (((lenM xs bad).2.1.length : Int) < (lenM xs bad).1))
theorem rlength_tail (w0 w w1 : World) (g : Nat) (xs : List Int) (bad : Bool) (x : Int) (ys : List Int) (b : Bool) (e : lenM xs bad = (x, ys, b)) (h : Rdr 64 w0 w1 g ys b) (k : Keep [g] w w1) (hx : (ys.length : Int) < x) :
    Rdr 64 w0 (w1.setCell ⟨g, 1, none⟩ (.bool true)) g (rlenM xs bad).2.1 (rlenM xs bad).2.2 ∧ Keep [g] w (w1.setCell ⟨g, 1, none⟩ (.bool true)) := by
  obtain ⟨A, n, c, hb, ha⟩ := h.at_
  unfold rlenM
  rw [e]
  dsimp only
  rw [decide_eq_true hx, Bool.or_true]
  exact ⟨Rdr.store h.kept h.og hb (A' := A) (n' := n) (c' := c) (bad' := true) rfl ha, k.trans (Keep.setb _ _ _ _)⟩
theorem rlength_calls (w0 w : World) (g : Nat) (xs : List Int) (bad : Bool) (h : Rdr 64 w0 w g xs bad) :
    Calls Try.prog 35 #[.pointer (some ⟨g, 0, none⟩)] w (RetR 64 w0 w g (rlenM xs bad)) := by
  go_enter Try.func35, Try.ntmps35
  go_wp2_with fail
  refine (one_calls w0 w g xs bad h).mono ?_
  rintro e w1 ⟨rfl, h1, k1⟩
  obtain ⟨hb0, hb1⟩ := byteM_rng h
  obtain ⟨r, hr⟩ : ∃ r, r = byteM xs bad := ⟨_, rfl⟩
  rw [← hr] at h1 hb0 hb1 ⊢
  have HR := Lib.hid hr
  have H1 := Lib.hid h1
  have K1 := Lib.hid k1
  clear h hr h1 k1
  obtain ⟨x, ys, b⟩ := r
  dsimp only at hb0 hb1 H1
  by_cases hx : 251 < x
  · have hx2 : 252 ≤ x := by omega
    go_wp2_with fail
    refine (one_calls w0 w1 g ys b H1.out).mono ?_
    rintro e w2 ⟨rfl, h2, k2⟩
    obtain ⟨hc0, hc1⟩ := byteM_rng H1.out
    obtain ⟨r2, hr2⟩ : ∃ r2, r2 = byteM ys b := ⟨_, rfl⟩
    rw [← hr2] at h2 hc0 hc1 ⊢
    have HR2 := Lib.hid hr2
    have H2 := Lib.hid h2
    have K2 := Lib.hid (K1.out.trans k2)
    clear hr2 h2 k2
    obtain ⟨x2, ys2, b2⟩ := r2
    dsimp only at hc0 hc1 H2
    have e : lenM xs bad = (x + 4 * x2, ys2, b2) := by
      unfold lenM
      rw [← HR.out]
      dsimp only
      rw [if_pos hx, ← HR2.out]
    have E := Lib.hid e
    obtain ⟨y, hy⟩ : ∃ y, y = x + 4 * x2 := ⟨_, rfl⟩
    rw [← hy] at E
    have e1 : IntKind.i64.wrap (4 * x2) = 4 * x2 := IntWalk.i64_in _ (by omega)
    have e2 : IntKind.i64.wrap (x + 4 * x2) = y := by rw [← hy]; exact IntWalk.i64_in _ (by omega)
    have e3 : wrap64 (4 * x2) = 4 * x2 := by rw [← wrapEq']; exact e1
    have e4 : wrap64 (x + 4 * x2) = y := by rw [← wrapEq']; exact e2
    clear e hy
    obtain ⟨ZA, zc, z0, z1, zf0, zf1, hzc, hzb⟩ := H2.out.c0
    obtain ⟨zn, hzn⟩ : ∃ zn, zn = ys2.length := ⟨_, rfl⟩
    rw [← hzn] at z0 hzc hzb
    have HZ := Lib.hid hzn
    clear hzn
    by_cases hl : (zn : Int) < y
    · have HT := Lib.hid (rlength_tail w0 w _ g xs bad y ys2 b2 E.out H2.out K2.out (by rw [← HZ.out]; exact hl))
      go_wp2_with fail
      go_ret
      exact ⟨by unfold rlenM; rw [E.out]; rfl, HT.out.1, HT.out.2⟩
    · have er : rlenM xs bad = (y, ys2, b2) := by
        unfold rlenM
        rw [E.out]
        dsimp only
        rw [← HZ.out, decide_eq_false hl, Bool.or_false]
      have ER := Lib.hid er
      clear er
      go_wp2_with fail
      go_ret
      rw [ER.out]
      exact ⟨rfl, H2.out, K2.out⟩
  · have hx2 : ¬ 252 ≤ x := by omega
    have e : lenM xs bad = (x, ys, b) := by
      unfold lenM
      rw [← HR.out]
      dsimp only
      rw [if_neg hx]
    have E := Lib.hid e
    clear e
    obtain ⟨ZA, zc, z0, z1, zf0, zf1, hzc, hzb⟩ := H1.out.c0
    obtain ⟨zn, hzn⟩ : ∃ zn, zn = ys.length := ⟨_, rfl⟩
    rw [← hzn] at z0 hzc hzb
    have HZ := Lib.hid hzn
    clear hzn
    by_cases hl : (zn : Int) < x
    · have HT := Lib.hid (rlength_tail w0 w _ g xs bad x ys b E.out H1.out K1.out (by rw [← HZ.out]; exact hl))
      go_wp2_with fail
      go_ret
      exact ⟨by unfold rlenM; rw [E.out]; rfl, HT.out.1, HT.out.2⟩
    · have er : rlenM xs bad = (x, ys, b) := by
        unfold rlenM
        rw [E.out]
        dsimp only
        rw [← HZ.out, decide_eq_false hl, Bool.or_false]
      have ER := Lib.hid er
      clear er
      go_wp2_with fail
      go_ret
      rw [ER.out]
      exact ⟨rfl, H1.out, K1.out⟩
theorem some_calls (w0 w : World) (g m : Nat) (xs : List Int) (bad : Bool) (h : Rdr 64 w0 w g xs bad) :
    Calls Try.prog 34 #[.pointer (some ⟨g, 0, none⟩), .int .i64 m] w (RetF 64 w0 w g (frameM m xs bad)) := by
  obtain ⟨A, n, c, hb, ha⟩ := h.at_
  have HK := Lib.hid h.kept
  have HG := Lib.hid h.og
  have HB := Lib.hid hb
  have HA := Lib.hid ha
  have c0 : w.cell? ⟨g, 0, none⟩ = some (.slice A n c) := hb.cell 0
  have c1 : w.cell? ⟨g, 1, none⟩ = some (.bool bad) := hb.cell 1
  have f0 := hb.free 0
  have f1 := hb.free 1
  have hn := ha.ln
  by_cases hm : n < m
  · have hM : frameM m xs bad = ([], xs, true) := by
      unfold frameM
      rw [if_pos (by omega)]
    have HM := Lib.hid hM
    clear ha hb h hn hM
    go_enter Try.func34, Try.ntmps34
    go_wp2_with fail
    go_ret
    rw [HM.out]
    exact ⟨_, rfl, MadeV.nil _ _, Rdr.store HK.out HG.out HB.out (A' := A) (n' := n) (c' := c) (bad' := true) rfl HA.out, Keep.setb _ _ _ _, fun b hb => by cases hb⟩
  · have hM : frameM m xs bad = (xs.take m, xs.drop m, bad) := by
      unfold frameM
      rw [if_neg (by omega)]
    have HM := Lib.hid hM
    have hmn : m ≤ n := by omega
    have hcp := ha.cp
    have hct := cut_to_v slB A n c m hmn hcp
    obtain ⟨A', hcf, hrf, hbf, hnf⟩ := cut_from_v slB A n c m hmn hcp
    have HF := Lib.hid (ha.from_ hmn hrf hbf hnf)
    have k0 := Keep.alloc [] w (.cells #[] 5)
    have HT := Lib.hid (((ha.to_ hmn).keep0 h.kept).keep0 k0)
    have HML : Hid (MadeV (w.alloc (.cells #[] 5)) 5 (.slice (some ⟨w.heap.size, 0, none⟩) 0 0) []) := Lib.hid (MadeV.lit w 5 [] (by simp))
    have d0 : (w.alloc (.cells #[] 5)).cell? ⟨g, 0, none⟩ = some (.slice A n c) := k0.cell c0 (by simp)
    have HB1 := Lib.hid (HB.out.keep k0 (by simp))
    have HN : Hid ((bytes (xs.take m)).length = m) := Lib.hid (by rw [bytes_length]; exact HT.out.ln)
    have HBG : Hid (m ≤ 140737488355328) := Lib.hid HT.out.big
    clear ha hb h hn hM hrf hbf hnf f1 c1
    go_enter Try.func34, Try.ntmps34
    go_wp2_with (at_builtin; refine append_v slB (by first | rfl | kernel_rfl) _ _ rfl _ [] rfl HML.out _ _ _ (bytes (xs.take m)) rfl HN.out HT.out.reads (bytes_one _) (by have := HBG.out; simp; omega) (by have := HBG.out; simp; omega) (fun hA => HT.out.nil hA) ?_)
    intro v' w1 m1 m2 m3
    change MadeV w1 _ v' (bytes (xs.take m)) at m1
    have hgn : g ∉ (Value.slice (some ⟨w.heap.size, 0, none⟩) 0 0).ownBlock.toList := by
      have := HB.out.lt
      simp [Value.ownBlock]
      omega
    have HB2 := Lib.hid (HB1.out.keep m2 hgn)
    have hk2 : Keep [] w w1 := k0.trans' m2 (by simp) (by simp [Value.ownBlock])
    have HK2 := Lib.hid (HK.out.trans hk2)
    have HV := Lib.hid m1
    have HO : Hid (∀ b, v'.ownBlock = some b → w.heap.size ≤ b) := Lib.hid (fun b hb => by
      rcases m3 with e | e
      · have e2 : v'.ownBlock = some w.heap.size := e
        rw [hb] at e2
        simp only [Option.some.injEq] at e2
        omega
      · rw [hb] at e
        simp only [Option.some.injEq] at e
        omega)
    have HR : Hid (Rdr 64 w0 (w1.setCell ⟨g, 0, none⟩ (.slice A' (n - m) (c - m))) g (xs.drop m) bad) := Lib.hid (Rdr.store HK2.out HG.out HB2.out (A' := A') (n' := n - m) (c' := c - m) (bad' := bad) rfl HF.out)
    have HKK : Hid (Keep [g] w (w1.setCell ⟨g, 0, none⟩ (.slice A' (n - m) (c - m)))) := Lib.hid ((hk2.of0 _).trans (Keep.setb _ _ _ _))
    have d1 : w1.cell? ⟨g, 0, none⟩ = some (.slice A n c) := HB2.out.cell 0
    have d2 := HB2.out.free 0
    clear m1 m2 m3 hk2 hgn k0 d0 c0 f0
    go_wp2_with fail
    go_ret
    rw [HM.out]
    exact ⟨v', rfl, HV.out.keep (Keep.setb _ _ _ _) (fun b hb => by simpa using HV.out.ne HB2.out (by decide) b hb), HR.out, HKK.out, HO.out⟩
end Go.Proofs.Ytmnknegbbmjcbaa
