/- toc's many: the walk. -/
import Derived.Test.YtmnknegbbmjcbaaT4
namespace Go.Proofs.Ytmnknegbbmjcbaa
open Go.RowKit

theorem wrapEq' (x : Int) : IntKind.i64.wrap x = wrap64 x := by unfold wrap64; exact IntKind.wrap_i64 x
def moN (v : Value) : Nat := match v with | .bool true => 1 | _ => 0
theorem pad_me {p yn n : Nat} : 2 * (254 * n + 1000 - ((p : Int) + (yn : Int)).toNat) < 2 * (254 * n + 1000 - p) + 1 := by omega
theorem pad_ar {p yn n : Nat} {y : Int} {zs : List Int} (h : p + 254 * (y :: zs).length ≤ 254 * n) (hy : (yn : Int) ≤ 255) : p + yn + 254 * zs.length ≤ 254 * n + 254 := by
  simp only [List.length_cons] at h
  omega
set_option maxHeartbeats 4000000
theorem length_calls' (w0 w : World) (g : Nat) (xs : List Int) (bad : Bool) (h : Rdr 51 w0 w g xs bad) :
    Calls Try.prog 25 #[.pointer (some ⟨g, 0, none⟩)] w fun e w' => RetR 51 w0 w g (lenM xs bad) e w' ∧ 0 ≤ (lenM xs bad).1 ∧ (lenM xs bad).1 ≤ 1275 := by
  have hr : 0 ≤ (lenM xs bad).1 ∧ (lenM xs bad).1 ≤ 1275 := by
    obtain ⟨A, n, c, _, ha⟩ := h.at_
    unfold lenM
    cases xs with
    | nil => simp [byteM]
    | cons x xs =>
      have h1 := ha.rng x (by simp)
      cases xs with
      | nil => by_cases hx : 251 < x <;> simp [byteM, hx] <;> omega
      | cons y ys =>
        have h2 := ha.rng y (by simp)
        by_cases hx : 251 < x <;> simp [byteM, hx] <;> omega
  exact (length_calls w0 w g xs bad h).mono fun e w' h' => ⟨h', hr⟩
theorem many_calls (w0 w : World) (g : Nat) (ms : Int) (xs : List Int) (h : Rdr 51 w0 w g xs false) (hms1 : 10 ≤ ms) (hms2 : ms ≤ 20) :
    Calls Try.prog 27 #[.pointer (some ⟨g, 0, none⟩), .int .i64 ms] w (RetM 51 w0 w g (manyM ms xs)) := by
  have H0 := Lib.hid h
  clear h
  go_enter Try.func27, Try.ntmps27
  go_wp2_with fail
  refine (byte_calls w0 w g xs false H0.out).mono ?_
  rintro e w1 ⟨rfl, h1, k1⟩
  obtain ⟨hb0, hb1⟩ := byteM_rng H0.out
  obtain ⟨r, hr⟩ : ∃ r, r = byteM xs false := ⟨_, rfl⟩
  have hbf : r.1 % 64 ≠ 0 → r.2.2 = false := by
    rw [hr]
    cases xs with
    | nil => intro h; exact absurd rfl h
    | cons x xs => intro _; rfl
  rw [← hr] at h1 hb0 hb1 ⊢
  have HR := Lib.hid hr
  have H1 := Lib.hid h1
  have K1 := Lib.hid k1
  clear hr h1 k1
  obtain ⟨x, ys, b⟩ := r
  dsimp only at hb0 hb1 hbf H1
  obtain ⟨m, hm⟩ : ∃ m : Nat, x % 64 = (m : Int) := Int.eq_ofNat_of_zero_le (by omega)
  have hm2 : m ≤ 63 := by omega
  have h63 : bits .and .i64 x 63 = (m : Int) := by rw [and63 hb0 hb1]; exact hm
  obtain ⟨q, hq⟩ : ∃ q, q = (m : Int) * ms := ⟨_, rfl⟩
  have hq0 : 0 ≤ q := by rw [hq]; exact Int.mul_nonneg (by omega) (by omega)
  have hq1 : q ≤ 1260 := by
    rw [hq]
    have := Int.mul_le_mul (show (m : Int) ≤ 63 by omega) hms2 (by omega) (by omega)
    omega
  have hw1 : wrap64 ((m : Int) * ms) = q := by rw [← hq]; unfold wrap64; omega
  have hw2 : IntKind.i64.wrap ((m : Int) * ms) = q := by rw [wrapEq']; exact hw1
  have hman : manyM ms xs = if m = 0 ∨ 120 < q then (([], 0), ys, true) else restM x m (if (x / 64) % 2 = 1 then padM ys else (0, ys, false)) := by
    unfold manyM
    rw [← HR.out]
    dsimp only
    rw [hm, Int.toNat_natCast, ← hq]
  have HMAN := Lib.hid hman
  have HMX := Lib.hid hm
  have HBF := Lib.hid hbf
  clear hman hq hm hbf
  by_cases hgood : m ≠ 0 ∧ q ≤ 120
  · obtain ⟨hg1, hg2⟩ := hgood
    have hb : b = false := HBF.out (by rw [HMX.out]; omega)
    subst hb
    have hm1 : 1 ≤ m := by omega
    have hne0 : ((m : Int) == 0) = false := by simpa using hg1
    have hlq : ¬ (120 < q) := by omega
    rw [if_neg (by omega)] at HMAN
    by_cases h64 : (x / 64) % 2 = 1
    · have e64 : bits .and .i64 x 64 = 64 := by rw [and64 hb0 hb1, if_pos h64]
      rw [if_pos h64] at HMAN
      clear h64 HBF HMX
      go_wp2_with fail
      clear hw1 hw2 h63 e64
      go_loopw [8, 9] (fun pv mv wr => ∃ (p : Nat) (mo : Bool) (zs : List Int) (bz : Bool), pv = .int .i64 p ∧ mv = .bool mo ∧ Rdr 51 w0 wr g zs bz ∧ Keep [g] w wr ∧ p + 254 * zs.length ≤ 254 * ys.length + 254 ∧
        (if mo = true then bz = false ∧ p + 254 * zs.length ≤ 254 * ys.length ∧ padM ys = (p + (padM zs).1, (padM zs).2) else padM ys = (p, zs, bz))) (fun pv mv _ => 2 * (254 * ys.length + 1000 - (intOf pv).toNat) + moN mv)
      case atStart => exact ⟨0, true, ys, false, rfl, rfl, H1.out, K1.out, by omega, by rw [if_pos rfl]; exact ⟨rfl, by omega, by simp⟩⟩
      case round =>
        obtain ⟨p, mo, zs, bz, rfl, rfl, HZ, KZ, hle, hrel2⟩ := hrel
        have HZ := Lib.hid HZ
        have KZ := Lib.hid KZ
        cases mo with
        | true =>
          rw [if_pos rfl] at hrel2
          obtain ⟨rfl, hle2, hpad⟩ := hrel2
          have hbig := (Rdr.c0 HZ.out)
          obtain ⟨_, _, _, _, _, _, _, hbig⟩ := hbig
          have hyb := (Rdr.c0 H1.out)
          obtain ⟨_, _, _, _, _, _, _, hyb⟩ := hyb
          have HPD := Lib.hid hpad
          have HLE := Lib.hid hle2
          have HYB := Lib.hid hyb
          clear hpad hle2 hbig hyb hle
          go_wp2_with fail
          refine (byte_calls w0 _ g zs false HZ.out).mono ?_
          rintro e w2 ⟨rfl, e1, e2⟩
          cases zs with
          | nil =>
            have HZ2 := Lib.hid e1
            have KZ2 := Lib.hid (KZ.out.trans e2)
            clear e1 e2
            dsimp only [byteM] at HZ2
            obtain ⟨_, _, _, c1, _, _, _, _⟩ := HZ2.out.c0
            have HAR : Hid (p + 254 * ([] : List Int).length ≤ 254 * ys.length + 254) := Lib.hid (by have := HLE.out; simp only [List.length_nil] at this ⊢; omega)
            have HPM : Hid (padM ys = (p, ([] : List Int), true)) := Lib.hid (by rw [HPD.out]; simp [padM])
            have hw3 : wrap64 ((p : Int) + 0) = (p : Int) := by have := HLE.out; have := HYB.out; unfold wrap64; omega
            have hw4 : wrap64 (p : Int) = (p : Int) := by have := HLE.out; have := HYB.out; unfold wrap64; omega
            have hw5 : IntKind.i64.wrap (p : Int) = (p : Int) := by rw [wrapEq']; exact hw4
            dsimp only [byteM]
            go_wp2_with fail
            go_roundw
            case rel => exact ⟨p, false, [], true, by go_num, rfl, HZ2.out, KZ2.out, HAR.out, by rw [if_neg (by simp)]; exact HPM.out⟩
            case measure => have := HAR.out; (simp [intOf, moN]; try omega)
          | cons y zs =>
            have hyr := byteM_rng HZ.out
            dsimp only [byteM] at hyr
            obtain ⟨hy0, hy1⟩ := hyr
            have HZ2 := Lib.hid e1
            have KZ2 := Lib.hid (KZ.out.trans e2)
            clear e1 e2
            dsimp only [byteM] at HZ2
            obtain ⟨_, _, _, c1, _, _, _, _⟩ := HZ2.out.c0
            by_cases hy : y = 255
            · subst hy
              have HAR : Hid (p + 254 + 254 * zs.length ≤ 254 * ys.length) := Lib.hid (by have := HLE.out; simp only [List.length_cons] at this; omega)
              have HPM : Hid (padM ys = (p + 254 + (padM zs).1, (padM zs).2)) := Lib.hid (by
                have e1 : padM (255 :: zs) = (254 + (padM zs).1, (padM zs).2) := by simp [padM]
                rw [HPD.out, e1]
                simp only [Prod.mk.injEq, and_true]
                omega)
              have hw3 : wrap64 ((p : Int) + 254) = ((p + 254 : Nat) : Int) := by have := HLE.out; have := HYB.out; simp only [List.length_cons] at *; unfold wrap64; omega
              have hw5 : IntKind.i64.wrap ((p : Int) + 254) = ((p + 254 : Nat) : Int) := by rw [wrapEq']; exact hw3
              dsimp only [byteM]
              go_wp2_with fail
              go_roundw
              case rel => exact ⟨p + 254, true, zs, false, by go_num, rfl, HZ2.out, KZ2.out, Nat.le_trans HAR.out (Nat.le_add_right _ _), by rw [if_pos rfl]; exact ⟨rfl, HAR.out, HPM.out⟩⟩
              case measure => have := HAR.out; (simp [intOf, moN]; try omega)
            · have hmin : min y 254 = y := by omega
              obtain ⟨yn, rfl⟩ := Int.eq_ofNat_of_zero_le hy0
              have hne : ((yn : Int) == 255) = false := by simpa using hy
              have hnl : ¬ (254 < (yn : Int)) := by omega
              have hnn : ¬ (254 < yn) := by omega
              have hw3 : wrap64 ((p : Int) + (yn : Int)) = ((p + yn : Nat) : Int) := by have := HLE.out; have := HYB.out; simp only [List.length_cons] at *; unfold wrap64; omega
              have hw5 : IntKind.i64.wrap ((p : Int) + (yn : Int)) = ((p + yn : Nat) : Int) := by rw [wrapEq']; exact hw3
              have HAR : Hid (p + yn + 254 * zs.length ≤ 254 * ys.length + 254) := Lib.hid (pad_ar HLE.out hy1)
              have HPM : Hid (padM ys = (p + yn, zs, false)) := Lib.hid (by rw [HPD.out]; simp only [padM, if_neg hy, Int.toNat_natCast])
              clear hy
              dsimp only [byteM]
              go_wp2_with fail
              go_roundw
              case rel => exact ⟨p + yn, false, zs, false, by go_num, rfl, HZ2.out, KZ2.out, HAR.out, by rw [if_neg (by simp)]; exact HPM.out⟩
              case measure => (simp [intOf, moN]; exact pad_me)
        | false =>
          rw [if_neg (by simp)] at hrel2
          have hpb : p ≤ 254 * ys.length + 254 := by omega
          have hyb := (Rdr.c0 H1.out)
          obtain ⟨_, _, _, _, _, _, _, hyb⟩ := hyb
          have HYP := Lib.hid (And.intro hpb hyb)
          obtain ⟨b2, hb2⟩ : ∃ b2, b2 = bz := ⟨_, rfl⟩
          subst hb2
          have HMM : Hid (manyM ms xs = restM x m (p, zs, b2)) := Lib.hid (by rw [HMAN.out, hrel2])
          clear hrel2 hle HMAN H1 K1 hpb hyb
          obtain ⟨Z, zc, z0, z1, zf0, zf1, hzc, hzb⟩ := HZ.out.c0
          obtain ⟨ZA, zn, zcc, hzblk, hzarg⟩ := HZ.out.at_
          have HZB := Lib.hid hzblk
          have HZA := Lib.hid hzarg
          clear hzblk hzarg
          obtain ⟨n2, hn2⟩ : ∃ n2, n2 = zs.length := ⟨_, rfl⟩
          rw [← hn2] at z0 hzc hzb
          have HN2 := Lib.hid hn2
          clear hn2
          cases b2 with
          | true =>
            have hM : manyM ms xs = (([], 0), zs, true) := by
              rw [HMM.out]
              unfold restM
              rw [if_pos (.inl rfl)]
            have HM := Lib.hid hM
            clear hM
            go_wp2_with fail
            go_ret2
            rw [HM.out]
            exact ⟨_, rfl, Frs.nil _ _, Rdr.store HZ.out.kept HZ.out.og HZB.out (A' := ZA) (n' := zn) (c' := zcc) (bad' := true) rfl HZA.out, KZ.out.trans (Keep.setb _ _ _ _)⟩
          | false =>
            by_cases hp : n2 < p
            · have hM : manyM ms xs = (([], 0), zs, true) := by
                rw [HMM.out]
                unfold restM
                dsimp only
                rw [if_pos (.inr (by rw [← HN2.out]; exact hp))]
              have HM := Lib.hid hM
              clear hM
              go_wp2_with fail
              go_ret2
              rw [HM.out]
              exact ⟨_, rfl, Frs.nil _ _, Rdr.store HZ.out.kept HZ.out.og HZB.out (A' := ZA) (n' := zn) (c' := zcc) (bad' := true) rfl HZA.out, KZ.out.trans (Keep.setb _ _ _ _)⟩
            have hM : manyM ms xs = if x < 128 then (((equalM m (zs.take (n2 - p)) false).1, p), (equalM m (zs.take (n2 - p)) false).2) else (((unlikeM (zs.take (n2 - p)) m).1, p), (unlikeM (zs.take (n2 - p)) m).2) := by
              rw [HMM.out]
              unfold restM
              dsimp only
              rw [← HN2.out, if_neg (by simp; omega)]
            have HM := Lib.hid hM
            clear hM
            have hzn : zn = n2 := by
              have h1 : (#[Value.slice ZA zn zcc, .bool false] : Array Value)[0]? = some (.slice Z n2 zc) := by rw [← HZB.out.cell 0]; exact z0
              simp at h1
              exact h1.2.1
            have hza : ZA = Z := by
              have h1 : (#[Value.slice ZA zn zcc, .bool false] : Array Value)[0]? = some (.slice Z n2 zc) := by rw [← HZB.out.cell 0]; exact z0
              simp at h1
              exact h1.1
            have hzcc : zcc = zc := by
              have h1 : (#[Value.slice ZA zn zcc, .bool false] : Array Value)[0]? = some (.slice Z n2 zc) := by rw [← HZB.out.cell 0]; exact z0
              simp at h1
              exact h1.2.2
            subst hza hzcc hzn
            have hct := cut_to_v slB ZA zn zcc (zn - p) (by omega) hzc
            have hs1 : wrap64 ((zn : Int) - (p : Int)) = ((zn - p : Nat) : Int) := by unfold wrap64; omega
            have hs2 : IntKind.i64.wrap ((zn : Int) - (p : Int)) = ((zn - p : Nat) : Int) := by rw [wrapEq']; exact hs1
            have HZ3 : Hid (Rdr 51 w0 ((wr.setCell ⟨g, 0, none⟩ (.slice ZA (zn - p) zcc)).drew) g (zs.take (zn - p)) false) := Lib.hid ((Rdr.store HZ.out.kept HZ.out.og HZB.out (A' := ZA) (n' := zn - p) (c' := zcc) (bad' := false) rfl (HZA.out.to_ (by omega))).keep0 (Keep.drew [] _))
            have KZ3 : Hid (Keep [g] w ((wr.setCell ⟨g, 0, none⟩ (.slice ZA (zn - p) zcc)).drew)) := Lib.hid ((KZ.out.trans (Keep.setb _ _ _ _)).trans (Keep.drew _ _))
            have hd0 : wr.drew.cell? ⟨g, 0, none⟩ = some (.slice ZA zn zcc) := z0
            have hd1 : wr.drew.frozen? ⟨g, 0, none⟩ = false := zf0
            by_cases hx : x < 128
            · have h128 : bits .and .i64 x 128 = 0 := by rw [and128 hb0 hb1, if_pos hx]
              rw [if_pos hx] at HM
              have HX := Lib.hid hx
              clear hx
              go_wp2_with fail
              go_still_tail 15, (by kernel_rfl)
              change wpList _ _ _ _ _ wr.drew
              go_wp2_with fail
              clear hs1 hs2 hct z0 z1 zf0 zf1 hd0 hd1
              refine (equal_calls w0 _ g m (zs.take (zn - p)) false HZ3.out hm1 hm2).mono ?_
              rintro e w9 ⟨v, rfl, e1, e2, e3⟩
              have E1 := Lib.hid (e1.weak KZ3.out.size)
              have E2 := Lib.hid e2
              have E3 := Lib.hid (KZ3.out.trans e3)
              clear e1 e2 e3
              go_wp2_with fail
              go_ret2
              rw [HM.out]
              exact ⟨_, rfl, E1.out, E2.out, E3.out⟩
            · have h128 : bits .and .i64 x 128 = 128 := by rw [and128 hb0 hb1, if_neg hx]
              rw [if_neg hx] at HM
              have HX := Lib.hid hx
              clear hx
              have hk1 : wrap64 ((m : Int) - 1) = ((m - 1 : Nat) : Int) := by unfold wrap64; omega
              have hk2 : IntKind.i64.wrap ((m : Int) - 1) = ((m - 1 : Nat) : Int) := by rw [wrapEq']; exact hk1
              obtain ⟨M, hM⟩ : ∃ M, M = m - 1 := ⟨_, rfl⟩
              rw [← hM] at hk1 hk2
              have HMM1 := Lib.hid hM
              have hM62 : M ≤ 62 := by omega
              clear hM
              obtain ⟨ts, hts⟩ : ∃ ts, ts = zs.take (zn - p) := ⟨_, rfl⟩
              rw [← hts] at HZ3 HM
              have HTS := Lib.hid hts
              clear hts
              go_wp2_with fail
              go_still_tail 15, (by kernel_rfl)
              change wpList _ _ _ _ _ wr.drew
              go_wp2_with fail
              clear hs1 hs2 hct z0 z1 zf0 zf1 hd0 hd1 hzc hzb HZ HZB HZA
              generalize (wr.setCell ⟨g, 0, none⟩ (.slice ZA (zn - p) zcc)).drew = wq at *
              have HL0 : Hid (LnSt 51 w0 w wq g (.slice none 0 0) (lensM ts false 0).1 (lensM ts false 0).2.1 (lensM ts false 0).2.2) := Lib.hid ⟨MadeV.nil _ _, (fun b hb => by cases hb), HZ3.out, KZ3.out, by simp [lensM]⟩
              clear HZ3 KZ3
              go_loopw [11, 89] (fun lv i wr => ∃ j : Nat, j ≤ M ∧ i = .int .i64 j ∧ LnSt 51 w0 w wr g lv (lensM ts false j).1 (lensM ts false j).2.1 (lensM ts false j).2.2) (fun _ i _ => M - (intOf i).toNat)
              case atStart => exact ⟨0, by omega, rfl, HL0.out⟩
              case round =>
                clear HL0
                obtain ⟨j, hj, rfl, HS⟩ := hrel
                have HS := Lib.hid HS
                by_cases hlt : j < M
                · obtain ⟨r, hr⟩ : ∃ r, r = lensM ts false j := ⟨_, rfl⟩
                  have hlen : r.1.length = j := by rw [hr]; exact lensM_length _ _ _
                  have hsu : lensM ts false (j + 1) = (r.1 ++ [(lenM r.2.1 r.2.2).1], (lenM r.2.1 r.2.2).2) := by rw [hr]; rfl
                  rw [← hr] at HS
                  obtain ⟨ls, us, bu⟩ := r
                  dsimp only at HS hlen hsu
                  have HLE := Lib.hid hlen
                  have HSU := Lib.hid hsu
                  clear hr hlen hsu
                  go_wp2_with fail
                  refine (length_calls' w0 _ g us bu HS.out.rdr).mono ?_
                  rintro e w2 ⟨⟨rfl, e1, e2⟩, hr0, hr1⟩
                  have HT := Lib.hid (HS.out.took (by decide) e1 e2)
                  clear e1 e2 HS
                  obtain ⟨y, hy⟩ : ∃ y, y = (lenM us bu).1 := ⟨_, rfl⟩
                  rw [← hy] at hr0 hr1 ⊢
                  have HY := Lib.hid hy
                  have HYR : Hid (0 ≤ y ∧ y ≤ 2000) := Lib.hid ⟨hr0, by omega⟩
                  clear hy hr0 hr1
                  have HTA : Hid (MadeV (w2.alloc (.cells #[.int .i64 y] 3)) 3 _ _) := Lib.hid (HT.out.made.keep0 (Keep.alloc [] _ _))
                  have HRD : Hid (RdV (w2.alloc (.cells #[.int .i64 y] 3)) (some ⟨w2.heap.size, 0, none⟩) [.int .i64 y]) := Lib.hid (rdV_lit w2 3 [.int .i64 y])
                  go_wp2_with (at_builtin; refine append_v slI (by first | rfl | kernel_rfl) _ _ rfl _ (ls.map (Value.int .i64)) rfl HTA.out _ _ _ [.int .i64 y] rfl rfl HRD.out (by intro u hu; simp only [List.mem_singleton] at hu; subst hu; rfl) (by have := HLE.out; simp; omega) (by have := HLE.out; simp; omega) (fun hA => by cases hA) ?_)
                  intro v' w3 m1 m2 m3
                  have HU := Lib.hid (HT.out.app (by decide) m1 m2 (by simpa using m3) H0.out.kept.size HYR.out)
                  clear m1 m2 m3 HT HTA HRD HLE
                  go_wp2_with fail
                  go_roundw
                  case rel => exact ⟨j + 1, by omega, by go_num, by rw [HSU.out, ← HY.out]; exact HU.out⟩
                  case measure => simp [intOf]; omega
                · obtain rfl : j = M := by omega
                  have hll := lensM_length ts false j
                  obtain ⟨LA, lc, hlv, _, _, hlr, _, _⟩ := HS.out.made.reads
                  rw [List.length_map, hll] at hlv
                  subst hlv
                  have HLL := Lib.hid hll
                  have HLR := Lib.hid hlr
                  clear hll hlr hlt
                  go_wp2_with fail
                  have HF0 : Hid (LfSt 51 w0 w wr g (.slice none 0 0) (frsM (lensM ts false j).2.1 (lensM ts false j).2.2 (lensM ts false j).1 0).1 (frsM (lensM ts false j).2.1 (lensM ts false j).2.2 (lensM ts false j).1 0).2.1 (frsM (lensM ts false j).2.1 (lensM ts false j).2.2 (lensM ts false j).1 0).2.2 (.slice LA j lc) (lensM ts false j).1) := Lib.hid ⟨⟨Frs.nil _ _, HS.out.rdr, HS.out.kept⟩, HS.out.made⟩
                  obtain ⟨q3, hq3⟩ : ∃ q3, q3 = lensM ts false j := ⟨_, rfl⟩
                  have HRG := Lib.hid HS.out.rng
                  rw [← hq3] at HF0 HLL HRG
                  have HQ3 := Lib.hid hq3
                  clear hq3 HS HLR
                  obtain ⟨ls, us, bu⟩ := q3
                  dsimp only at HF0 HLL HRG
                  go_loopw [12, 99] (fun v i wr => ∃ k : Nat, k ≤ j ∧ i = .int .i64 k ∧ LfSt 51 w0 w wr g v (frsM us bu ls k).1 (frsM us bu ls k).2.1 (frsM us bu ls k).2.2 (.slice LA j lc) ls) (fun _ i _ => j - (intOf i).toNat)
                  case atStart => exact ⟨0, by omega, rfl, HF0.out⟩
                  case round =>
                    clear HF0
                    obtain ⟨k, hk, rfl, HS⟩ := hrel
                    have HS := Lib.hid HS
                    by_cases hlt : k < j
                    · obtain ⟨r, hr⟩ : ∃ r, r = frsM us bu ls k := ⟨_, rfl⟩
                      have hlen : r.1.length = k := by rw [hr]; exact frsM_length _ _ _ _
                      have hsu : frsM us bu ls (k + 1) = (r.1 ++ [(frameM (ls.getD k 0).toNat r.2.1 r.2.2).1], (frameM (ls.getD k 0).toNat r.2.1 r.2.2).2) := by rw [hr]; rfl
                      rw [← hr] at HS
                      obtain ⟨L, ps, bp⟩ := r
                      dsimp only at HS hlen hsu
                      obtain ⟨_, _, hzz, _, _, hrd, _, _⟩ := HS.out.lst.reads
                      simp only [Value.slice.injEq] at hzz
                      obtain ⟨rfl, hq1, rfl⟩ := hzz
                      clear hq1
                      obtain ⟨a, rfl, hca⟩ := hrd k (.int .i64 (ls.getD k 0)) (by
                        have : k < ls.length := by rw [HLL.out]; exact hlt
                        simp [this])
                      have hyr := HRG.out (ls.getD k 0) (by
                        have : k < ls.length := by rw [HLL.out]; exact hlt
                        simp [this])
                      obtain ⟨y, hy⟩ : ∃ y : Nat, ls.getD k 0 = (y : Int) := Int.eq_ofNat_of_zero_le hyr.1
                      rw [hy] at hca hsu
                      rw [Int.toNat_natCast] at hsu
                      have HLE := Lib.hid hlen
                      have HSU := Lib.hid hsu
                      clear hr hlen hsu hy hyr hrd
                      have hk0 : (0 : Int) ≤ (k : Int) := by omega
                      have hk1 : (k : Int) < (j : Int) := by omega
                      go_wp2_with fail
                      refine (frame_calls w0 _ g y ps bp HS.out.st.rdr).mono ?_
                      rintro e w2 ⟨xv, rfl, e1, e2, e3, e4⟩
                      obtain ⟨XA, xn, xc, rfl⟩ := e1.shape
                      have HXM := Lib.hid e1
                      have HT := Lib.hid (HS.out.took (by decide) (by decide) (by decide) e2 e3)
                      have HO : Hid (∀ b, (Value.slice XA xn xc).ownBlock = some b → w.heap.size ≤ b) := Lib.hid (fun b hb => Nat.le_trans HS.out.st.kept.size (e4 b hb))
                      have HB : Hid (w.heap.size ≤ w2.heap.size) := Lib.hid HT.out.st.kept.size
                      have HLN : Hid (L.length ≤ 1000) := Lib.hid (by rw [HLE.out]; omega)
                      clear e1 e2 e3 e4 HS hca
                      go_wp2_with (at_builtin; refine append_frame (by first | rfl | kernel_rfl) _ _ rfl rfl rfl HT.out.st.frs HXM.out HO.out HB.out HLN.out ?_)
                      intro v' w3 m1 m2
                      have HU := Lib.hid (HT.out.app (by decide) m1 m2 H0.out.kept.size)
                      clear m1 m2 HT HXM HO HB HLN HLE
                      go_wp2_with fail
                      go_roundw
                      case rel => exact ⟨k + 1, by omega, by go_num, by rw [HSU.out]; exact HU.out⟩
                      case measure => simp [intOf]; omega
                    · obtain rfl : k = j := by omega
                      obtain ⟨r, hr⟩ : ∃ r, r = frsM us bu ls k := ⟨_, rfl⟩
                      have hlen : r.1.length = k := by rw [hr]; exact frsM_length _ _ _ _
                      have hun : unlikeM ts m = (r.1 ++ [r.2.1], [], r.2.2) := by
                        unfold unlikeM
                        rw [← HMM1.out, ← HQ3.out]
                        dsimp only
                        rw [← hr]
                      rw [← hr] at HS
                      obtain ⟨L, ps, bp⟩ := r
                      dsimp only at HS hlen hun
                      rw [hun] at HM
                      obtain ⟨PA, pc2, p0, _, _, _, _, _⟩ := HS.out.st.rdr.c0
                      obtain ⟨pn, hpn⟩ : ∃ pn, pn = ps.length := ⟨_, rfl⟩
                      rw [← hpn] at p0
                      have HLP := Lib.hid hpn
                      have HLE := Lib.hid hlen
                      clear hr hlen hun hpn hlt
                      go_wp2_with fail
                      refine (frame_calls w0 _ g pn ps bp HS.out.st.rdr).mono ?_
                      have hfm : frameM pn ps bp = (ps, [], bp) := by
                        unfold frameM
                        rw [HLP.out, if_neg (by omega), List.take_length, List.drop_length]
                      rintro e w2 ⟨xv, rfl, e1, e2, e3, e4⟩
                      rw [hfm] at e1 e2
                      obtain ⟨XA, xn, xc, rfl⟩ := e1.shape
                      have HXM := Lib.hid e1
                      have HT := Lib.hid (HS.out.took (by decide) (by decide) (by decide) e2 e3)
                      have HO : Hid (∀ b, (Value.slice XA xn xc).ownBlock = some b → w.heap.size ≤ b) := Lib.hid (fun b hb => Nat.le_trans HS.out.st.kept.size (e4 b hb))
                      have HB : Hid (w.heap.size ≤ w2.heap.size) := Lib.hid HT.out.st.kept.size
                      have HLN : Hid (L.length ≤ 1000) := Lib.hid (by rw [HLE.out]; omega)
                      clear e1 e2 e3 e4 HS hfm p0
                      go_wp2_with (at_builtin; refine append_frame (by first | rfl | kernel_rfl) _ _ rfl rfl rfl HT.out.st.frs HXM.out HO.out HB.out HLN.out ?_)
                      intro v' w3 m1 m2
                      have HU := Lib.hid (HT.out.app (by decide) m1 m2 H0.out.kept.size)
                      clear m1 m2 HT HXM HO HB HLN HLE
                      go_wp2_with fail
                      go_ret2
                      rw [HM.out]
                      exact ⟨_, rfl, HU.out.st.frs, HU.out.st.rdr, HU.out.st.kept⟩

    · have e64 : bits .and .i64 x 64 = 0 := by rw [and64 hb0 hb1, if_neg h64]
      rw [if_neg h64] at HMAN
      have HZ := H1
      have KZ := K1
      have HMM := HMAN
      obtain ⟨zs, hzs⟩ : ∃ zs, zs = ys := ⟨_, rfl⟩
      subst hzs
      obtain ⟨b2, hb2⟩ : ∃ b2, b2 = false := ⟨_, rfl⟩
      rw [← hb2] at HZ HMM
      clear h64 HBF HMX H1 K1 HMAN
      obtain ⟨Z, zc, z0, z1, zf0, zf1, hzc, hzb⟩ := HZ.out.c0
      obtain ⟨ZA, zn, zcc, hzblk, hzarg⟩ := HZ.out.at_
      have HZB := Lib.hid hzblk
      have HZA := Lib.hid hzarg
      clear hzblk hzarg
      obtain ⟨n2, hn2⟩ : ∃ n2, n2 = zs.length := ⟨_, rfl⟩
      rw [← hn2] at z0 hzc hzb
      have HN2 := Lib.hid hn2
      clear hn2
      cases b2 with
      | true =>
        cases hb2
      | false =>
        have hM : manyM ms xs = if x < 128 then (((equalM m (zs.take (n2)) false).1, 0), (equalM m (zs.take (n2)) false).2) else (((unlikeM (zs.take (n2)) m).1, 0), (unlikeM (zs.take (n2)) m).2) := by
          rw [HMM.out]
          unfold restM
          dsimp only
          rw [← HN2.out, if_neg (by simp)]
          simp only [Nat.sub_zero]
        have HM := Lib.hid hM
        clear hM
        have hzn : zn = n2 := by
          have h1 : (#[Value.slice ZA zn zcc, .bool false] : Array Value)[0]? = some (.slice Z n2 zc) := by rw [← HZB.out.cell 0]; exact z0
          simp at h1
          exact h1.2.1
        have hza : ZA = Z := by
          have h1 : (#[Value.slice ZA zn zcc, .bool false] : Array Value)[0]? = some (.slice Z n2 zc) := by rw [← HZB.out.cell 0]; exact z0
          simp at h1
          exact h1.1
        have hzcc : zcc = zc := by
          have h1 : (#[Value.slice ZA zn zcc, .bool false] : Array Value)[0]? = some (.slice Z n2 zc) := by rw [← HZB.out.cell 0]; exact z0
          simp at h1
          exact h1.2.2
        subst hza hzcc hzn
        have hct := cut_to_v slB ZA zn zcc (zn) (by omega) hzc
        have hs1 : wrap64 (zn : Int) = ((zn : Nat) : Int) := by unfold wrap64; omega
        have hs2 : IntKind.i64.wrap (zn : Int) = ((zn : Nat) : Int) := by rw [wrapEq']; exact hs1
        have HZ3 : Hid (Rdr 51 w0 ((w1.setCell ⟨g, 0, none⟩ (.slice ZA (zn) zcc)).drew) g (zs.take (zn)) false) := Lib.hid ((Rdr.store HZ.out.kept HZ.out.og HZB.out (A' := ZA) (n' := zn) (c' := zcc) (bad' := false) rfl (HZA.out.to_ (by omega))).keep0 (Keep.drew [] _))
        have KZ3 : Hid (Keep [g] w ((w1.setCell ⟨g, 0, none⟩ (.slice ZA (zn) zcc)).drew)) := Lib.hid ((KZ.out.trans (Keep.setb _ _ _ _)).trans (Keep.drew _ _))
        have hd0 : w1.drew.cell? ⟨g, 0, none⟩ = some (.slice ZA zn zcc) := z0
        have hd1 : w1.drew.frozen? ⟨g, 0, none⟩ = false := zf0
        by_cases hx : x < 128
        · have h128 : bits .and .i64 x 128 = 0 := by rw [and128 hb0 hb1, if_pos hx]
          rw [if_pos hx] at HM
          have HX := Lib.hid hx
          clear hx
          go_wp2_with fail
          go_still_tail 15, (by kernel_rfl)
          change wpList _ _ _ _ _ w1.drew
          go_wp2_with fail
          clear hs1 hs2 hct z0 z1 zf0 zf1 hd0 hd1
          refine (equal_calls w0 _ g m (zs.take (zn)) false HZ3.out hm1 hm2).mono ?_
          rintro e w9 ⟨v, rfl, e1, e2, e3⟩
          have E1 := Lib.hid (e1.weak KZ3.out.size)
          have E2 := Lib.hid e2
          have E3 := Lib.hid (KZ3.out.trans e3)
          clear e1 e2 e3
          go_wp2_with fail
          go_ret2
          rw [HM.out]
          exact ⟨_, rfl, E1.out, E2.out, E3.out⟩
        · have h128 : bits .and .i64 x 128 = 128 := by rw [and128 hb0 hb1, if_neg hx]
          rw [if_neg hx] at HM
          have HX := Lib.hid hx
          clear hx
          have hk1 : wrap64 ((m : Int) - 1) = ((m - 1 : Nat) : Int) := by unfold wrap64; omega
          have hk2 : IntKind.i64.wrap ((m : Int) - 1) = ((m - 1 : Nat) : Int) := by rw [wrapEq']; exact hk1
          obtain ⟨M, hM⟩ : ∃ M, M = m - 1 := ⟨_, rfl⟩
          rw [← hM] at hk1 hk2
          have HMM1 := Lib.hid hM
          have hM62 : M ≤ 62 := by omega
          clear hM
          obtain ⟨ts, hts⟩ : ∃ ts, ts = zs.take (zn) := ⟨_, rfl⟩
          rw [← hts] at HZ3 HM
          have HTS := Lib.hid hts
          clear hts
          go_wp2_with fail
          go_still_tail 15, (by kernel_rfl)
          change wpList _ _ _ _ _ w1.drew
          go_wp2_with fail
          clear hs1 hs2 hct z0 z1 zf0 zf1 hd0 hd1 hzc hzb HZ HZB HZA
          generalize (w1.setCell ⟨g, 0, none⟩ (.slice ZA (zn) zcc)).drew = wq at *
          have HL0 : Hid (LnSt 51 w0 w wq g (.slice none 0 0) (lensM ts false 0).1 (lensM ts false 0).2.1 (lensM ts false 0).2.2) := Lib.hid ⟨MadeV.nil _ _, (fun b hb => by cases hb), HZ3.out, KZ3.out, by simp [lensM]⟩
          clear HZ3 KZ3
          go_loopw [11, 89] (fun lv i wr => ∃ j : Nat, j ≤ M ∧ i = .int .i64 j ∧ LnSt 51 w0 w wr g lv (lensM ts false j).1 (lensM ts false j).2.1 (lensM ts false j).2.2) (fun _ i _ => M - (intOf i).toNat)
          case atStart => exact ⟨0, by omega, rfl, HL0.out⟩
          case round =>
            clear HL0
            obtain ⟨j, hj, rfl, HS⟩ := hrel
            have HS := Lib.hid HS
            by_cases hlt : j < M
            · obtain ⟨r, hr⟩ : ∃ r, r = lensM ts false j := ⟨_, rfl⟩
              have hlen : r.1.length = j := by rw [hr]; exact lensM_length _ _ _
              have hsu : lensM ts false (j + 1) = (r.1 ++ [(lenM r.2.1 r.2.2).1], (lenM r.2.1 r.2.2).2) := by rw [hr]; rfl
              rw [← hr] at HS
              obtain ⟨ls, us, bu⟩ := r
              dsimp only at HS hlen hsu
              have HLE := Lib.hid hlen
              have HSU := Lib.hid hsu
              clear hr hlen hsu
              go_wp2_with fail
              refine (length_calls' w0 _ g us bu HS.out.rdr).mono ?_
              rintro e w2 ⟨⟨rfl, e1, e2⟩, hr0, hr1⟩
              have HT := Lib.hid (HS.out.took (by decide) e1 e2)
              clear e1 e2 HS
              obtain ⟨y, hy⟩ : ∃ y, y = (lenM us bu).1 := ⟨_, rfl⟩
              rw [← hy] at hr0 hr1 ⊢
              have HY := Lib.hid hy
              have HYR : Hid (0 ≤ y ∧ y ≤ 2000) := Lib.hid ⟨hr0, by omega⟩
              clear hy hr0 hr1
              have HTA : Hid (MadeV (w2.alloc (.cells #[.int .i64 y] 3)) 3 _ _) := Lib.hid (HT.out.made.keep0 (Keep.alloc [] _ _))
              have HRD : Hid (RdV (w2.alloc (.cells #[.int .i64 y] 3)) (some ⟨w2.heap.size, 0, none⟩) [.int .i64 y]) := Lib.hid (rdV_lit w2 3 [.int .i64 y])
              go_wp2_with (at_builtin; refine append_v slI (by first | rfl | kernel_rfl) _ _ rfl _ (ls.map (Value.int .i64)) rfl HTA.out _ _ _ [.int .i64 y] rfl rfl HRD.out (by intro u hu; simp only [List.mem_singleton] at hu; subst hu; rfl) (by have := HLE.out; simp; omega) (by have := HLE.out; simp; omega) (fun hA => by cases hA) ?_)
              intro v' w3 m1 m2 m3
              have HU := Lib.hid (HT.out.app (by decide) m1 m2 (by simpa using m3) H0.out.kept.size HYR.out)
              clear m1 m2 m3 HT HTA HRD HLE
              go_wp2_with fail
              go_roundw
              case rel => exact ⟨j + 1, by omega, by go_num, by rw [HSU.out, ← HY.out]; exact HU.out⟩
              case measure => simp [intOf]; omega
            · obtain rfl : j = M := by omega
              have hll := lensM_length ts false j
              obtain ⟨LA, lc, hlv, _, _, hlr, _, _⟩ := HS.out.made.reads
              rw [List.length_map, hll] at hlv
              subst hlv
              have HLL := Lib.hid hll
              have HLR := Lib.hid hlr
              clear hll hlr hlt
              go_wp2_with fail
              have HF0 : Hid (LfSt 51 w0 w wr g (.slice none 0 0) (frsM (lensM ts false j).2.1 (lensM ts false j).2.2 (lensM ts false j).1 0).1 (frsM (lensM ts false j).2.1 (lensM ts false j).2.2 (lensM ts false j).1 0).2.1 (frsM (lensM ts false j).2.1 (lensM ts false j).2.2 (lensM ts false j).1 0).2.2 (.slice LA j lc) (lensM ts false j).1) := Lib.hid ⟨⟨Frs.nil _ _, HS.out.rdr, HS.out.kept⟩, HS.out.made⟩
              obtain ⟨q3, hq3⟩ : ∃ q3, q3 = lensM ts false j := ⟨_, rfl⟩
              have HRG := Lib.hid HS.out.rng
              rw [← hq3] at HF0 HLL HRG
              have HQ3 := Lib.hid hq3
              clear hq3 HS HLR
              obtain ⟨ls, us, bu⟩ := q3
              dsimp only at HF0 HLL HRG
              go_loopw [12, 99] (fun v i wr => ∃ k : Nat, k ≤ j ∧ i = .int .i64 k ∧ LfSt 51 w0 w wr g v (frsM us bu ls k).1 (frsM us bu ls k).2.1 (frsM us bu ls k).2.2 (.slice LA j lc) ls) (fun _ i _ => j - (intOf i).toNat)
              case atStart => exact ⟨0, by omega, rfl, HF0.out⟩
              case round =>
                clear HF0
                obtain ⟨k, hk, rfl, HS⟩ := hrel
                have HS := Lib.hid HS
                by_cases hlt : k < j
                · obtain ⟨r, hr⟩ : ∃ r, r = frsM us bu ls k := ⟨_, rfl⟩
                  have hlen : r.1.length = k := by rw [hr]; exact frsM_length _ _ _ _
                  have hsu : frsM us bu ls (k + 1) = (r.1 ++ [(frameM (ls.getD k 0).toNat r.2.1 r.2.2).1], (frameM (ls.getD k 0).toNat r.2.1 r.2.2).2) := by rw [hr]; rfl
                  rw [← hr] at HS
                  obtain ⟨L, ps, bp⟩ := r
                  dsimp only at HS hlen hsu
                  obtain ⟨_, _, hzz, _, _, hrd, _, _⟩ := HS.out.lst.reads
                  simp only [Value.slice.injEq] at hzz
                  obtain ⟨rfl, hq1, rfl⟩ := hzz
                  clear hq1
                  obtain ⟨a, rfl, hca⟩ := hrd k (.int .i64 (ls.getD k 0)) (by
                    have : k < ls.length := by rw [HLL.out]; exact hlt
                    simp [this])
                  have hyr := HRG.out (ls.getD k 0) (by
                    have : k < ls.length := by rw [HLL.out]; exact hlt
                    simp [this])
                  obtain ⟨y, hy⟩ : ∃ y : Nat, ls.getD k 0 = (y : Int) := Int.eq_ofNat_of_zero_le hyr.1
                  rw [hy] at hca hsu
                  rw [Int.toNat_natCast] at hsu
                  have HLE := Lib.hid hlen
                  have HSU := Lib.hid hsu
                  clear hr hlen hsu hy hyr hrd
                  have hk0 : (0 : Int) ≤ (k : Int) := by omega
                  have hk1 : (k : Int) < (j : Int) := by omega
                  go_wp2_with fail
                  refine (frame_calls w0 _ g y ps bp HS.out.st.rdr).mono ?_
                  rintro e w2 ⟨xv, rfl, e1, e2, e3, e4⟩
                  obtain ⟨XA, xn, xc, rfl⟩ := e1.shape
                  have HXM := Lib.hid e1
                  have HT := Lib.hid (HS.out.took (by decide) (by decide) (by decide) e2 e3)
                  have HO : Hid (∀ b, (Value.slice XA xn xc).ownBlock = some b → w.heap.size ≤ b) := Lib.hid (fun b hb => Nat.le_trans HS.out.st.kept.size (e4 b hb))
                  have HB : Hid (w.heap.size ≤ w2.heap.size) := Lib.hid HT.out.st.kept.size
                  have HLN : Hid (L.length ≤ 1000) := Lib.hid (by rw [HLE.out]; omega)
                  clear e1 e2 e3 e4 HS hca
                  go_wp2_with (at_builtin; refine append_frame (by first | rfl | kernel_rfl) _ _ rfl rfl rfl HT.out.st.frs HXM.out HO.out HB.out HLN.out ?_)
                  intro v' w3 m1 m2
                  have HU := Lib.hid (HT.out.app (by decide) m1 m2 H0.out.kept.size)
                  clear m1 m2 HT HXM HO HB HLN HLE
                  go_wp2_with fail
                  go_roundw
                  case rel => exact ⟨k + 1, by omega, by go_num, by rw [HSU.out]; exact HU.out⟩
                  case measure => simp [intOf]; omega
                · obtain rfl : k = j := by omega
                  obtain ⟨r, hr⟩ : ∃ r, r = frsM us bu ls k := ⟨_, rfl⟩
                  have hlen : r.1.length = k := by rw [hr]; exact frsM_length _ _ _ _
                  have hun : unlikeM ts m = (r.1 ++ [r.2.1], [], r.2.2) := by
                    unfold unlikeM
                    rw [← HMM1.out, ← HQ3.out]
                    dsimp only
                    rw [← hr]
                  rw [← hr] at HS
                  obtain ⟨L, ps, bp⟩ := r
                  dsimp only at HS hlen hun
                  rw [hun] at HM
                  obtain ⟨PA, pc2, p0, _, _, _, _, _⟩ := HS.out.st.rdr.c0
                  obtain ⟨pn, hpn⟩ : ∃ pn, pn = ps.length := ⟨_, rfl⟩
                  rw [← hpn] at p0
                  have HLP := Lib.hid hpn
                  have HLE := Lib.hid hlen
                  clear hr hlen hun hpn hlt
                  go_wp2_with fail
                  refine (frame_calls w0 _ g pn ps bp HS.out.st.rdr).mono ?_
                  have hfm : frameM pn ps bp = (ps, [], bp) := by
                    unfold frameM
                    rw [HLP.out, if_neg (by omega), List.take_length, List.drop_length]
                  rintro e w2 ⟨xv, rfl, e1, e2, e3, e4⟩
                  rw [hfm] at e1 e2
                  obtain ⟨XA, xn, xc, rfl⟩ := e1.shape
                  have HXM := Lib.hid e1
                  have HT := Lib.hid (HS.out.took (by decide) (by decide) (by decide) e2 e3)
                  have HO : Hid (∀ b, (Value.slice XA xn xc).ownBlock = some b → w.heap.size ≤ b) := Lib.hid (fun b hb => Nat.le_trans HS.out.st.kept.size (e4 b hb))
                  have HB : Hid (w.heap.size ≤ w2.heap.size) := Lib.hid HT.out.st.kept.size
                  have HLN : Hid (L.length ≤ 1000) := Lib.hid (by rw [HLE.out]; omega)
                  clear e1 e2 e3 e4 HS hfm p0
                  go_wp2_with (at_builtin; refine append_frame (by first | rfl | kernel_rfl) _ _ rfl rfl rfl HT.out.st.frs HXM.out HO.out HB.out HLN.out ?_)
                  intro v' w3 m1 m2
                  have HU := Lib.hid (HT.out.app (by decide) m1 m2 H0.out.kept.size)
                  clear m1 m2 HT HXM HO HB HLN HLE
                  go_wp2_with fail
                  go_ret2
                  rw [HM.out]
                  exact ⟨_, rfl, HU.out.st.frs, HU.out.st.rdr, HU.out.st.kept⟩

  · have hM : manyM ms xs = (([], 0), ys, true) := by
      rw [HMAN.out, if_pos (by omega)]
    have HM := Lib.hid hM
    clear hM
    obtain ⟨ZA, zn, zcc, hzblk, hzarg⟩ := H1.out.at_
    have HZB := Lib.hid hzblk
    have HZA := Lib.hid hzarg
    have f1 := hzblk.free 1
    have c1 : w1.cell? ⟨g, 1, none⟩ = some (.bool b) := hzblk.cell 1
    clear hzblk hzarg
    go_wp2_with fail
    all_goals first
      | (exfalso; omega)
      | (go_ret2
         rw [HM.out]
         exact ⟨_, rfl, Frs.nil _ _, Rdr.store H1.out.kept H1.out.og HZB.out (A' := ZA) (n' := zn) (c' := zcc) (bad' := true) rfl HZA.out, K1.out.trans (Keep.setb _ _ _ _)⟩)
end Go.Proofs.Ytmnknegbbmjcbaa
