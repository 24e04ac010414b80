/- The reference's Parse: the walk. -/
import Derived.Test.YtmnknegbbmjcbaaT23
import Derived.Deep.CutBlock
namespace Go.Proofs.Ytmnknegbbmjcbaa
open Go.RowKit

set_option maxRecDepth 100000
set_option maxHeartbeats 4000000
theorem rparse_calls (A : Option Addr) (n c : Nat) (xs : List Int) (w : World) (h : ArgB w A n c xs) :
    Calls Try.prog 16 #[.slice A n c] w (RetRP w (parseM xs)) := by
  have H := Lib.hid h
  clear h
  have HR0 : Hid (Rdr 64 w ((w.alloc (.cells #[.int .i64 0, .int .i64 0, .slice none 0 0, .int .i64 0] 39)).alloc (.cells #[.slice A n c, .bool false] 64)) (w.heap.size + 1) xs false) := by
    have hb := Blk.new (w.alloc (.cells #[.int .i64 0, .int .i64 0, .slice none 0 0, .int .i64 0] 39)) #[.slice A n c, .bool false] 64
    rw [World.size_alloc] at hb
    exact Lib.hid ⟨(Keep.alloc [] _ _).trans (Keep.alloc [] _ _), by omega, A, n, c, hb, H.out⟩
  have HE0 : Hid (Blk ((w.alloc (.cells #[.int .i64 0, .int .i64 0, .slice none 0 0, .int .i64 0] 39)).alloc (.cells #[.slice A n c, .bool false] 64)) w.heap.size #[.int .i64 0, .int .i64 0, .slice none 0 0, .int .i64 0] 39) := Lib.hid ((Blk.new w _ _).alloc _)
  go_enter Try.func16, Try.ntmps16
  go_wp2_with fail
  refine (one_calls w _ (w.heap.size + 1) xs false HR0.out).mono ?_
  rintro e w1 ⟨rfl, h1, k1⟩
  have HE1 := Lib.hid (HE0.out.keep k1 (by simp))
  have HR1 := Lib.hid h1
  clear h1 k1 HE0 HR0
  cases xs with
  | nil =>
    dsimp only [byteM] at HR1 ⊢
    have e1 : bits .and .i64 0 1 = 0 := by decide
    have HP : Hid (RpSt w (w1.alloc (.cells #[.int .i64 0, .int .i64 1, .slice none 0 0, .int .i64 0] 39)) w1.heap.size 0 1 (.slice none 0 0) [] 0 [] true) := Lib.hid (RpSt.new HR1.out HE1.out)
    have hcb : (w1.alloc (.cells #[.int .i64 0, .int .i64 1, .slice none 0 0, .int .i64 0] 39)).cell? ⟨w.heap.size + 1, 1, none⟩ = some (.bool true) := by
      obtain ⟨_, _, _, h1, _⟩ := HP.out.st.rdr.c0
      exact h1
    clear HR1 HE1
    go_wp2_with (refine wpList_store_row rfl 39 _ _ rfl w.heap.size #[.int .i64 0, .int .i64 0, .slice none 0 0, .int .i64 0] rfl rfl 39 _ HP.out.res (rpk_size _ _ _ _ _ _) rfl (pk_one _ _ _ _ _ _) ?_)
    refine bodyPost_ret (results_row2 rfl _ _ w.heap.size 39 _ _ rfl (HP.out.res.row _) Try.underlying39 (rpk_size _ _ _ _ _ _) _ rfl) rfl ?_
    exact ⟨HP.out.k0.trans' (Keep.row _ _ _) (by simp) (by simp), rfl⟩
  | cons x ys =>
    obtain ⟨hb0, hb1⟩ := rng_of H.out
    dsimp only [byteM] at HR1 ⊢
    obtain ⟨k, hk⟩ : ∃ k : Nat, x / 8 = (k : Int) := Int.eq_ofNat_of_zero_le (by omega)
    have hk31 : k < 32 := by omega
    obtain ⟨ch, hch⟩ : ∃ ch, ch = 1 + (x / 4) % 2 := ⟨_, rfl⟩
    have hch1 : 1 ≤ ch := by omega
    have hch2 : ch ≤ 2 := by omega
    have e1 : bits .and .i64 (x / 4) 1 = ch - 1 := by rw [and1 (by omega) (by omega)]; omega
    have e2 : wrap64 (1 + (ch - 1)) = ch := by unfold wrap64; omega
    have e3 : wrap64 ch = ch := by unfold wrap64; omega
    have e4 : IntKind.i64.wrap (1 + (ch - 1)) = ch := by rw [wrapEq']; exact e2
    have e5 : IntKind.i64.wrap ch = ch := by rw [wrapEq']; exact e3
    have HP : Hid (RpSt w (w1.alloc (.cells #[.int .i64 k, .int .i64 ch, .slice none 0 0, .int .i64 0] 39)) w1.heap.size k ch (.slice none 0 0) [] 0 ys false) := Lib.hid (RpSt.new HR1.out HE1.out)
    have hcb : (w1.alloc (.cells #[.int .i64 k, .int .i64 ch, .slice none 0 0, .int .i64 0] 39)).cell? ⟨w.heap.size + 1, 1, none⟩ = some (.bool false) := by
      obtain ⟨_, _, _, h1, _⟩ := HP.out.st.rdr.c0
      exact h1
    clear HR1 HE1
    by_cases hbig : 12 ≤ k
    · have HM : Hid (parseM (x :: ys) = none) := Lib.hid (by rw [parseM_cons, if_pos (by omega)])
      clear hch
      go_wp2_with (refine wpList_store_row rfl 39 _ _ rfl w.heap.size #[.int .i64 0, .int .i64 0, .slice none 0 0, .int .i64 0] rfl rfl 39 _ HP.out.res (rpk_size _ _ _ _ _ _) rfl (pk_one _ _ _ _ _ _) ?_)
      refine bodyPost_ret (results_row2 rfl _ _ w.heap.size 39 _ _ rfl (HP.out.res.row _) Try.underlying39 (rpk_size _ _ _ _ _ _) _ rfl) rfl ?_
      rw [HM.out]
      exact ⟨HP.out.k0.trans' (Keep.row _ _ _) (by simp) (by simp), rfl⟩
    · have hk12 : k < 12 := by omega
      have HMOD : Hid (parseM (x :: ys) = if (foundM ys x).2.2 = true ∨ longL (foundM ys x).1.1 = true then none else some ⟨k, ch, (foundM ys x).1.1, (foundM ys x).1.2⟩) := Lib.hid (by
        rw [parseM_cons, if_neg (by omega), hk, Int.toNat_natCast, ← hch])
      have HXK := Lib.hid hk
      have HRY : Hid ((∀ y ∈ ys, 0 ≤ y ∧ y ≤ 255) ∧ ys.length ≤ 140737488355328) := Lib.hid ⟨fun y hy => H.out.rng y (by simp [hy]), by have h1 := H.out.ln; have h2 := H.out.big; simp only [List.length_cons] at h1; omega⟩
      have HMSK : Hid (msM (x / 8).toNat = msM k) := Lib.hid (by rw [HXK.out, Int.toNat_natCast])
      clear hbig hch
      go_upto_block 0 with fail
      clear e1 e2 e3 e4 e5 hcb hk
      obtain ⟨pb, hpb⟩ : ∃ pb, pb = w1.heap.size := ⟨_, rfl⟩
      rw [← hpb] at HP ⊢
      generalize w1.alloc (.cells #[.int .i64 k, .int .i64 ch, .slice none 0 0, .int .i64 0] 39) = wq at *
      clear hpb
      go_cut [] from 33 to 98 (fun wx => ∃ v L pad rest bad, RpSt w wx pb k ch v L pad rest bad ∧ bad = (foundM ys x).2.2 ∧ (bad = false → L = (foundM ys x).1.1 ∧ pad = ((foundM ys x).1.2 : Int)))
      case rest =>
        clear HP
        obtain ⟨v, L, pad, rest, bad, HP, hbd, hgd⟩ := hcut
        have HP := Lib.hid HP
        have HBD := Lib.hid hbd
        have HGD := Lib.hid hgd
        clear hbd hgd
        obtain ⟨VA, vn, vc, rfl⟩ := HP.out.st.frs.shape
        have hcb : wc.cell? ⟨w.heap.size + 1, 1, none⟩ = some (.bool bad) := by
          obtain ⟨_, _, _, h1, _⟩ := HP.out.st.rdr.c0
          exact h1
        cases bad with
        | true =>
          have HM : Hid (parseM (x :: ys) = none) := Lib.hid (by rw [HMOD.out, if_pos (.inl HBD.out.symm)])
          go_wp2_with (refine wpList_store_row rfl 39 _ _ rfl w.heap.size #[.int .i64 0, .int .i64 0, .slice none 0 0, .int .i64 0] rfl rfl 39 _ HP.out.res (rpk_size _ _ _ _ _ _) rfl (pk_one _ _ _ _ _ _) ?_)
          refine bodyPost_ret (results_row2 rfl _ _ w.heap.size 39 _ _ rfl (HP.out.res.row _) Try.underlying39 (rpk_size _ _ _ _ _ _) _ rfl) rfl ?_
          rw [HM.out]
          exact ⟨HP.out.k0.trans' (Keep.row _ _ _) (by simp) (by simp), rfl⟩
        | false =>
          obtain ⟨hL, hpad⟩ := HGD.out rfl
          have hfit : Fit L := by rw [hL]; exact (sub_found ys x).fit HRY.out.1 HRY.out.2
          obtain ⟨P, hP⟩ : ∃ P, P = (foundM ys x).1.2 := ⟨_, rfl⟩
          rw [← hP] at hpad
          subst hpad
          have HM2 : Hid (parseM (x :: ys) = if longL L = true then none else some ⟨k, ch, L, P⟩) := Lib.hid (by
            rw [HMOD.out, ← HBD.out, ← hL, ← hP]
            simp)
          obtain ⟨A2, c2, hv2, hfr⟩ := HP.out.st.frs.reads hfit
          simp only [Value.slice.injEq] at hv2
          obtain ⟨rfl, hvn, rfl⟩ := hv2
          rw [← hvn] at hfr
          have HFR := Lib.hid hfr
          have HVN := Lib.hid hvn
          have hcf : wc.cell? ⟨pb, 2, none⟩ = some (.slice VA vn vc) := HP.out.st.bx.cell 2
          have hvc := hfr.cp
          have hvm := hfr.most
          clear hL hP hfit hfr hvn HGD HBD HMOD HRY
          go_wp2_with fail
          go_loopw [9] (fun i wr => ∃ z : Nat, z ≤ vn ∧ i = .int .i64 z ∧ wr = wc ∧ Hid (∀ j l, j < z → L[j]? = some l → ((fun n => decide (1275 < n)) : Nat → Bool) l.length = false)) (fun i _ => vn - (intOf i).toNat)
          case atStart => exact ⟨0, by omega, rfl, rfl, Lib.hid (fun j l hj => by omega)⟩
          case round =>
            obtain ⟨z, hz, rfl, hwr, HS⟩ := hrel
            subst hwr
            by_cases hlt : z < vn
            · obtain ⟨l, hl⟩ : ∃ l, L[z]? = some l := ⟨_, List.getElem?_eq_getElem (by rw [← HVN.out]; exact hlt)⟩
              obtain ⟨a, X, d, rfl, hca, _⟩ := HFR.out.at_ z l hl
              obtain ⟨q, hq⟩ : ∃ q, q = l.length := ⟨_, rfl⟩
              rw [← hq] at hca
              have HQ := Lib.hid hq
              have HL := Lib.hid hl
              have hz0 : (0 : Int) ≤ (z : Int) := by omega
              have hz1 : (z : Int) < (vn : Int) := by omega
              clear hq hl
              by_cases ho : 1275 < q
              · have HM : Hid (parseM (x :: ys) = none) := Lib.hid (by rw [HM2.out, if_pos (show longL L = true from anyL_true HL.out (by rw [← HQ.out]; exact decide_eq_true ho))])
                go_wp2_with (refine wpList_store_row rfl 39 _ _ rfl w.heap.size #[.int .i64 0, .int .i64 0, .slice none 0 0, .int .i64 0] rfl rfl 39 _ HP.out.res (rpk_size _ _ _ _ _ _) rfl (pk_one _ _ _ _ _ _) ?_)
                refine bodyPost_ret (results_row2 rfl _ _ w.heap.size 39 _ _ rfl (HP.out.res.row _) Try.underlying39 (rpk_size _ _ _ _ _ _) _ rfl) rfl ?_
                rw [HM.out]
                exact ⟨HP.out.k0.trans' (Keep.row _ _ _) (by simp) (by simp), rfl⟩
              · go_wp2_with fail
                go_roundw
                case rel => exact ⟨z + 1, by omega, by go_num, by trivial, Lib.hid (fun j l' hj hl' => by
                  by_cases hjk : j < z
                  · exact HS.out j l' hjk hl'
                  · obtain rfl : j = z := by omega
                    have e := HL.out.symm.trans hl'
                    simp only [Option.some.injEq] at e
                    subst e
                    rw [← HQ.out]
                    exact decide_eq_false ho)⟩
                case measure => simp [intOf]; omega
            · obtain rfl : z = vn := by omega
              have HM : Hid (parseM (x :: ys) = some ⟨k, ch, L, P⟩) := Lib.hid (by
                rw [HM2.out, if_neg]
                rw [show longL L = false from anyL_false HVN.out.symm HS.out]
                simp)
              have hw2 : wr.cell? ⟨pb, 2, none⟩ = some (.slice VA z vc) := hcf
              go_wp2_with (first
                | (refine wpList_load_row rfl 39 _ rfl pb rfl 39 _ (0, 0) _ HP.out.st.bx Try.underlying39 rfl (by kernel_rfl) ?_)
                | (refine wpList_store_row rfl 39 _ _ rfl w.heap.size #[.int .i64 k, .int .i64 ch, .slice VA z vc, .int .i64 P] rfl rfl 39 _ HP.out.res (rpk_size _ _ _ _ _ _) rfl (pk_one _ _ _ _ _ _) ?_))
              refine bodyPost_ret (results_row2 rfl _ _ w.heap.size 39 _ _ rfl (HP.out.res.row _) Try.underlying39 (rpk_size _ _ _ _ _ _) _ rfl) rfl ?_
              rw [HM.out]
              exact ⟨HP.out.k0.trans' (Keep.row _ _ _) (by simp) (by simp), _, rfl, HP.out.st.frs.keep (Keep.row _ _ _) (Odd.one HP.out.res (by decide) (by decide))⟩
      case first =>
        clear HMOD H
        obtain ⟨YA, yc, y0, y1, yf0, yf1, hyc, hyb⟩ := HP.out.st.rdr.c0
        obtain ⟨n2, hn2⟩ : ∃ n2, n2 = ys.length := ⟨_, rfl⟩
        rw [← hn2] at y0 hyc hyb
        have HN2 := Lib.hid hn2
        clear hn2
        have hx4 : x % 4 = 0 ∨ x % 4 = 1 ∨ x % 4 = 2 ∨ x % 4 = 3 := by omega
        rcases hx4 with hx4 | hx4 | hx4 | hx4
        · have h3 : bits .and .i64 x 3 = 0 := by rw [and3 hb0 hb1]; exact hx4
          have HFO : Hid (foundM ys x = (([ys], 0), [], false)) := Lib.hid (by unfold foundM; rw [if_pos hx4, equal_1])
          clear hx4
          go_wp2_with fail
          refine (some_calls w _ (w.heap.size + 1) n2 ys false HP.out.st.rdr).mono ?_
          rintro e w2 ⟨xv, rfl, e1, e2, e3, e4⟩
          rw [frame_all ys false HN2.out] at e1 e2
          obtain ⟨XA, xn, xc, rfl⟩ := e1.shape
          have HT := Lib.hid ((HP.out.took e2 e3).keep0 (Keep.alloc [] w2 (.cells #[.slice XA xn xc] 29)))
          have HF := Lib.hid (Frs.lit (B := w.heap.size) e1 (fun b hb => Nat.le_trans HP.out.st.kept.size (e4 b hb)) (Nat.le_trans HP.out.st.kept.size e3.size))
          have hs0 : (w2.alloc (.cells #[.slice XA xn xc] 29)).cell? ⟨pb, 2, none⟩ = some (.slice none 0 0) := HT.out.st.bx.cell 2
          have hs1 := HT.out.st.bx.free 2
          have HS := Lib.hid (HT.out.setFr HF.out)
          clear e1 e2 e3 e4
          go_wp2_with fail
          go_meet
          exact ⟨_, _, _, _, _, HS.out, by rw [HFO.out], fun _ => by rw [HFO.out]; exact ⟨rfl, rfl⟩⟩
        · have h3 : bits .and .i64 x 3 = 1 := by rw [and3 hb0 hb1]; exact hx4
          have HFO1 : Hid (foundM ys x = (((equalM 2 ys false).1, 0), (equalM 2 ys false).2)) := Lib.hid (by unfold foundM; rw [if_neg (by omega), if_pos hx4])
          clear hx4
          by_cases hod : n2 % 2 = 1
          · have hoi : (n2 : Int) % 2 = 1 := by omega
            have HM : Hid (parseM (x :: ys) = none) := Lib.hid (by
              rw [parseM_cons, if_neg (by rw [HXK.out]; omega), HFO1.out, equal_odd (by rw [← HN2.out]; omega), if_pos (.inl rfl)])
            go_wp2_with (refine wpList_store_row rfl 39 _ _ rfl w.heap.size #[.int .i64 0, .int .i64 0, .slice none 0 0, .int .i64 0] rfl rfl 39 _ HP.out.res (rpk_size _ _ _ _ _ _) rfl (pk_one _ _ _ _ _ _) ?_)
            refine bodyPost_ret (results_row2 rfl _ _ w.heap.size 39 _ _ rfl (HP.out.res.row _) Try.underlying39 (rpk_size _ _ _ _ _ _) _ rfl) rfl ?_
            rw [HM.out]
            exact ⟨HP.out.k0.trans' (Keep.row _ _ _) (by simp) (by simp), rfl⟩
          · obtain ⟨kk, hkk⟩ : ∃ kk, n2 = 2 * kk := ⟨n2 / 2, by omega⟩
            have hoi : (n2 : Int) % 2 = 0 := by omega
            have hq1 : (n2 : Int) / 2 = (kk : Int) := by omega
            have hq2 : wrap64 ((n2 : Int) / 2) = (kk : Int) := by
              rw [hq1]
              exact pad_wrap (n := kk) (by omega) (by omega)
            have hq3 : IntKind.i64.wrap ((n2 : Int) / 2) = (kk : Int) := by rw [wrapEq']; exact hq2
            have hq4 : IntKind.i64.wrap (Int.tdiv (n2 : Int) 2) = (kk : Int) := by rw [Int.tdiv_eq_ediv_of_nonneg (by omega)]; exact hq3
            have HFO : Hid (foundM ys x = (([ys.take kk, ys.drop kk], 0), [], false)) := Lib.hid (by rw [HFO1.out, equal_2 (by rw [← HN2.out]; exact hkk)])
            have HF1 : Hid (frameM kk ys false = (ys.take kk, ys.drop kk, false)) := Lib.hid (by
              unfold frameM
              rw [if_neg (by rw [← HN2.out]; omega)])
            have HF2 : Hid (frameM kk (ys.drop kk) false = (ys.drop kk, [], false)) := Lib.hid (frame_all _ _ (by rw [List.length_drop, ← HN2.out]; omega))
            clear hq1 hkk
            go_wp2_with fail
            refine (some_calls w _ (w.heap.size + 1) kk ys false HP.out.st.rdr).mono ?_
            rintro e w2 ⟨xv, rfl, e1, e2, e3, e4⟩
            rw [HF1.out] at e1 e2
            obtain ⟨XA, xn, xc, rfl⟩ := e1.shape
            have HT := Lib.hid ((HP.out.took e2 e3).keep0 (Keep.alloc [] w2 (.cells #[.slice XA xn xc] 29)))
            have HF := Lib.hid (Frs.lit (B := w.heap.size) e1 (fun b hb => Nat.le_trans HP.out.st.kept.size (e4 b hb)) (Nat.le_trans HP.out.st.kept.size e3.size))
            have hs0 : (w2.alloc (.cells #[.slice XA xn xc] 29)).cell? ⟨pb, 2, none⟩ = some (.slice none 0 0) := HT.out.st.bx.cell 2
            have hs1 := HT.out.st.bx.free 2
            have HS := Lib.hid (HT.out.setFr HF.out)
            clear e1 e2 e3 e4
            go_wp2_with fail
            clear hs0 hs1 HT HF HP
            obtain ⟨ws, hws⟩ : ∃ ws, ws = (w2.alloc (.cells #[.slice XA xn xc] 29)).setCell ⟨pb, 2, none⟩ (.slice (some ⟨w2.heap.size, 0, none⟩) 1 1) := ⟨_, rfl⟩
            obtain ⟨VA, hVA⟩ : ∃ VA, VA = some (⟨w2.heap.size, 0, none⟩ : Addr) := ⟨_, rfl⟩
            rw [← hws, ← hVA] at HS
            rw [← hws, ← hVA]
            clear hws hVA
            have d2 : ws.cell? ⟨pb, 2, none⟩ = some (.slice VA 1 1) := HS.out.st.bx.cell 2
            go_wp2_with fail
            go_region_law (first
              | (refine step_frame rfl _ _ rfl rfl rfl HT.out.st.frs HXM.out HXO.out HXB.out (by simp) ?_; intro v' w8 m1 m2; have HAP := Lib.hid (HT.out.app m2); obtain ⟨FA, fn, fc, rfl⟩ := m1.shape; have HF8 := Lib.hid m1; clear m1 m2; have hx0 : w8.cell? ⟨pb, 2, none⟩ = some (.slice VA 1 1) := HAP.out.1.2.1.cell 2; have hx1 := HAP.out.1.2.1.free 2)
              | (go_simp; go_at_call 34; refine (some_calls w _ (w.heap.size + 1) kk (ys.drop kk) false (HS.out.st.rdr.keep0 (Keep.drew [] _))).mono ?_; rintro e w7 ⟨xv, rfl, e1, e2, e3, e4⟩; rw [HF2.out] at e1 e2; obtain ⟨XA, xn, xc, rfl⟩ := e1.shape; have HXM := Lib.hid e1; have HT := Lib.hid ((HS.out.keep0 (Keep.drew [] _)).took e2 e3); have HXO : Hid (∀ b, (Value.slice XA xn xc).ownBlock = some b → w.heap.size ≤ b) := Lib.hid (fun b hb => Nat.le_trans HS.out.st.kept.size (e4 b hb)); have HXB : Hid (w.heap.size ≤ w7.heap.size) := Lib.hid HT.out.st.kept.size; clear e1 e2 e3 e4; have hy2 : w7.cell? ⟨pb, 2, none⟩ = some (.slice VA 1 1) := HT.out.st.bx.cell 2; have hy3 : (w7.alloc (.cells #[.slice XA xn xc] 29)).cell? ⟨pb, 2, none⟩ = some (.slice VA 1 1) := (HT.out.keep0 (Keep.alloc [] _ _)).st.bx.cell 2))
            all_goals (
              have HU := Lib.hid (RpSt.fin HAP.out HS.out.lo HF8.out)
              clear HAP HF8 HT HXM HXO HXB hx0 hx1 hy2 hy3
              go_wp2_with fail
              go_meet
              exact ⟨_, _, _, _, _, HU.out, by rw [HFO.out], fun _ => by rw [HFO.out]; exact ⟨rfl, rfl⟩⟩)
        · have h3 : bits .and .i64 x 3 = 2 := by rw [and3 hb0 hb1]; exact hx4
          have HFO1 : Hid (foundM ys x = (([(frameM (lenM ys false).1.toNat (lenM ys false).2.1 (lenM ys false).2.2).1, (frameM (lenM ys false).1.toNat (lenM ys false).2.1 (lenM ys false).2.2).2.1], 0), [], (frameM (lenM ys false).1.toNat (lenM ys false).2.1 (lenM ys false).2.2).2.2)) := Lib.hid (by unfold foundM; rw [if_neg (by omega), if_neg (by omega), if_pos hx4])
          clear hx4 y0 y1 yf0 yf1
          go_wp2_with fail
          refine (rlength_calls w _ (w.heap.size + 1) ys false HP.out.st.rdr).mono ?_
          rintro e w0 ⟨rfl, e1, e2⟩
          obtain ⟨hr0, hr1⟩ := len_rng HP.out.st.rdr
          obtain ⟨y, hy⟩ := Int.eq_ofNat_of_zero_le hr0
          have hry : (rlenM ys false).1 = (y : Int) := hy
          rw [hry]
          have HP2 := Lib.hid (HP.out.took e1 e2)
          obtain ⟨bz, hbz⟩ : ∃ bz, bz = (rlenM ys false).2.2 := ⟨_, rfl⟩
          rw [← hbz] at HP2
          have HBZ := Lib.hid hbz
          have HY := Lib.hid hy
          clear hbz hr0 hr1 hry hy e1 e2 HP
          have g1 : w0.cell? ⟨w.heap.size + 1, 1, none⟩ = some (.bool bz) := by
            obtain ⟨_, _, _, h, _⟩ := HP2.out.st.rdr.c0
            exact h
          cases bz with
          | true =>
            have HM : Hid (parseM (x :: ys) = none) := Lib.hid (by
              rw [parseM_cons, if_neg (by rw [HXK.out]; omega), HFO1.out, if_pos (.inl (len_gives_up HBZ.out.symm))])
            go_wp2_with (refine wpList_store_row rfl 39 _ _ rfl w.heap.size #[.int .i64 0, .int .i64 0, .slice none 0 0, .int .i64 0] rfl rfl 39 _ HP2.out.res (rpk_size _ _ _ _ _ _) rfl (pk_one _ _ _ _ _ _) ?_)
            refine bodyPost_ret (results_row2 rfl _ _ w.heap.size 39 _ _ rfl (HP2.out.res.row _) Try.underlying39 (rpk_size _ _ _ _ _ _) _ rfl) rfl ?_
            rw [HM.out]
            exact ⟨HP2.out.k0.trans' (Keep.row _ _ _) (by simp) (by simp), rfl⟩
          | false =>
            have hsame := rlen_same HBZ.out.symm
            have hbu : (lenM ys false).2.2 = false := by rw [← hsame]; exact HBZ.out.symm
            have hu : (rlenM ys false).2.1 = (lenM ys false).2.1 := by rw [hsame]
            obtain ⟨us, hus⟩ : ∃ us, us = (lenM ys false).2.1 := ⟨_, rfl⟩
            rw [hu, ← hus] at HP2
            have HP := HP2
            rw [← hus, hbu, HY.out, Int.toNat_natCast] at HFO1
            obtain ⟨q, hq⟩ : ∃ q, q = frameM y us false := ⟨_, rfl⟩
            rw [← hq] at HFO1
            have HQ := Lib.hid hq
            clear hsame hbu hu hus hq HP2
            obtain ⟨f1, ps, bp⟩ := q
            dsimp only at HFO1
            have HFO := HFO1
            clear HFO1
            go_wp2_with fail
            refine (some_calls w _ (w.heap.size + 1) y us false HP.out.st.rdr).mono ?_
            rintro e w2 ⟨xv, rfl, e1, e2, e3, e4⟩
            rw [← HQ.out] at e1 e2
            obtain ⟨XA, xn, xc, rfl⟩ := e1.shape
            have HT := Lib.hid ((HP.out.took e2 e3).keep0 (Keep.alloc [] w2 (.cells #[.slice XA xn xc] 29)))
            have HF := Lib.hid (Frs.lit (B := w.heap.size) e1 (fun b hb => Nat.le_trans HP.out.st.kept.size (e4 b hb)) (Nat.le_trans HP.out.st.kept.size e3.size))
            have hs0 : (w2.alloc (.cells #[.slice XA xn xc] 29)).cell? ⟨pb, 2, none⟩ = some (.slice none 0 0) := HT.out.st.bx.cell 2
            have hs1 := HT.out.st.bx.free 2
            have HS := Lib.hid (HT.out.setFr HF.out)
            clear e1 e2 e3 e4
            go_wp2_with fail
            clear hs0 hs1 HT HF HP g1
            obtain ⟨ws, hws⟩ : ∃ ws, ws = (w2.alloc (.cells #[.slice XA xn xc] 29)).setCell ⟨pb, 2, none⟩ (.slice (some ⟨w2.heap.size, 0, none⟩) 1 1) := ⟨_, rfl⟩
            obtain ⟨VA, hVA⟩ : ∃ VA, VA = some (⟨w2.heap.size, 0, none⟩ : Addr) := ⟨_, rfl⟩
            rw [← hws, ← hVA] at HS
            rw [← hws, ← hVA]
            clear hws hVA
            obtain ⟨PA, pcap, p0, p1, _, _, _, _⟩ := HS.out.st.rdr.c0
            obtain ⟨pn, hpn⟩ : ∃ pn, pn = ps.length := ⟨_, rfl⟩
            rw [← hpn] at p0
            have HF2 : Hid (frameM pn ps bp = (ps, [], bp)) := Lib.hid (frame_all _ _ hpn)
            clear hpn
            have d2 : ws.cell? ⟨pb, 2, none⟩ = some (.slice VA 1 1) := HS.out.st.bx.cell 2
            go_wp2_with fail
            go_region_law (first
              | (refine step_frame rfl _ _ rfl rfl rfl HT.out.st.frs HXM.out HXO.out HXB.out (by simp) ?_; intro v' w8 m1 m2; have HAP := Lib.hid (HT.out.app m2); obtain ⟨FA, fn, fc, rfl⟩ := m1.shape; have HF8 := Lib.hid m1; clear m1 m2; have hx0 : w8.cell? ⟨pb, 2, none⟩ = some (.slice VA 1 1) := HAP.out.1.2.1.cell 2; have hx1 := HAP.out.1.2.1.free 2)
              | (go_simp; go_at_call 34; refine (some_calls w _ (w.heap.size + 1) pn ps bp (HS.out.st.rdr.keep0 (Keep.drew [] _))).mono ?_; rintro e w7 ⟨xv, rfl, e1, e2, e3, e4⟩; rw [HF2.out] at e1 e2; obtain ⟨XA, xn, xc, rfl⟩ := e1.shape; have HXM := Lib.hid e1; have HT := Lib.hid ((HS.out.keep0 (Keep.drew [] _)).took e2 e3); have HXO : Hid (∀ b, (Value.slice XA xn xc).ownBlock = some b → w.heap.size ≤ b) := Lib.hid (fun b hb => Nat.le_trans HS.out.st.kept.size (e4 b hb)); have HXB : Hid (w.heap.size ≤ w7.heap.size) := Lib.hid HT.out.st.kept.size; clear e1 e2 e3 e4; have hy2 : w7.cell? ⟨pb, 2, none⟩ = some (.slice VA 1 1) := HT.out.st.bx.cell 2; have hy3 : (w7.alloc (.cells #[.slice XA xn xc] 29)).cell? ⟨pb, 2, none⟩ = some (.slice VA 1 1) := (HT.out.keep0 (Keep.alloc [] _ _)).st.bx.cell 2))
            all_goals (
              have HU := Lib.hid (RpSt.fin HAP.out HS.out.lo HF8.out)
              clear HAP HF8 HT HXM HXO HXB hx0 hx1 hy2 hy3
              go_wp2_with fail
              go_meet
              exact ⟨_, _, _, _, _, HU.out, by rw [HFO.out], fun _ => by rw [HFO.out]; exact ⟨rfl, rfl⟩⟩)
        · have h3 : bits .and .i64 x 3 = 3 := by rw [and3 hb0 hb1]; exact hx4
          have HFO : Hid (foundM ys x = manyM (msM k) ys) := Lib.hid (by unfold foundM; rw [if_neg (by omega), if_neg (by omega), if_neg (by omega), HMSK.out])
          clear hx4 y0 y1 yf0 yf1
          go_wp2_with fail
          refine (rmany_calls w _ (w.heap.size + 1) pb k ch ys hk12 HP.out.base).mono ?_
          rintro e w2 ⟨rfl, v, L, pad, rs, bad, e1, e2, e3⟩
          have HS := Lib.hid (HP.out.many e1)
          have HB2 := Lib.hid e2
          have HB3 := Lib.hid e3
          clear e1 e2 e3
          go_wp2_with fail
          go_meet
          exact ⟨_, _, _, _, _, HS.out, by rw [HFO.out]; exact HB2.out, fun h => by rw [HFO.out]; exact HB3.out h⟩
end Go.Proofs.Ytmnknegbbmjcbaa
