/- (*Voice).Run. -/
import Derived.Test.YtjhgbcgpkpahjaaS4
namespace Go.Proofs.Ytjhgbcgpkpahjaa
open Go.RowKit

def RetRun (b : Nat) (w : World) (r : List Int × Vc) (e : Ending) (w' : World) : Prop :=
  ∃ v, e = .returned (.tuple #[v, .int .i64 0]) ∧ Keep [b] w w' ∧ IsV w' b r.2 ∧ Made w' v r.1 ∧ ∀ g, v.ownBlock = some g → w.heap.size ≤ g
def RetBadRun (w : World) (e : Ending) (w' : World) : Prop := e = .returned (.tuple #[.slice none 0 0, .int .i64 1]) ∧ Keep [] w w'
set_option maxRecDepth 100000 in
set_option maxHeartbeats 1000000 in
theorem run_bad (b : Nat) (p : PartA) (w : World) (hp : IsPart w p) (hg : goodB p = false) : Calls Try.prog 11 #[.pointer (some ⟨b, 0, none⟩), .agg p.cells] w (RetBadRun w) := by
  have HK : Hid (Keep [] w (w.alloc (.cells p.cells 31))) := Lib.hid (Keep.alloc [] w _)
  have HB : Hid (Blk (w.alloc (.cells p.cells 31)) w.heap.size p.cells 31) := Lib.hid (Blk.new w _ _)
  have HP := Lib.hid (hp.keep0 HK.out)
  have HG := Lib.hid hg
  clear hp hg
  go_enter Try.func11, Try.ntmps11
  go_wp2_with (refine wpList_load_row rfl 31 _ rfl w.heap.size rfl 31 _ (0, 0) _ HB.out Try.underlying31 rfl (by kernel_rfl) ?_)
  refine (good_calls p _ HP.out).mono ?_
  rintro e w1 ⟨rfl, k1⟩
  rw [HG.out]
  have HK1 := Lib.hid (HK.out.trans k1)
  clear k1
  go_wp2_with fail
  go_ret2
  exact ⟨rfl, HK1.out⟩
theorem lagOk_of {l : Int} (h : lagOk l = true) : l = 0 ∨ (3 ≤ l ∧ l ≤ 318) := by
  simp [lagOk] at h
  omega
structure GoodP (p : PartA) : Prop where
  n1 : 1 ≤ p.n
  n2 : p.n ≤ 480
  lag : p.lag = 0 ∨ (3 ≤ p.lag ∧ p.lag ≤ 318)
  m : p.m ≤ 32
theorem goodP_of {p : PartA} (h : goodB p = true) : GoodP p := by
  simp only [goodB, Bool.and_eq_true, decide_eq_true_eq] at h
  exact ⟨h.1, h.2.1, lagOk_of h.2.2.2.2.2.1, h.2.2.2.2.2.2.2.1⟩
set_option maxRecDepth 100000 in
set_option maxHeartbeats 4000000 in
theorem run_calls (b : Nat) (s : Vc) (p : PartA) (w : World) (hp : IsPart w p) (hg : goodB p = true) (hb : IsV w b s) (hA : ∀ a, p.A = some a → 0 < p.n → a.block ≠ b) (hB : ∀ a, p.B = some a → 0 < p.m → a.block ≠ b) :
    Calls Try.prog 11 #[.pointer (some ⟨b, 0, none⟩), .agg p.cells] w (RetRun b w (mapS (stepV p.loud p.lag p.taps p.fs) s p.xs)) := by
  have HGP := goodP_of hg
  have HP := Lib.hid (hp.keep0 (Keep.alloc [] w (.cells p.cells 31)))
  have HG := Lib.hid hg
  have HK : Hid (Keep [] w (w.alloc (.cells p.cells 31))) := Lib.hid (Keep.alloc [] w _)
  have HB : Hid (Blk (w.alloc (.cells p.cells 31)) w.heap.size p.cells 31) := Lib.hid (Blk.new w _ _)
  have HV := Lib.hid hb
  have HP0 := Lib.hid hp
  have HNA := Lib.hid hA
  have HNB := Lib.hid hB
  obtain ⟨hn1, hn2, hlag, hm⟩ := HGP
  clear hp hg hb hA hB
  have hmk := make_ints0 p.n (by omega)
  go_enter Try.func11, Try.ntmps11
  go_wp2_with (refine wpList_load_row rfl 31 _ rfl w.heap.size rfl 31 _ (0, 0) _ HB.out Try.underlying31 rfl (by kernel_rfl) ?_)
  refine (good_calls p _ HP.out).mono ?_
  rintro e w1 ⟨rfl, k1⟩
  rw [HG.out]
  have HK1 := Lib.hid (HK.out.trans k1)
  have HB1 := Lib.hid (HB.out.keep k1 (by simp))
  clear k1 HK HB
  obtain ⟨A, n, c, xs, loud, lag, t0, t1, t2, t3, t4, B, m, d, fs⟩ := p
  have hlen : Hid (xs.length = n) := Lib.hid HP0.out.pul.ln
  have hlen2 : Hid (fs.length = m) := Lib.hid HP0.out.fil.ln
  have RA : Hid (Rd w A xs) := Lib.hid HP0.out.pul.reads
  have RB : Hid (Rd w B fs) := Lib.hid HP0.out.fil.reads
  change 1 ≤ n at hn1
  change n ≤ 480 at hn2
  change lag = 0 ∨ (3 ≤ lag ∧ lag ≤ 318) at hlag
  change m ≤ 32 at hm
  change ∀ W : World, (Instr.makeSlice 25 (.int .i64 0) (.int .i64 (n : Int))).run Try.prog W = .ok (.slice (some ⟨W.heap.size, 0, none⟩) 0 n) (W.alloc (.cells (ints (List.replicate n 0)).toArray 2)) at hmk
  have c0 : w1.cell? ⟨w.heap.size, 0, none⟩ = some (.slice A n c) := HB1.out.cell 0
  have HS0 : Hid (RunSt w (w1.alloc (.cells (ints (List.replicate n 0)).toArray 2)) b w.heap.size #[.slice A n c, .int .i64 loud, .int .i64 lag, .int .i64 t0, .int .i64 t1, .int .i64 t2, .int .i64 t3, .int .i64 t4, .slice B m d] s (.slice (some ⟨w1.heap.size, 0, none⟩) 0 n) []) := by
    have k := Keep.alloc [] w1 (.cells (ints (List.replicate n 0)).toArray 2)
    have z := HK1.out.size
    exact Lib.hid ⟨(HK1.out.trans k).of0 _, HV.out.keep (HK1.out.trans k) (by simp), HB1.out.keep k (by simp), made_room w1 n (by omega), (by rintro g ⟨⟩; exact z)⟩
  have c1 : (w1.alloc (.cells (ints (List.replicate n 0)).toArray 2)).cell? ⟨w.heap.size, 0, none⟩ = some (.slice A n c) := HS0.out.box.cell 0
  go_wp2_with fail
  clear c0 c1 hmk HB1 HP HG HV HK1
  go_loopw [6, 25] (fun ov i wr => ∃ k : Nat, k ≤ n ∧ i = .int .i64 k ∧ RunSt w wr b w.heap.size #[.slice A n c, .int .i64 loud, .int .i64 lag, .int .i64 t0, .int .i64 t1, .int .i64 t2, .int .i64 t3, .int .i64 t4, .slice B m d] (mapS (stepV loud lag [t0, t1, t2, t3, t4] fs) s (xs.take k)).2 ov (mapS (stepV loud lag [t0, t1, t2, t3, t4] fs) s (xs.take k)).1) (fun _ i _ => n - (intOf i).toNat)
  case atStart => exact ⟨0, Nat.zero_le _, rfl, HS0.out⟩
  case round =>
    obtain ⟨k, hk, rfl, HS⟩ := hrel
    have HS := Lib.hid HS
    by_cases hlt : k < n
    · obtain ⟨a, rfl, hca⟩ := RA.out k (by rw [hlen.out]; exact hlt)
      have hcw : wr.cell? (a.add k) = some (.int .i64 (xs.getD k 0)) := HS.out.kept.cell hca (by rw [add_block]; simpa using HNA.out a rfl (by omega))
      obtain ⟨q, hq⟩ : ∃ q, q = xs.getD k 0 := ⟨_, rfl⟩
      rw [← hq] at hcw
      have HQ := Lib.hid hq
      clear hq hca
      have c1 : wr.cell? ⟨w.heap.size, 1, none⟩ = some (.int .i64 loud) := HS.out.box.cell 1
      have c2 : wr.cell? ⟨w.heap.size, 2, none⟩ = some (.int .i64 lag) := HS.out.box.cell 2
      have c8 : wr.cell? ⟨w.heap.size, 8, none⟩ = some (.slice B m d) := HS.out.box.cell 8
      have HPB := Lib.hid HS.out.box
      by_cases hlag0 : 0 < lag
      · obtain ⟨l0, hl0⟩ : ∃ l0 : Nat, lag = (l0 : Int) + 3 := ⟨(lag - 3).toNat, by omega⟩
        have hl1 : l0 ≤ 315 := by omega
        have hw1 : wrap64 (lag - 3) = (l0 : Int) := by unfold wrap64; omega
        have hw1' : IntKind.i64.wrap (lag - 3) = (l0 : Int) := by rw [hl0, show (l0 : Int) + 3 - 3 = l0 by omega]; exact IntWalk.i64_in _ (by omega)
        have HL0 := Lib.hid hl0
        clear hl0
        have c3 : wr.cell? ⟨w.heap.size, 3, none⟩ = some (.int .i64 t0) := HS.out.box.cell 3
        have c4 : wr.cell? ⟨w.heap.size, 4, none⟩ = some (.int .i64 t1) := HS.out.box.cell 4
        have c5 : wr.cell? ⟨w.heap.size, 5, none⟩ = some (.int .i64 t2) := HS.out.box.cell 5
        have c6 : wr.cell? ⟨w.heap.size, 6, none⟩ = some (.int .i64 t3) := HS.out.box.cell 6
        have c7 : wr.cell? ⟨w.heap.size, 7, none⟩ = some (.int .i64 t4) := HS.out.box.cell 7
        obtain ⟨wo, hwo⟩ : ∃ wo, wo = wr := ⟨_, rfl⟩
        subst hwo
        obtain ⟨S, hS⟩ : ∃ S, S = (mapS (stepV loud lag [t0, t1, t2, t3, t4] fs) s (xs.take k)).2 := ⟨_, rfl⟩
        obtain ⟨Y, hY⟩ : ∃ Y, Y = (mapS (stepV loud lag [t0, t1, t2, t3, t4] fs) s (xs.take k)).1 := ⟨_, rfl⟩
        rw [← hS, ← hY] at HS
        have HSS := Lib.hid hS
        have HYY := Lib.hid hY
        clear hS hY
        go_wp2_with fail
        go_loopw [9, 38] (fun rv i wi => ∃ j z : Nat, j ≤ 5 ∧ i = .int .i64 j ∧ rv = .int .i64 (tapSum [t0, t1, t2, t3, t4] S.r l0 (wrap64 (q * loud)) j) ∧ Hid (wi = wo.drewN z)) (fun _ i _ => 5 - (intOf i).toNat)
        case atStart => exact ⟨0, 0, by omega, rfl, rfl, Lib.hid rfl⟩
        case round =>
          obtain ⟨j, z, hj, rfl, rfl, HWI⟩ := hrel
          have HS1 : Hid (RunSt w wr b w.heap.size #[.slice (some a) n c, .int .i64 loud, .int .i64 lag, .int .i64 t0, .int .i64 t1, .int .i64 t2, .int .i64 t3, .int .i64 t4, .slice B m d] S u6 Y) := by
            have h := HS.out.drewN z
            rw [← HWI.out] at h
            exact Lib.hid h
          clear c1 c2 c3 c4 c5 c6 c7 c8 hcw
          by_cases hj5 : j < 5
          · have hix := index_taps t0 t1 t2 t3 t4 j hj5
            obtain ⟨i, hi⟩ : ∃ i : Nat, i = l0 + j := ⟨_, rfl⟩
            have hw2 : wrap64 ((l0 : Int) + (j : Int)) = (i : Int) := by unfold wrap64; omega
            have hw2' : IntKind.i64.wrap ((l0 : Int) + (j : Int)) = (i : Int) := by rw [hi, Int.natCast_add]; exact IntWalk.i64_in _ (by omega)
            have hi320 : i < 320 := by omega
            have hi0 : (0 : Int) ≤ (i : Int) := by omega
            have hi1 : (i : Int) < 320 := by omega
            have c2 : wr.cell? ⟨w.heap.size, 2, none⟩ = some (.int .i64 lag) := HS1.out.box.cell 2
            have hci : wr.cell? ⟨b, i, none⟩ = some (.int .i64 (S.r.getD i 0)) := HS1.out.vc.cr i hi320
            have HI := Lib.hid hi
            clear hi
            obtain ⟨x, hx⟩ : ∃ x, x = S.r.getD i 0 := ⟨_, rfl⟩
            rw [← hx] at hci
            have HX := Lib.hid hx
            clear hx
            obtain ⟨tp, ht⟩ : ∃ tp, tp = [t0, t1, t2, t3, t4].getD j 0 := ⟨_, rfl⟩
            rw [← ht] at hix
            have HT := Lib.hid ht
            clear ht
            obtain ⟨R, hR⟩ : ∃ R, R = tapSum [t0, t1, t2, t3, t4] S.r l0 (wrap64 (q * loud)) j := ⟨_, rfl⟩
            rw [← hR]
            have HR := Lib.hid hR
            clear hR
            go_wp2_with fail
            go_quiet ((first | exact qq (mul_calls _ _ 7 (by omega) (by omega) _) | exact qq (kept_calls _ _)))
            go_wp2_with fail
            go_roundw
            case rel => exact ⟨j + 1, _, by omega, by go_num, by rw [tapSum_succ, tapF, ← HR.out, ← HT.out, ← HI.out, ← HX.out], Lib.hid (by rw [HWI.out]; exact World.drewN_drewN _ _ _)⟩
            case measure => simp [intOf]; omega
          · obtain rfl : j = 5 := by omega
            obtain ⟨w2, hw2⟩ : ∃ w2, w2 = wr := ⟨_, rfl⟩
            subst hw2
            clear hw1 hw1'
            go_wp2_with fail
            obtain ⟨E, hE⟩ : ∃ E, E = exR loud lag [t0, t1, t2, t3, t4] S.r q := ⟨_, rfl⟩
            have hE2 : keptI (tapSum [t0, t1, t2, t3, t4] S.r l0 (wrap64 (q * loud)) 5) = E := by
              rw [hE, exR, if_pos hlag0, show lag.toNat - 3 = l0 by have := HL0.out; omega]
            have HE := Lib.hid hE
            clear hE
            refine (kept_calls _ _).mono ?_
            rintro e w' ⟨rfl, rfl⟩
            rw [hE2]
            clear hE2
            have d8 : w2.cell? ⟨w.heap.size, 8, none⟩ = some (.slice B m d) := HS1.out.box.cell 8
            go_wp2_with fail
            clear d8
            go_loopw [12, 63] (fun rv i wi => ∃ j : Nat, j ≤ m ∧ i = .int .i64 j ∧ rv = .int .i64 (filSum fs S.o E j) ∧ wi = w2) (fun _ i _ => m - (intOf i).toNat)
            case atStart => exact ⟨0, by omega, rfl, rfl, by trivial⟩
            case round =>
              obtain ⟨j, hj, rfl, rfl, rfl⟩ := hrel
              by_cases hjm : j < m
              · obtain ⟨bb, rfl, hcb⟩ := RB.out j (by rw [hlen2.out]; exact hjm)
                have hcv : wr.cell? (bb.add j) = some (.int .i64 (fs.getD j 0)) := HS1.out.kept.cell hcb (by rw [add_block]; simpa using HNB.out bb rfl (by omega))
                have hco : wr.cell? ⟨b, 320 + j, none⟩ = some (.int .i64 (S.o.getD j 0)) := HS1.out.vc.co j (by omega)
                have hj0 : (0 : Int) ≤ (j : Int) := by omega
                have hj1 : (j : Int) < 32 := by omega
                obtain ⟨x, hx⟩ : ∃ x, x = S.o.getD j 0 := ⟨_, rfl⟩
                obtain ⟨y, hy⟩ : ∃ y, y = fs.getD j 0 := ⟨_, rfl⟩
                rw [← hx] at hco
                rw [← hy] at hcv
                obtain ⟨R, hR⟩ : ∃ R, R = filSum fs S.o E j := ⟨_, rfl⟩
                rw [← hR]
                have HX := Lib.hid hx
                have HY := Lib.hid hy
                have HR := Lib.hid hR
                clear hx hy hR hcb
                go_wp2_with fail
                refine (mul_calls _ _ 12 (by omega) (by omega) _).mono ?_
                rintro e w' ⟨rfl, rfl⟩
                go_wp2_with fail
                go_roundw
                case rel => exact ⟨j + 1, by omega, by go_num, by rw [filSum_succ, filF, ← HR.out, ← HX.out, ← HY.out], by trivial⟩
                case measure => simp [intOf]; omega
              · go_wp2_with fail
                obtain rfl : j = m := by omega
                refine (kept_calls _ _).mono ?_
                rintro e w' ⟨rfl, rfl⟩
                obtain ⟨O, hO⟩ : ∃ O, O = keptI (filSum fs S.o E j) := ⟨_, rfl⟩
                rw [← hO]
                have HO := Lib.hid hO
                clear hO
                go_wp2_with fail
                go_still_tail 8, (by kernel_rfl)
                change wpList _ _ _ _ _ wr.drew
                have HD := Lib.hid HS1.out.drew
                have hlr := HD.out.vc.lr
                have hlo := HD.out.vc.lo
                refine wpList_copy_own rfl _ _ _ _ rfl 2 Try.underlying25 (by kernel_rfl) b 1 319 319 ⟨b, 0, none⟩ 320 320 rfl rfl _ _ HD.out.vc.blk (ints (S.r.take 319)) (by simp [ints, hlr]) ?c1 (by rw [vcells_size _ _ hlr hlo]; simp [ints, hlr]) (ints_one _) ?_
                case c1 =>
                  intro i v hi
                  have hi' : i < 319 := by
                    have := (List.getElem?_eq_some_iff.1 hi).1
                    simp only [ints, List.length_map, List.length_take, hlr] at this
                    omega
                  rw [add_plain, HD.out.vc.cr i (by omega), ← hi]
                  simp [ints, hi', hlr, show i < 320 by omega]
                rw [vcells_copy_r _ _ hlr]
                have HE3 := Lib.hid (HD.out.setV (s' := ⟨S.r.take 1 ++ S.r.take 319, S.o⟩) (Keep.row wr.drew b (vcells (S.r.take 1 ++ S.r.take 319) S.o)) ⟨HD.out.vc.blk.row _, by simp [hlr], hlo⟩)
                generalize wr.drew.setRow b (vcells (S.r.take 1 ++ S.r.take 319) S.o) = w3 at *
                clear HD HS1
                go_wp2_with fail
                go_still_tail 8, (by kernel_rfl)
                change wpList _ _ _ _ _ w3.drew
                have HD := Lib.hid HE3.out.drew
                refine wpList_copy_own rfl _ _ _ _ rfl 2 Try.underlying25 (by kernel_rfl) b 321 31 31 ⟨b, 320, none⟩ 32 32 rfl rfl _ _ HD.out.vc.blk (ints (S.o.take 31)) (by simp [ints, hlo]) ?c1 (by rw [vcells_size _ _ HD.out.vc.lr hlo]; simp [ints, hlo]) (ints_one _) ?_
                case c1 =>
                  intro i v hi
                  have hi' : i < 31 := by
                    have := (List.getElem?_eq_some_iff.1 hi).1
                    simp only [ints, List.length_map, List.length_take, hlo] at this
                    omega
                  have e : (⟨b, 320, none⟩ : Addr).add i = ⟨b, 320 + i, none⟩ := by unfold Addr.add; split <;> simp_all
                  rw [e, HD.out.vc.co i (by omega), ← hi]
                  simp [ints, hi', hlo, show i < 32 by omega]
                rw [vcells_copy_o _ _ HD.out.vc.lr hlo]
                have HE4 := Lib.hid (HD.out.setV (s' := ⟨S.r.take 1 ++ S.r.take 319, S.o.take 1 ++ S.o.take 31⟩) (Keep.row w3.drew b (vcells (S.r.take 1 ++ S.r.take 319) (S.o.take 1 ++ S.o.take 31))) ⟨HD.out.vc.blk.row _, by simp [hlr], by simp [hlo]⟩)
                generalize w3.drew.setRow b (vcells (S.r.take 1 ++ S.r.take 319) (S.o.take 1 ++ S.o.take 31)) = w4 at *
                clear HD HE3
                have c0 := HE4.out.vc.cr 0 (by omega)
                have c320 := HE4.out.vc.co 0 (by omega)
                have f0 := HE4.out.vc.blk.free 0
                have f320 := HE4.out.vc.blk.free 320
                simp only [Nat.add_zero] at c320
                generalize List.getD _ 0 0 = y0 at c0
                generalize List.getD _ 0 0 = y1 at c320
                go_wp2_with fail
                go_region
                have HE5 := Lib.hid (HE4.out.stores (by omega) (by omega) E O)
                clear HE4 c0 c320 f0 f320
                generalize ((w4.setCell ⟨b, 0, none⟩ (Value.int IntKind.i64 E)).setCell ⟨b, 320, none⟩ (Value.int IntKind.i64 O)).drew = w5 at *
                have HM : Hid (Made (w5.alloc (.cells #[.int .i64 O] 2)) u6 Y) := Lib.hid (HE5.out.out.keep (Keep.alloc [] _ _) (by simp))
                have HY1 : Hid (Rd (w5.alloc (.cells #[.int .i64 O] 2)) (some ⟨w5.heap.size, 0, none⟩) [O]) := Lib.hid (rd_lit w5 [O])
                have HBG : Hid (Y.length + 1 ≤ 1000000000) := Lib.hid (by rw [HYY.out, mapS_length, List.length_take, hlen.out]; omega)
                go_wp2_with (at_builtin; refine append_made rfl _ _ rfl _ Y rfl HM.out _ _ _ [O] rfl rfl HY1.out HBG.out (by simp) ?_)
                intro v' w6 h1 h2 h3
                have H2 := Lib.hid (HE5.out.app h1 h2 (by simpa using h3))
                clear h1 h2 h3 HM HY1 HBG
                go_wp2_with fail
                go_roundw
                case rel =>
                  have ht := mapS_take (stepV loud lag [t0, t1, t2, t3, t4] fs) s xs k (by rw [hlen.out]; exact hlt)
                  rw [← HSS.out, ← HYY.out, ← HQ.out] at ht
                  have e : stepV loud lag [t0, t1, t2, t3, t4] fs S q = (O, ⟨E :: S.r.take 319, O :: S.o.take 31⟩) := by
                    unfold stepV
                    rw [← HE.out, hlen2.out, ← HO.out]
                  rw [e] at ht
                  exact ⟨k + 1, by omega, by go_num, by rw [ht]; exact H2.out⟩
                case measure => simp [intOf]; omega
      · have HS1 : Hid (RunSt w wr b w.heap.size #[.slice (some a) n c, .int .i64 loud, .int .i64 lag, .int .i64 t0, .int .i64 t1, .int .i64 t2, .int .i64 t3, .int .i64 t4, .slice B m d] (mapS (stepV loud lag [t0, t1, t2, t3, t4] fs) s (xs.take k)).2 u6 (mapS (stepV loud lag [t0, t1, t2, t3, t4] fs) s (xs.take k)).1) := Lib.hid HS.out
        obtain ⟨S, hS⟩ : ∃ S, S = (mapS (stepV loud lag [t0, t1, t2, t3, t4] fs) s (xs.take k)).2 := ⟨_, rfl⟩
        obtain ⟨Y, hY⟩ : ∃ Y, Y = (mapS (stepV loud lag [t0, t1, t2, t3, t4] fs) s (xs.take k)).1 := ⟨_, rfl⟩
        rw [← hS, ← hY] at HS1
        have HSS := Lib.hid hS
        have HYY := Lib.hid hY
        clear hS hY HS
        obtain ⟨w2, hw2⟩ : ∃ w2, w2 = wr := ⟨_, rfl⟩
        subst hw2
        go_wp2_with fail
        clear c1 c2 c8 hcw
        obtain ⟨E, hE⟩ : ∃ E, E = exR loud lag [t0, t1, t2, t3, t4] S.r q := ⟨_, rfl⟩
        have hE2 : keptI (wrap64 (q * loud)) = E := by
          rw [hE, exR, if_neg (by omega)]
        have HE := Lib.hid hE
        clear hE
        refine (kept_calls _ _).mono ?_
        rintro e w' ⟨rfl, rfl⟩
        rw [hE2]
        clear hE2
        have d8 : w2.cell? ⟨w.heap.size, 8, none⟩ = some (.slice B m d) := HS1.out.box.cell 8
        go_wp2_with fail
        clear d8
        go_loopw [12, 63] (fun rv i wi => ∃ j : Nat, j ≤ m ∧ i = .int .i64 j ∧ rv = .int .i64 (filSum fs S.o E j) ∧ wi = w2) (fun _ i _ => m - (intOf i).toNat)
        case atStart => exact ⟨0, by omega, rfl, rfl, by trivial⟩
        case round =>
          obtain ⟨j, hj, rfl, rfl, rfl⟩ := hrel
          by_cases hjm : j < m
          · obtain ⟨bb, rfl, hcb⟩ := RB.out j (by rw [hlen2.out]; exact hjm)
            have hcv : wr.cell? (bb.add j) = some (.int .i64 (fs.getD j 0)) := HS1.out.kept.cell hcb (by rw [add_block]; simpa using HNB.out bb rfl (by omega))
            have hco : wr.cell? ⟨b, 320 + j, none⟩ = some (.int .i64 (S.o.getD j 0)) := HS1.out.vc.co j (by omega)
            have hj0 : (0 : Int) ≤ (j : Int) := by omega
            have hj1 : (j : Int) < 32 := by omega
            obtain ⟨x, hx⟩ : ∃ x, x = S.o.getD j 0 := ⟨_, rfl⟩
            obtain ⟨y, hy⟩ : ∃ y, y = fs.getD j 0 := ⟨_, rfl⟩
            rw [← hx] at hco
            rw [← hy] at hcv
            obtain ⟨R, hR⟩ : ∃ R, R = filSum fs S.o E j := ⟨_, rfl⟩
            rw [← hR]
            have HX := Lib.hid hx
            have HY := Lib.hid hy
            have HR := Lib.hid hR
            clear hx hy hR hcb
            go_wp2_with fail
            refine (mul_calls _ _ 12 (by omega) (by omega) _).mono ?_
            rintro e w' ⟨rfl, rfl⟩
            go_wp2_with fail
            go_roundw
            case rel => exact ⟨j + 1, by omega, by go_num, by rw [filSum_succ, filF, ← HR.out, ← HX.out, ← HY.out], by trivial⟩
            case measure => simp [intOf]; omega
          · go_wp2_with fail
            obtain rfl : j = m := by omega
            refine (kept_calls _ _).mono ?_
            rintro e w' ⟨rfl, rfl⟩
            obtain ⟨O, hO⟩ : ∃ O, O = keptI (filSum fs S.o E j) := ⟨_, rfl⟩
            rw [← hO]
            have HO := Lib.hid hO
            clear hO
            go_wp2_with fail
            go_still_tail 8, (by kernel_rfl)
            change wpList _ _ _ _ _ wr.drew
            have HD := Lib.hid HS1.out.drew
            have hlr := HD.out.vc.lr
            have hlo := HD.out.vc.lo
            refine wpList_copy_own rfl _ _ _ _ rfl 2 Try.underlying25 (by kernel_rfl) b 1 319 319 ⟨b, 0, none⟩ 320 320 rfl rfl _ _ HD.out.vc.blk (ints (S.r.take 319)) (by simp [ints, hlr]) ?c1 (by rw [vcells_size _ _ hlr hlo]; simp [ints, hlr]) (ints_one _) ?_
            case c1 =>
              intro i v hi
              have hi' : i < 319 := by
                have := (List.getElem?_eq_some_iff.1 hi).1
                simp only [ints, List.length_map, List.length_take, hlr] at this
                omega
              rw [add_plain, HD.out.vc.cr i (by omega), ← hi]
              simp [ints, hi', hlr, show i < 320 by omega]
            rw [vcells_copy_r _ _ hlr]
            have HE3 := Lib.hid (HD.out.setV (s' := ⟨S.r.take 1 ++ S.r.take 319, S.o⟩) (Keep.row wr.drew b (vcells (S.r.take 1 ++ S.r.take 319) S.o)) ⟨HD.out.vc.blk.row _, by simp [hlr], hlo⟩)
            generalize wr.drew.setRow b (vcells (S.r.take 1 ++ S.r.take 319) S.o) = w3 at *
            clear HD HS1
            go_wp2_with fail
            go_still_tail 8, (by kernel_rfl)
            change wpList _ _ _ _ _ w3.drew
            have HD := Lib.hid HE3.out.drew
            refine wpList_copy_own rfl _ _ _ _ rfl 2 Try.underlying25 (by kernel_rfl) b 321 31 31 ⟨b, 320, none⟩ 32 32 rfl rfl _ _ HD.out.vc.blk (ints (S.o.take 31)) (by simp [ints, hlo]) ?c1 (by rw [vcells_size _ _ HD.out.vc.lr hlo]; simp [ints, hlo]) (ints_one _) ?_
            case c1 =>
              intro i v hi
              have hi' : i < 31 := by
                have := (List.getElem?_eq_some_iff.1 hi).1
                simp only [ints, List.length_map, List.length_take, hlo] at this
                omega
              have e : (⟨b, 320, none⟩ : Addr).add i = ⟨b, 320 + i, none⟩ := by unfold Addr.add; split <;> simp_all
              rw [e, HD.out.vc.co i (by omega), ← hi]
              simp [ints, hi', hlo, show i < 32 by omega]
            rw [vcells_copy_o _ _ HD.out.vc.lr hlo]
            have HE4 := Lib.hid (HD.out.setV (s' := ⟨S.r.take 1 ++ S.r.take 319, S.o.take 1 ++ S.o.take 31⟩) (Keep.row w3.drew b (vcells (S.r.take 1 ++ S.r.take 319) (S.o.take 1 ++ S.o.take 31))) ⟨HD.out.vc.blk.row _, by simp [hlr], by simp [hlo]⟩)
            generalize w3.drew.setRow b (vcells (S.r.take 1 ++ S.r.take 319) (S.o.take 1 ++ S.o.take 31)) = w4 at *
            clear HD HE3
            have c0 := HE4.out.vc.cr 0 (by omega)
            have c320 := HE4.out.vc.co 0 (by omega)
            have f0 := HE4.out.vc.blk.free 0
            have f320 := HE4.out.vc.blk.free 320
            simp only [Nat.add_zero] at c320
            generalize List.getD _ 0 0 = y0 at c0
            generalize List.getD _ 0 0 = y1 at c320
            go_wp2_with fail
            go_region
            have HE5 := Lib.hid (HE4.out.stores (by omega) (by omega) E O)
            clear HE4 c0 c320 f0 f320
            generalize ((w4.setCell ⟨b, 0, none⟩ (Value.int IntKind.i64 E)).setCell ⟨b, 320, none⟩ (Value.int IntKind.i64 O)).drew = w5 at *
            have HM : Hid (Made (w5.alloc (.cells #[.int .i64 O] 2)) u6 Y) := Lib.hid (HE5.out.out.keep (Keep.alloc [] _ _) (by simp))
            have HY1 : Hid (Rd (w5.alloc (.cells #[.int .i64 O] 2)) (some ⟨w5.heap.size, 0, none⟩) [O]) := Lib.hid (rd_lit w5 [O])
            have HBG : Hid (Y.length + 1 ≤ 1000000000) := Lib.hid (by rw [HYY.out, mapS_length, List.length_take, hlen.out]; omega)
            go_wp2_with (at_builtin; refine append_made rfl _ _ rfl _ Y rfl HM.out _ _ _ [O] rfl rfl HY1.out HBG.out (by simp) ?_)
            intro v' w6 h1 h2 h3
            have H2 := Lib.hid (HE5.out.app h1 h2 (by simpa using h3))
            clear h1 h2 h3 HM HY1 HBG
            go_wp2_with fail
            go_roundw
            case rel =>
              have ht := mapS_take (stepV loud lag [t0, t1, t2, t3, t4] fs) s xs k (by rw [hlen.out]; exact hlt)
              rw [← HSS.out, ← HYY.out, ← HQ.out] at ht
              have e : stepV loud lag [t0, t1, t2, t3, t4] fs S q = (O, ⟨E :: S.r.take 319, O :: S.o.take 31⟩) := by
                unfold stepV
                rw [← HE.out, hlen2.out, ← HO.out]
              rw [e] at ht
              exact ⟨k + 1, by omega, by go_num, by rw [ht]; exact H2.out⟩
            case measure => simp [intOf]; omega
    · go_wp2_with fail
      go_ret2
      obtain rfl : k = n := by omega
      have h := HS.out
      rw [← hlen.out, List.take_length] at h
      exact ⟨_, rfl, h.kept, h.vc, h.out, h.fresh⟩
end Go.Proofs.Ytjhgbcgpkpahjaa
