/- The walk of SynthSigns. -/
import Derived.Test.YtjhgbcgpkpahjaaS18
import Derived.Deep.RegionLaw
namespace Go.Proofs.Ytjhgbcgpkpahjaa
open Go.RowKit

attribute [local go_sem ↓] Go.wp_at_zero Go.wp_at_succ
set_option maxRecDepth 100000 in
set_option maxHeartbeats 4000000 in
theorem signs_walk (p : PartA) (w : World) (hp : IsPart w p) : Calls Try.prog 7 #[.agg p.cells] w (RetKept w (.bool true)) := by
  have HX := Lib.hid hp
  clear hp
  obtain ⟨pA, pn, pc, xs, loud, lag, t0, t1, t2, t3, t4, pB, pm, pd, fs⟩ := p
  go_enter Try.func7, Try.ntmps7
  go_wp2_with fail
  refine (awake_calls _).mono ?_
  rintro e w0 ⟨rfl, k0⟩
  have HB0 : Hid (Blk (w.alloc (.cells #[.slice pA pn pc, .int .i64 loud, .int .i64 lag, .int .i64 t0, .int .i64 t1, .int .i64 t2, .int .i64 t3, .int .i64 t4, .slice pB pm pd] 31)) w.heap.size #[.slice pA pn pc, .int .i64 loud, .int .i64 lag, .int .i64 t0, .int .i64 t1, .int .i64 t2, .int .i64 t3, .int .i64 t4, .slice pB pm pd] 31) := Lib.hid (Blk.new w _ _)
  have H0 := Lib.hid ((Keep.alloc [] w _).trans k0)
  have HB1 := Lib.hid (HB0.out.keep k0 (by simp))
  have HB2 := Lib.hid ((HB1.out.set 2 (.int .i64 0)).set 8 (.slice none 0 0))
  clear k0 HB0
  have f2 := HB1.out.free 2
  have c2 : w0.cell? ⟨w.heap.size, 2, none⟩ = some (.int .i64 lag) := HB1.out.cell 2
  have f8 := (HB1.out.set 2 (.int .i64 0)).free 8
  have c8 : (w0.setCell ⟨w.heap.size, 2, none⟩ (.int .i64 0)).cell? ⟨w.heap.size, 8, none⟩ = some (.slice pB pm pd) := (HB1.out.set 2 (.int .i64 0)).cell 8
  go_wp2_with (refine wpList_load_row rfl 31 _ rfl w.heap.size rfl 31 _ (0, 0) _ HB2.out Try.underlying31 rfl (by kernel_rfl) ?_)
  have H2 : Hid (Keep [] w ((w0.setCell ⟨w.heap.size, 2, none⟩ (.int .i64 0)).setCell ⟨w.heap.size, 8, none⟩ (.slice none 0 0))) := Lib.hid (H0.out.trans' ((Keep.setb w0 w.heap.size 2 _).trans (Keep.setb _ w.heap.size 8 _)) (by simp) (by simp))
  have HBX : Hid (Blk ((w0.setCell ⟨w.heap.size, 2, none⟩ (.int .i64 0)).setCell ⟨w.heap.size, 8, none⟩ (.slice none 0 0)) w.heap.size (sgP ⟨pA, pn, pc, xs, loud, lag, t0, t1, t2, t3, t4, pB, pm, pd, fs⟩).cells 31) := Lib.hid HB2.out
  clear f2 c2 f8 c8 HB1 HB2 H0
  generalize (w0.setCell ⟨w.heap.size, 2, none⟩ (.int .i64 0)).setCell ⟨w.heap.size, 8, none⟩ (.slice none 0 0) = w2 at *
  have HP2 : Hid (IsPart w2 (sgP ⟨pA, pn, pc, xs, loud, lag, t0, t1, t2, t3, t4, pB, pm, pd, fs⟩)) := Lib.hid ⟨HX.out.pul.keep0 H2.out, ArgI.empty _⟩
  refine (lgood_calls (sgP ⟨pA, pn, pc, xs, loud, lag, t0, t1, t2, t3, t4, pB, pm, pd, fs⟩) _ HP2.out).mono ?_
  rintro e w3 ⟨rfl, k3⟩
  have H3 := Lib.hid (H2.out.trans k3)
  have HB3 := Lib.hid (HBX.out.keep k3 (by simp))
  clear k3 H2 HBX HP2
  cases hg : goodB (sgP ⟨pA, pn, pc, xs, loud, lag, t0, t1, t2, t3, t4, pB, pm, pd, fs⟩) with
  | false =>
    clear hg
    go_wp2_with fail
    go_ret
    exact ⟨rfl, H3.out⟩
  | true =>
    have HG := Lib.hid hg
    clear hg
    obtain ⟨c0, c1, c2, c3, c4, c5, c6, c7, c8⟩ := nine_of HB3.out
    dsimp only [sgP] at c0 c1 c2 c3 c4 c5 c6 c7 c8
    go_wp2_with fail
    clear c0 c1 c2 c3 c4 c5 c6 c7 c8
    have HS0 : Hid (SgSt w (w3.alloc (.cells #[.slice none 0 0, .int .i64 loud, .int .i64 0, .int .i64 t0, .int .i64 t1, .int .i64 t2, .int .i64 t3, .int .i64 t4, .slice none 0 0] 31)) w.heap.size w3.heap.size ⟨pA, pn, pc, xs, loud, lag, t0, t1, t2, t3, t4, pB, pm, pd, fs⟩ none 0 []) := by
      have k := Keep.alloc [] w3 (.cells #[.slice none 0 0, .int .i64 loud, .int .i64 0, .int .i64 t0, .int .i64 t1, .int .i64 t2, .int .i64 t3, .int .i64 t4, .slice none 0 0] 31)
      have z := H3.out.size
      have z2 := HB3.out.lt
      exact Lib.hid ⟨H3.out.trans k, Nat.le_refl _, z, by omega, HB3.out.keep k (by simp), Blk.new w3 _ _, HX.out, World.ownsRow_nil _ 0 _ 1, fun g hg => by cases hg⟩
    clear HB3 H3
    have hpn : xs.length = pn := HX.out.pul.ln
    have HGS := Lib.hid (goodS_of HG.out)
    have hn2 : pn ≤ 480 := HGS.out.n2
    have hpc : pn ≤ pc := HX.out.pul.cp
    go_loopw [4] (fun i wr => ∃ (k : Nat) (A : Option Addr) (c : Nat), k ≤ pn ∧ i = .int .i64 k ∧ SgSt w wr w.heap.size w3.heap.size ⟨pA, pn, pc, xs, loud, lag, t0, t1, t2, t3, t4, pB, pm, pd, fs⟩ A c (negL (xs.take k))) (fun i _ => pn - (intOf i).toNat)
    case atStart => exact ⟨0, none, 0, by omega, rfl, HS0.out⟩
    case round =>
      obtain ⟨k, A, c, hk, rfl, HS⟩ := hrel
      have HS := Lib.hid HS
      have hyl : (negL (xs.take k)).length = k := by simp [negL]; omega
      have d0 : wr.cell? ⟨w.heap.size, 0, none⟩ = some (.slice pA pn pc) := HS.out.bx.cell 0
      by_cases hlt : k < pn
      · obtain ⟨a, rfl, hca⟩ := HX.out.pul.reads k (by show k < xs.length; omega)
        have hcw := HS.out.kept.cell hca (by simp)
        clear hca
        have q0 : wr.cell? ⟨w3.heap.size, 0, none⟩ = some (.slice A k c) := by
          have h := HS.out.bq.cell 0
          rw [hyl] at h
          exact h
        have hsu := negL_take_succ (show k < xs.length by omega)
        obtain ⟨x, hx⟩ : ∃ x, x = xs.getD k 0 := ⟨_, rfl⟩
        have hxb := okI_bd (okL_at hpn HGS.out.xs hlt)
        rw [← hx] at hcw hxb hsu
        obtain ⟨hx1, hx2⟩ := hxb
        have HSU := Lib.hid hsu
        have HYL := Lib.hid hyl
        clear hsu hx hyl
        have hw : IntKind.i64.wrap (-x) = -x := IntWalk.i64_in _ (by omega)
        have hw' : wrap64 (-x) = -x := by rw [← wrapEq]; exact hw
        have hk0 : (0 : Int) ≤ (k : Int) := by omega
        have hk1 : (k : Int) < (pn : Int) := by omega
        go_wp2_with fail
        have qa : ∀ y : Int, (wr.alloc (.cells #[.int .i64 y] 2)).drew.cell? ⟨w3.heap.size, 0, none⟩ = some (.slice A k c) := fun y => Keep.cell ((Keep.alloc [] wr _).trans (Keep.drew [] _)) q0 (by simp)
        go_region_law (refine sg_append rfl _ _ rfl HS.out HYL.out rfl rfl (by omega) ?_; intro A' c' w' e1 e2 e3; have HN := Lib.hid e3; clear e3)
        all_goals (
          go_wp2_with fail
          go_roundw
          case rel => exact ⟨k + 1, A', c', by omega, by go_num, by rw [HSU.out]; exact HN.out⟩
          case measure => simp [intOf]; omega)
      · obtain rfl : k = pn := by omega
        have htk : xs.take k = xs := List.take_of_length_le (by omega)
        rw [htk] at HS hyl
        have HYL := Lib.hid hyl
        have hm0 : SgR w wr w.heap.size w3.heap.size ⟨pA, k, pc, xs, loud, lag, t0, t1, t2, t3, t4, pB, pm, pd, fs⟩ A c (negL xs) (.slice none 0 0) (.slice none 0 0) [] [] := ⟨HS.out, World.ownsRow_nil _ 0 _ 1, World.ownsRow_nil _ 0 _ 1⟩
        clear hk htk hyl HS0 HS hlt
        go_wp2_with fail
        clear d0
        have HM := Lib.hid hm0
        clear hm0
        go_region_held3 (fun w' => w'.cell? ⟨w.heap.size, 0, none⟩ = some (.slice pA k pc) ∧ w'.cell? ⟨w.heap.size, 1, none⟩ = some (.int .i64 loud) ∧ w'.cell? ⟨w.heap.size, 2, none⟩ = some (.int .i64 0) ∧ w'.cell? ⟨w.heap.size, 3, none⟩ = some (.int .i64 t0) ∧ w'.cell? ⟨w.heap.size, 4, none⟩ = some (.int .i64 t1) ∧ w'.cell? ⟨w.heap.size, 5, none⟩ = some (.int .i64 t2) ∧ w'.cell? ⟨w.heap.size, 6, none⟩ = some (.int .i64 t3) ∧ w'.cell? ⟨w.heap.size, 7, none⟩ = some (.int .i64 t4) ∧ w'.cell? ⟨w.heap.size, 8, none⟩ = some (.slice none 0 0)) (first | exact (Hid.out HM).nine1 | exact (Hid.out HM).drew.nine1)
          (first
            | (go_at_call 10; refine (new_calls _).mono ?_; rintro e w' ⟨f, f1, rfl, f2, f3⟩; have hm := (by first | exact (Hid.out HM).new f1 f2 f3 | exact (Hid.out HM).drew.new f1 f2 f3 : SgN w w' w.heap.size w3.heap.size ⟨pA, k, pc, xs, loud, lag, t0, t1, t2, t3, t4, pB, pm, pd, fs⟩ A c (negL xs) (.slice none 0 0) (.slice none 0 0) [] [] f); clear HM f1 f2 f3; have HM := Lib.hid hm; clear hm)
            | (go_at_call 11; refine (run_calls _ newV (sgP ⟨pA, k, pc, xs, loud, lag, t0, t1, t2, t3, t4, pB, pm, pd, fs⟩) _ (Hid.out HM).part HG.out (Hid.out HM).vc (fun x hx h0 => by have := HX.out.pul.old x hx h0; have := (Hid.out HM).of; omega) (fun x hx h0 => by cases hx)).mono ?_; rintro e w' ⟨v1, rfl, h1, h2, h3, h4⟩; have hm := ((Hid.out HM).ran h1).set1 h3; clear HM h1 h2 h3 h4; have HM := Lib.hid hm; clear hm))
        go_wp2_with fail
        have HGQ := Lib.hid (goodQ_of (A := A) (c := c) HG.out)
        go_region_held3 (fun w' => w'.cell? ⟨w3.heap.size, 0, none⟩ = some (.slice A k c) ∧ w'.cell? ⟨w3.heap.size, 1, none⟩ = some (.int .i64 loud) ∧ w'.cell? ⟨w3.heap.size, 2, none⟩ = some (.int .i64 0) ∧ w'.cell? ⟨w3.heap.size, 3, none⟩ = some (.int .i64 t0) ∧ w'.cell? ⟨w3.heap.size, 4, none⟩ = some (.int .i64 t1) ∧ w'.cell? ⟨w3.heap.size, 5, none⟩ = some (.int .i64 t2) ∧ w'.cell? ⟨w3.heap.size, 6, none⟩ = some (.int .i64 t3) ∧ w'.cell? ⟨w3.heap.size, 7, none⟩ = some (.int .i64 t4) ∧ w'.cell? ⟨w3.heap.size, 8, none⟩ = some (.slice none 0 0)) (first | exact (Hid.out HM).nine2 HYL.out | exact (Hid.out HM).drew.nine2 HYL.out)
          (first
            | (go_at_call 10; refine (new_calls _).mono ?_; rintro e w' ⟨f2, f1, rfl, f3, f4⟩; have hm := (by first | exact (Hid.out HM).new f1 f3 f4 | exact (Hid.out HM).drew.new f1 f3 f4 : SgN w w' w.heap.size w3.heap.size ⟨pA, k, pc, xs, loud, lag, t0, t1, t2, t3, t4, pB, pm, pd, fs⟩ A c (negL xs) v1 (.slice none 0 0) _ [] f2); clear HM f1 f3 f4; have HM := Lib.hid hm; clear hm)
            | (go_at_call 11; refine (run_calls _ newV (sgQ ⟨pA, k, pc, xs, loud, lag, t0, t1, t2, t3, t4, pB, pm, pd, fs⟩ A k c (negL xs)) _ ((Hid.out HM).part2 HYL.out) HGQ.out (Hid.out HM).vc (fun x hx h0 => (Hid.out HM).nq x hx (by rw [HYL.out]; exact h0)) (fun x hx h0 => by cases hx)).mono ?_; rintro e w' ⟨v2, rfl, h1, h2, h3, h4⟩; have hm := ((Hid.out HM).ran h1).set2 h3; clear HM h1 h2 h3 h4; have HM := Lib.hid hm; clear hm))
        have h1 := plain_run [t0, t1, t2, t3, t4] HGS.out.l0 HGS.out.l1 xs newV HGS.out.xs
        have h2 := plain_run [t0, t1, t2, t3, t4] HGS.out.l0 HGS.out.l1 (negL xs) newV (okL_neg HGS.out.xs)
        have hm : SgR w w' w.heap.size w3.heap.size ⟨pA, k, pc, xs, loud, lag, t0, t1, t2, t3, t4, pB, pm, pd, fs⟩ A c (negL xs) v1 v2 (xs.map (· * loud)) ((negL xs).map (· * loud)) := by
          have h := HM.out
          dsimp only [sgP, sgQ, PartA.taps] at h
          dsimp only at h1 h2
          rw [h1, h2] at h
          exact h
        clear HM h1 h2 HGQ
        have HM := Lib.hid hm
        clear hm
        obtain ⟨A1, d1, hv1, _, _, _⟩ := HM.out.m1.reads
        obtain ⟨A2, d2, hv2, _, _, _⟩ := HM.out.m2.reads
        have hl1 : (xs.map (· * loud)).length = k := by simp; omega
        have hl2 : ((negL xs).map (· * loud)).length = k := by rw [List.length_map]; exact HYL.out
        rw [hl1] at hv1
        rw [hl2] at hv2
        subst hv1 hv2
        have HPN := Lib.hid hpn
        have HE1 := Lib.hid hl1
        have HE2 := Lib.hid hl2
        have HBD : Hid (∀ j, j < k → -16 ≤ xs.getD j 0 ∧ xs.getD j 0 ≤ 16) := Lib.hid (fun j hj => okI_bd (okL_at hpn HGS.out.xs hj))
        clear hl1 hl2 hpn
        go_wp2_with fail
        have HL0 := HGS.out.l0
        have HL1 := HGS.out.l1
        have HLL := Lib.hid (And.intro HL0 HL1)
        clear HL0 HL1
        go_loopw [9] (fun i wr => ∃ j : Nat, j ≤ k ∧ i = .int .i64 j ∧ SgR w wr w.heap.size w3.heap.size ⟨pA, k, pc, xs, loud, lag, t0, t1, t2, t3, t4, pB, pm, pd, fs⟩ A c (negL xs) (.slice A1 k d1) (.slice A2 k d2) (xs.map (· * loud)) ((negL xs).map (· * loud))) (fun i _ => k - (intOf i).toNat)
        case atStart => exact ⟨0, by omega, rfl, HM.out⟩
        case round =>
          clear HM
          obtain ⟨j, hj, rfl, HM⟩ := hrel
          have HM := Lib.hid HM
          by_cases hjk : j < k
          · obtain ⟨a, rfl, hca⟩ := HX.out.pul.reads j (by show j < xs.length; rw [HPN.out]; exact hjk)
            have e0 := HM.out.st.kept.cell hca (by simp)
            clear hca
            obtain ⟨_, _, hz1, _, hr1, _⟩ := HM.out.m1.reads
            obtain ⟨_, _, hz2, _, hr2, _⟩ := HM.out.m2.reads
            simp only [Value.slice.injEq] at hz1 hz2
            obtain ⟨rfl, hq1, rfl⟩ := hz1
            obtain ⟨rfl, hq2, rfl⟩ := hz2
            clear hq1 hq2
            obtain ⟨a1, rfl, e1⟩ := hr1 j (by rw [HE1.out]; exact hjk)
            obtain ⟨a2, rfl, e2⟩ := hr2 j (by rw [HE2.out]; exact hjk)
            have g1 : (xs.map (· * loud)).getD j 0 = xs.getD j 0 * loud := by
              simp [show j < xs.length by rw [HPN.out]; exact hjk]
            have g2 : ((negL xs).map (· * loud)).getD j 0 = -(xs.getD j 0 * loud) := by
              have : j < xs.length := by rw [HPN.out]; exact hjk
              simp [negL, this, Int.neg_mul]
            have b0 := HBD.out j hjk
            have bl := loud_bd b0.1 b0.2 HLL.out.1 HLL.out.2
            rw [g1] at e1
            rw [g2] at e2
            dsimp only at e0
            have c0 : wr.cell? ⟨w.heap.size, 0, none⟩ = some (.slice (some a) k pc) := HM.out.st.bx.cell 0
            have c1 : wr.cell? ⟨w.heap.size, 1, none⟩ = some (.int .i64 loud) := HM.out.st.bx.cell 1
            clear hr1 hr2 g1 g2 b0
            generalize xs.getD j 0 = x at *
            obtain ⟨z, hz⟩ : ∃ z, z = x * loud := ⟨_, rfl⟩
            rw [← hz] at e1 e2 bl
            obtain ⟨b1, b2⟩ := bl
            have w1 : IntKind.i64.wrap (- -z) = z := by rw [Int.neg_neg]; exact IntWalk.i64_in _ (by omega)
            have w2 : IntKind.i64.wrap (x * loud) = z := by rw [← hz]; exact IntWalk.i64_in _ (by omega)
            have w1' : wrap64 (- -z) = z := by rw [← wrapEq]; exact w1
            have w2' : wrap64 (x * loud) = z := by rw [← wrapEq]; exact w2
            obtain ⟨y, hy⟩ : ∃ y, y = -z := ⟨_, rfl⟩
            rw [← hy] at e2 w1 w1'
            have hj0 : (0 : Int) ≤ (j : Int) := by omega
            have hj1 : (j : Int) < (k : Int) := by omega
            clear hz hy
            go_wp2_with fail
            go_quiet (fail)
            go_wp2_with fail
            go_roundw
            case rel => exact ⟨j + 1, by omega, by go_num, HM.out.keep (Keep.drewN _ _ _)⟩
            case measure => simp [intOf]; omega
          · go_wp2_with fail
            go_ret
            exact ⟨rfl, HM.out.st.kept⟩
theorem signs_row (v : Value) (p : PartA) (w : World) (h : v = .agg p.cells ∧ IsPart w p) :
    Calls Try.prog 7 #[v] w fun e w' => e = .returned (.bool true) ∧ Below w.heap.size w w' := by
  obtain ⟨rfl, hp⟩ := h
  exact (signs_walk p w hp).mono fun _ _ ⟨he, k⟩ => ⟨he, k.toBelow⟩
end Go.Proofs.Ytjhgbcgpkpahjaa
