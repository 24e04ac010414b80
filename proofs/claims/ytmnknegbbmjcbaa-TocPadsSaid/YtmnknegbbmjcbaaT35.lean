/- The walk of TocPads. -/
import Derived.Test.YtmnknegbbmjcbaaT34
namespace Go.Proofs.Ytmnknegbbmjcbaa
open Go.RowKit

/-- A byte of a slice that is owned may be written. -/
theorem MadeV.setByte {w : World} {v : Value} {xs : List Int} (h : MadeV w 5 v (bytes xs)) (hx : 0 < xs.length) :
    ∃ g c, v = .slice (some ⟨g, 0, none⟩) xs.length c ∧ v.ownBlock = some g ∧ ∀ (i : Nat) (y : Int), i < xs.length → w.cell? ⟨g, i, none⟩ = some (.int .u8 (xs.getD i 0)) ∧ w.frozen? ⟨g, i, none⟩ = false ∧ MadeV (w.setCell ⟨g, i, none⟩ (.int .u8 y)) 5 v (bytes (xs.set i y)) := by
  obtain ⟨h1, h2⟩ := h
  rw [bytes_length] at h2
  rcases h2 with ⟨rfl, h0⟩ | ⟨g, cap, cur, rfl, hb0, hg, hnc, hcm, hcs, ht⟩
  · omega
  · refine ⟨g, cap, rfl, rfl, fun i y hi => ?_⟩
    rw [Nat.mul_one] at ht hcs
    have hblk : Blk w g cur 5 := hg
    refine ⟨?_, hblk.free i, ?_⟩
    · rw [hblk.cell i]
      have e : (cur.toList.take xs.length)[i]? = some (.int .u8 (xs.getD i 0)) := by rw [ht]; exact bytes_get xs i hi
      rw [List.getElem?_take, if_pos hi] at e
      simpa using e
    · have hl : (bytes (xs.set i y)).length = xs.length := by rw [bytes_length, List.length_set]
      refine ⟨by rw [hl]; simp, .inr ⟨g, cap, cur.setIfInBounds i (.int .u8 y), by rw [hl], hb0, hblk.set i _, by rw [hl]; exact hnc, hcm, by simpa using hcs, ?_⟩⟩
      rw [hl, Nat.mul_one, Array.toList_setIfInBounds, List.take_set, ht]
      unfold bytes
      rw [List.map_set]
theorem pads_set (Q : List Int) (j p : Nat) (y : Int) (h : j < p) : (Q ++ List.replicate j y ++ List.replicate (p - j) 0).set (Q.length + j) y = Q ++ List.replicate (j + 1) y ++ List.replicate (p - (j + 1)) 0 := by
  have e : p - j = (p - (j + 1)) + 1 := by omega
  rw [List.append_assoc, List.set_append_right _ _ (by omega), show Q.length + j - Q.length = j by omega, List.set_append_right _ _ (by simp), List.length_replicate, Nat.sub_self, e, List.replicate_succ, List.set_cons_zero, List.replicate_succ', List.append_assoc, List.append_assoc]
  rfl
/-- While the padding is written over. -/
structure PdSt (w wr : World) (pb : Nat) (pc : Array Value) (bv cv : Value) (bs cs : List Int) : Prop where
  kept : Keep [] w wr
  bx : Blk wr pb pc 25
  b : MadeV wr 5 bv (bytes bs)
  c : MadeV wr 5 cv (bytes cs)
  own : ∀ g, bv.ownBlock = some g → w.heap.size ≤ g ∧ ∀ g', cv.ownBlock = some g' → g' ≠ g
theorem PdSt.store {w wr : World} {pb : Nat} {pc : Array Value} {bv cv : Value} {bs cs bs' : List Int} {g i : Nat} {u : Value} (h : PdSt w wr pb pc bv cv bs cs) (hg : bv.ownBlock = some g) (hm : MadeV (wr.setCell ⟨g, i, none⟩ u) 5 bv (bytes bs')) : PdSt w (wr.setCell ⟨g, i, none⟩ u) pb pc bv cv bs' cs := by
  obtain ⟨h1, h2⟩ := h.own g hg
  obtain ⟨cs', hb⟩ := h.b.typ g hg
  exact ⟨h.kept.trans' (Keep.setb wr g i u) (by simp) (by simpa using h1), h.bx.keep (Keep.setb wr g i u) (by simpa using h.bx.ne hb (by decide)), hm, h.c.keep (Keep.setb wr g i u) (fun b hb' => by simpa using h2 b hb'), h.own⟩
set_option maxRecDepth 100000
set_option maxHeartbeats 4000000
theorem pads_walk (cfg ch pad : Int) (FA : Option Addr) (n fc : Nat) (L : List (List Int)) (y : Int) (w : World) (h : FrR w FA n fc L) (hy : 0 ≤ y ∧ y ≤ 255) :
    Calls Try.prog 8 #[.agg #[.int .i64 cfg, .int .i64 ch, .slice FA n fc, .int .i64 pad], .int .u8 y] w (RetK w (.bool true)) := by
  have HF := Lib.hid h
  have hcp := h.cp
  have hmo := h.most
  have HFIT := Lib.hid h.rng
  have HY := Lib.hid hy
  obtain ⟨g, hg⟩ : ∃ g, g = goodM cfg ch L pad := ⟨_, rfl⟩
  have HG := Lib.hid hg.symm
  obtain ⟨gq, hgq⟩ : ∃ g, g = goodM cfg ch L 0 := ⟨_, rfl⟩
  have HGQ := Lib.hid hgq.symm
  have k0 := Keep.alloc [] w (.cells #[.int .i64 cfg, .int .i64 ch, .slice FA n fc, .int .i64 pad] 25)
  have K0 := Lib.hid k0
  have HB0 : Hid (Blk (w.alloc (.cells #[.int .i64 cfg, .int .i64 ch, .slice FA n fc, .int .i64 pad] 25)) w.heap.size #[.int .i64 cfg, .int .i64 ch, .slice FA n fc, .int .i64 pad] 25) := Lib.hid (Blk.new w _ _)
  clear h k0 hg hgq hy
  go_enter Try.func8, Try.ntmps8
  go_wp2_with fail
  refine (awake_calls _).mono ?_
  rintro e w1 ⟨rfl, k1⟩
  have HB1 := Lib.hid (HB0.out.keep k1 (by simp))
  have K1 := Lib.hid (K0.out.trans k1)
  have kr := Keep.alloc [] w1 (.cells #[.int .i64 cfg, .int .i64 ch, .slice FA n fc, .int .i64 0] 25)
  have HBA := Lib.hid (HB1.out.keep kr (by simp))
  have HRA : Hid (Blk (w1.alloc (.cells #[.int .i64 cfg, .int .i64 ch, .slice FA n fc, .int .i64 0] 25)) w1.heap.size #[.int .i64 cfg, .int .i64 ch, .slice FA n fc, .int .i64 0] 25) := Lib.hid (Blk.new w1 _ _)
  have KA := Lib.hid (K1.out.trans kr)
  clear k1 kr HB0 K0
  obtain ⟨b0, b1, b2, b3⟩ := HB1.out.four
  go_wp2_with (first
    | (refine wpList_load_row rfl 25 _ rfl w.heap.size rfl 25 _ (0, 0) _ HBA.out Try.underlying25 rfl (pk_size _ _ _ _ _ _) ?_)
    | (refine wpList_load_row rfl 25 _ rfl w1.heap.size rfl 25 _ (0, 0) _ HRA.out Try.underlying25 rfl (pk_size _ _ _ _ _ _) ?_))
  refine (good_calls_b cfg ch pad FA n fc L _ g HG.out (HF.out.keep0 KA.out)).mono ?_
  rintro e w2 ⟨rfl, k2⟩
  have HB2 := Lib.hid (HBA.out.keep k2 (by simp))
  have HR2 := Lib.hid (HRA.out.keep k2 (by simp))
  have K2 := Lib.hid (KA.out.trans k2)
  clear k2 HBA HRA KA b0 b1 b2 b3 HB1 K1
  obtain ⟨r0, r1, r2, r3⟩ := HR2.out.four
  cases g with
  | false =>
    go_wp2_with fail
    go_ret
    exact ⟨rfl, K2.out⟩
  | true =>
    go_wp2_with fail
    refine (good_calls_b cfg ch 0 FA n fc L _ gq HGQ.out (HF.out.keep0 K2.out)).mono ?_
    rintro e w3 ⟨rfl, k3⟩
    have HB3 := Lib.hid (HB2.out.keep k3 (by simp))
    have HR3 := Lib.hid (HR2.out.keep k3 (by simp))
    have K3 := Lib.hid (K2.out.trans k3)
    clear k3 HB2 HR2 K2 r0 r1 r2 r3
    cases gq with
    | false =>
      go_wp2_with fail
      go_ret
      exact ⟨rfl, K3.out⟩
    | true =>
      have G := good_of HG.out
      obtain ⟨k, rfl⟩ := Int.eq_ofNat_of_zero_le G.c0
      obtain ⟨pd, rfl⟩ := Int.eq_ofNat_of_zero_le G.p0
      have HGG := Lib.hid G
      have GQ : Good k ch L ((0 : Nat) : Int) := good_of HGQ.out
      have HGGQ := Lib.hid GQ
      clear G GQ
      go_wp2_with (refine wpList_load_row rfl 25 _ rfl w.heap.size rfl 25 _ (0, 0) _ HB3.out Try.underlying25 rfl (pk_size _ _ _ _ _ _) ?_)
      refine (pack_calls k ch pd FA n fc L _ (HF.out.keep0 K3.out) HG.out).mono ?_
      rintro e w4 ⟨bv, rfl, m4, k4, o4⟩
      have HB4 := Lib.hid (HB3.out.keep k4 (by simp))
      have HR4 := Lib.hid (HR3.out.keep k4 (by simp))
      have K4 := Lib.hid (K3.out.trans k4)
      have HM4 := Lib.hid m4
      have HO4 := Lib.hid o4
      have HZ3 : Hid (w.heap.size ≤ w3.heap.size) := Lib.hid K3.out.size
      clear k4 m4 o4 HB3 HR3 K3
      go_wp2_with (refine wpList_load_row rfl 25 _ rfl w1.heap.size rfl 25 _ (0, 0) _ HR4.out Try.underlying25 rfl (pk_size _ _ _ _ _ _) ?_)
      refine (pack_calls k ch 0 FA n fc L _ (HF.out.keep0 K4.out) HGQ.out).mono ?_
      rintro e w5 ⟨cv, rfl, m5, k5, o5⟩
      obtain ⟨Q, hQ⟩ : ∃ Q, Q = preM k ch L pd ++ L.flatten := ⟨_, rfl⟩
      obtain ⟨C, hC⟩ : ∃ C, C = packM k ch L 0 := ⟨_, rfl⟩
      have hB : packM k ch L pd = Q ++ List.replicate 0 y ++ List.replicate (pd - 0) 0 := by
        unfold packM
        rw [← hQ]
        simp
      have HD0 : Hid (PdSt w w5 w.heap.size #[.int .i64 k, .int .i64 ch, .slice FA n fc, .int .i64 pd] bv cv (Q ++ List.replicate 0 y ++ List.replicate (pd - 0) 0) C) := Lib.hid (by
        have m4 := HM4.out
        rw [hB] at m4
        rw [← hC] at m5
        refine ⟨K4.out.trans k5, HB4.out.keep k5 (by simp), m4.keep0 k5, m5, fun g hg => ?_⟩
        have h1 := HO4.out g hg
        have h2 := HZ3.out
        have h3 := m4.lt g hg
        exact ⟨by omega, fun g' hg' e => by have := o5 g' hg'; omega⟩)
      have HCR : Hid ((∀ x ∈ C, 0 ≤ x ∧ x ≤ 255) ∧ C.length ≤ 20000 ∧ parseM C = some ⟨k, ch, L, 0⟩) := Lib.hid (by
        rw [hC]
        exact ⟨pack_rng HGGQ.out HFIT.out, pack_len HGGQ.out, parse_pack HGGQ.out⟩)
      have HQR : Hid ((∀ x ∈ Q ++ List.replicate pd y, 0 ≤ x ∧ x ≤ 255) ∧ (Q ++ List.replicate pd y).length ≤ 20000 ∧ parseM (Q ++ List.replicate pd y) = some ⟨k, ch, L, pd⟩) := Lib.hid (by
        rw [hQ]
        exact ⟨packed_rng HGG.out HFIT.out _ (fun x hx => by rw [List.eq_of_mem_replicate hx]; exact HY.out), packed_len HGG.out _ (by simp), parse_pre HGG.out _ (by simp)⟩)
      have HQP : Hid (0 < Q.length) := Lib.hid (by
        have := pre_pos k ch L pd
        rw [hQ, List.length_append]
        omega)
      have HLN := Lib.hid HF.out.ln
      obtain ⟨q, hq⟩ : ∃ q, q = Q.length := ⟨_, rfl⟩
      have HQL := Lib.hid hq
      have hqs : q + pd ≤ 20000 := by
        have := HQR.out.2.1
        simp only [List.length_append, List.length_replicate] at this
        omega
      clear m5 k5 o5 hQ hC hB hq HB4 HR4 K4 HM4 HO4
      obtain ⟨b0, b1, b2, b3⟩ := HD0.out.bx.four
      obtain ⟨BA, bc, hbv, _⟩ := HD0.out.b.reads
      have hbl : (bytes (Q ++ List.replicate 0 y ++ List.replicate (pd - 0) 0)).length = q + pd := by
        rw [bytes_length, HQL.out]
        simp
      rw [hbl] at hbv
      subst hbv
      clear hbl
      have s1 : wrap64 (((q + pd : Nat) : Int) - (pd : Int)) = (q : Int) := by
        rw [show ((q + pd : Nat) : Int) - (pd : Int) = (q : Int) by omega]
        exact small64 (by omega)
      have s2 : IntKind.i64.wrap (((q + pd : Nat) : Int) - (pd : Int)) = (q : Int) := by rw [wrapEq']; exact s1
      obtain ⟨N, hN⟩ : ∃ N, N = q + pd := ⟨_, rfl⟩
      rw [← hN] at s1 s2 HD0 ⊢
      have HNE := Lib.hid hN
      clear hN hqs
      have hNs : N ≤ 20000 := by have := HQR.out.2.1; have := HQL.out; have := HNE.out; simp only [List.length_append, List.length_replicate] at *; omega
      go_wp2_with fail
      clear s1 s2 b0 b1 b2 b3
      go_loopw [10] (fun i wr => ∃ j : Nat, j ≤ pd ∧ i = .int .i64 ((q + j : Nat) : Int) ∧ PdSt w wr w.heap.size #[.int .i64 k, .int .i64 ch, .slice FA n fc, .int .i64 pd] (.slice BA N bc) cv (Q ++ List.replicate j y ++ List.replicate (pd - j) 0) C) (fun i _ => N - (intOf i).toNat)
      case atStart => exact ⟨0, by omega, by simp, HD0.out⟩
      case round =>
        clear HD0
        obtain ⟨j, hj, rfl, HS⟩ := hrel
        have HS := Lib.hid HS
        by_cases hlt : j < pd
        · have hlen : (Q ++ List.replicate j y ++ List.replicate (pd - j) 0).length = N := by
            rw [HNE.out, HQL.out]
            simp
            omega
          obtain ⟨g, c', hv, hown, hset⟩ := HS.out.b.setByte (by have := HQP.out; rw [hlen, HNE.out, HQL.out]; omega)
          obtain ⟨e1, e2, e3⟩ := hset (q + j) y (by rw [hlen, HNE.out]; omega)
          have hps := pads_set Q j pd y hlt
          rw [← HQL.out] at hps
          rw [hps] at e3
          have HU := Lib.hid (HS.out.store hown e3)
          simp only [Value.slice.injEq] at hv
          obtain ⟨rfl, hvn, rfl⟩ := hv
          obtain ⟨z, hz⟩ : ∃ z : Nat, z = q + j := ⟨_, rfl⟩
          rw [← hz] at e1 e2 HU ⊢
          have hz1 : (z : Int) < (N : Int) := by have := HNE.out; omega
          have hz0 : (0 : Int) ≤ (z : Int) := by omega
          have HZ := Lib.hid hz
          clear e3 hset hps hvn hown hlen hz HS
          go_wp2_with fail
          go_roundw
          case rel => exact ⟨j + 1, by omega, by rw [HZ.out]; go_num, HU.out⟩
          case measure => simp [intOf]; omega
        · obtain rfl : j = pd := by omega
          have hfin : Q ++ List.replicate j y ++ List.replicate (j - j) 0 = Q ++ List.replicate j y := by simp
          rw [hfin] at HS
          have HE : Hid (((q + j : Nat) : Int) = (N : Int)) := Lib.hid (by have := HNE.out; omega)
          rw [HE.out]
          obtain ⟨A2, c2, hv2, hba⟩ := HS.out.b.argB HQR.out.1 (by have := HQR.out.2.1; omega)
          obtain ⟨A3, c3, hv3, hca⟩ := HS.out.c.argB HCR.out.1 (by have := HCR.out.2.1; omega)
          have hbl : (Q ++ List.replicate j y).length = N := by rw [HNE.out, HQL.out]; simp
          rw [hbl] at hv2 hba
          simp only [Value.slice.injEq] at hv2
          obtain ⟨rfl, hvn, rfl⟩ := hv2
          clear hvn hfin hbl hlt
          obtain ⟨cn, hcn⟩ : ∃ cn, cn = C.length := ⟨_, rfl⟩
          rw [← hcn] at hv3 hca
          subst hv3
          have HBA := Lib.hid hba
          have HCA := Lib.hid hca
          have HBX := Lib.hid HS.out.bx
          have KS := Lib.hid HS.out.kept
          clear hba hca hcn HS
          go_wp2_with fail
          refine (parse_calls BA N bc (Q ++ List.replicate j y) _ HBA.out).mono ?_
          rintro e w6 ⟨k6, h6⟩
          rw [HQR.out.2.2] at h6
          obtain ⟨fv, rfl, hf⟩ := h6
          obtain ⟨XA, xc, rfl, hx⟩ := hf.reads HFIT.out
          dsimp only at hx ⊢
          rw [HLN.out] at hx ⊢
          have ka := Keep.alloc [] w6 (.cells #[.int .i64 k, .int .i64 ch, .slice XA n xc, .int .i64 j] 25)
          have k7 := k6.trans ka
          have K7 := Lib.hid (KS.out.trans k7)
          have HW6 : Hid (w.heap.size ≤ w6.heap.size) := Lib.hid (by have := KS.out.size; have := k6.size; omega)
          have HX7 := Lib.hid (hf.keep0 ka)
          have HP7 := Lib.hid (HBX.out.keep k7 (by simp))
          have HC7 := Lib.hid (HCA.out.keep0 k7)
          have HXB : Hid (Blk (w6.alloc (.cells #[.int .i64 k, .int .i64 ch, .slice XA n xc, .int .i64 j] 25)) w6.heap.size #[.int .i64 k, .int .i64 ch, .slice XA n xc, .int .i64 j] 25) := Lib.hid (Blk.new w6 _ _)
          clear k6 ka k7 hf hx HBA HCA HBX KS
          unfold pkV
          go_wp2_with fail
          refine (parse_calls A3 cn c3 C _ HC7.out).mono ?_
          rintro e w8 ⟨k8, h8⟩
          rw [HCR.out.2.2] at h8
          obtain ⟨gv, rfl, hg⟩ := h8
          obtain ⟨YA, yc, rfl, hyf⟩ := hg.reads HFIT.out
          dsimp only at hyf ⊢
          rw [HLN.out] at hyf ⊢
          have ka := Keep.alloc [] w8 (.cells #[.int .i64 k, .int .i64 ch, .slice YA n yc, .int .i64 0] 25)
          have k9 := k8.trans ka
          have K9 := Lib.hid (K7.out.trans k9)
          have HX9 := Lib.hid (HX7.out.keep0 k9)
          have HP9 := Lib.hid (HP7.out.keep k9 (by simp))
          have HXB9 := Lib.hid (HXB.out.keep k9 (by simp))
          have HY9 := Lib.hid (hg.keep0 ka)
          have HYB : Hid (Blk (w8.alloc (.cells #[.int .i64 k, .int .i64 ch, .slice YA n yc, .int .i64 0] 25)) w8.heap.size #[.int .i64 k, .int .i64 ch, .slice YA n yc, .int .i64 0] 25) := Lib.hid (Blk.new w8 _ _)
          clear k8 ka k9 hg hyf HX7 HP7 HC7 HXB K7
          unfold pkV
          obtain ⟨p0, p1, p2, p3⟩ := HP9.out.four
          obtain ⟨x0, x1, x2, x3⟩ := HXB9.out.four
          obtain ⟨y0, y1, y2, y3⟩ := HYB.out.four
          have xf := HXB9.out.free 3
          go_wp2_with fail
          have hfx : FrR ((w8.alloc (.cells #[.int .i64 k, .int .i64 ch, .slice YA n yc, .int .i64 0] 25)).setCell ⟨w6.heap.size, 3, none⟩ (.int .i64 0)) XA n xc L := by
            obtain ⟨_, _, e1, e2⟩ := (HX9.out.setP HXB9.out 3 (.int .i64 0)).reads HFIT.out
            rw [HLN.out] at e1 e2
            simp only [Value.slice.injEq] at e1
            obtain ⟨rfl, _, rfl⟩ := e1
            exact e2
          have hfy : FrR ((w8.alloc (.cells #[.int .i64 k, .int .i64 ch, .slice YA n yc, .int .i64 0] 25)).setCell ⟨w6.heap.size, 3, none⟩ (.int .i64 0)) YA n yc L := by
            obtain ⟨_, _, e1, e2⟩ := (HY9.out.setP HXB9.out 3 (.int .i64 0)).reads HFIT.out
            rw [HLN.out] at e1 e2
            simp only [Value.slice.injEq] at e1
            obtain ⟨rfl, _, rfl⟩ := e1
            exact e2
          have KF : Hid (Keep [] w ((w8.alloc (.cells #[.int .i64 k, .int .i64 ch, .slice YA n yc, .int .i64 0] 25)).setCell ⟨w6.heap.size, 3, none⟩ (.int .i64 0))) := Lib.hid (K9.out.trans' (Keep.setb _ _ _ _) (by simp) (by have := HW6.out; simp; omega))
          refine (is_calls k ch 0 XA YA n xc yc L _ hfx hfy).mono ?_
          rintro e w10 ⟨rfl, k10⟩
          have K10 := Lib.hid (KF.out.trans k10)
          clear k10 p0 p1 p2 p3 x0 x1 x2 x3 y0 y1 y2 y3 xf hfx hfy
          go_wp2_with fail
          go_ret
          exact ⟨rfl, K10.out⟩
theorem pads_row (v : Value) (z : PkA) (y : Int) (w : World) (h : IsPk w v z) (hy : (Lit.int .u8 y).wf = true) :
    Calls Try.prog 8 #[v, .int .u8 y] w fun e w' => e = .returned (.bool true) ∧ Below w.heap.size w w' := by
  obtain ⟨rfl, hf⟩ := h
  exact (pads_walk z.cfg z.ch z.pad z.A z.n z.c z.L y w hf (wf_u8 hy)).mono fun _ _ ⟨he, k⟩ => ⟨he, k.toBelow⟩
end Go.Proofs.Ytmnknegbbmjcbaa
