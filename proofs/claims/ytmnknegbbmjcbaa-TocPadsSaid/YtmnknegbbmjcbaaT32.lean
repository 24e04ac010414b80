/- The walk of TocPacks. -/
import Derived.Test.YtmnknegbbmjcbaaT31
namespace Go.Proofs.Ytmnknegbbmjcbaa
open Go.RowKit

theorem Blk.four {w : World} {b : Nat} {v0 v1 v2 v3 : Value} {t : TypeId} (h : Blk w b #[v0, v1, v2, v3] t) : w.cell? ⟨b, 0, none⟩ = some v0 ∧ w.cell? ⟨b, 1, none⟩ = some v1 ∧ w.cell? ⟨b, 2, none⟩ = some v2 ∧ w.cell? ⟨b, 3, none⟩ = some v3 :=
  ⟨h.cell 0, h.cell 1, h.cell 2, h.cell 3⟩
theorem good_calls_b (cfg ch pad : Int) (FA : Option Addr) (n fc : Nat) (L : List (List Int)) (w : World) (g : Bool) (hg : goodM cfg ch L pad = g) (h : FrR w FA n fc L) :
    Calls Try.prog 15 #[.agg #[.int .i64 cfg, .int .i64 ch, .slice FA n fc, .int .i64 pad]] w (RetK w (.bool g)) := by
  subst hg
  exact good_calls cfg ch pad FA n fc L w h
theorem goodp_calls_b (cfg ch pad : Int) (FA : Option Addr) (n fc : Nat) (L : List (List Int)) (w : World) (g : Bool) (hg : goodM cfg ch L pad = g) (h : FrR w FA n fc L) :
    Calls Try.prog 18 #[.agg #[.int .i64 cfg, .int .i64 ch, .slice FA n fc, .int .i64 pad]] w (RetK w (.bool g)) := by
  subst hg
  exact goodp_calls cfg ch pad FA n fc L w h
theorem FrR.rng {w : World} {A : Option Addr} {n c : Nat} {L : List (List Int)} (h : FrR w A n c L) : Fit L := fun l hl => by
  obtain ⟨i, hi, e⟩ := List.getElem_of_mem hl
  obtain ⟨a, X, d, _, _, hx⟩ := h.at_ i l (by rw [List.getElem?_eq_getElem hi, e])
  exact ⟨hx.rng, hx.big⟩
theorem told_rng {n : Nat} (h : n ≤ 1275) : ∀ x ∈ toldM n, 0 ≤ x ∧ x ≤ 255 := by
  unfold toldM
  split
  · intro x hx
    simp only [List.mem_singleton] at hx
    omega
  · intro x hx
    simp only [List.mem_cons, List.not_mem_nil, or_false] at hx
    rcases hx with rfl | rfl <;> omega
theorem pre_rng {k : Nat} {ch : Int} {L : List (List Int)} {pad : Nat} (G : Good k ch L pad) : ∀ x ∈ preM k ch L pad, 0 ≤ x ∧ x ≤ 255 := by
  have hk := G.c1
  have n12 := G.n12
  have h0 : 0 ≤ hdM k ch ∧ hdM k ch ≤ 92 := by
    unfold hdM
    rcases G.h with e | e <;> (rw [e]; omega)
  have hn : ∀ u, cntN L pad u ≤ 255 := by
    intro u
    unfold cntN
    split <;> split <;> omega
  have hhd : (L.headD []).length ≤ 1275 := by
    cases L with
    | nil => simp
    | cons a L => exact G.s a (by simp)
  intro x hx
  unfold preM at hx
  split at hx
  · simp only [List.mem_singleton] at hx
    omega
  · split at hx
    · simp only [List.mem_singleton] at hx
      omega
    · split at hx
      · simp only [List.mem_append, List.mem_singleton] at hx
        rcases hx with hx | hx
        · omega
        · exact told_rng hhd x hx
      · unfold severalM at hx
        simp only [List.mem_append, List.mem_cons, List.not_mem_nil, or_false] at hx
        rcases hx with ((hx | hx) | hx) | hx
        · omega
        · have := hn (unlikeB L)
          omega
        · unfold padB at hx
          split at hx
          · simp only [List.mem_append, List.mem_singleton] at hx
            rcases hx with hx | hx
            · have := List.eq_of_mem_replicate hx
              omega
            · omega
          · cases hx
        · split at hx
          · unfold lensB at hx
            rw [List.mem_flatten] at hx
            obtain ⟨q, hq, hxq⟩ := hx
            rw [List.mem_map] at hq
            obtain ⟨l, hl, rfl⟩ := hq
            exact told_rng (G.s l ((List.dropLast_sublist L).subset hl)) x hxq
          · cases hx
theorem packed_rng {k : Nat} {ch : Int} {L : List (List Int)} {pad : Nat} (G : Good k ch L pad) (hf : Fit L) (Z : List Int) (hZ : ∀ x ∈ Z, 0 ≤ x ∧ x ≤ 255) : ∀ x ∈ preM k ch L pad ++ L.flatten ++ Z, 0 ≤ x ∧ x ≤ 255 := by
  intro x hx
  simp only [List.mem_append, List.mem_flatten] at hx
  rcases hx with (hx | ⟨l, hl, hx⟩) | hx
  · exact pre_rng G x hx
  · exact (hf l hl).1 x hx
  · exact hZ x hx
theorem packed_len {k : Nat} {ch : Int} {L : List (List Int)} {pad : Nat} (G : Good k ch L pad) (Z : List Int) (hZ : Z.length = pad) : (preM k ch L pad ++ L.flatten ++ Z).length ≤ 20000 := by
  have h1 := pre_len (cfg := k) (ch := ch) G.n12 (show pad ≤ 1000 by have := G.p1; omega)
  have h2 := sum_le G.s
  have h3 := G.n12
  have h4 := G.p1
  simp only [List.length_append]
  omega
theorem pack_rng {k : Nat} {ch : Int} {L : List (List Int)} {pad : Nat} (G : Good k ch L pad) (hf : Fit L) : ∀ x ∈ packM k ch L pad, 0 ≤ x ∧ x ≤ 255 := packed_rng G hf _ (fun x hx => by
  have := List.eq_of_mem_replicate hx
  omega)
theorem pack_len {k : Nat} {ch : Int} {L : List (List Int)} {pad : Nat} (G : Good k ch L pad) : (packM k ch L pad).length ≤ 20000 := packed_len G _ (by simp)
set_option maxRecDepth 100000
set_option maxHeartbeats 4000000
theorem packs_walk (cfg ch pad : Int) (FA : Option Addr) (n fc : Nat) (L : List (List Int)) (w : World) (h : FrR w FA n fc L) :
    Calls Try.prog 5 #[.agg #[.int .i64 cfg, .int .i64 ch, .slice FA n fc, .int .i64 pad]] w (RetK w (.bool true)) := by
  have HF := Lib.hid h
  have hcp := h.cp
  have hmo := h.most
  have HFIT := Lib.hid h.rng
  obtain ⟨g, hg⟩ : ∃ g, g = goodM cfg ch L pad := ⟨_, rfl⟩
  have HG := Lib.hid hg.symm
  have k0 := Keep.alloc [] w (.cells #[.int .i64 cfg, .int .i64 ch, .slice FA n fc, .int .i64 pad] 25)
  have K0 := Lib.hid k0
  have HB0 : Hid (Blk (w.alloc (.cells #[.int .i64 cfg, .int .i64 ch, .slice FA n fc, .int .i64 pad] 25)) w.heap.size #[.int .i64 cfg, .int .i64 ch, .slice FA n fc, .int .i64 pad] 25) := Lib.hid (Blk.new w _ _)
  clear h k0 hg
  go_enter Try.func5, Try.ntmps5
  go_wp2_with fail
  refine (awake_calls _).mono ?_
  rintro e w1 ⟨rfl, k1⟩
  have HB1 := Lib.hid (HB0.out.keep k1 (by simp))
  have K1 := Lib.hid (K0.out.trans k1)
  obtain ⟨b0, b1, b2, b3⟩ := HB1.out.four
  have kr := Keep.alloc [] w1 (.cells #[.int .i64 cfg, .int .i64 ch, .slice FA n fc, .int .i64 pad] 39)
  have HBA := Lib.hid (HB1.out.keep kr (by simp))
  have HRA : Hid (Blk (w1.alloc (.cells #[.int .i64 cfg, .int .i64 ch, .slice FA n fc, .int .i64 pad] 39)) w1.heap.size #[.int .i64 cfg, .int .i64 ch, .slice FA n fc, .int .i64 pad] 39) := Lib.hid (Blk.new w1 _ _)
  have KA := Lib.hid (K1.out.trans kr)
  clear k1 kr HB0 K0 HB1 K1
  cases g with
  | false =>
    go_wp2_with (refine wpList_load_row rfl 25 _ rfl w.heap.size rfl 25 _ (0, 0) _ HBA.out Try.underlying25 rfl (pk_size _ _ _ _ _ _) ?_)
    refine (pack_bad cfg ch pad FA n fc L _ (HF.out.keep0 KA.out) HG.out).mono ?_
    rintro e w2 ⟨rfl, k2⟩
    have HB2 := Lib.hid (HBA.out.keep k2 (by simp))
    have HR2 := Lib.hid (HRA.out.keep k2 (by simp))
    have K2 := Lib.hid (KA.out.trans k2)
    clear k2 HBA HRA KA b0 b1 b2 b3
    go_upto_region 5 with fail
    obtain ⟨c0, c1, c2, c3⟩ := (HB2.out.drew).four
    obtain ⟨d0, d1, d2, d3⟩ := (HR2.out.drew).four
    go_region_law (first
      | (go_simp; go_at_call 15; refine (good_calls_b cfg ch pad FA n fc L _ false HG.out (HF.out.keep0 (K2.out.trans (Keep.drew _ _)))).mono ?_; rintro e w3 ⟨rfl, k3⟩; have K3 := Lib.hid ((K2.out.trans (Keep.drew [] _)).trans k3); have HR3 := Lib.hid (HR2.out.drew.keep k3 (by simp)); clear k3; obtain ⟨f0, f1, f2, f3⟩ := HR3.out.four)
      | (go_simp; go_at_call 18; refine (goodp_calls_b cfg ch pad FA n fc L _ false HG.out (HF.out.keep0 K3.out)).mono ?_; rintro e w4 ⟨rfl, k4⟩; have K4 := Lib.hid (K3.out.trans k4); have HR4 := Lib.hid (HR3.out.keep k4 (by simp)); clear k4))
    all_goals (
      clear c0 c1 c2 c3 d0 d1 d2 d3 f0 f1 f2 f3 HR3 K3
      go_wp2_with (refine wpList_load_row rfl 39 _ rfl w1.heap.size rfl 39 _ (0, 0) _ HR4.out Try.underlying39 rfl (rpk_size _ _ _ _ _ _) ?_)
      refine (goodp_calls_b cfg ch pad FA n fc L _ false HG.out (HF.out.keep0 K4.out)).mono ?_
      rintro e w5 ⟨rfl, k5⟩
      have K5 := Lib.hid (K4.out.trans k5)
      clear k5
      go_wp2_with fail
      go_ret
      exact ⟨rfl, K5.out⟩)
  | true =>
    have G := good_of HG.out
    obtain ⟨k, rfl⟩ := Int.eq_ofNat_of_zero_le G.c0
    obtain ⟨pd, rfl⟩ := Int.eq_ofNat_of_zero_le G.p0
    have HGG := Lib.hid G
    clear G
    go_wp2_with (refine wpList_load_row rfl 25 _ rfl w.heap.size rfl 25 _ (0, 0) _ HBA.out Try.underlying25 rfl (pk_size _ _ _ _ _ _) ?_)
    refine (pack_calls k ch pd FA n fc L _ (HF.out.keep0 KA.out) HG.out).mono ?_
    rintro e w2 ⟨v, rfl, m1, k2, _⟩
    obtain ⟨P, hP⟩ : ∃ P, P = packM k ch L pd := ⟨_, rfl⟩
    have hrng := pack_rng HGG.out HFIT.out
    have hlen := pack_len HGG.out
    have hpar := parse_pack HGG.out
    rw [← hP] at m1 hrng hlen hpar
    have HPE := Lib.hid hP
    have HPAR := Lib.hid hpar
    obtain ⟨BA, bc, hbv, hba⟩ := m1.argB hrng (by omega)
    obtain ⟨bn, hbn⟩ : ∃ bn, bn = P.length := ⟨_, rfl⟩
    rw [← hbn] at hbv hba
    subst hbv
    have HA2 := Lib.hid hba
    have HBN := Lib.hid hbn
    have HB2 := Lib.hid (HBA.out.keep k2 (by simp))
    have HR2 := Lib.hid (HRA.out.keep k2 (by simp))
    have K2 := Lib.hid (KA.out.trans k2)
    clear k2 HBA HRA KA b0 b1 b2 b3 m1 hP hrng hlen hpar hba hbn
    go_upto_region 5 with fail
    obtain ⟨c0, c1, c2, c3⟩ := (HB2.out.drew).four
    obtain ⟨d0, d1, d2, d3⟩ := (HR2.out.drew).four
    go_region_law (first
      | (go_simp; go_at_call 15; refine (good_calls_b k ch pd FA n fc L _ true HG.out (HF.out.keep0 (K2.out.trans (Keep.drew _ _)))).mono ?_; rintro e w3 ⟨rfl, k3⟩; have K3 := Lib.hid ((K2.out.trans (Keep.drew [] _)).trans k3); have HR3 := Lib.hid (HR2.out.drew.keep k3 (by simp)); have HA3 := Lib.hid ((HA2.out.keep0 (Keep.drew [] _)).keep0 k3); clear k3; obtain ⟨f0, f1, f2, f3⟩ := HR3.out.four)
      | (go_simp; go_at_call 18; refine (goodp_calls_b k ch pd FA n fc L _ true HG.out (HF.out.keep0 K3.out)).mono ?_; rintro e w4 ⟨rfl, k4⟩; have K4 := Lib.hid (K3.out.trans k4); have HR4 := Lib.hid (HR3.out.keep k4 (by simp)); have HA4 := Lib.hid (HA3.out.keep0 k4); clear k4))
    all_goals (
      clear c0 c1 c2 c3 d0 d1 d2 d3 f0 f1 f2 f3 HR3 K3 HA3 HB2 HR2 HA2 K2
      go_wp2_with (refine wpList_load_row rfl 39 _ rfl w1.heap.size rfl 39 _ (0, 0) _ HR4.out Try.underlying39 rfl (rpk_size _ _ _ _ _ _) ?_)
      refine (goodp_calls_b k ch pd FA n fc L _ true HG.out (HF.out.keep0 K4.out)).mono ?_
      rintro e w5 ⟨rfl, k5⟩
      have K5 := Lib.hid (K4.out.trans k5)
      have HR5 := Lib.hid (HR4.out.keep k5 (by simp))
      have HA5 := Lib.hid (HA4.out.keep0 k5)
      clear k5 K4 HR4 HA4
      go_wp2_with fail
      refine (parse_calls BA bn bc P _ HA5.out).mono ?_
      rintro e w6 ⟨k6, h6⟩
      rw [HPAR.out] at h6
      obtain ⟨fv, rfl, hf⟩ := h6
      obtain ⟨QA, qc, rfl, hq⟩ := hf.reads HFIT.out
      have hln := HF.out.ln
      dsimp only at hq ⊢
      rw [hln] at hq ⊢
      have ka := Keep.alloc [] w6 (.cells #[.int .i64 k, .int .i64 ch, .slice QA n qc, .int .i64 pd] 25)
      have k7 := k6.trans ka
      have K7 := Lib.hid (K5.out.trans k7)
      have HR7 := Lib.hid (HR5.out.keep k7 (by simp))
      have HA7 := Lib.hid (HA5.out.keep0 k7)
      have HQ7 := Lib.hid (hq.keep0 ka)
      have HB7 : Hid (Blk (w6.alloc (.cells #[.int .i64 k, .int .i64 ch, .slice QA n qc, .int .i64 pd] 25)) w6.heap.size #[.int .i64 k, .int .i64 ch, .slice QA n qc, .int .i64 pd] 25) := Lib.hid (Blk.new w6 _ _)
      clear k6 ka k7 hf hq hln K5 HR5 HA5
      unfold pkV
      go_upto_region 10 with fail
      generalize w6.alloc (.cells #[.int .i64 k, .int .i64 ch, .slice QA n qc, .int .i64 pd] 25) = w7 at *
      generalize w6.heap.size = qb at *
      obtain ⟨S, hS⟩ : ∃ S, S = strOfNums P := ⟨_, rfl⟩
      have HS := Lib.hid hS
      obtain ⟨d0, d1, d2, d3⟩ := (HR7.out.drew).four
      have hcv : (convert 29 9 (.slice BA bn bc)).run Try.prog w7.drew = .ok (.string S) w7.drew := by
        have h := run_str w7.drew BA bn bc P (HA7.out.keep0 (Keep.drew [] _)).reads HBN.out.symm HA7.out.nil
        rw [← hS] at h
        exact h
      clear hS
      go_region_law (first
        | (go_simp; go_at_call 19; refine (rpack_calls k ch pd FA n fc L _ (HF.out.keep0 (K7.out.trans (Keep.drew _ _))) HG.out).mono ?_; rintro e w8 ⟨v8, rfl, m1, k8, _⟩; rw [← HPE.out] at m1; obtain ⟨CA, cc, rfl, hca⟩ := m1.argB (by rw [HPE.out]; exact pack_rng HGG.out HFIT.out) (by have := pack_len HGG.out; rw [HPE.out]; omega); have k8' := (Keep.drew [] w7).trans k8; have K8 := Lib.hid (K7.out.trans k8'); have HQ8 := Lib.hid (HQ7.out.keep0 k8'); have hc2 := run_str w8 CA P.length cc P hca.reads rfl hca.nil; have hc1 := run_str w8 BA bn bc P (HA7.out.keep0 k8').reads HBN.out.symm HA7.out.nil; rw [← HS.out] at hc1 hc2; rw [← HBN.out] at hc2 ⊢; obtain ⟨f0, f1, f2, f3⟩ := (HR7.out.keep k8' (by simp)).four; obtain ⟨g0, g1, g2, g3⟩ := (HB7.out.keep k8' (by simp)).four; clear m1 k8 k8' hca)
        | (go_simp; go_at_call 17; refine (is_calls k ch pd QA FA n qc fc L _ HQ8.out (HF.out.keep0 K8.out)).mono ?_; rintro e w9 ⟨rfl, k9⟩; have K9 := Lib.hid (K8.out.trans k9); clear k9))
      all_goals (
        clear d0 d1 d2 d3 f0 f1 f2 f3 g0 g1 g2 g3 hcv hc1 hc2
        go_wp2_with fail
        go_ret
        exact ⟨rfl, K9.out⟩))
theorem packs_row (v : Value) (z : PkA) (w : World) (h : IsPk w v z) :
    Calls Try.prog 5 #[v] w fun e w' => e = .returned (.bool true) ∧ Below w.heap.size w w' := by
  obtain ⟨rfl, hf⟩ := h
  exact (packs_walk z.cfg z.ch z.pad z.A z.n z.c z.L w hf).mono fun _ _ ⟨he, k⟩ => ⟨he, k.toBelow⟩
end Go.Proofs.Ytmnknegbbmjcbaa
