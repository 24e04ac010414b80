/- toc's Pack, whole. -/
import Derived.Test.YtmnknegbbmjcbaaT26
import Derived.Deep.CutBlock
namespace Go.Proofs.Ytmnknegbbmjcbaa
open Go.RowKit

theorem anyL_not {P : Nat → Bool} {L : List (List Int)} (h : anyL P L = false) : ∀ l ∈ L, P l.length = false := fun l hl => by
  unfold anyL at h
  rw [List.any_eq_false] at h
  simpa using h l hl
/-- What goodM says. -/
structure Good (cfg ch : Int) (L : List (List Int)) (pad : Int) : Prop where
  c0 : 0 ≤ cfg
  c1 : cfg < 12
  h : ch = 1 ∨ ch = 2
  n1 : 1 ≤ L.length
  n2 : (L.length : Int) ≤ 120 / msM cfg.toNat
  s : ∀ l ∈ L, l.length ≤ 1275
  p0 : 0 ≤ pad
  p1 : pad ≤ 1000
theorem good_of {cfg ch : Int} {L : List (List Int)} {pad : Int} (h : goodM cfg ch L pad = true) : Good cfg ch L pad := by
  unfold goodM at h
  simp only [Bool.and_eq_true, decide_eq_true_eq, Bool.or_eq_true, Bool.not_eq_true'] at h
  obtain ⟨⟨⟨⟨⟨⟨⟨h1, h2⟩, h3⟩, h4⟩, h5⟩, h6⟩, h7⟩, h8⟩ := h
  exact ⟨h1, h2, h3, h4, h5, (fun l hl => by have := anyL_not h6 l hl; simp only [decide_eq_false_iff_not] at this; omega), h7, h8⟩
theorem good_iff {cfg ch : Int} {L : List (List Int)} {pad : Int} (h : Good cfg ch L pad) : goodM cfg ch L pad = true := by
  have hl : longL L = false := by
    unfold longL anyL
    rw [List.any_eq_false]
    intro l hl
    have := h.s l hl
    simp only [decide_eq_true_eq]
    omega
  unfold goodM
  rw [hl, decide_eq_true h.c0, decide_eq_true h.c1, decide_eq_true h.n1, decide_eq_true h.n2, decide_eq_true h.p0, decide_eq_true h.p1]
  rcases h.h with h | h <;> simp [h]
theorem Good.n12 {cfg ch : Int} {L : List (List Int)} {pad : Int} (h : Good cfg ch L pad) : L.length ≤ 12 := by
  have h1 := h.n2
  have h2 : msM cfg.toNat = 10 ∨ msM cfg.toNat = 20 := by unfold msM; omega
  rcases h2 with h2 | h2 <;> (rw [h2] at h1; omega)
theorem pre_len {cfg : Nat} {ch : Int} {L : List (List Int)} {pad : Nat} (h : L.length ≤ 12) (hp : pad ≤ 1000) : (preM cfg ch L pad).length ≤ 40 := by
  have h1 := told_len (L.headD []).length
  have h2 := lens_len L.dropLast
  have h3 := pad_len hp
  have h4 : L.dropLast.length ≤ 12 := by simp; omega
  unfold preM severalM
  split
  · simp
  · split
    · simp
    · split
      · simp only [List.length_append, List.length_singleton]; omega
      · simp only [List.length_append, List.length_cons, List.length_nil]
        split
        · omega
        · simp only [List.length_nil]; omega
theorem pre_pos (cfg : Nat) (ch : Int) (L : List (List Int)) (pad : Nat) : 0 < (preM cfg ch L pad).length := by
  unfold preM severalM
  split
  · simp
  · split
    · simp
    · split
      · simp
      · simp
def RetPk (w : World) (xs : List Int) (e : Ending) (w' : World) : Prop :=
  ∃ v, e = .returned (.tuple #[v, .int .i64 0]) ∧ MadeV w' 5 v (bytes xs) ∧ Keep [] w w' ∧ (∀ b, v.ownBlock = some b → w.heap.size ≤ b)
set_option maxRecDepth 100000
set_option maxHeartbeats 4000000
theorem pack_calls (k : Nat) (ch : Int) (pad : Nat) (FA : Option Addr) (n fc : Nat) (L : List (List Int)) (w : World) (h : FrR w FA n fc L) (hg : goodM k ch L pad = true) :
    Calls Try.prog 14 #[.agg #[.int .i64 k, .int .i64 ch, .slice FA n fc, .int .i64 pad]] w (RetPk w (packM k ch L pad)) := by
  have G := good_of hg
  have HF0 := Lib.hid h
  have HF := Lib.hid (h.keep0 (Keep.alloc [] w (.cells #[.int .i64 k, .int .i64 ch, .slice FA n fc, .int .i64 pad] 25)))
  have HG := Lib.hid hg
  have HSH := Lib.hid G.s
  have hk := G.c1
  have hch : 1 ≤ ch ∧ ch ≤ 2 := by rcases G.h with e | e <;> omega
  obtain ⟨hch1, hch2⟩ := hch
  have hn1 : 1 ≤ n := by rw [← h.ln]; exact G.n1
  have hn12 : n ≤ 12 := by rw [← h.ln]; exact G.n12
  have hp1000 : pad ≤ 1000 := by have := G.p1; omega
  have HN := Lib.hid h.ln
  have HPL : Hid ((preM k ch L pad).length ≤ 40) := Lib.hid (pre_len (by rw [h.ln]; exact hn12) hp1000)
  obtain ⟨l0, hl0⟩ : ∃ l0, L[0]? = some l0 := ⟨_, List.getElem?_eq_getElem (by rw [h.ln]; omega)⟩
  have hhd : L.headD [] = l0 := by
    cases L with
    | nil => simp at hl0
    | cons a L => simpa using hl0
  obtain ⟨u, hu⟩ : ∃ u, u = unlikeB L := ⟨_, rfl⟩
  have HU := Lib.hid hu.symm
  have HUN : Hid (anyL (fun q => !decide (q = l0.length)) L = u) := Lib.hid (by rw [hu]; unfold unlikeB; rw [hhd])
  have HHD := Lib.hid hhd
  have HL0 := Lib.hid hl0
  have HB : Hid (Blk (w.alloc (.cells #[.int .i64 k, .int .i64 ch, .slice FA n fc, .int .i64 pad] 25)) w.heap.size #[.int .i64 k, .int .i64 ch, .slice FA n fc, .int .i64 pad] 25) := Lib.hid (Blk.new w _ _)
  have hcp := h.cp
  have hmo := h.most
  clear h hg hl0 hhd hu G
  go_enter Try.func14, Try.ntmps14
  go_wp2_with (refine wpList_load_row rfl 25 _ rfl w.heap.size rfl 25 _ (0, 0) _ HB.out Try.underlying25 rfl (pk_size _ _ _ _ _ _) ?_)
  refine (good_calls k ch pad FA n fc L _ HF.out).mono ?_
  rintro e w2 ⟨rfl, k2⟩
  rw [HG.out]
  have K2 := Lib.hid ((Keep.alloc [] w (.cells #[.int .i64 k, .int .i64 ch, .slice FA n fc, .int .i64 pad] 25)).trans k2)
  have HB2 := Lib.hid (HB.out.keep k2 (by simp))
  have HF2 := Lib.hid (HF.out.keep0 k2)
  clear k2 HF HB
  have b0 : w2.cell? ⟨w.heap.size, 0, none⟩ = some (.int .i64 k) := HB2.out.cell 0
  have b1 : w2.cell? ⟨w.heap.size, 1, none⟩ = some (.int .i64 ch) := HB2.out.cell 1
  have b2 : w2.cell? ⟨w.heap.size, 2, none⟩ = some (.slice FA n fc) := HB2.out.cell 2
  have b3 : w2.cell? ⟨w.heap.size, 3, none⟩ = some (.int .i64 pad) := HB2.out.cell 3
  go_wp2_with fail
  refine (containsUnlike w.heap.size l0.length k ch pad l0 FA n fc L _ HF2.out HB2.out HL0.out rfl).mono ?_
  rintro e w' ⟨rfl, rfl⟩
  rw [HUN.out]
  have h8 : IntKind.u8.wrap (8 * (k : Int) + 4 * (ch - 1)) = 8 * (k : Int) + 4 * (ch - 1) := by rw [IntKind.wrap_u8]; omega
  have h81 : IntKind.u8.wrap (8 * (k : Int) + 4 * (ch - 1) + 1) = 8 * (k : Int) + 4 * (ch - 1) + 1 := by rw [IntKind.wrap_u8]; omega
  have h82 : IntKind.u8.wrap (8 * (k : Int) + 4 * (ch - 1) + 2) = 8 * (k : Int) + 4 * (ch - 1) + 2 := by rw [IntKind.wrap_u8]; omega
  have h83 : IntKind.u8.wrap (8 * (k : Int) + 4 * (ch - 1) + 3) = 8 * (k : Int) + 4 * (ch - 1) + 3 := by rw [IntKind.wrap_u8]; omega
  go_upto_block 0 with fail
  go_cut [7] from 29 to 75 (fun v wx => PcSt w wx w.heap.size #[.int .i64 k, .int .i64 ch, .slice FA n fc, .int .i64 pad] v (preM k ch L pad) FA n fc L)
  case rest =>
    have HP := Lib.hid hcut
    have HPR : Hid (PcSt w wc w.heap.size #[.int .i64 k, .int .i64 ch, .slice FA n fc, .int .i64 pad] u7 (preM k ch L pad ++ (L.take 0).flatten) FA n fc L) := Lib.hid (by
      have e : (L.take 0).flatten = [] := rfl
      rw [e, List.append_nil]
      exact hcut)
    have d2 : wc.cell? ⟨w.heap.size, 2, none⟩ = some (.slice FA n fc) := HP.out.bx.cell 2
    obtain ⟨P, hP⟩ : ∃ P, P = preM k ch L pad := ⟨_, rfl⟩
    rw [← hP] at HPR HPL
    have HPE := Lib.hid hP
    have HPP : Hid (0 < P.length) := Lib.hid (by rw [hP]; exact pre_pos k ch L pad)
    clear b0 b1 b2 b3 HB2 HF2 h8 h81 h82 h83 hcut HP hP
    go_wp2_with fail
    clear d2
    go_loopw [7, 79] (fun v i wr => ∃ z : Nat, z ≤ n ∧ i = .int .i64 z ∧ PcSt w wr w.heap.size #[.int .i64 k, .int .i64 ch, .slice FA n fc, .int .i64 pad] v (P ++ (L.take z).flatten) FA n fc L) (fun _ i _ => n - (intOf i).toNat)
    case atStart => exact ⟨0, by omega, rfl, HPR.out⟩
    case round =>
      clear HPR
      obtain ⟨z, hz, rfl, HS⟩ := hrel
      have HS := Lib.hid HS
      by_cases hlt : z < n
      · obtain ⟨l, hl⟩ : ∃ l, L[z]? = some l := ⟨_, List.getElem?_eq_getElem (by rw [HN.out]; exact hlt)⟩
        obtain ⟨a, X, d, rfl, hca, hax⟩ := HF0.out.at_ z l hl
        have hcw := HS.out.kept.cell hca (by simp)
        have HX := Lib.hid (hax.keep0 HS.out.kept)
        have HFL := Lib.hid (flat_take_succ hl)
        have HLL : Hid (l.length ≤ 1275) := Lib.hid (HSH.out l (List.mem_of_getElem? hl))
        have HSL : Hid ((L.take z).flatten.length ≤ 15300) := Lib.hid (take_sum_le z HSH.out (by rw [HN.out]; exact hn12))
        obtain ⟨q, hq⟩ : ∃ q, q = l.length := ⟨_, rfl⟩
        rw [← hq] at hcw HX HLL
        have HQ := Lib.hid hq
        clear hca hax hl hq
        have hk0 : (0 : Int) ≤ (z : Int) := by omega
        have hk1 : (z : Int) < (n : Int) := by omega
        go_wp2_with (at_builtin; refine append_v slB (by first | rfl | kernel_rfl) _ _ rfl _ (bytes (P ++ (L.take z).flatten)) rfl HS.out.made _ _ _ (bytes l) rfl (by rw [bytes_length]; exact HQ.out.symm) HX.out.reads (bytes_one _) (by have := HSL.out; have := HLL.out; have := HPL.out; rw [bytes_length, List.length_append]; omega) (by have := HSL.out; have := HLL.out; have := HPL.out; rw [bytes_length, List.length_append]; omega) (fun hA => HX.out.nil hA) ?_)
        intro v' w3 m1 m2 m3
        rw [← bytes_append] at m1
        have HU2 := Lib.hid (HS.out.app m1 m2 m3)
        clear m1 m2 m3 HX HS hcw
        go_wp2_with fail
        go_roundw
        case rel => exact ⟨z + 1, by omega, by go_num, by rw [HFL.out, ← List.append_assoc]; exact HU2.out⟩
        case measure => simp [intOf]; omega
      · obtain rfl : z = n := by omega
        have d3 : wr.cell? ⟨w.heap.size, 3, none⟩ = some (.int .i64 pad) := HS.out.bx.cell 3
        have htk : L.take z = L := List.take_of_length_le (by rw [HN.out]; exact Nat.le_refl _)
        rw [htk] at HS
        have HSL : Hid (L.flatten.length ≤ 15300) := Lib.hid (by
          have h := take_sum_le z HSH.out (by rw [HN.out]; exact hn12)
          rw [htk] at h
          exact h)
        clear htk
        go_wp2_with (at_builtin; refine append_zeros_w (by first | rfl | kernel_rfl) _ _ rfl _ (P ++ L.flatten) rfl HS.out.made HS.out.some_ pad rfl (by have := HSL.out; have := HPL.out; rw [List.length_append]; omega) ?_)
        intro v' w4 m1 m2 m3
        have HU2 := Lib.hid (HS.out.go (Keep.refl [] _) m1 m2 (ge_of m3 (Nat.le_refl _)) (by have := HPP.out; simp only [List.length_append]; omega))
        clear m1 m2 m3 HS
        go_wp2_with fail
        go_ret2
        refine ⟨_, rfl, ?_, HU2.out.kept, HU2.out.own⟩
        unfold packM
        rw [← HPE.out, List.append_assoc]
        have hq := HU2.out.made
        try rw [List.append_assoc] at hq
        exact hq
  case first =>
    by_cases hp0 : pad = 0
    · subst hp0
      have HB0 : Hid (Blk w2 w.heap.size #[.int .i64 k, .int .i64 ch, .slice FA n fc, .int .i64 0] 25) := HB2
      by_cases h1 : n = 1
      · subst h1
        have HPRE : Hid (preM k ch L 0 = [8 * (k : Int) + 4 * (ch - 1)]) := Lib.hid (by unfold preM hdM; rw [if_pos ⟨rfl, HN.out⟩])
        have HL : Hid (PcSt w (w2.alloc (.cells #[.int .u8 (8 * (k : Int) + 4 * (ch - 1))] 5)) w.heap.size #[.int .i64 k, .int .i64 ch, .slice FA 1 fc, .int .i64 0] (.slice (some ⟨w2.heap.size, 0, none⟩) 1 1) [(8 * (k : Int) + 4 * (ch - 1))] FA 1 fc L) := by
          have kk := Keep.alloc [] w2 (.cells #[.int .u8 (8 * (k : Int) + 4 * (ch - 1))] 5)
          exact Lib.hid ⟨K2.out.trans kk, HB2.out.keep kk (by simp), MadeV.lit w2 5 (bytes [(8 * (k : Int) + 4 * (ch - 1))]) (by rw [bytes_length]; simp), (fun b hb => by have h2 := K2.out.size; have hb2 : w2.heap.size = b := Option.some.inj hb; omega), ⟨_, rfl⟩, HF0.out⟩
        go_wp2_with fail
        go_meet
        rw [HPRE.out]
        exact HL.out
      · have e1 : ((n : Int) == 1) = false := by simp; omega
        by_cases h2 : n = 2
        · subst h2
          cases u with
          | false =>
            have HPRE : Hid (preM k ch L 0 = [8 * (k : Int) + 4 * (ch - 1) + 1]) := Lib.hid (by unfold preM hdM; rw [if_neg (by rw [HN.out]; omega), if_pos ⟨rfl, HN.out, HU.out⟩])
            have HL : Hid (PcSt w (w2.alloc (.cells #[.int .u8 (8 * (k : Int) + 4 * (ch - 1) + 1)] 5)) w.heap.size #[.int .i64 k, .int .i64 ch, .slice FA 2 fc, .int .i64 0] (.slice (some ⟨w2.heap.size, 0, none⟩) 1 1) [(8 * (k : Int) + 4 * (ch - 1) + 1)] FA 2 fc L) := by
              have kk := Keep.alloc [] w2 (.cells #[.int .u8 (8 * (k : Int) + 4 * (ch - 1) + 1)] 5)
              exact Lib.hid ⟨K2.out.trans kk, HB2.out.keep kk (by simp), MadeV.lit w2 5 (bytes [(8 * (k : Int) + 4 * (ch - 1) + 1)]) (by rw [bytes_length]; simp), (fun b hb => by have h2 := K2.out.size; have hb2 : w2.heap.size = b := Option.some.inj hb; omega), ⟨_, rfl⟩, HF0.out⟩
            go_wp2_with fail
            go_meet
            rw [HPRE.out]
            exact HL.out
          | true =>
            have HPRE : Hid (preM k ch L 0 = [8 * (k : Int) + 4 * (ch - 1) + 2] ++ toldM l0.length) := Lib.hid (by unfold preM hdM; rw [if_neg (by rw [HN.out]; omega), if_neg (by rw [HU.out]; simp), if_pos ⟨rfl, HN.out⟩, HHD.out])
            have HL : Hid (PcSt w (w2.alloc (.cells #[.int .u8 (8 * (k : Int) + 4 * (ch - 1) + 2)] 5)) w.heap.size #[.int .i64 k, .int .i64 ch, .slice FA 2 fc, .int .i64 0] (.slice (some ⟨w2.heap.size, 0, none⟩) 1 1) [(8 * (k : Int) + 4 * (ch - 1) + 2)] FA 2 fc L) := by
              have kk := Keep.alloc [] w2 (.cells #[.int .u8 (8 * (k : Int) + 4 * (ch - 1) + 2)] 5)
              exact Lib.hid ⟨K2.out.trans kk, HB2.out.keep kk (by simp), MadeV.lit w2 5 (bytes [(8 * (k : Int) + 4 * (ch - 1) + 2)]) (by rw [bytes_length]; simp), (fun b hb => by have h2 := K2.out.size; have hb2 : w2.heap.size = b := Option.some.inj hb; omega), ⟨_, rfl⟩, HF0.out⟩
            obtain ⟨a, X, d, rfl, hca, _⟩ := HF2.out.at_ 0 l0 HL0.out
            rw [Addr.add_zero'] at hca
            have hcb : (w2.alloc (.cells #[.int .u8 (8 * (k : Int) + 4 * (ch - 1) + 2)] 5)).cell? a = some (.slice X l0.length d) := (Keep.alloc [] _ _).cell hca (by simp)
            have b2' : (w2.alloc (.cells #[.int .u8 (8 * (k : Int) + 4 * (ch - 1) + 2)] 5)).cell? ⟨w.heap.size, 2, none⟩ = some (.slice (some a) 2 fc) := HL.out.bx.cell 2
            have HL5 : Hid (l0.length ≤ 1275) := Lib.hid (HSH.out l0 (List.mem_of_getElem? HL0.out))
            obtain ⟨q, hq⟩ : ∃ q, q = l0.length := ⟨_, rfl⟩
            rw [← hq] at hcb HL5 HPRE
            clear hca hq
            go_wp2_with fail
            refine (told_calls _ _ _ q HL.out.made HL5.out (by simp)).mono ?_
            rintro e w3 ⟨v', rfl, m1, m2, m3⟩
            have HL2 := Lib.hid (HL.out.go (Keep.refl [] _) m1 m2 m3 (by simp))
            clear m1 m2 m3
            go_wp2_with fail
            go_meet
            rw [HPRE.out]
            exact HL2.out
        · have e2 : ((n : Int) == 2) = false := by simp; omega
          have HPRE : Hid (preM k ch L 0 = severalM (8 * (k : Int) + 4 * (ch - 1) + 3) L 0) := Lib.hid (by unfold preM hdM; rw [if_neg (by rw [HN.out]; omega), if_neg (by rw [HN.out]; omega), if_neg (by rw [HN.out]; omega)])
          go_wp2_with (refine wpList_load_row rfl 25 _ rfl w.heap.size rfl 25 _ (0, 0) _ HB2.out Try.underlying25 rfl (pk_size _ _ _ _ _ _) ?_)
          refine (several_calls _ (8 * (k : Int) + 4 * (ch - 1) + 3) k ch 0 FA n fc L u HF2.out HU.out HSH.out hn1 hn12 (by omega)).mono ?_
          rintro e w3 ⟨v, rfl, m1, m2, m3⟩
          have HL : Hid (PcSt w w3 w.heap.size #[.int .i64 k, .int .i64 ch, .slice FA n fc, .int .i64 0] v (preM k ch L 0) FA n fc L) := by
            rw [HPRE.out]
            exact Lib.hid ⟨K2.out.trans m2, HB2.out.keep m2 (by simp), m1, (fun b hb => by have := m3 b hb; have := K2.out.size; omega), m1.some_ (by rw [bytes_length]; unfold severalM; simp), HF0.out⟩
          clear m1 m2 m3
          go_wp2_with fail
          go_meet
          exact HL.out
    · have hp1 : 0 < (pad : Int) := by omega
      have e0 : ((pad : Int) == 0) = false := by simp; omega
      have HPRE : Hid (preM k ch L pad = severalM (8 * (k : Int) + 4 * (ch - 1) + 3) L pad) := Lib.hid (by unfold preM hdM; rw [if_neg (by omega), if_neg (by omega), if_neg (by omega)])
      go_wp2_with (refine wpList_load_row rfl 25 _ rfl w.heap.size rfl 25 _ (0, 0) _ HB2.out Try.underlying25 rfl (pk_size _ _ _ _ _ _) ?_)
      refine (several_calls _ (8 * (k : Int) + 4 * (ch - 1) + 3) k ch pad FA n fc L u HF2.out HU.out HSH.out hn1 hn12 hp1000).mono ?_
      rintro e w3 ⟨v, rfl, m1, m2, m3⟩
      have HL : Hid (PcSt w w3 w.heap.size #[.int .i64 k, .int .i64 ch, .slice FA n fc, .int .i64 pad] v (preM k ch L pad) FA n fc L) := by
        rw [HPRE.out]
        exact Lib.hid ⟨K2.out.trans m2, HB2.out.keep m2 (by simp), m1, (fun b hb => by have := m3 b hb; have := K2.out.size; omega), m1.some_ (by rw [bytes_length]; unfold severalM; simp), HF0.out⟩
      clear m1 m2 m3
      go_wp2_with fail
      go_meet
      exact HL.out
end Go.Proofs.Ytmnknegbbmjcbaa
