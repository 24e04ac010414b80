/- The walk of EmphChains, its loops. -/
import Derived.Test.YtddlkglpgkdgkaaE10
namespace Go.Proofs.Ytddlkglpgkdgkaa
open Go.RowKit

theorem Made.typ {w : World} {v : Value} {xs : List Int} (h : Made w v xs) : ∀ g, v.ownBlock = some g → ∃ cs, Blk w g cs 2 := fun g hg => by
  obtain ⟨h1, h2⟩ := h
  rcases h2 with ⟨rfl, _⟩ | ⟨g', cap, cur, rfl, hb, hgg, rest⟩
  · cases hg
  · cases hg
    exact ⟨cur, hgg⟩
theorem Made.ne_fil {w : World} {v : Value} {xs : List Int} {b : Nat} {s : Flt} (h : Made w v xs) (hf : IsFil w b s) : ∀ g, v.ownBlock = some g → g ≠ b := fun g hg => by
  obtain ⟨cs, hb⟩ := h.typ g hg
  exact hb.ne hf.blk (by decide)
theorem Made.ne_steps {w : World} {v v' : Value} {xs : List Int} {l : List (Stp Flt)} (h : Made w v xs) (hf : MadeF w v' l) : ∀ g, v.ownBlock = some g → g ∉ v'.ownBlock.toList := fun g hg hm => by
  obtain ⟨cs, hb⟩ := h.typ g hg
  simp only [Option.mem_toList] at hm
  obtain ⟨cs', hb'⟩ := hf.typ g hm
  exact hb.ne hb' (by decide) rfl
theorem MadeF.ne_fil {w : World} {v : Value} {l : List (Stp Flt)} {b : Nat} {s : Flt} (h : MadeF w v l) (hf : IsFil w b s) : ∀ g, v.ownBlock = some g → g ≠ b := fun g hg => by
  obtain ⟨cs, hb⟩ := h.typ g hg
  exact hb.ne hf.blk (by decide)

/-- After i rounds. -/
structure ChSt (w wr : World) (a b i : Nat) (mv sv wv : Value) (xs : List Int) : Prop where
  kept : Keep [] w wr
  oa : w.heap.size ≤ a
  ob : w.heap.size ≤ b
  ab : a ≠ b
  mine : Made wr mv xs
  om : ∀ g, mv.ownBlock = some g → w.heap.size ≤ g
  fa : IsFil wr a newFlt
  fb : IsFil wr b (chainL (stpL b i) newFlt xs).2
  want : Made wr wv (chainL (stpL b i) newFlt xs).1
  steps : MadeF wr sv (stpL a i)
  os : ∀ g, sv.ownBlock = some g → w.heap.size ≤ g
/-- The step is appended. -/
theorem ChSt.append {w wr w1 w2 : World} {a b i : Nat} {mv sv wv sv' : Value} {xs : List Int} (h : ChSt w wr a b i mv sv wv xs) (k0 : Keep [] wr w1) (h1 : MadeF w2 sv' (stpL a i ++ [stp a i])) (h2 : Keep sv.ownBlock.toList w1 w2)
    (h3 : sv'.ownBlock = sv.ownBlock ∨ sv'.ownBlock = some w1.heap.size) : Keep [] w w2 ∧ Made w2 mv xs ∧ IsFil w2 a newFlt ∧ IsFil w2 b (chainL (stpL b i) newFlt xs).2 ∧ Made w2 wv (chainL (stpL b i) newFlt xs).1 ∧ MadeF w2 sv' (stpL a (i + 1)) ∧ ∀ g, sv'.ownBlock = some g → w.heap.size ≤ g := by
  have m1 := h.steps.keep k0 (by simp)
  refine ⟨(h.kept.trans k0).trans' h2 (by simp) (fun g hg => by simp only [Option.mem_toList] at hg; exact .inr (h.os g hg)), (h.mine.keep k0 (by simp)).keep h2 ((h.mine.keep k0 (by simp)).ne_steps m1), (h.fa.keep k0 (by simp)).keep h2 ?_, (h.fb.keep k0 (by simp)).keep h2 ?_,
    (h.want.keep k0 (by simp)).keep h2 ((h.want.keep k0 (by simp)).ne_steps m1), by rw [stpL_succ]; exact h1, ?_⟩
  · intro hg
    simp only [Option.mem_toList] at hg
    exact m1.ne_fil (h.fa.keep k0 (by simp)) a hg rfl
  · intro hg
    simp only [Option.mem_toList] at hg
    exact m1.ne_fil (h.fb.keep k0 (by simp)) b hg rfl
  · intro g hg
    rcases h3 with h3 | h3
    · exact h.os g (by rw [← h3]; exact hg)
    · rw [hg] at h3
      have := h.kept.size
      have := k0.size
      simp only [Option.some.injEq] at h3
      omega

theorem stpL_good (b n : Nat) : ∀ p ∈ stpL b n, p.Good [b] (fun s w => IsFil w b s) := by
  intro p hp
  obtain ⟨j, _, rfl⟩ := List.mem_map.1 hp
  unfold stp
  split
  · exact raise_good b
  · exact lower_good b
theorem made_none {w : World} {C : Option Addr} {n d : Nat} {xs : List Int} (h : Made w (.slice C n d) xs) (hC : C = none) : n = 0 := by
  obtain ⟨_, h2⟩ := h
  subst hC
  rcases h2 with ⟨hv, h0⟩ | ⟨g, cap, cur, hv, _⟩
  · simp only [Value.slice.injEq] at hv; omega
  · simp at hv
theorem lsame_mm (v v' : Value) (xs ys : List Int) (w : World) (b : Bool) (hn : xs.length ≤ 1000000) (hm : ys.length ≤ 1000000) (ha : Made w v xs) (hb : Made w v' ys) (he : decide (xs = ys) = b) :
    Calls Try.prog 16 #[v, v'] w (RetKept w (.bool b)) := by
  obtain ⟨A, c, rfl, _, hr, _⟩ := ha.reads
  exact lsame_rm A xs ys xs.length c v' w b rfl hn hm hr hb he

set_option maxRecDepth 100000 in
set_option maxHeartbeats 4000000 in
theorem chains_walk (A : Option Addr) (n c : Nat) (xs : List Int) (m : Int) (w : World) (ha : ArgI w A n c xs) :
    Calls Try.prog 7 #[.slice A n c, .int .i64 m] w (RetKept w (.bool true)) := by
  have HA := Lib.hid ha
  have hm := ha.most
  have hnc := ha.cp
  clear ha
  go_enter Try.func7, Try.ntmps7
  go_wp2_with fail
  refine (awake_calls _).mono ?_
  rintro e w0 ⟨rfl, k⟩
  have H0 := Lib.hid k
  clear k
  by_cases hgood : n ≤ 300 ∧ 0 ≤ m ∧ m ≤ 4
  · obtain ⟨hn, hm0, hm1⟩ := hgood
    obtain ⟨m, rfl⟩ := Int.eq_ofNat_of_zero_le hm0
    have hm4 : m ≤ 4 := by omega
    have HE := Lib.hid (Made.empty w0)
    have HR : Hid (Rd (w0.alloc (.cells #[] 2)) A xs) := Lib.hid ((HA.out.reads.keep H0.out (by simp)).keep (Keep.alloc [] _ _) (by simp))
    go_wp2_with (at_builtin; refine append_made rfl _ _ rfl _ [] rfl HE.out _ _ _ _ rfl HA.out.ln HR.out (by simp; omega) HA.out.nil ?_)
    intro mv w1 h1 h2 h3
    have H1 : Hid (Keep [] w w1 ∧ Made w1 mv xs ∧ ∀ g, mv.ownBlock = some g → w.heap.size ≤ g) := by
      obtain ⟨a1, a2, a3⟩ := made_append h1 h2 h3
      exact Lib.hid ⟨H0.out.trans a2, a1, fun g hg => by have := a3 g hg; have := H0.out.size; omega⟩
    clear h1 h2 h3 HE HR H0
    go_wp2_with fail
    refine (new_calls _).mono ?_
    rintro e w2 ⟨a, f1, rfl, f2, f3⟩
    have H2 : Hid (Keep [] w w2 ∧ Made w2 mv xs ∧ (∀ g, mv.ownBlock = some g → w.heap.size ≤ g) ∧ w.heap.size ≤ a ∧ IsFil w2 a newFlt) := by
      obtain ⟨h1, h2, h3⟩ := H1.out
      have := h1.size
      exact Lib.hid ⟨h1.trans f2, h2.keep f2 (by simp), h3, by omega, f3⟩
    clear f1 f2 f3 H1
    go_wp2_with fail
    refine (new_calls _).mono ?_
    rintro e w3 ⟨b, f1, rfl, f2, f3⟩
    have H3 : Hid (Keep [] w w3 ∧ Made w3 mv xs ∧ (∀ g, mv.ownBlock = some g → w.heap.size ≤ g) ∧ w.heap.size ≤ a ∧ IsFil w3 a newFlt ∧ w.heap.size ≤ b ∧ a ≠ b ∧ IsFil w3 b newFlt) := by
      obtain ⟨h1, h2, h3, h4, h5⟩ := H2.out
      have := h1.size
      have := h5.lt
      exact Lib.hid ⟨h1.trans f2, h2.keep f2 (by simp), h3, h4, h5.keep f2 (by simp), by omega, by omega, f3⟩
    clear f1 f2 f3 H2
    have HE := Lib.hid (Made.empty w3)
    have HR : Hid (Rd (w3.alloc (.cells #[] 2)) A xs) := Lib.hid ((HA.out.reads.keep H3.out.1 (by simp)).keep (Keep.alloc [] _ _) (by simp))
    go_wp2_with (at_builtin; refine append_made rfl _ _ rfl _ [] rfl HE.out _ _ _ _ rfl HA.out.ln HR.out (by simp; omega) HA.out.nil ?_)
    intro wv w4 h1 h2 h3
    have H4 : Hid (ChSt w w4 a b 0 mv (.slice none 0 0) wv xs) := by
      obtain ⟨a1, a2, a3⟩ := made_append h1 h2 h3
      obtain ⟨q1, q2, q3, q4, q5, q6, q7, q8⟩ := H3.out
      exact Lib.hid ⟨q1.trans a2, q4, q6, q7, q2.keep a2 (by simp), q3, q5.keep a2 (by simp), q8.keep a2 (by simp), a1, MadeF.nil _, fun g hg => by cases hg⟩
    clear h1 h2 h3 HE HR H3
    go_wp2_with fail
    go_loopw [8, 9, 10] (fun sv wv i wr => ∃ k : Nat, k ≤ m ∧ i = .int .i64 k ∧ ChSt w wr a b k mv sv wv xs) (fun _ _ i _ => m - (intOf i).toNat)
    case atStart => exact ⟨0, Nat.zero_le _, rfl, H4.out⟩
    case round =>
      obtain ⟨k, hk, rfl, HC⟩ := hrel
      have HC := Lib.hid HC
      by_cases hlt : k < m
      · have hln : Hid ((chainL (stpL b k) newFlt xs).1.length = n) := Lib.hid (by rw [chain_len, HA.out.ln])
        by_cases hpar : k % 2 = 0
        · have hp : ((k : Int) % 2 == 0) = true := by rw [beq_iff_eq]; omega
          have hst : Hid (stp a k = raiseP a ∧ stp b k = raiseP b) := Lib.hid ⟨by unfold stp; rw [if_pos hpar], by unfold stp; rw [if_pos hpar]⟩
          have hS : Hid (MadeF (wr.alloc (.cells #[(raiseP a).val] 30)) u8 (stpL a k)) := Lib.hid (HC.out.steps.keep (Keep.alloc [] _ _) (by simp))
          have hbl : Hid (Blk (wr.alloc (.cells #[(raiseP a).val] 30)) wr.heap.size #[(raiseP a).val] 30) := Lib.hid (Blk.new wr _ _)
          have hbig : Hid ((stpL a k).length ≤ 1000) := Lib.hid (by rw [stpL_length]; omega)
          go_wp2_with (at_builtin; refine append_step rfl _ _ rfl _ (stpL a k) rfl hS.out wr.heap.size (raiseP a) rfl hbl.out hbig.out ?_)
          intro sv' w5 h1 h2 h3
          rw [← hst.out.1] at h1
          have H5 := Lib.hid (HC.out.append (Keep.alloc [] wr _) h1 h2 (by simpa using h3))
          clear h1 h2 h3 hS hbl hbig
          obtain ⟨C, d, hv, hd, hrd, hbk⟩ := H5.out.2.2.2.2.1.reads
          subst hv
          have HD := Lib.hid (And.intro hrd (fun x (hx : C = some x) (_ : 0 < n) => H5.out.2.2.2.2.1.ne_fil H5.out.2.2.2.1 x.block (by rw [hx]; rfl)))
          rw [hln.out] at hd
          rw [hln.out]
          clear hrd hbk
          go_wp2_with fail
          refine (raise_n b _ C _ n d w5 H5.out.2.2.2.1 hln.out hd (by omega) HD.out.1 HD.out.2).mono ?_
          rintro e w6 ⟨g, a1, rfl, a2, a3, a4, a5⟩
          have H6 : Hid (ChSt w w6 a b (k + 1) mv sv' (.slice (some ⟨g, 0, none⟩) n n) xs) := by
            obtain ⟨h1, h2, h3, h4, h5, h6, h7⟩ := H5.out
            have hc := HC.out
            have hs := chain_succ b k newFlt xs
            rw [hst.out.2] at hs
            have hs' : chainL (stpL b (k + 1)) newFlt xs = mapS (stepK raiseF) (chainL (stpL b k) newFlt xs).2 (chainL (stpL b k) newFlt xs).1 := hs
            refine Lib.hid ⟨h1.trans' a2 (by simp) (by simpa using hc.ob), hc.oa, hc.ob, hc.ab, h2.keep a2 (fun g hg => by simpa using h2.ne_fil h4 g hg), hc.om, h3.keep a2 (by simpa using hc.ab), by rw [hs']; exact a4, ?_, h6.keep a2 (fun g hg => by simpa using h6.ne_fil h4 g hg), h7⟩
            rw [hs']
            have := Made.ofBlk a3 (by rw [a5]; omega)
            rwa [a5] at this
          clear a1 a2 a3 a4 a5 H5 HD
          go_wp2_with fail
          go_roundw
          case rel => exact ⟨k + 1, by omega, by go_num, H6.out⟩
          case measure => simp [intOf]; omega
        · have hp : ((k : Int) % 2 == 0) = false := by rw [beq_eq_false_iff_ne]; omega
          have hst : Hid (stp a k = lowerP a ∧ stp b k = lowerP b) := Lib.hid ⟨by unfold stp; rw [if_neg hpar], by unfold stp; rw [if_neg hpar]⟩
          have hS : Hid (MadeF (wr.alloc (.cells #[(lowerP a).val] 30)) u8 (stpL a k)) := Lib.hid (HC.out.steps.keep (Keep.alloc [] _ _) (by simp))
          have hbl : Hid (Blk (wr.alloc (.cells #[(lowerP a).val] 30)) wr.heap.size #[(lowerP a).val] 30) := Lib.hid (Blk.new wr _ _)
          have hbig : Hid ((stpL a k).length ≤ 1000) := Lib.hid (by rw [stpL_length]; omega)
          go_wp2_with (at_builtin; refine append_step rfl _ _ rfl _ (stpL a k) rfl hS.out wr.heap.size (lowerP a) rfl hbl.out hbig.out ?_)
          intro sv' w5 h1 h2 h3
          rw [← hst.out.1] at h1
          have H5 := Lib.hid (HC.out.append (Keep.alloc [] wr _) h1 h2 (by simpa using h3))
          clear h1 h2 h3 hS hbl hbig
          obtain ⟨C, d, hv, hd, hrd, hbk⟩ := H5.out.2.2.2.2.1.reads
          subst hv
          have HD := Lib.hid (And.intro hrd (fun x (hx : C = some x) (_ : 0 < n) => H5.out.2.2.2.2.1.ne_fil H5.out.2.2.2.1 x.block (by rw [hx]; rfl)))
          rw [hln.out] at hd
          rw [hln.out]
          clear hrd hbk
          go_wp2_with fail
          refine (lower_n b _ C _ n d w5 H5.out.2.2.2.1 hln.out hd (by omega) HD.out.1 HD.out.2).mono ?_
          rintro e w6 ⟨g, a1, rfl, a2, a3, a4, a5⟩
          have H6 : Hid (ChSt w w6 a b (k + 1) mv sv' (.slice (some ⟨g, 0, none⟩) n n) xs) := by
            obtain ⟨h1, h2, h3, h4, h5, h6, h7⟩ := H5.out
            have hc := HC.out
            have hs := chain_succ b k newFlt xs
            rw [hst.out.2] at hs
            have hs' : chainL (stpL b (k + 1)) newFlt xs = mapS (stepK lowerF) (chainL (stpL b k) newFlt xs).2 (chainL (stpL b k) newFlt xs).1 := hs
            refine Lib.hid ⟨h1.trans' a2 (by simp) (by simpa using hc.ob), hc.oa, hc.ob, hc.ab, h2.keep a2 (fun g hg => by simpa using h2.ne_fil h4 g hg), hc.om, h3.keep a2 (by simpa using hc.ab), by rw [hs']; exact a4, ?_, h6.keep a2 (fun g hg => by simpa using h6.ne_fil h4 g hg), h7⟩
            rw [hs']
            have := Made.ofBlk a3 (by rw [a5]; omega)
            rwa [a5] at this
          clear a1 a2 a3 a4 a5 H5 HD
          go_wp2_with fail
          go_roundw
          case rel => exact ⟨k + 1, by omega, by go_num, H6.out⟩
          case measure => simp [intOf]; omega
      · obtain rfl : k = m := by omega
        have hln : Hid ((chainL (stpL b k) newFlt xs).1.length = n) := Lib.hid (by rw [chain_len, HA.out.ln])
        obtain ⟨C, d, hv, hd, hrd, hbk⟩ := HC.out.mine.reads
        obtain ⟨D, q, hv2, hst⟩ := HC.out.steps.reads
        rw [stpL_length] at hv2
        rw [HA.out.ln] at hv hd
        subst hv
        subst hv2
        have HRC := Lib.hid (And.intro hrd hst)
        clear hrd hbk hst
        go_wp2_with fail
        refine (chain_calls [a] (fun s w => IsFil w a s) (stpL a k) newFlt wr (stpL_good a k) (by have := HC.out.fa.lt; simp; omega) (fun s w w' h k => h.keep k (by simp)) HC.out.fa C xs n d HA.out.ln hd (by omega) HRC.out.1 (fun hC => made_none HC.out.mine hC)
          D k q (stpL_length a k) (by omega) (fun i p hp => by
            obtain ⟨x, hx, ho, hc⟩ := HRC.out.2 i p hp
            exact ⟨x, hx, by simpa using HC.out.steps.ne_fil HC.out.fa _ ho, hc⟩)).mono ?_
        rintro e w5 ⟨yv, rfl, m1, m2, m3, m4⟩
        have H5 : Hid (Keep [] w w5 ∧ Made w5 yv (chainL (stpL b k) newFlt xs).1 ∧ Made w5 u9 (chainL (stpL b k) newFlt xs).1 ∧ Made w5 (.slice C n d) xs ∧ IsFil w5 a (chainL (stpL b k) newFlt xs).2 ∧ IsFil w5 b (chainL (stpL b k) newFlt xs).2 ∧
            (∀ g, yv.ownBlock = some g → w.heap.size ≤ g ∧ ∀ g', (Value.slice C n d).ownBlock = some g' → g' ≠ g)) := by
          have hc := HC.out
          rw [chain_same a b] at m1 m4
          refine Lib.hid ⟨hc.kept.trans' m2 (by simp) (by simpa using hc.oa), m1, hc.want.keep m2 (fun g hg => by simpa using hc.want.ne_fil hc.fa g hg), hc.mine.keep m2 (fun g hg => by simpa using hc.mine.ne_fil hc.fa g hg), m4, hc.fb.keep m2 (by simpa using fun e => hc.ab e.symm), fun g hg => ?_⟩
          have h1 := m3 g hg
          have h2 := hc.kept.size
          exact ⟨by omega, fun g' hg' => by have := hc.mine.lt g' hg'; omega⟩
        clear m1 m2 m3 m4 HRC
        go_wp2_with fail
        refine (lsame_mm yv u9 _ _ w5 true (by rw [hln.out]; omega) (by rw [hln.out]; omega) H5.out.2.1 H5.out.2.2.1 (by simp)).mono ?_
        rintro e w6 ⟨rfl, k6⟩
        have H6 : Hid (Keep [] w w6 ∧ Made w6 yv (chainL (stpL b k) newFlt xs).1 ∧ Made w6 (.slice C n d) xs ∧ IsFil w6 a (chainL (stpL b k) newFlt xs).2 ∧ IsFil w6 b (chainL (stpL b k) newFlt xs).2 ∧
            (∀ g, yv.ownBlock = some g → w.heap.size ≤ g ∧ ∀ g', (Value.slice C n d).ownBlock = some g' → g' ≠ g)) := by
          obtain ⟨h1, h2, h3, h4, h5, h6, h7⟩ := H5.out
          exact Lib.hid ⟨h1.trans k6, h2.keep k6 (by simp), h4.keep k6 (by simp), h5.keep k6 (by simp), h6.keep k6 (by simp), h7⟩
        clear k6 H5
        go_wp2_with fail
        refine (lsame_mr A xs xs n c _ w6 true HA.out.ln (by omega) (by rw [HA.out.ln]; omega) H6.out.2.2.1 (HA.out.reads.keep H6.out.1 (by simp)) (by simp)).mono ?_
        rintro e w7 ⟨rfl, k7⟩
        have H7 : Hid (Keep [] w w7 ∧ Made w7 yv (chainL (stpL b k) newFlt xs).1 ∧ Made w7 (.slice C n d) xs ∧ IsFil w7 a (chainL (stpL b k) newFlt xs).2 ∧ IsFil w7 b (chainL (stpL b k) newFlt xs).2 ∧
            (∀ g, yv.ownBlock = some g → w.heap.size ≤ g ∧ ∀ g', (Value.slice C n d).ownBlock = some g' → g' ≠ g)) := by
          obtain ⟨h1, h2, h4, h5, h6, h7⟩ := H6.out
          exact Lib.hid ⟨h1.trans k7, h2.keep k7 (by simp), h4.keep k7 (by simp), h5.keep k7 (by simp), h6.keep k7 (by simp), h7⟩
        clear k7 H6
        go_wp2_with fail
        refine (same_kept a b _ _ w7 true H7.out.2.2.2.1 H7.out.2.2.2.2.1 (by simp)).mono ?_
        rintro e w8 ⟨rfl, k8⟩
        have H8 : Hid (Keep [] w w8 ∧ Made w8 yv (chainL (stpL b k) newFlt xs).1 ∧ Made w8 (.slice C n d) xs ∧
            (∀ g, yv.ownBlock = some g → w.heap.size ≤ g ∧ ∀ g', (Value.slice C n d).ownBlock = some g' → g' ≠ g)) := by
          obtain ⟨h1, h2, h4, h5, h6, h7⟩ := H7.out
          exact Lib.hid ⟨h1.trans k8, h2.keep k8 (by simp), h4.keep k8 (by simp), h7⟩
        clear k8 H7
        obtain ⟨Y, yc, hyv, hyc, _, _⟩ := H8.out.2.1.reads
        rw [hln.out] at hyv hyc
        subst hyv
        go_wp2_with fail
        go_loopw [12] (fun i wr => ∃ j : Nat, j ≤ n ∧ i = .int .i64 j ∧ Hid (Keep [] w wr ∧ Made wr (.slice C n d) xs ∧ ∃ zs, zs.length = n ∧ Made wr (.slice Y n yc) zs)) (fun i _ => n - (intOf i).toNat)
        case atStart => exact ⟨0, Nat.zero_le _, rfl, Lib.hid ⟨H8.out.1, H8.out.2.2.1, _, hln.out, H8.out.2.1⟩⟩
        case round =>
          obtain ⟨j, hj, rfl, HJ⟩ := hrel
          by_cases hlt2 : j < n
          · obtain ⟨z1, z2, zs, z3, z4⟩ := HJ.out
            obtain ⟨g, rfl, hcg, hfg, hsg⟩ := z4.store j (by omega) 99
            have hgg := H8.out.2.2.2 g rfl
            have HK : Hid (Keep [] w (wr.setCell ⟨g, j, none⟩ (.int .i64 99)) ∧ Made (wr.setCell ⟨g, j, none⟩ (.int .i64 99)) (.slice C n d) xs ∧ ∃ zs, zs.length = n ∧ Made (wr.setCell ⟨g, j, none⟩ (.int .i64 99)) (.slice (some ⟨g, 0, none⟩) n yc) zs) :=
              Lib.hid ⟨z1.trans' (Keep.setb _ _ _ _) (by simp) (by simpa using hgg.1), z2.keep (Keep.setb _ _ _ _) (fun g' hg' => by simpa using hgg.2 g' hg'), _, by rw [List.length_set]; exact z3, hsg⟩
            clear z1 z2 z3 z4 hsg hgg
            go_wp2_with fail
            go_roundw
            case rel => exact ⟨j + 1, by omega, by go_num, HK.out⟩
            case measure => simp [intOf]; omega
          · go_wp2_with fail
            refine (lsame_mr A xs xs n c _ wr true HA.out.ln (by omega) (by rw [HA.out.ln]; omega) HJ.out.2.1 (HA.out.reads.keep HJ.out.1 (by simp)) (by simp)).mono ?_
            rintro e w9 ⟨rfl, k9⟩
            have H9 := Lib.hid (HJ.out.1.trans k9)
            clear k9
            go_wp2_with fail
            go_ret
            exact ⟨rfl, H9.out⟩
  · go_wp2_with fail
    all_goals first
      | (exfalso; omega)
      | (go_ret; exact ⟨rfl, H0.out⟩)
theorem chains_row (A : Option Addr) (n c : Nat) (zs : List Int) (m : Int) (w : World) (h : IsRow .i64 w A n c zs) (_ : n * 8 ≤ 140737488351232) (_ : (Lit.int .i64 m).wf = true) :
    Calls Try.prog 7 #[.slice A n c, .int .i64 m] w fun e w' => e = .returned (.bool true) ∧ Below w.heap.size w w' :=
  (chains_walk A n c _ m w h.arg).mono fun _ _ ⟨he, k⟩ => ⟨he, k.toBelow⟩
end Go.Proofs.Ytddlkglpgkdgkaa
