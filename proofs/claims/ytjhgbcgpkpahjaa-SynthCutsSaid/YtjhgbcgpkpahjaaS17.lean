/- SynthRuns. -/
import Derived.Test.YtjhgbcgpkpahjaaS16
import Derived.Test.YtjhgbcgpkpahjaaS12
import Derived.Test.YtjhgbcgpkpahjaaS10
namespace Go.Proofs.Ytjhgbcgpkpahjaa
open Go.RowKit

theorem newRev320 : RevR 320 newV.r [] := revR_new 320
theorem newRev32 : RevR 32 newV.o [] := revR_new 32
theorem vcR_new : VcR newV ⟨[], []⟩ := VcR.mk' newRev320 newRev32
/-- Between two parts: our voice, the reference's voice. -/
structure RnSt (w wr : World) (f b : Nat) (s : Vc) (r : RVc) (rv ov : Value) : Prop where
  kept : Keep [] w wr
  of : w.heap.size ≤ f
  ob : w.heap.size ≤ b
  vc : IsV wr f s
  fil : RV wr b rv ov
  mr : Made wr rv r.R
  mo : Made wr ov r.O
  d12 : ∀ g, rv.ownBlock = some g → ov.ownBlock ≠ some g
  old : ∀ g, (rv.ownBlock = some g ∨ ov.ownBlock = some g) → w.heap.size ≤ g
  rel : VcR s r
  lr : r.R.length ≤ 320
  lo : r.O.length ≤ 32
theorem RnSt.keep {w wr w' : World} {f b : Nat} {s : Vc} {r : RVc} {rv ov : Value} (h : RnSt w wr f b s r rv ov) (k : Keep [] wr w') : RnSt w w' f b s r rv ov :=
  ⟨h.kept.trans k, h.of, h.ob, h.vc.keep k (by simp), Blk.keep h.fil k (by simp), h.mr.keep k (by simp), h.mo.keep k (by simp), h.d12, h.old, h.rel, h.lr, h.lo⟩
/-- The voice has played a part: our voice is ahead of the reference's by it. -/
structure RnRan (w wr : World) (f b : Nat) (q : List Int × Vc) (r : RVc) (rv ov : Value) (bp : Nat) (p : PartA) (v : Value) : Prop where
  kept : Keep [] w wr
  of : w.heap.size ≤ f
  ob : w.heap.size ≤ b
  vc : IsV wr f q.2
  fil : RV wr b rv ov
  mr : Made wr rv r.R
  mo : Made wr ov r.O
  d12 : ∀ g, rv.ownBlock = some g → ov.ownBlock ≠ some g
  old : ∀ g, (rv.ownBlock = some g ∨ ov.ownBlock = some g) → w.heap.size ≤ g
  lr : r.R.length ≤ 320
  lo : r.O.length ≤ 32
  box : Blk wr bp p.cells 31
  part : IsPart wr p
  ans : Made wr v q.1
  dv : ∀ g, v.ownBlock = some g → rv.ownBlock ≠ some g ∧ ov.ownBlock ≠ some g
theorem RnRan.keep {w wr w' : World} {f b : Nat} {q : List Int × Vc} {r : RVc} {rv ov v : Value} {bp : Nat} {p : PartA} (h : RnRan w wr f b q r rv ov bp p v) (k : Keep [] wr w') : RnRan w w' f b q r rv ov bp p v :=
  ⟨h.kept.trans k, h.of, h.ob, h.vc.keep k (by simp), Blk.keep h.fil k (by simp), h.mr.keep k (by simp), h.mo.keep k (by simp), h.d12, h.old, h.lr, h.lo, h.box.keep k (by simp), h.part.keep0 k, h.ans.keep k (by simp), h.dv⟩
/-- Within a round: the voices, the box of the part, the part. -/
structure RnMid (w wr : World) (f b : Nat) (s : Vc) (r : RVc) (rv ov : Value) (bp : Nat) (p : PartA) : Prop where
  st : RnSt w wr f b s r rv ov
  box : Blk wr bp p.cells 31
  part : IsPart wr p
theorem RnMid.keep {w wr w' : World} {f b : Nat} {s : Vc} {r : RVc} {rv ov : Value} {bp : Nat} {p : PartA} (h : RnMid w wr f b s r rv ov bp p) (k : Keep [] wr w') : RnMid w w' f b s r rv ov bp p := ⟨h.st.keep k, h.box.keep k (by simp), h.part.keep0 k⟩
theorem RnMid.drew {w wr : World} {f b : Nat} {s : Vc} {r : RVc} {rv ov : Value} {bp : Nat} {p : PartA} (h : RnMid w wr f b s r rv ov bp p) : RnMid w wr.drew f b s r rv ov bp p := h.keep (Keep.drew _ _)
def Nine (w : World) (bp : Nat) (p : PartA) : Prop := w.cell? ⟨bp, 0, none⟩ = some (.slice p.A p.n p.c) ∧ w.cell? ⟨bp, 1, none⟩ = some (.int .i64 p.loud) ∧ w.cell? ⟨bp, 2, none⟩ = some (.int .i64 p.lag) ∧ w.cell? ⟨bp, 3, none⟩ = some (.int .i64 p.t0) ∧ w.cell? ⟨bp, 4, none⟩ = some (.int .i64 p.t1) ∧ w.cell? ⟨bp, 5, none⟩ = some (.int .i64 p.t2) ∧ w.cell? ⟨bp, 6, none⟩ = some (.int .i64 p.t3) ∧ w.cell? ⟨bp, 7, none⟩ = some (.int .i64 p.t4) ∧ w.cell? ⟨bp, 8, none⟩ = some (.slice p.B p.m p.d)
theorem nine_of {w : World} {bp : Nat} {p : PartA} (h : Blk w bp p.cells 31) : Nine w bp p := ⟨h.cell 0, h.cell 1, h.cell 2, h.cell 3, h.cell 4, h.cell 5, h.cell 6, h.cell 7, h.cell 8⟩
theorem RnMid.nine {w wr : World} {f b : Nat} {s : Vc} {r : RVc} {rv ov : Value} {bp : Nat} {p : PartA} (h : RnMid w wr f b s r rv ov bp p) : Nine wr bp p := ⟨h.box.cell 0, h.box.cell 1, h.box.cell 2, h.box.cell 3, h.box.cell 4, h.box.cell 5, h.box.cell 6, h.box.cell 7, h.box.cell 8⟩
theorem RnMid.ran {w wr w' : World} {f b : Nat} {s : Vc} {r : RVc} {rv ov v : Value} {bp : Nat} {p : PartA} {q : List Int × Vc} (h : RnMid w wr f b s r rv ov bp p) (hx : IsPart w p) (k : Keep [f] wr w') (hv : IsV w' f q.2) (hm : Made w' v q.1) (hf : ∀ g, v.ownBlock = some g → wr.heap.size ≤ g) :
    RnRan w w' f b q r rv ov bp p v := by
  have kk : Keep [] w w' := h.st.kept.trans' k (by simp) (by simpa using h.st.of)
  refine ⟨kk, h.st.of, h.st.ob, hv, Blk.keep h.st.fil k (by simpa using Blk.ne h.st.fil h.st.vc.blk (by decide)), h.st.mr.keep k (fun g hg => by simpa using h.st.mr.ne_v h.st.vc g hg), h.st.mo.keep k (fun g hg => by simpa using h.st.mo.ne_v h.st.vc g hg), h.st.d12, h.st.old, h.st.lr, h.st.lo,
    h.box.keep k (by simpa using h.box.ne h.st.vc.blk (by decide)), hx.keep0 kk, hm, fun g hg => ⟨fun e => ?_, fun e => ?_⟩⟩
  · have := hf g hg
    have := h.st.mr.lt _ e
    omega
  · have := hf g hg
    have := h.st.mo.lt _ e
    omega
/-- Both voices have played it. -/
structure RnBoth (w wr : World) (f b : Nat) (s : Vc) (r : RVc) (rv ov : Value) (v m : Value) (ys : List Int) : Prop where
  st : RnSt w wr f b s r rv ov
  m1 : Made wr v ys
  m2 : Made wr m ys
theorem RnBoth.keep {w wr w' : World} {f b : Nat} {s : Vc} {r : RVc} {rv ov v m : Value} {ys : List Int} (h : RnBoth w wr f b s r rv ov v m ys) (k : Keep [] wr w') : RnBoth w w' f b s r rv ov v m ys := ⟨h.st.keep k, h.m1.keep k (by simp), h.m2.keep k (by simp)⟩
theorem lastL_le (l : List Int) (n : Nat) : (lastL l n).length ≤ n := by unfold lastL; simp; omega
set_option maxRecDepth 100000 in
theorem RnRan.both {w wr w' : World} {f b : Nat} {q : List Int × Vc} {r : RVc} {rv ov v m rv' ov' : Value} {bp : Nat} {p : PartA} {q' : List Int × RVc} (h : RnRan w wr f b q r rv ov bp p v) (k : Keep (b :: (rv.ownBlock.toList ++ ov.ownBlock.toList)) wr w') (hf : RV w' b rv' ov')
    (ho : Own3 w' rv' ov' m (lastL q'.2.R 320) (lastL q'.2.O 32) q'.1) (hz : ∀ g, (rv'.ownBlock = some g ∨ ov'.ownBlock = some g) → wr.heap.size ≤ g) (e : q.1 = q'.1) (hr : VcR q.2 q'.2) : RnBoth w w' f b q.2 ⟨lastL q'.2.R 320, lastL q'.2.O 32⟩ rv' ov' v m q'.1 := by
  have z := h.kept.size
  have hL : ∀ g, g ∈ (b :: (rv.ownBlock.toList ++ ov.ownBlock.toList)) → g = b ∨ rv.ownBlock = some g ∨ ov.ownBlock = some g := fun g hg => by simpa using hg
  have k1 : Keep [] w w' := h.kept.trans' k (by simp) (fun g hg => by
    rcases hL g hg with e | e
    · exact .inr (by rw [e]; exact h.ob)
    · exact .inr (h.old g e))
  have hfL : f ∉ (b :: (rv.ownBlock.toList ++ ov.ownBlock.toList)) := fun hg => by
    rcases hL f hg with e | e | e
    · exact Blk.ne h.fil h.vc.blk (by decide) e.symm
    · exact h.mr.ne_v h.vc f e rfl
    · exact h.mo.ne_v h.vc f e rfl
  refine ⟨⟨k1, h.of, h.ob, h.vc.keep k hfL, hf, ho.m1, ho.m2, ho.d12, fun g hg => by have := hz g hg; omega, hr.last, lastL_le _ _, lastL_le _ _⟩, ?_, ho.m3⟩
  rw [← e]
  refine h.ans.keep k (fun g hg hm => ?_)
  rcases hL g hm with e | e | e
  · exact h.ans.ne_t h.fil (by decide) g hg e
  · exact (h.dv g hg).1 e
  · exact (h.dv g hg).2 e
attribute [local go_sem ↓] Go.wp_at_zero Go.wp_at_succ
set_option maxRecDepth 100000 in
set_option maxHeartbeats 4000000 in
theorem runs_walk (A : Option Addr) (n c : Nat) (l : List PartA) (w : World) (ha : Parts w A n c l) : Calls Try.prog 4 #[.slice A n c] w (RetKept w (.bool true)) := by
  have HA := Lib.hid ha
  have hm := ha.most
  have hnc := ha.cp
  clear ha
  go_enter Try.func4, Try.ntmps4
  go_wp2_with fail
  refine (awake_calls _).mono ?_
  rintro e w0 ⟨rfl, k0⟩
  have H0 := Lib.hid k0
  clear k0
  by_cases hbig : 8 < n
  · go_wp2
    go_ret
    exact ⟨rfl, H0.out⟩
  · go_wp2_with fail
    refine (new_calls _).mono ?_
    rintro e w1 ⟨f, f1, rfl, f2, f3⟩
    have H1 : Hid (RnSt w (w1.alloc (.cells #[.slice none 0 0, .slice none 0 0] 36)) f w1.heap.size newV ⟨[], []⟩ (.slice none 0 0) (.slice none 0 0)) := by
      have k := Keep.alloc [] w1 (.cells #[.slice none 0 0, .slice none 0 0] 36)
      have z := H0.out.size
      have z2 := f2.size
      exact Lib.hid ⟨(H0.out.trans f2).trans k, by omega, by omega, f3.keep k (by simp), Blk.new w1 _ _, (World.ownsRow_nil _ 0 _ 1), (World.ownsRow_nil _ 0 _ 1), (fun g hg => by cases hg), (by rintro g (hg | hg) <;> cases hg), vcR_new, by simp, by simp⟩
    clear f1 f2 f3 H0
    go_wp2_with fail
    go_loopw [5] (fun i wr => ∃ (k : Nat) (s : Vc) (r : RVc) (rv ov : Value), k ≤ n ∧ i = .int .i64 k ∧ RnSt w wr f w1.heap.size s r rv ov) (fun i _ => n - (intOf i).toNat)
    case atStart => exact ⟨0, _, _, _, _, Nat.zero_le _, rfl, H1.out⟩
    case round =>
      obtain ⟨k, s, r, rv, ov, hk, rfl, HS⟩ := hrel
      have HS := Lib.hid HS
      by_cases hlt : k < n
      · obtain ⟨p, hp⟩ : ∃ p, l[k]? = some p := ⟨_, List.getElem?_eq_getElem (by rw [HA.out.ln]; exact hlt)⟩
        obtain ⟨a, rfl, hca, hax⟩ := HA.out.at_ k p hp
        have HCW : Hid (∀ j v, [Value.slice p.A p.n p.c, .int .i64 p.loud, .int .i64 p.lag, .int .i64 p.t0, .int .i64 p.t1, .int .i64 p.t2, .int .i64 p.t3, .int .i64 p.t4, .slice p.B p.m p.d][j]? = some v → wr.cell? ((a.add (k * 9)).add j) = some v) := Lib.hid (fun j v hv => HS.out.kept.cell (hca j v hv) (by simp))
        have HX := Lib.hid hax
        clear hca hax hp
        obtain ⟨pA, pn, pc, xs, loud, lag, t0, t1, t2, t3, t4, pB, pm, pd, fs⟩ := p
        have HP : Hid (IsPart (wr.alloc (.cells #[.slice pA pn pc, .int .i64 loud, .int .i64 lag, .int .i64 t0, .int .i64 t1, .int .i64 t2, .int .i64 t3, .int .i64 t4, .slice pB pm pd] 31)) ⟨pA, pn, pc, xs, loud, lag, t0, t1, t2, t3, t4, pB, pm, pd, fs⟩) := Lib.hid (HX.out.keep0 (HS.out.kept.trans (Keep.alloc [] _ _)))
        have HS1 := Lib.hid (HS.out.keep (Keep.alloc [] wr (.cells #[.slice pA pn pc, .int .i64 loud, .int .i64 lag, .int .i64 t0, .int .i64 t1, .int .i64 t2, .int .i64 t3, .int .i64 t4, .slice pB pm pd] 31)))
        have HB1 : Hid (Blk (wr.alloc (.cells #[.slice pA pn pc, .int .i64 loud, .int .i64 lag, .int .i64 t0, .int .i64 t1, .int .i64 t2, .int .i64 t3, .int .i64 t4, .slice pB pm pd] 31)) wr.heap.size #[.slice pA pn pc, .int .i64 loud, .int .i64 lag, .int .i64 t0, .int .i64 t1, .int .i64 t2, .int .i64 t3, .int .i64 t4, .slice pB pm pd] 31) := Lib.hid (Blk.new wr _ _)
        go_wp2_with (refine wpList_load_agg rfl 31 _ rfl (a.add (k * 9)) rfl _ HCW.out _ Try.underlying31 rfl (by kernel_rfl) ?_)
        have HM : Hid (RnMid w (wr.alloc (.cells #[.slice pA pn pc, .int .i64 loud, .int .i64 lag, .int .i64 t0, .int .i64 t1, .int .i64 t2, .int .i64 t3, .int .i64 t4, .slice pB pm pd] 31)) f w1.heap.size s r rv ov wr.heap.size ⟨pA, pn, pc, xs, loud, lag, t0, t1, t2, t3, t4, pB, pm, pd, fs⟩) := Lib.hid ⟨HS1.out, HB1.out, HP.out⟩
        clear HP HS1 HB1
        go_region_held3 (fun w' => w'.cell? ⟨wr.heap.size, 0, none⟩ = some (.slice pA pn pc) ∧ w'.cell? ⟨wr.heap.size, 1, none⟩ = some (.int .i64 loud) ∧ w'.cell? ⟨wr.heap.size, 2, none⟩ = some (.int .i64 lag) ∧ w'.cell? ⟨wr.heap.size, 3, none⟩ = some (.int .i64 t0) ∧ w'.cell? ⟨wr.heap.size, 4, none⟩ = some (.int .i64 t1) ∧ w'.cell? ⟨wr.heap.size, 5, none⟩ = some (.int .i64 t2) ∧ w'.cell? ⟨wr.heap.size, 6, none⟩ = some (.int .i64 t3) ∧ w'.cell? ⟨wr.heap.size, 7, none⟩ = some (.int .i64 t4) ∧ w'.cell? ⟨wr.heap.size, 8, none⟩ = some (.slice pB pm pd)) (first | exact (Hid.out HM).nine | exact (Hid.out HM).drew.nine)
          (first
            | (go_at_call 14; refine (good_calls ⟨pA, pn, pc, xs, loud, lag, t0, t1, t2, t3, t4, pB, pm, pd, fs⟩ _ (by first | exact (Hid.out HM).part | exact (Hid.out HM).drew.part)).mono ?_; rintro e w' ⟨rfl, kk⟩; have hm := (by first | exact (Hid.out HM).keep kk | exact (Hid.out HM).drew.keep kk : RnMid w w' f w1.heap.size s r rv ov wr.heap.size ⟨pA, pn, pc, xs, loud, lag, t0, t1, t2, t3, t4, pB, pm, pd, fs⟩); clear HM kk; have HM := Lib.hid hm; clear hm)
            | (go_at_call 15; refine (lgood_calls ⟨pA, pn, pc, xs, loud, lag, t0, t1, t2, t3, t4, pB, pm, pd, fs⟩ _ (by first | exact (Hid.out HM).part | exact (Hid.out HM).drew.part)).mono ?_; rintro e w' ⟨rfl, kk⟩; have hm := (by first | exact (Hid.out HM).keep kk | exact (Hid.out HM).drew.keep kk : RnMid w w' f w1.heap.size s r rv ov wr.heap.size ⟨pA, pn, pc, xs, loud, lag, t0, t1, t2, t3, t4, pB, pm, pd, fs⟩); clear HM kk; have HM := Lib.hid hm; clear hm))
        go_wp2_with fail
        cases hg : goodB ⟨pA, pn, pc, xs, loud, lag, t0, t1, t2, t3, t4, pB, pm, pd, fs⟩ with
        | false =>
          have HG := Lib.hid hg
          clear hg
          refine (run_bad f ⟨pA, pn, pc, xs, loud, lag, t0, t1, t2, t3, t4, pB, pm, pd, fs⟩ _ HM.out.part HG.out).mono ?_
          rintro e w4 ⟨rfl, k4⟩
          have hm := HM.out.keep k4
          clear HM k4
          have HM := Lib.hid hm
          clear hm
          obtain ⟨c0, c1, c2, c3, c4, c5, c6, c7, c8⟩ := HM.out.nine
          dsimp only at c0 c1 c2 c3 c4 c5 c6 c7 c8
          go_wp2_with fail
          clear c0 c1 c2 c3 c4 c5 c6 c7 c8
          refine (lgood_calls ⟨pA, pn, pc, xs, loud, lag, t0, t1, t2, t3, t4, pB, pm, pd, fs⟩ _ HM.out.part).mono ?_
          rintro e w5 ⟨rfl, k5⟩
          rw [HG.out]
          have hm := HM.out.keep k5
          clear HM k5
          have HM := Lib.hid hm
          clear hm
          go_wp2_with fail
          go_roundw
          case rel => exact ⟨k + 1, _, _, _, _, by omega, by go_num, HM.out.st⟩
          case measure => simp [intOf]; omega
        | true =>
          have HG := Lib.hid hg
          clear hg
          refine (run_calls f s ⟨pA, pn, pc, xs, loud, lag, t0, t1, t2, t3, t4, pB, pm, pd, fs⟩ _ HM.out.part HG.out HM.out.st.vc (fun x hx h0 => by have := HX.out.pul.old x hx h0; have := HM.out.st.of; omega) (fun x hx h0 => by have := HX.out.fil.old x hx h0; have := HM.out.st.of; omega)).mono ?_
          rintro e w4 ⟨v, rfl, h1, h2, h3, h4⟩
          have HR := Lib.hid (HM.out.ran HX.out h1 h2 h3 h4)
          have HREL := Lib.hid HM.out.st.rel
          clear HM h1 h2 h3 h4
          obtain ⟨c0, c1, c2, c3, c4, c5, c6, c7, c8⟩ := nine_of HR.out.box
          dsimp only at c0 c1 c2 c3 c4 c5 c6 c7 c8
          go_wp2_with fail
          clear c0 c1 c2 c3 c4 c5 c6 c7 c8
          refine (lgood_calls ⟨pA, pn, pc, xs, loud, lag, t0, t1, t2, t3, t4, pB, pm, pd, fs⟩ _ HR.out.part).mono ?_
          rintro e w5 ⟨rfl, k5⟩
          rw [HG.out]
          have hm := HR.out.keep k5
          clear HR k5
          have HR := Lib.hid hm
          clear hm
          obtain ⟨c0, c1, c2, c3, c4, c5, c6, c7, c8⟩ := nine_of HR.out.box
          dsimp only at c0 c1 c2 c3 c4 c5 c6 c7 c8
          go_wp2_with fail
          clear c0 c1 c2 c3 c4 c5 c6 c7 c8
          have hgp := goodP_of HG.out
          have hln : xs.length = pn := HX.out.pul.ln
          have hlf : fs.length = pm := HX.out.fil.ln
          have hn2 : pn ≤ 480 := hgp.n2
          have hm2 : pm ≤ 32 := hgp.m
          have hlg : lag = 0 ∨ (3 ≤ lag ∧ lag ≤ 318) := hgp.lag
          have hold : ∀ (X : Option Addr) (z : Nat), (∀ x, X = some x → 0 < z → x.block < w.heap.size) → ∀ x, X = some x → 0 < z → x.block ∉ (w1.heap.size :: (rv.ownBlock.toList ++ ov.ownBlock.toList)) := by
            intro X z hX x hx h0 hmem
            have h1 := hX x hx h0
            have h2 := HR.out.ob
            simp only [List.mem_cons, List.mem_append, Option.mem_toList] at hmem
            rcases hmem with e | e | e
            · omega
            · have := HR.out.old _ (.inl e); omega
            · have := HR.out.old _ (.inr e); omega
          refine (rrun_calls w1.heap.size r rv ov (w1.heap.size :: (rv.ownBlock.toList ++ ov.ownBlock.toList)) pA xs pn pc loud lag t0 t1 t2 t3 t4 pB fs pm pd _ HR.out.fil HR.out.mr HR.out.mo HR.out.d12 (fun g hg => by simpa using .inr hg) (by simp) HR.out.lr HR.out.lo hln hn2 HR.out.part.pul.reads (hold pA pn HX.out.pul.old) hlf hm2 HR.out.part.fil.reads (hold pB pm HX.out.fil.old) (by omega) (by omega)).mono ?_
          rintro e w6 ⟨m, rv', ov', rfl, k6, r1, r2, r3⟩
          have heq := run_eq loud lag [t0, t1, t2, t3, t4] fs hlg (by omega) xs s r HREL.out
          have HBO := Lib.hid (HR.out.both k6 r1 r2 r3 heq.1 heq.2)
          have HLY : Hid ((mapS (rstep loud lag [t0, t1, t2, t3, t4] fs) r xs).1.length ≤ 480) := Lib.hid (by rw [mapS_length, hln]; exact hn2)
          clear k6 r1 r2 r3 heq HR hold hgp hln hlf hlg
          generalize (mapS (rstep loud lag [t0, t1, t2, t3, t4] fs) r xs).1 = ys at *
          go_wp2_with fail
          refine (lsame_mm _ _ ys ys _ true (by have := HLY.out; omega) (by have := HLY.out; omega) HBO.out.m1 HBO.out.m2 (by simp)).mono ?_
          rintro e w7 ⟨rfl, k7⟩
          have hm := HBO.out.keep k7
          clear HBO k7
          have HBO := Lib.hid hm
          clear hm
          obtain ⟨A1, d1, hv1, hd1, hr1, _⟩ := HBO.out.m1.reads
          subst hv1
          obtain ⟨A2, d2, hv2, hd2, hr2, _⟩ := HBO.out.m2.reads
          subst hv2
          have HR1 := Lib.hid hr1
          clear hr1 hr2
          go_wp2_with fail
          refine (pcm_calls A1 ys ys.length d1 _ rfl (by have := HLY.out; omega) HR1.out).mono ?_
          rintro e w8 ⟨g, p1, rfl, p2, p3⟩
          have hm := HBO.out.keep p2
          clear HBO HR1
          have HBO := Lib.hid hm
          have HP1 := Lib.hid p3
          clear hm p1 p2 p3
          go_wp2_with fail
          refine (rpcm_calls A2 ys ys.length d2 _ rfl (by have := HLY.out; omega) HBO.out.m2.rd).mono ?_
          rintro e w9 ⟨v9, rfl, h9⟩
          have hm := HBO.out.keep h9.kept
          have HP2 := Lib.hid (HP1.out.keep h9.kept (by simp))
          have HP3 := Lib.hid h9.out
          clear HBO HP1
          have HBO := Lib.hid hm
          clear hm h9
          go_wp2_with fail
          have HLP : Hid ((pcmL ys).length = ys.length) := Lib.hid (by simp [pcmL])
          refine (lsame_mm _ _ (pcmL ys) (pcmL ys) _ true (by have := HLY.out; rw [HLP.out]; omega) (by have := HLY.out; rw [HLP.out]; omega) (by have h := Made.ofBlk HP2.out (by have := HLY.out; rw [HLP.out]; omega); rwa [HLP.out] at h) HP3.out (by simp)).mono ?_
          rintro e w10 ⟨rfl, k10⟩
          have hm := HBO.out.st.keep k10
          clear HBO HP2 HP3
          have HST := Lib.hid hm
          clear hm k10
          go_wp2_with fail
          go_roundw
          case rel => exact ⟨k + 1, _, _, _, _, by omega, by go_num, HST.out⟩
          case measure => simp [intOf]; omega
      · go_wp2_with fail
        go_ret
        exact ⟨rfl, HS.out.kept⟩
theorem runs_row (A : Option Addr) (n c : Nat) (l : List PartA) (w : World) (h : Parts w A n c l) :
    Calls Try.prog 4 #[.slice A n c] w fun e w' => e = .returned (.bool true) ∧ Below w.heap.size w w' :=
  (runs_walk A n c l w h).mono fun _ _ ⟨he, k⟩ => ⟨he, k.toBelow⟩
end Go.Proofs.Ytjhgbcgpkpahjaa
