/- awake of the laws on synth. -/
import Derived.Test.YtjhgbcgpkpahjaaS6
namespace Go.Proofs.Ytjhgbcgpkpahjaa
open Go.RowKit

def RetKept (w : World) (v : Value) (e : Ending) (w' : World) : Prop := e = .returned v ∧ Keep [] w w'
theorem ArgI.lit (w : World) (xs : List Int) (h : xs.length ≤ 1000000) : ArgI (w.alloc (.cells (ints xs).toArray 2)) (some ⟨w.heap.size, 0, none⟩) xs.length xs.length xs :=
  ⟨rfl, Nat.le_refl _, by omega, rd_lit w xs, (fun h => by cases h), (by rintro x ⟨⟩ _; simp)⟩
theorem ArgI.empty (w : World) : ArgI w none 0 0 [] := ⟨rfl, Nat.le_refl _, by omega, Rd.nil _ _, fun _ => rfl, (fun x h => by cases h)⟩
theorem lsame_rr (A B : Option Addr) (xs ys : List Int) (n m c d : Nat) (w : World) (b : Bool) (hx : xs.length = n) (hy : ys.length = m) (hn : n ≤ 1000000) (hm : m ≤ 1000000) (ha : Rd w A xs) (hb : Rd w B ys) (he : decide (xs = ys) = b) :
    Calls Try.prog 17 #[.slice A n c, .slice B m d] w (RetKept w (.bool b)) := by
  subst he
  exact (lsame_calls A B xs ys n m c d w hx hy hn hm ha hb).mono fun e w' ⟨he, q, hq⟩ => ⟨he, by rw [hq]; exact Keep.drewN _ _ _⟩
theorem lsame_mm (v v2 : Value) (xs ys : List Int) (w : World) (b : Bool) (hx : xs.length ≤ 1000000) (hy : ys.length ≤ 1000000) (ha : Made w v xs) (hb : Made w v2 ys) (he : decide (xs = ys) = b) :
    Calls Try.prog 17 #[v, v2] w (RetKept w (.bool b)) := by
  obtain ⟨A, c, rfl, _, hr, _⟩ := ha.reads
  obtain ⟨B, d, rfl, _, hs, _⟩ := hb.reads
  exact lsame_rr A B xs ys _ _ c d w b rfl rfl hx hy hr hs he
theorem made_lit (w : World) (xs : List Int) (h : xs.length ≤ 1000000) : Made (w.alloc (.cells (ints xs).toArray 2)) (.slice (some ⟨w.heap.size, 0, none⟩) xs.length xs.length) xs := Made.ofBlk (Blk.new w _ _) h
/-- In the midst of awake. -/
structure Aw (w W : World) (f : Nat) (s : Vc) (v : Value) (xs : List Int) : Prop where
  kept : Keep [] w W
  of : w.heap.size ≤ f
  vc : IsV W f s
  out : Made W v xs
theorem Aw.keep {w W W' : World} {f : Nat} {s : Vc} {v : Value} {xs : List Int} (h : Aw w W f s v xs) (k : Keep [] W W') : Aw w W' f s v xs := ⟨h.kept.trans k, h.of, h.vc.keep k (by simp), h.out.keep k (by simp)⟩
/-- The part that awake plays. -/
def awP (a b : Nat) : PartA := ⟨some ⟨a, 0, none⟩, 3, 3, [1, 0, 0], 16, 0, 0, 0, 0, 0, 0, some ⟨b, 0, none⟩, 1, 1, [2048]⟩
def awS : Vc := (mapS (stepV 16 0 [0, 0, 0, 0, 0] [2048]) newV [1, 0, 0]).2
theorem aw_out : (mapS (stepV 16 0 [0, 0, 0, 0, 0] [2048]) newV [1, 0, 0]).1 = [16, 8, 4] := by decide +kernel
theorem aw_ne : decide (awS = newV) = false := by
  rw [decide_eq_false_iff_not]
  intro h
  have : awS.o.getD 0 0 = newV.o.getD 0 0 := by rw [h]
  revert this
  decide +kernel
theorem aw_pcm : pcmL [16, 24, -24] = [1, 2, -1] := by decide +kernel
theorem aw_good (a b : Nat) : goodB (awP a b) = true := rfl
def awG (a : Nat) : PartA := ⟨some ⟨a, 0, none⟩, 1, 1, [1], 0, 0, 0, 0, 0, 0, 0, none, 0, 0, []⟩
theorem awG_good (a : Nat) : goodB (awG a) = true := rfl
theorem awP_is (w : World) : IsPart ((w.alloc (.cells (ints [1, 0, 0]).toArray 2)).alloc (.cells (ints [2048]).toArray 2)) (awP w.heap.size (w.heap.size + 1)) := by
  refine ⟨(ArgI.lit w [1, 0, 0] (by simp)).keep0 (Keep.alloc [] _ _), ?_⟩
  have h := ArgI.lit (w.alloc (.cells (ints [1, 0, 0]).toArray 2)) [2048] (by simp)
  simp at h
  exact h
theorem awG_is (w : World) : IsPart (w.alloc (.cells (ints [1]).toArray 2)) (awG w.heap.size) := ⟨ArgI.lit w [1] (by simp), ArgI.empty _⟩
set_option maxRecDepth 100000 in
set_option maxHeartbeats 2000000 in
theorem awake_calls (w : World) : Calls Try.prog 9 #[] w (RetKept w (.bool true)) := by
  go_enter Try.func9, Try.ntmps9
  go_wp2_with fail
  refine (new_calls _).mono ?_
  rintro e w1 ⟨f, f1, rfl, f2, f3⟩
  have k12 : Keep [] w1 ((w1.alloc (.cells (ints [1, 0, 0]).toArray 2)).alloc (.cells (ints [2048]).toArray 2)) := (Keep.alloc [] _ _).trans (Keep.alloc [] _ _)
  have HV := Lib.hid (f3.keep k12 (by simp))
  have HK := Lib.hid (f2.trans k12)
  have HF := Lib.hid f1
  have HL := Lib.hid f3.lt
  have HP := Lib.hid (awP_is w1)
  clear f1 f2 f3 k12
  go_wp2_with fail
  refine (run_calls f newV (awP w1.heap.size (w1.heap.size + 1)) _ HP.out (aw_good _ _) HV.out (by rintro a ⟨⟩ _; have := HL.out; simp; omega) (by rintro a ⟨⟩ _; have := HL.out; simp; omega)).mono ?_
  rintro e w2 ⟨v, rfl, h1, h2, h3, h4⟩
  have H2 : Hid (Aw w w2 f awS v [16, 8, 4]) := by
    refine Lib.hid ⟨HK.out.trans' h1 (by simp) (by simpa using HF.out), HF.out, h2, ?_⟩
    have h3' : Made w2 v (mapS (stepV 16 0 [0, 0, 0, 0, 0] [2048]) newV [1, 0, 0]).1 := h3
    rwa [aw_out] at h3'
  clear h1 h2 h3 h4 HV HK HL HP HF
  go_wp2_with fail
  refine (copy_calls f awS _ H2.out.vc).mono ?_
  rintro e w3 ⟨g, g1, rfl, g2, g3⟩
  have H3 := Lib.hid (H2.out.keep g2)
  have HG := Lib.hid g3
  have HNE : Hid (g ≠ f) := Lib.hid (by have := H2.out.vc.lt; omega)
  clear g1 g2 g3 H2
  go_wp2_with fail
  refine (reset_calls f awS _ H3.out.vc).mono ?_
  rintro e w4 ⟨rfl, r1, r2⟩
  have H4 : Hid (Aw w w4 f newV v [16, 8, 4]) := Lib.hid ⟨H3.out.kept.trans' r1 (by simp) (by simpa using H3.out.of), H3.out.of, r2, H3.out.out.keep r1 (fun x hx => by simpa using H3.out.out.ne_v H3.out.vc x hx)⟩
  have HG4 := Lib.hid (HG.out.keep r1 (by simpa using HNE.out))
  clear r1 r2 H3 HG
  go_wp2_with fail
  refine (lsame_mm _ _ [16, 8, 4] [16, 8, 4] _ true (by simp) (by simp) (H4.out.out.keep (Keep.alloc [] _ _) (by simp)) (made_lit _ [16, 8, 4] (by simp)) (by decide)).mono ?_
  rintro e w5 ⟨rfl, k5⟩
  have k5' := (Keep.alloc [] w4 (.cells (ints [16, 8, 4]).toArray 2)).trans k5
  have H5 := Lib.hid (H4.out.keep k5')
  have HG5 := Lib.hid (HG4.out.keep k5' (by simp))
  clear k5 k5' H4 HG4
  go_wp2_with fail
  refine (pcm_calls _ [16, 24, -24] _ _ _ rfl (by simp) (rd_lit w5 [16, 24, -24])).mono ?_
  rintro e w6 ⟨p, p1, rfl, p2, p3⟩
  have k6 := (Keep.alloc [] w5 (.cells (ints [16, 24, -24]).toArray 2)).trans p2
  rw [aw_pcm] at p3
  have H6 := Lib.hid (H5.out.keep k6)
  have HG6 := Lib.hid (HG5.out.keep k6 (by simp))
  have HB6 := Lib.hid p3
  clear p1 p2 p3 k6 H5 HG5
  go_wp2_with fail
  refine (lsame_rr _ _ [1, 2, -1] [1, 2, -1] _ _ _ _ _ true rfl rfl (by simp) (by simp) (Rd.ofBlk0 (HB6.out.keep (Keep.alloc [] _ _) (by simp))) (rd_lit w6 [1, 2, -1]) (by decide)).mono ?_
  rintro e w7 ⟨rfl, k7⟩
  have k7' := (Keep.alloc [] w6 (.cells (ints [1, 2, -1]).toArray 2)).trans k7
  have H7 := Lib.hid (H6.out.keep k7')
  have HG7 := Lib.hid (HG6.out.keep k7' (by simp))
  clear k7 k7' H6 HG6 HB6
  go_wp2_with fail
  refine (new_calls _).mono ?_
  rintro e w8 ⟨n, n1, rfl, n2, n3⟩
  have H8 := Lib.hid (H7.out.keep n2)
  have HG8 := Lib.hid (HG7.out.keep n2 (by simp))
  have HN8 := Lib.hid n3
  clear n1 n2 n3 H7 HG7
  go_wp2_with fail
  refine (same_calls f n newV newV _ H8.out.vc HN8.out).mono ?_
  rintro e w9 ⟨rfl, k9⟩
  rw [decide_eq_true (rfl : newV = newV)]
  have H9 := Lib.hid (H8.out.keep k9)
  have HG9 := Lib.hid (HG8.out.keep k9 (by simp))
  clear k9 H8 HG8 HN8
  go_wp2_with fail
  refine (same_calls g f awS newV _ HG9.out H9.out.vc).mono ?_
  rintro e wa ⟨rfl, ka⟩
  rw [aw_ne]
  have HA := Lib.hid (H9.out.keep ka)
  clear ka H9 HG9
  go_wp2_with fail
  refine (good_calls (awG wa.heap.size) _ (awG_is wa)).mono ?_
  rintro e wb ⟨rfl, kb⟩
  rw [awG_good]
  have HB := Lib.hid (HA.out.kept.trans ((Keep.alloc [] _ _).trans kb))
  clear kb HA
  go_wp2_with fail
  go_ret
  exact ⟨rfl, HB.out⟩
end Go.Proofs.Ytjhgbcgpkpahjaa
