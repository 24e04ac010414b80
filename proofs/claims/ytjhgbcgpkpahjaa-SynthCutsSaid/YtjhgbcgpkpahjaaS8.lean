/- SynthKnown. -/
import Derived.Test.YtjhgbcgpkpahjaaS7
namespace Go.Proofs.Ytjhgbcgpkpahjaa
open Go.RowKit

def knE : PartA := ⟨none, 0, 0, [], 0, 0, 0, 0, 0, 0, 0, none, 0, 0, []⟩
def kn17 (a : Nat) : PartA := ⟨some ⟨a, 0, none⟩, 1, 1, [17], 0, 0, 0, 0, 0, 0, 0, none, 0, 0, []⟩
def kn2 (a : Nat) : PartA := ⟨some ⟨a, 0, none⟩, 1, 1, [1], 0, 2, 0, 0, 0, 0, 0, none, 0, 0, []⟩
theorem knE_good : goodB knE = false := rfl
theorem kn17_good (a : Nat) : goodB (kn17 a) = false := rfl
theorem kn2_good (a : Nat) : goodB (kn2 a) = false := rfl
theorem knE_is (w : World) : IsPart w knE := ⟨ArgI.empty _, ArgI.empty _⟩
theorem kn17_is (w : World) : IsPart (w.alloc (.cells (ints [17]).toArray 2)) (kn17 w.heap.size) := ⟨ArgI.lit w [17] (by simp), ArgI.empty _⟩
theorem kn2_is (w : World) : IsPart (w.alloc (.cells (ints [1]).toArray 2)) (kn2 w.heap.size) := ⟨ArgI.lit w [1] (by simp), ArgI.empty _⟩
set_option maxRecDepth 100000 in
set_option maxHeartbeats 2000000 in
theorem known_walk (w : World) : Calls Try.prog 3 #[] w (RetKept w (.bool true)) := by
  go_enter Try.func3, Try.ntmps3
  go_wp2_with fail
  refine (awake_calls _).mono ?_
  rintro e w0 ⟨rfl, k0⟩
  have H0 := Lib.hid k0
  clear k0
  go_wp2_with fail
  refine (new_calls _).mono ?_
  rintro e w1 ⟨f, f1, rfl, f2, f3⟩
  have H1 := Lib.hid (H0.out.trans f2)
  have HV1 := Lib.hid f3
  clear f1 f2 f3 H0
  go_wp2_with fail
  refine (run_bad f knE _ (knE_is _) knE_good).mono ?_
  rintro e w2 ⟨rfl, k2⟩
  have H2 := Lib.hid (H1.out.trans k2)
  have HV2 := Lib.hid (HV1.out.keep k2 (by simp))
  clear k2 H1 HV1
  go_wp2_with fail
  refine (run_bad f (kn17 w2.heap.size) _ (kn17_is _) (kn17_good _)).mono ?_
  rintro e w3 ⟨rfl, k3⟩
  have k3' := (Keep.alloc [] w2 (.cells (ints [17]).toArray 2)).trans k3
  have H3 := Lib.hid (H2.out.trans k3')
  have HV3 := Lib.hid (HV2.out.keep k3' (by simp))
  clear k3 k3' H2 HV2
  go_wp2_with fail
  refine (run_bad f (kn2 w3.heap.size) _ (kn2_is _) (kn2_good _)).mono ?_
  rintro e w4 ⟨rfl, k4⟩
  have k4' := (Keep.alloc [] w3 (.cells (ints [1]).toArray 2)).trans k4
  have H4 := Lib.hid (H3.out.trans k4')
  have HV4 := Lib.hid (HV3.out.keep k4' (by simp))
  clear k4 k4' H3 HV3
  go_wp2_with fail
  refine (new_calls _).mono ?_
  rintro e w5 ⟨n, n1, rfl, n2, n3⟩
  have H5 := Lib.hid (H4.out.trans n2)
  have HV5 := Lib.hid (HV4.out.keep n2 (by simp))
  have HN5 := Lib.hid n3
  clear n1 n2 n3 H4 HV4
  go_wp2_with fail
  refine (same_calls f n newV newV _ HV5.out HN5.out).mono ?_
  rintro e w6 ⟨rfl, k6⟩
  rw [decide_eq_true (rfl : newV = newV)]
  have H6 := Lib.hid (H5.out.trans k6)
  clear k6 H5 HV5 HN5
  go_wp2_with fail
  refine (pcm_calls none [] 0 0 _ rfl (by omega) (Rd.nil _ _)).mono ?_
  rintro e w7 ⟨g, p1, rfl, p2, p3⟩
  have H7 := Lib.hid (H6.out.trans p2)
  clear p1 p2 p3 H6
  go_wp2_with fail
  go_ret
  exact ⟨rfl, H7.out⟩
theorem known_row (w : World) : Calls Try.prog 3 #[] w fun e w' => e = .returned (.bool true) ∧ Below w.heap.size w w' :=
  (known_walk w).mono fun _ _ ⟨he, k⟩ => ⟨he, k.toBelow⟩
end Go.Proofs.Ytjhgbcgpkpahjaa
