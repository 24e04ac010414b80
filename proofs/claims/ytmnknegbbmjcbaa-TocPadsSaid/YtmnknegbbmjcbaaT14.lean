/- The walks of TocKnown and TocConfigs. -/
import Derived.Test.YtmnknegbbmjcbaaT13
namespace Go.Proofs.Ytmnknegbbmjcbaa
open Go.RowKit

theorem argB_nil (w : World) : ArgB w none 0 0 [] := ⟨rfl, Nat.le_refl _, by omega, RdV.nil _ _, fun _ => rfl, (fun a ha => by cases ha), (fun x hx => by cases hx), by omega⟩
theorem kn_96 : parseM [96] = none := by kernel_rfl
theorem kn_none : goodM 0 0 [] 0 = false := by kernel_rfl
theorem kn_num {k c : Int} (h : NumR 1 8000 10 k c) : c = 1 := by
  rcases h with ⟨n, hn, h1, _⟩ | ⟨_, _, h⟩
  · have : ∀ m : Fin 12, isCfg 1 8000 10 m.1 = false := by decide +kernel
    have h9 := this ⟨n, hn⟩
    rw [show isCfg 1 8000 10 n = false from h9] at h1
    cases h1
  · exact h
set_option maxHeartbeats 2000000
theorem known_walk (w : World) : Calls Try.prog 3 #[] w (RetK w (.bool true)) := by
  go_enter Try.func3, Try.ntmps3
  go_wp2_with fail
  refine (awake_calls w).mono ?_
  rintro e w1 ⟨rfl, k1⟩
  have K1 := Lib.hid k1
  clear k1
  go_wp2_with fail
  refine (parse_calls none 0 0 [] _ (argB_nil _)).mono ?_
  rintro e w2 ⟨k2, h2⟩
  have h2' : e = .returned (.tuple #[pkV 0 0 (.slice none 0 0) 0, .int .i64 3]) := h2
  subst h2'
  have K2 := Lib.hid ((K1.out.trans k2).trans (Keep.alloc [] w2 (.cells #[.int .i64 0, .int .i64 0, .slice none 0 0, .int .i64 0] 25)))
  clear k2 h2 K1
  unfold pkV
  have HA : Hid (ArgB ((w2.alloc (.cells #[.int .i64 0, .int .i64 0, .slice none 0 0, .int .i64 0] 25)).alloc (.cells #[.int .u8 96] 5)) (some ⟨w2.heap.size + 1, 0, none⟩) 1 1 [96]) := by
    have h := argB_lit (w2.alloc (.cells #[.int .i64 0, .int .i64 0, .slice none 0 0, .int .i64 0] 25)) [96] (by simp) (by simp)
    rw [World.size_alloc] at h
    exact Lib.hid h
  go_wp2_with fail
  refine (parse_calls _ 1 1 [96] _ HA.out).mono ?_
  rintro e w3 ⟨k3, h3⟩
  rw [kn_96] at h3
  have h3' : e = .returned (.tuple #[pkV 0 0 (.slice none 0 0) 0, .int .i64 3]) := h3
  subst h3'
  have K3 := Lib.hid (((K2.out.trans (Keep.alloc [] _ _)).trans k3).trans (Keep.alloc [] w3 (.cells #[.int .i64 0, .int .i64 0, .slice none 0 0, .int .i64 0] 25)))
  clear k3 h3 K2 HA
  unfold pkV
  go_wp2_with fail
  refine (of_bad _ 12 (.inr (by omega))).mono ?_
  rintro e w4 ⟨rfl, k4⟩
  unfold ofBad cfgV
  have K4 := Lib.hid ((K3.out.trans k4).trans (Keep.alloc [] w4 (.cells #[.int .i64 0, .int .i64 0, .int .i64 0] 31)))
  clear k4 K3
  go_wp2_with fail
  refine (number_calls 1 8000 10 _).mono ?_
  rintro e w5 ⟨⟨nk, nc, rfl, hnum⟩, k5⟩
  obtain rfl := kn_num hnum
  have K5 := Lib.hid (K4.out.trans k5)
  clear hnum k5 K4
  go_wp2_with fail
  refine (pack_bad 0 0 0 none 0 0 [] _ (FrR.empty _) kn_none).mono ?_
  rintro e w6 ⟨rfl, k6⟩
  have K6 := Lib.hid (K5.out.trans k6)
  clear k6 K5
  go_wp2_with fail
  refine (good_calls 0 0 0 none 0 0 [] _ (FrR.empty _)).mono ?_
  rintro e w7 ⟨rfl, k7⟩
  rw [kn_none]
  have K7 := Lib.hid (K6.out.trans k7)
  clear k7 K6
  go_wp2_with fail
  go_ret
  exact ⟨rfl, K7.out⟩
theorem known_row (w : World) : Calls Try.prog 3 #[] w fun e w' => e = .returned (.bool true) ∧ Below w.heap.size w w' :=
  (known_walk w).mono fun _ _ ⟨he, k⟩ => ⟨he, k.toBelow⟩
end Go.Proofs.Ytmnknegbbmjcbaa
