/- The whole numbers' leaves: Clamp, factor, Mul, Sat16 and 'kept', each as a plain function. -/
import Derived.Test.YtjhgbcgpkpahjaaK0
namespace Go.Proofs.Ytjhgbcgpkpahjaa
open Go.RowKit

def clamp (a lo hi : Int) : Int := if hi < lo ∨ a < lo then lo else if hi < a then hi else a

set_option maxHeartbeats 400000 in
theorem clamp_calls (a lo hi : Int) (w : World) :
    Calls Try.prog 31 #[.int .i64 a, .int .i64 lo, .int .i64 hi] w fun e w' => e = .returned (.int .i64 (clamp a lo hi)) ∧ w = w' := by
  by_cases h1 : hi < lo
  · have e : clamp a lo hi = lo := by simp [clamp, h1]
    rw [e]; clear e
    go_enter Try.func31, Try.ntmps31
    go_wp2
    go_ret
    exact ⟨rfl, rfl⟩
  · by_cases h2 : a < lo
    · have e : clamp a lo hi = lo := by simp [clamp, h2]
      rw [e]; clear e
      go_enter Try.func31, Try.ntmps31
      go_wp2
      go_ret
      exact ⟨rfl, rfl⟩
    · by_cases h3 : hi < a
      · have e : clamp a lo hi = hi := by simp [clamp, h1, h2, h3]
        rw [e]; clear e
        go_enter Try.func31, Try.ntmps31
        go_wp2
        go_ret
        exact ⟨rfl, rfl⟩
      · have e : clamp a lo hi = a := by simp [clamp, h1, h2, h3]
        rw [e]; clear e
        go_enter Try.func31, Try.ntmps31
        go_wp2
        go_ret
        exact ⟨rfl, rfl⟩

def fac (a : Int) : Int := clamp a (-2147483648) 2147483648
theorem fac_lo (a : Int) : -2147483648 ≤ fac a := by unfold fac clamp; split <;> (try split) <;> omega
theorem fac_hi (a : Int) : fac a ≤ 2147483648 := by unfold fac clamp; split <;> (try split) <;> omega

set_option maxHeartbeats 400000 in
theorem factor_calls (a : Int) (w : World) :
    Calls Try.prog 30 #[.int .i64 a] w fun e w' => e = .returned (.int .i64 (fac a)) ∧ w = w' := by
  go_enter Try.func30, Try.ntmps30
  go_wp2_with (go_at_call 31; refine (clamp_calls _ _ _ _).mono ?_; rintro e w' ⟨rfl, rfl⟩)
  go_ret
  exact ⟨rfl, rfl⟩

theorem prod_bd {x y : Int} (h1 : -2147483648 ≤ x) (h2 : x ≤ 2147483648) (h3 : -2147483648 ≤ y) (h4 : y ≤ 2147483648) : -4611686018427387904 ≤ x * y ∧ x * y ≤ 4611686018427387904 := by
  have a1 : 0 ≤ (2147483648 - x) * (2147483648 - y) := Int.mul_nonneg (by omega) (by omega)
  have a2 : 0 ≤ (2147483648 + x) * (2147483648 + y) := Int.mul_nonneg (by omega) (by omega)
  have a3 : 0 ≤ (2147483648 + x) * (2147483648 - y) := Int.mul_nonneg (by omega) (by omega)
  have a4 : 0 ≤ (2147483648 - x) * (2147483648 + y) := Int.mul_nonneg (by omega) (by omega)
  simp only [Int.sub_mul, Int.add_mul, Int.mul_sub, Int.mul_add] at a1 a2 a3 a4
  constructor <;> omega
theorem pow_bd {s : Nat} (hs : s ≤ 61) : (1 : Int) ≤ 2 ^ s ∧ (2 : Int) ^ s ≤ 2305843009213693952 := by
  have h1 : (2 : Nat) ^ s ≤ 2 ^ 61 := Nat.pow_le_pow_right (by decide) hs
  have h0 : 1 ≤ (2 : Nat) ^ s := Nat.one_le_two_pow
  have e : ((2 : Int) ^ s) = ((2 ^ s : Nat) : Int) := by simp
  rw [e]
  have h2 : (2 : Nat) ^ 61 = 2305843009213693952 := by decide
  rw [h2] at h1
  generalize (2 : Nat) ^ s = q at *
  omega
theorem mul_wrap {p : Int} {s : Nat} (hp1 : -4611686018427387904 ≤ p) (hp2 : p ≤ 4611686018427387904) (hs : 1 ≤ s) (hs' : s ≤ 62) :
    wrap64 (p + wrap64 (2 ^ (s - 1))) / 2 ^ s = (p + 2 ^ (s - 1)) / 2 ^ s := by
  obtain ⟨h1, h2⟩ := pow_bd (s := s - 1) (by omega)
  generalize (2 : Int) ^ (s - 1) = q at *
  have e1 : wrap64 q = q := by unfold wrap64; omega
  rw [e1]
  have e2 : wrap64 (p + q) = p + q := by unfold wrap64; omega
  rw [e2]

/-- The product of two factors, divided by 2^s, rounded. -/
def mulS (a b : Int) (s : Nat) : Int := (fac a * fac b + 2 ^ (s - 1)) / 2 ^ s
set_option maxHeartbeats 400000 in
theorem mul_calls (a b : Int) (s : Nat) (hs : 1 ≤ s) (hs' : s ≤ 62) (w : World) :
    Calls Try.prog 21 #[.int .i64 a, .int .i64 b, .int .i64 s] w fun e w' => e = .returned (.int .i64 (mulS a b s)) ∧ w = w' := by
  have ha := fac_lo a
  have ha' := fac_hi a
  have hb := fac_lo b
  have hb' := fac_hi b
  have hp := prod_bd ha ha' hb hb'
  obtain ⟨hp1, hp2⟩ := hp
  go_enter Try.func21, Try.ntmps21
  go_wp2_with fail
  refine (factor_calls _ _).mono ?_; rintro e w' ⟨rfl, rfl⟩
  go_wp2_with fail
  refine (factor_calls _ _).mono ?_; rintro e w' ⟨rfl, rfl⟩
  go_wp2_with fail
  go_ret
  exact ⟨ret_i (mul_wrap hp1 hp2 hs hs'), rfl⟩

theorem fac_id {a : Int} (h0 : -2147483648 ≤ a) (h1 : a ≤ 2147483648) : fac a = a := by unfold fac clamp; rw [if_neg (by omega), if_neg (by omega)]
theorem mulS_bd15 (a b : Int) (h0 : 0 ≤ a) (h1 : a ≤ 32768) : -2147483648 ≤ mulS a b 15 ∧ mulS a b 15 ≤ 2147483648 := by
  have e := fac_id (a := a) (by omega) (by omega)
  have hb := fac_lo b
  have hb' := fac_hi b
  unfold mulS
  rw [e]
  have a1 : 0 ≤ a * (fac b + 2147483648) := Int.mul_nonneg h0 (by omega)
  have a2 : 0 ≤ a * (2147483648 - fac b) := Int.mul_nonneg h0 (by omega)
  simp only [Int.mul_sub, Int.mul_add] at a1 a2
  generalize a * fac b = q at *
  simp only [Nat.reduceSub, Int.reducePow]
  omega
def keptI (v : Int) : Int := clamp v (-16777216) 16777216
theorem keptI_bd (v : Int) : -16777216 ≤ keptI v ∧ keptI v ≤ 16777216 := by unfold keptI clamp; split <;> (try split) <;> omega
theorem keptI_id {v : Int} (h0 : -16777216 ≤ v) (h1 : v ≤ 16777216) : keptI v = v := by unfold keptI clamp; rw [if_neg (by omega), if_neg (by omega)]
set_option maxHeartbeats 400000 in
theorem kept_calls (a : Int) (w : World) :
    Calls Try.prog 22 #[.int .i64 a] w fun e w' => e = .returned (.int .i64 (keptI a)) ∧ w = w' := by
  go_enter Try.func22, Try.ntmps22
  go_wp2_with (go_at_call 31; refine (clamp_calls _ _ _ _).mono ?_; rintro e w' ⟨rfl, rfl⟩)
  go_ret
  exact ⟨rfl, rfl⟩
def sat16 (v : Int) : Int := clamp v (-32768) 32767
theorem sat16_bd (v : Int) : -32768 ≤ sat16 v ∧ sat16 v ≤ 32767 := by unfold sat16 clamp; split <;> (try split) <;> omega
set_option maxHeartbeats 400000 in
theorem sat16_calls (a : Int) (w : World) :
    Calls Try.prog 23 #[.int .i64 a] w fun e w' => e = .returned (.int .i64 (sat16 a)) ∧ w = w' := by
  go_enter Try.func23, Try.ntmps23
  go_wp2_with (go_at_call 31; refine (clamp_calls _ _ _ _).mono ?_; rintro e w' ⟨rfl, rfl⟩)
  go_ret
  exact ⟨rfl, rfl⟩

/-! ### the reference's -/
theorem refClamp_eq (a lo hi : Int) : clamp a lo hi = if a < lo ∨ hi < lo then lo else if hi < a then hi else a := by
  unfold clamp
  by_cases h1 : hi < lo <;> by_cases h2 : a < lo <;> simp [h1, h2]
set_option maxHeartbeats 400000 in
theorem rclamp_calls (a lo hi : Int) (w : World) :
    Calls Try.prog 34 #[.int .i64 a, .int .i64 lo, .int .i64 hi] w fun e w' => e = .returned (.int .i64 (clamp a lo hi)) ∧ w = w' := by
  by_cases h2 : a < lo
  · have e : clamp a lo hi = lo := by simp [clamp, h2]
    rw [e]; clear e
    go_enter Try.func34, Try.ntmps34
    go_wp2
    go_ret
    exact ⟨rfl, rfl⟩
  · by_cases h1 : hi < lo
    · have e : clamp a lo hi = lo := by simp [clamp, h1]
      rw [e]; clear e
      go_enter Try.func34, Try.ntmps34
      go_wp2
      go_ret
      exact ⟨rfl, rfl⟩
    · by_cases h3 : hi < a
      · have e : clamp a lo hi = hi := by simp [clamp, h1, h2, h3]
        rw [e]; clear e
        go_enter Try.func34, Try.ntmps34
        go_wp2
        go_ret
        exact ⟨rfl, rfl⟩
      · have e : clamp a lo hi = a := by simp [clamp, h1, h2, h3]
        rw [e]; clear e
        go_enter Try.func34, Try.ntmps34
        go_wp2
        go_ret
        exact ⟨rfl, rfl⟩
set_option maxHeartbeats 400000 in
theorem keep_calls (a : Int) (w : World) :
    Calls Try.prog 27 #[.int .i64 a] w fun e w' => e = .returned (.int .i64 (keptI a)) ∧ w = w' := by
  go_enter Try.func27, Try.ntmps27
  go_wp2_with (go_at_call 34; refine (rclamp_calls _ _ _ _).mono ?_; rintro e w' ⟨rfl, rfl⟩)
  go_ret
  exact ⟨rfl, rfl⟩
set_option maxHeartbeats 400000 in
theorem rsat16_calls (a : Int) (w : World) :
    Calls Try.prog 29 #[.int .i64 a] w fun e w' => e = .returned (.int .i64 (sat16 a)) ∧ w = w' := by
  go_enter Try.func29, Try.ntmps29
  go_wp2_with (go_at_call 34; refine (rclamp_calls _ _ _ _).mono ?_; rintro e w' ⟨rfl, rfl⟩)
  go_ret
  exact ⟨rfl, rfl⟩

theorem rfac_calls (a : Int) (w : World) :
    Calls Try.prog 34 #[.int .i64 a, .int .i64 (-2147483648), .int .i64 2147483648] w fun e w' => e = .returned (.int .i64 (fac a)) ∧ w = w' :=
  rclamp_calls a (-2147483648) 2147483648 w
theorem pow_double {s : Nat} (hs : 1 ≤ s) : (2 : Int) ^ s = 2 * 2 ^ (s - 1) := by
  obtain ⟨k, rfl⟩ : ∃ k, s = k + 1 := ⟨s - 1, by omega⟩
  rw [Int.pow_succ, Nat.add_sub_cancel]; omega
theorem rmul_rest {p : Int} {s : Nat} (hp1 : -4611686018427387904 ≤ p) (hp2 : p ≤ 4611686018427387904) (hs : 1 ≤ s) (hs' : s ≤ 62) :
    wrap64 (p - wrap64 (p / 2 ^ s * 2 ^ s)) = p % 2 ^ s ∧ wrap64 (2 ^ (s - 1)) = 2 ^ (s - 1) ∧ wrap64 (p / 2 ^ s + 1) = p / 2 ^ s + 1 := by
  obtain ⟨h1, h2⟩ := pow_bd (s := s - 1) (by omega)
  have h3 := pow_double hs
  generalize (2 : Int) ^ (s - 1) = h at *
  generalize (2 : Int) ^ s = q at *
  have e := Int.emod_add_mul_ediv p q
  rw [Int.mul_comm q] at e
  have m0 := Int.emod_nonneg p (show q ≠ 0 by omega)
  have m1 := Int.emod_lt_of_pos p (show 0 < q by omega)
  have d0 : -4611686018427387904 ≤ p / q := Int.le_ediv_of_mul_le (by omega) (by
    have : -4611686018427387904 * q ≤ -4611686018427387904 * 1 := Int.mul_le_mul_of_nonpos_left (by omega) (by omega)
    omega)
  have d1 : p / q ≤ 4611686018427387904 := Int.ediv_le_of_le_mul (by omega) (by
    have : 4611686018427387904 * 1 ≤ 4611686018427387904 * q := Int.mul_le_mul_of_nonneg_left (by omega) (by omega)
    omega)
  generalize p / q * q = t at *
  generalize p / q = d at *
  generalize p % q = m at *
  unfold wrap64
  refine ⟨?_, ?_, ?_⟩ <;> omega
theorem div_round {p h q : Int} (hq : q = 2 * h) (hh : 1 ≤ h) : (p + h) / q = if h ≤ p % q then p / q + 1 else p / q := by
  have e := Int.emod_add_mul_ediv p q
  have m0 := Int.emod_nonneg p (show q ≠ 0 by omega)
  have m1 := Int.emod_lt_of_pos p (show 0 < q by omega)
  split
  · rename_i hm
    have e2 : p + h = (p % q - h) + q * (p / q + 1) := by rw [Int.mul_add]; omega
    rw [e2, Int.add_mul_ediv_left _ _ (by omega), Int.ediv_eq_zero_of_lt (by omega) (by omega)]; omega
  · rename_i hm
    have e2 : p + h = (p % q + h) + q * (p / q) := by omega
    rw [e2, Int.add_mul_ediv_left _ _ (by omega), Int.ediv_eq_zero_of_lt (by omega) (by omega)]; omega
theorem rmul_up {a b : Int} {s : Nat} (hp1 : -4611686018427387904 ≤ fac a * fac b) (hp2 : fac a * fac b ≤ 4611686018427387904) (hs : 1 ≤ s) (hs' : s ≤ 62)
    (h : wrap64 (2 ^ (s - 1)) ≤ wrap64 (fac a * fac b - wrap64 (fac a * fac b / 2 ^ s * 2 ^ s))) : wrap64 (fac a * fac b / 2 ^ s + 1) = mulS a b s := by
  obtain ⟨e1, e2, e3⟩ := rmul_rest hp1 hp2 hs hs'
  rw [e1, e2] at h
  obtain ⟨h1, h2⟩ := pow_bd (s := s - 1) (by omega)
  unfold mulS
  rw [e3, div_round (pow_double hs) h1, if_pos h]
theorem rmul_down {a b : Int} {s : Nat} (hp1 : -4611686018427387904 ≤ fac a * fac b) (hp2 : fac a * fac b ≤ 4611686018427387904) (hs : 1 ≤ s) (hs' : s ≤ 62)
    (h : wrap64 (fac a * fac b - wrap64 (fac a * fac b / 2 ^ s * 2 ^ s)) < wrap64 (2 ^ (s - 1))) : fac a * fac b / 2 ^ s = mulS a b s := by
  obtain ⟨e1, e2, e3⟩ := rmul_rest hp1 hp2 hs hs'
  rw [e1, e2] at h
  obtain ⟨h1, h2⟩ := pow_bd (s := s - 1) (by omega)
  unfold mulS
  rw [div_round (pow_double hs) h1, if_neg (by omega)]
set_option maxHeartbeats 400000 in
theorem rmul_calls (a b : Int) (s : Nat) (hs : 1 ≤ s) (hs' : s ≤ 62) (w : World) :
    Calls Try.prog 25 #[.int .i64 a, .int .i64 b, .int .i64 s] w fun e w' => e = .returned (.int .i64 (mulS a b s)) ∧ w = w' := by
  have ha := fac_lo a
  have ha' := fac_hi a
  have hb := fac_lo b
  have hb' := fac_hi b
  have hp := prod_bd ha ha' hb hb'
  obtain ⟨hp1, hp2⟩ := hp
  go_enter Try.func25, Try.ntmps25
  go_wp2_with fail
  refine (rfac_calls _ _).mono ?_; rintro e w' ⟨rfl, rfl⟩
  go_wp2_with fail
  refine (rfac_calls _ _).mono ?_; rintro e w' ⟨rfl, rfl⟩
  go_wp2_with fail
  · rename_i h
    go_ret
    exact ⟨ret_i (rmul_up hp1 hp2 hs hs' h), rfl⟩
  · rename_i h
    go_ret
    exact ⟨ret_i (rmul_down hp1 hp2 hs hs' h), rfl⟩
end Go.Proofs.Ytjhgbcgpkpahjaa
