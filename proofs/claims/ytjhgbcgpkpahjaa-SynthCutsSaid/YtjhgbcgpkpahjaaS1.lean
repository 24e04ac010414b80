/- synth.within: are all numbers of a list within a bound? -/
import Derived.Test.YtjhgbcgpkpahjaaSm
import Derived.Test.YtjhgbcgpkpahjaaSz
import Derived.Test.YtjhgbcgpkpahjaaK2
namespace Go.Proofs.Ytjhgbcgpkpahjaa
open Go.RowKit

def okI (m x : Int) : Bool := decide (-m ≤ x) && decide (x ≤ m)
def okL (m : Int) (xs : List Int) : Bool := xs.all (okI m)
theorem okL_of {m : Int} {xs : List Int} {n : Nat} (hn : xs.length = n) (h : ∀ j, j < n → okI m (xs.getD j 0) = true) : okL m xs = true := by
  unfold okL
  rw [List.all_eq_true]
  intro x hx
  obtain ⟨j, hj, rfl⟩ := List.getElem_of_mem hx
  have := h j (by omega)
  simpa [hj] using this
theorem okL_not {m : Int} {xs : List Int} {n : Nat} (hn : xs.length = n) {j : Nat} (hj : j < n) (h : okI m (xs.getD j 0) = false) : okL m xs = false := by
  cases e : okL m xs with
  | false => rfl
  | true =>
    unfold okL at e
    rw [List.all_eq_true] at e
    have := e (xs[j]'(by omega)) (List.getElem_mem _)
    simp only [List.getD_eq_getElem?_getD, List.getElem?_eq_getElem (show j < xs.length by omega), Option.getD_some] at h
    rw [this] at h
    cases h
theorem okL_at {m : Int} {xs : List Int} {n : Nat} (hn : xs.length = n) (h : okL m xs = true) {j : Nat} (hj : j < n) : okI m (xs.getD j 0) = true := by
  cases e : okI m (xs.getD j 0) with
  | true => rfl
  | false => rw [okL_not hn hj e] at h; cases h
set_option maxHeartbeats 400000 in
theorem within1_calls (x m : Int) (b : Nat) (w : World) (hm : 0 ≤ m) (hm' : m ≤ 1000000) (hb : Blk w b #[.int .i64 m] 2) :
    Calls Try.prog 33 #[.int .i64 x, .pointer (some ⟨b, 0, none⟩)] w fun e w' => e = .returned (.bool (!okI m x)) ∧ w' = w := by
  have cb := hb.one
  clear hb
  by_cases h1 : x < -m
  · have e : okI m x = false := by simp [okI]; omega
    rw [e]; clear e
    go_enter Try.func33, Try.ntmps33
    go_wp2_with fail
    go_ret
    exact ⟨rfl, rfl⟩
  · by_cases h2 : m < x
    · have e : okI m x = false := by simp [okI]; omega
      rw [e]; clear e
      go_enter Try.func33, Try.ntmps33
      go_wp2_with fail
      go_ret
      exact ⟨by simp, rfl⟩
    · have e : okI m x = true := by simp [okI]; omega
      rw [e]; clear e
      go_enter Try.func33, Try.ntmps33
      go_wp2_with fail
      go_ret
      exact ⟨by simp, rfl⟩
set_option maxHeartbeats 1000000 in
theorem index_calls (A : Option Addr) (xs : List Int) (n c : Nat) (m : Int) (b : Nat) (w : World) (hn : xs.length = n) (hn' : n ≤ 1000000) (hr : Rd w A xs) (hm : 0 ≤ m) (hm' : m ≤ 1000000) (hb : Blk w b #[.int .i64 m] 2) :
    Calls Try.prog 35 #[.slice A n c, .func (.func 33) #[] #[.pointer (some ⟨b, 0, none⟩)]] w fun e w' => (∃ i : Int, e = .returned (.int .i64 i) ∧ okL m xs = decide (i < 0) ∧ i < 2000000) ∧ w' = w := by
  have HN := Lib.hid hn
  have HR := Lib.hid hr
  have HB := Lib.hid hb
  clear hn hr hb
  go_enter Try.func35, Try.ntmps35
  go_wp2_with fail
  go_loopw [8] (fun i wr => ∃ k : Nat, k ≤ n ∧ i = .int .i64 k ∧ wr = w ∧ Hid (∀ j, j < k → okI m (xs.getD j 0) = true)) (fun i _ => n - (intOf i).toNat)
  case atStart => exact ⟨0, Nat.zero_le _, rfl, rfl, Lib.hid (fun j hj => by omega)⟩
  case round =>
    obtain ⟨k, hk, rfl, rfl, HS⟩ := hrel
    by_cases hlt : k < n
    · obtain ⟨a, rfl, hca⟩ := HR.out k (by rw [HN.out]; exact hlt)
      obtain ⟨q, hq⟩ : ∃ q, q = xs.getD k 0 := ⟨_, rfl⟩
      rw [← hq] at hca
      have HQ := Lib.hid hq
      clear hq
      go_wp2_with fail
      refine (within1_calls _ _ _ _ hm hm' HB.out).mono ?_
      rintro e w' ⟨rfl, rfl⟩
      cases ho : okI m q with
      | false =>
        have HO := Lib.hid ho
        clear ho
        go_wp2_with fail
        go_ret
        exact ⟨⟨_, rfl, by rw [okL_not HN.out hlt (by rw [← HQ.out]; exact HO.out)]; simp, by omega⟩, by trivial⟩
      | true =>
        have HO := Lib.hid ho
        clear ho
        go_wp2_with fail
        go_roundw
        case rel => exact ⟨k + 1, by omega, by go_num, by trivial, Lib.hid (fun j hj => by
          by_cases hjk : j < k
          · exact HS.out j hjk
          · obtain rfl : j = k := by omega
            rw [← HQ.out]; exact HO.out)⟩
        case measure => simp [intOf]; omega
    · go_wp2
      go_ret
      obtain rfl : k = n := by omega
      exact ⟨⟨_, rfl, by rw [okL_of HN.out HS.out]; simp, by omega⟩, rfl⟩
set_option maxHeartbeats 400000 in
theorem contains_calls (A : Option Addr) (xs : List Int) (n c : Nat) (m : Int) (b : Nat) (w : World) (hn : xs.length = n) (hn' : n ≤ 1000000) (hr : Rd w A xs) (hm : 0 ≤ m) (hm' : m ≤ 1000000) (hb : Blk w b #[.int .i64 m] 2) :
    Calls Try.prog 32 #[.slice A n c, .func (.func 33) #[] #[.pointer (some ⟨b, 0, none⟩)]] w fun e w' => e = .returned (.bool (!okL m xs)) ∧ w' = w := by
  have HN := Lib.hid hn
  have HR := Lib.hid hr
  have HB := Lib.hid hb
  clear hn hr hb
  go_enter Try.func32, Try.ntmps32
  go_wp2_with fail
  refine (index_calls _ _ _ _ _ _ _ HN.out hn' HR.out hm hm' HB.out).mono ?_
  rintro e w' ⟨⟨i, rfl, h1, h2⟩, rfl⟩
  have H1 := Lib.hid h1
  clear h1
  go_wp2_with fail
  go_ret
  refine ⟨?_, rfl⟩
  rw [H1.out]
  by_cases hi : i < 0 <;> simp [hi] <;> omega
set_option maxHeartbeats 400000 in
theorem within_calls (A : Option Addr) (xs : List Int) (n c : Nat) (m : Int) (w : World) (hn : xs.length = n) (hn' : n ≤ 1000000) (hr : Rd w A xs) (hm : 0 ≤ m) (hm' : m ≤ 1000000) :
    Calls Try.prog 24 #[.slice A n c, .int .i64 m] w fun e w' => e = .returned (.bool (okL m xs)) ∧ Keep [] w w' := by
  have HN := Lib.hid hn
  have HR := Lib.hid (hr.keep (Keep.alloc [] w (.cells #[.int .i64 m] 2)) (by simp))
  have HB := Lib.hid (Blk.new w #[.int .i64 m] 2)
  have HK := Lib.hid (Keep.alloc [] w (.cells #[.int .i64 m] 2))
  clear hn hr
  go_enter Try.func24, Try.ntmps24
  go_wp2_with fail
  refine (contains_calls _ _ _ _ _ _ _ HN.out hn' HR.out hm hm' HB.out).mono ?_
  rintro e w' ⟨rfl, rfl⟩
  go_wp2_with fail
  go_ret
  exact ⟨by simp, HK.out⟩
end Go.Proofs.Ytjhgbcgpkpahjaa
