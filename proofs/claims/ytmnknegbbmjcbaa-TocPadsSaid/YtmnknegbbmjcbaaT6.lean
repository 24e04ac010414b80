/- Frames that are read; slices.IndexFunc and ContainsFunc over frames. -/
import Derived.Test.YtmnknegbbmjcbaaT5
namespace Go.Proofs.Ytmnknegbbmjcbaa
open Go.RowKit

/-- Frames that can be read. -/
structure FrR (w : World) (A : Option Addr) (n c : Nat) (L : List (List Int)) : Prop where
  ln : L.length = n
  cp : n ≤ c
  most : c ≤ 9223372036854775807
  nil : A = none → n = 0
  at_ : ∀ (i : Nat) (l : List Int), L[i]? = some l → ∃ a X d, A = some a ∧ w.cell? (a.add i) = some (.slice X l.length d) ∧ ArgB w X l.length d l
theorem FrR.keep0 {w w' : World} {A : Option Addr} {n c : Nat} {L : List (List Int)} (h : FrR w A n c L) (k : Keep [] w w') : FrR w' A n c L :=
  ⟨h.ln, h.cp, h.most, h.nil, fun i l hl => by
    obtain ⟨a, X, d, h1, h2, h3⟩ := h.at_ i l hl
    exact ⟨a, X, d, h1, k.cell h2 (by simp), h3.keep0 k⟩⟩
theorem FrR.empty (w : World) : FrR w none 0 0 [] := ⟨rfl, Nat.le_refl _, by omega, fun _ => rfl, fun i l hl => by simp at hl⟩
/-- Bytes, and not beyond what a slice may be. -/
def Fit (L : List (List Int)) : Prop := ∀ l ∈ L, (∀ x ∈ l, 0 ≤ x ∧ x ≤ 255) ∧ l.length ≤ 140737488355328
theorem Frs.reads {B : Nat} {w : World} {v : Value} {L : List (List Int)} (h : Frs B w v L) (hf : Fit L) : ∃ A c, v = .slice A L.length c ∧ FrR w A L.length c L := by
  obtain ⟨⟨vs, h1, h2, h3⟩, _⟩ := h
  obtain ⟨A, c, hv, hc, hm, hr, hn, _⟩ := h1.reads
  rw [h2] at hv hc hn
  refine ⟨A, c, hv, rfl, hc, hm, hn, fun i l hl => ?_⟩
  have hi : i < vs.length := by
    rw [h2]
    exact (List.getElem?_eq_some_iff.1 hl).1
  obtain ⟨a, ha, hca⟩ := hr i vs[i] (List.getElem?_eq_getElem hi)
  obtain ⟨hm2, _⟩ := h3 i vs[i] l (List.getElem?_eq_getElem hi) hl
  obtain ⟨hr1, hr2⟩ := hf l (List.mem_of_getElem? hl)
  obtain ⟨X, d, hx, hax⟩ := hm2.argB hr1 hr2
  exact ⟨a, X, d, ha, by rw [hca, hx], hax⟩
def anyL (P : Nat → Bool) (L : List (List Int)) : Bool := L.any fun l => P l.length
theorem anyL_false {P : Nat → Bool} {L : List (List Int)} {n : Nat} (hn : L.length = n) (h : ∀ i l, i < n → L[i]? = some l → P l.length = false) : anyL P L = false := by
  unfold anyL
  rw [List.any_eq_false]
  intro l hl
  obtain ⟨i, hi, e⟩ := List.getElem_of_mem hl
  rw [h i l (by omega) (by rw [List.getElem?_eq_getElem hi, e])]
  simp
theorem anyL_true {P : Nat → Bool} {L : List (List Int)} {i : Nat} {l : List Int} (h : L[i]? = some l) (hp : P l.length = true) : anyL P L = true := by
  unfold anyL
  rw [List.any_eq_true]
  exact ⟨l, List.mem_of_getElem? h, hp⟩
set_option maxHeartbeats 1000000
theorem long_calls (A : Option Addr) (n c : Nat) (w : World) : Calls Try.prog 29 #[.slice A n c] w fun e w' => e = .returned (.bool (decide (1275 < n))) ∧ w = w' := by
  go_enter Try.func29, Try.ntmps29
  go_wp2_with fail
  go_ret
  refine ⟨?_, rfl⟩
  by_cases h : 1275 < n <;> simp [h] <;> omega
theorem indexLong (A : Option Addr) (n c : Nat) (L : List (List Int)) (w : World) (h : FrR w A n c L) :
    Calls Try.prog 39 #[.slice A n c, .func (.func 29) #[] #[]] w fun e w' => (∃ i : Int, e = .returned (.int .i64 i) ∧ anyL (fun n => decide (1275 < n)) L = decide (0 ≤ i)) ∧ w = w' := by
  have H := Lib.hid h
  have hn := h.ln
  have hcp := h.cp
  have hmo := h.most
  clear h
  have HN := Lib.hid hn
  clear hn
  go_enter Try.func39, Try.ntmps39
  go_wp2_with fail
  go_loopw [8] (fun i wr => ∃ k : Nat, k ≤ n ∧ i = .int .i64 k ∧ wr = w ∧ Hid (∀ j l, j < k → L[j]? = some l → ((fun n => decide (1275 < n)) : Nat → Bool) l.length = false)) (fun i _ => n - (intOf i).toNat)
  case atStart => exact ⟨0, Nat.zero_le _, rfl, rfl, Lib.hid (fun j l hj => by omega)⟩
  case round =>
    obtain ⟨k, hk, rfl, rfl, HS⟩ := hrel
    by_cases hlt : k < n
    · obtain ⟨l, hl⟩ : ∃ l, L[k]? = some l := ⟨_, List.getElem?_eq_getElem (by rw [HN.out]; exact hlt)⟩
      obtain ⟨a, X, d, rfl, hca, _⟩ := H.out.at_ k l hl
      have HL := Lib.hid hl
      obtain ⟨q, hq⟩ : ∃ q, q = l.length := ⟨_, rfl⟩
      rw [← hq] at hca
      have HQ := Lib.hid hq
      clear hq hl
      go_wp2_with fail
      refine (long_calls X q d _).mono ?_
      rintro e w' ⟨rfl, rfl⟩
      cases ho : ((fun n => decide (1275 < n)) : Nat → Bool) q with
      | true =>
        have HO := Lib.hid ho
        clear ho
        have ho' : decide (1275 < q) = true := by have := HO.out; simpa using this
        go_wp2_with fail
        go_ret
        exact ⟨⟨_, rfl, by rw [anyL_true HL.out (by rw [← HQ.out]; exact HO.out)]; simp⟩, by trivial⟩
      | false =>
        have HO := Lib.hid ho
        clear ho
        have ho' : decide (1275 < q) = false := by have := HO.out; simpa using this
        go_wp2_with fail
        go_roundw
        case rel => exact ⟨k + 1, by omega, by go_num, by trivial, Lib.hid (fun j l' hj hl' => by
          by_cases hjk : j < k
          · exact HS.out j l' hjk hl'
          · obtain rfl : j = k := by omega
            have e := HL.out.symm.trans hl'
            simp only [Option.some.injEq] at e
            subst e
            rw [← HQ.out]; exact HO.out)⟩
        case measure => simp [intOf]; omega
    · go_wp2
      go_ret
      obtain rfl : k = n := by omega
      exact ⟨⟨_, rfl, by rw [anyL_false HN.out HS.out]; simp⟩, rfl⟩
theorem containsLong (A : Option Addr) (n c : Nat) (L : List (List Int)) (w : World) (h : FrR w A n c L) :
    Calls Try.prog 28 #[.slice A n c, .func (.func 29) #[] #[]] w fun e w' => e = .returned (.bool (anyL (fun n => decide (1275 < n)) L)) ∧ w = w' := by
  have H := Lib.hid h
  clear h
  go_enter Try.func28, Try.ntmps28
  go_wp2_with fail
  refine (indexLong A n c L w H.out).mono ?_
  rintro e w' ⟨⟨i, rfl, h1⟩, rfl⟩
  have H1 := Lib.hid h1
  clear h1
  go_wp2_with fail
  go_ret
  refine ⟨?_, rfl⟩
  rw [H1.out]
  rfl
end Go.Proofs.Ytmnknegbbmjcbaa
