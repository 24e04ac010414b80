/- A slice of whole numbers among a row's arguments: what it reads as, and how long it may be. -/
import Derived.Test.YtjhgbcgpkpahjaaK0
import Derived.SizedLaws
import Derived.ChangeSlices
namespace Go.Proofs.Ytjhgbcgpkpahjaa
open Go.ChangeShapes Go.WideShapes

theorem sized_ints {H : Type} {enc : TypeId × Value → H} {P : Program} {W : World} {base : Nat} {spare : Nat → Bool} {held : Bool} {t e : TypeId} {k : IntKind} {a : Option Addr} {len cap : Nat} {d : DataW H} {ps : List MemPlace} {ts : List TypeId} {ds : List (DataW H)} {j : Nat}
    (hsz : (DataW.weightsEach P ts ds).all (· ≤ reachBytes) = true) (ht : ts[j]? = some t) (hd : ds[j]? = some d) (hu : P.underlying t = some (.slice e)) (he : P.underlying e = some (.int k)) (hc : P.cellsOf e = 1) {B : Nat} (hB : P.bytesOf e = B)
    (h : DataW.Trod enc P W base spare held t (.slice a len cap) d ps) : len * B ≤ 140737488351232 := by
  obtain ⟨fuel, hf⟩ := h
  rcases open_ints hu he hc hf with ⟨hcs, _⟩ | ⟨x, l, c, zs, hcs, _, hl, _, hz, hx, _, _⟩
  · simp [Value.cells] at hcs
    obtain ⟨rfl, rfl, rfl⟩ := hcs
    simp
  · simp [Value.cells] at hcs
    obtain ⟨rfl, rfl, rfl⟩ := hcs
    obtain ⟨hx, _⟩ := Prod.mk.inj hx
    subst hx
    have z := sized_slice hsz ht hd hu
    rw [hB] at z
    have hl2 : len ≤ zs.length := by
      rw [hz]
      split
      · exact hl
      · exact Nat.le_refl _
    have h1 : (lits (H := H) k (zs.take len)).length + (lits (H := H) k (zs.drop len)).length = zs.length := by
      simp [lits]
      omega
    rw [h1] at z
    exact Nat.le_trans (Nat.mul_le_mul_right _ hl2) z
/-- What the opening of a slice of whole numbers gives. -/
def IsRow (k : IntKind) (w : World) (a : Option Addr) (len cap : Nat) (zs : List Int) : Prop :=
  (a = none ∧ len = 0 ∧ cap = 0 ∧ zs = []) ∨
  ∃ x, a = some x ∧ len ≤ cap ∧ cap ≤ maxLen ∧ zs.length = cap ∧ (∀ i, i < zs.length → w.cell? (x.add i) = some (.int k (zs.getD i 0))) ∧ ∀ n ∈ zs, (Lit.int k n).wf = true
/-- A slice of int64 that came in: the list that it reads as. -/
structure ArgI (w : World) (a : Option Addr) (len cap : Nat) (xs : List Int) : Prop where
  ln : xs.length = len
  cp : len ≤ cap
  most : cap ≤ 9223372036854775807
  reads : Rd w a xs
  nil : a = none → len = 0
  old : ∀ x, a = some x → 0 < len → x.block < w.heap.size
theorem IsRow.arg {w : World} {a : Option Addr} {len cap : Nat} {zs : List Int} (h : IsRow .i64 w a len cap zs) : ArgI w a len cap (zs.take len) := by
  rcases h with ⟨rfl, rfl, rfl, rfl⟩ | ⟨x, rfl, h1, h2, h3, h4, _⟩
  · exact ⟨by simp, by simp, by simp, by simpa using Rd.nil _ _, fun _ => rfl, fun x h => by cases h⟩
  · have hr : Rd w (some x) (zs.take len) := fun i hi => by
      simp only [List.length_take] at hi
      exact ⟨x, rfl, by rw [h4 i (by omega)]; simp [show i < len by omega]⟩
    refine ⟨by simp; omega, h1, by unfold maxLen at h2; omega, hr, (fun h => by cases h), fun y hy hl => ?_⟩
    cases hy
    exact hr.block_lt (by simp; omega)
/-- 'xs[m:]' of a slice of int64, without a case on the capacity: the address is a letter. -/
theorem cut_from (A : Option Addr) (n c m : Nat) (hm : m ≤ n) (hnc : n ≤ c) :
    ∃ A' : Option Addr, (∀ W : World, (Instr.slice 25 (.slice A n c) (some (.int .i64 (m : Int))) none none).run Try.prog W = .ok (.slice A' (n - m) (c - m)) W) ∧
      (∀ (w : World) (xs : List Int), xs.length = n → Rd w A xs → Rd w A' (xs.drop m)) ∧ (∀ a', A' = some a' → ∃ a, A = some a ∧ a'.block = a.block) ∧ (A' = none → A = none) := by
  have hsz : (Try.prog.info? 2).map (·.size) = some 1 := by kernel_rfl
  obtain ⟨i, hi, hs⟩ := Option.map_eq_some_iff.1 hsz
  refine ⟨if c = m then A else A.map (·.add m), fun W => ?_, ?_, ?_, ?_⟩
  · have hel : Try.prog.elem 25 = 2 := by simp [Program.elem, Try.underlying25]
    have hu : Try.prog.underlying 25 = some (.slice (Try.prog.elem 25)) := by rw [hel]; exact Try.underlying25
    rw [run_slice_l W 25 A n c hu .i64 (m : Int) (Int.natCast_nonneg _) (by omega), hel]
    simp [sizeOf, typeInfo, hi, hs, sliced, Result.andThen]
  · intro w xs hx h
    split
    · have : xs.drop m = [] := List.drop_of_length_le (by omega)
      rw [this]
      exact Rd.nil _ _
    · exact h.drop m
  · intro a' h
    split at h
    · exact ⟨a', h, rfl⟩
    · obtain ⟨a, ha, rfl⟩ := Option.map_eq_some_iff.1 h
      exact ⟨a, ha, add_block a m⟩
  · intro h
    split at h
    · exact h
    · simpa using h
end Go.Proofs.Ytjhgbcgpkpahjaa
