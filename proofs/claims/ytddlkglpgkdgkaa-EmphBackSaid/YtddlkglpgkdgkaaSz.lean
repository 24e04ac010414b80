/- A slice of whole numbers among a row's arguments: what it reads as, and how long it may be. -/
import Derived.Test.YtddlkglpgkdgkaaK0
import Derived.SizedLaws
import Derived.ChangeSlices
namespace Go.Proofs.Ytddlkglpgkdgkaa
open Go.ChangeShapes Go.WideShapes

theorem sized_ints {H : Type} {enc : TypeId × Value → H} {P : Program} {W : World} {base : Nat} {spare : Nat → Bool} {held : Bool} {t e : TypeId} {k : IntKind} {a : Option Addr} {len cap : Nat} {d : DataW H} {ps : List MemPlace} {ts : List TypeId} {ds : List (DataW H)} {j : Nat}
    (hsz : (DataW.weightsEach P ts ds).all (· ≤ reachBytes) = true) (ht : ts[j]? = some t) (hd : ds[j]? = some d) (hu : P.underlying t = some (.slice e)) (he : P.underlying e = some (.int k)) (hc : P.cellsOf e = 1) {B : Nat} (hB : P.bytesOf e = B)
    (h : DataW.Trod enc P W base spare held t (.slice a len cap) d ps) : len * B ≤ 140737488351232 := by
  obtain ⟨fuel, hf⟩ := h
  rcases open_ints hu he hc hf with ⟨hcs, _⟩ | ⟨x, l, c, zs, hcs, _, hl, _, hz, hx, _, _⟩
  · simp [Value.cells] at hcs
    obtain ⟨rfl, rfl, rfl⟩ := hcs
    simp
  · simp [Value.cells] at hcs
    obtain ⟨rfl, rfl, rfl⟩ := hcs
    obtain ⟨hx, _⟩ := Prod.mk.inj hx
    subst hx
    have z := sized_slice hsz ht hd hu
    rw [hB] at z
    have hl2 : len ≤ zs.length := by
      rw [hz]
      split
      · exact hl
      · exact Nat.le_refl _
    have h1 : (lits (H := H) k (zs.take len)).length + (lits (H := H) k (zs.drop len)).length = zs.length := by
      simp [lits]
      omega
    rw [h1] at z
    exact Nat.le_trans (Nat.mul_le_mul_right _ hl2) z
/-- What the opening of a slice of whole numbers gives. -/
def IsRow (k : IntKind) (w : World) (a : Option Addr) (len cap : Nat) (zs : List Int) : Prop :=
  (a = none ∧ len = 0 ∧ cap = 0 ∧ zs = []) ∨
  ∃ x, a = some x ∧ len ≤ cap ∧ cap ≤ maxLen ∧ zs.length = cap ∧ (∀ i, i < zs.length → w.cell? (x.add i) = some (.int k (zs.getD i 0))) ∧ ∀ n ∈ zs, (Lit.int k n).wf = true
/-- A slice of int64 that came in: the list that it reads as. -/
structure ArgI (w : World) (a : Option Addr) (len cap : Nat) (xs : List Int) : Prop where
  ln : xs.length = len
  cp : len ≤ cap
  most : cap ≤ 9223372036854775807
  reads : Rd w a xs
  nil : a = none → len = 0
  old : ∀ x, a = some x → 0 < len → x.block < w.heap.size
theorem IsRow.arg {w : World} {a : Option Addr} {len cap : Nat} {zs : List Int} (h : IsRow .i64 w a len cap zs) : ArgI w a len cap (zs.take len) := by
  rcases h with ⟨rfl, rfl, rfl, rfl⟩ | ⟨x, rfl, h1, h2, h3, h4, _⟩
  · exact ⟨by simp, by simp, by simp, by simpa using Rd.nil _ _, fun _ => rfl, fun x h => by cases h⟩
  · have hr : Rd w (some x) (zs.take len) := fun i hi => by
      simp only [List.length_take] at hi
      exact ⟨x, rfl, by rw [h4 i (by omega)]; simp [show i < len by omega]⟩
    refine ⟨by simp; omega, h1, by unfold maxLen at h2; omega, hr, (fun h => by cases h), fun y hy hl => ?_⟩
    cases hy
    exact hr.block_lt (by simp; omega)
end Go.Proofs.Ytddlkglpgkdgkaa
