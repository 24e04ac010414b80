/- A slice of bytes among a row's arguments; the row of TocTimes. -/
import Derived.Test.YtmnknegbbmjcbaaT18
import Derived.Test.YtmnknegbbmjcbaaT14
import Derived.SizedLaws
import Derived.ChangeSlices
namespace Go.Proofs.Ytmnknegbbmjcbaa
open Go.RowKit Go.ChangeShapes Go.WideShapes

theorem sized_ints {H : Type} {enc : TypeId × Value → H} {P : Program} {W : World} {base : Nat} {spare : Nat → Bool} {held : Bool} {t e : TypeId} {k : IntKind} {a : Option Addr} {len cap : Nat} {d : DataW H} {ps : List MemPlace} {ts : List TypeId} {ds : List (DataW H)} {j : Nat}
    (hsz : (DataW.weightsEach P ts ds).all (· ≤ reachBytes) = true) (ht : ts[j]? = some t) (hd : ds[j]? = some d) (hu : P.underlying t = some (.slice e)) (he : P.underlying e = some (.int k)) (hc : P.cellsOf e = 1) {B : Nat} (hB : P.bytesOf e = B)
    (h : DataW.Trod enc P W base spare held t (.slice a len cap) d ps) : len * B ≤ 140737488351232 := by
  obtain ⟨fuel, hf⟩ := h
  rcases open_ints hu he hc hf with ⟨hcs, _⟩ | ⟨x, l, c, zs, hcs, _, hl, _, hz, hx, _, _⟩
  · simp [Value.cells] at hcs
    obtain ⟨rfl, rfl, rfl⟩ := hcs
    simp
  · simp [Value.cells] at hcs
    obtain ⟨rfl, rfl, rfl⟩ := hcs
    obtain ⟨hx, _⟩ := Prod.mk.inj hx
    subst hx
    have z := sized_slice hsz ht hd hu
    rw [hB] at z
    have hl2 : len ≤ zs.length := by
      rw [hz]
      split
      · exact hl
      · exact Nat.le_refl _
    have h1 : (lits (H := H) k (zs.take len)).length + (lits (H := H) k (zs.drop len)).length = zs.length := by
      simp [lits]
      omega
    rw [h1] at z
    exact Nat.le_trans (Nat.mul_le_mul_right _ hl2) z
/-- What the opening of a slice of whole numbers gives. -/
def IsRow (k : IntKind) (w : World) (a : Option Addr) (len cap : Nat) (zs : List Int) : Prop :=
  (a = none ∧ len = 0 ∧ cap = 0 ∧ zs = []) ∨
  ∃ x, a = some x ∧ len ≤ cap ∧ cap ≤ maxLen ∧ zs.length = cap ∧ (∀ i, i < zs.length → w.cell? (x.add i) = some (.int k (zs.getD i 0))) ∧ ∀ n ∈ zs, (Lit.int k n).wf = true
theorem wf_u8 {n : Int} (h : (Lit.int .u8 n).wf = true) : 0 ≤ n ∧ n ≤ 255 := by
  simp [Lit.wf, IntKind.min, IntKind.max, IntKind.signed, IntKind.bits] at h
  omega
theorem IsRow.argB {w : World} {a : Option Addr} {len cap : Nat} {zs : List Int} (h : IsRow .u8 w a len cap zs) (hb : len * 1 ≤ 140737488351232) : ArgB w a len cap (zs.take len) := by
  rcases h with ⟨rfl, rfl, rfl, rfl⟩ | ⟨x, rfl, h1, h2, h3, h4, h5⟩
  · exact argB_nil w
  · have hl : (zs.take len).length = len := by simp; omega
    have hr : RdV w (some x) (bytes (zs.take len)) := fun i v hv => by
      have hi := (List.getElem?_eq_some_iff.1 hv).1
      rw [bytes_length, hl] at hi
      rw [bytes_get _ i (by omega)] at hv
      refine ⟨x, rfl, ?_⟩
      rw [h4 i (by omega), ← hv]
      simp [hi]
    refine ⟨hl, h1, by unfold maxLen at h2; omega, hr, (fun h => by cases h), fun y hy h0 => ?_, fun z hz => wf_u8 (h5 z (List.mem_of_mem_take hz)), by omega⟩
    cases hy
    exact hr.block_lt (by rw [bytes_length]; omega)
theorem times_row' (A : Option Addr) (n c : Nat) (zs : List Int) (w : World) (h : IsRow .u8 w A n c zs) (y : n * 1 ≤ 140737488351232) :
    Calls Try.prog 9 #[.slice A n c] w fun e w' => e = .returned (.bool true) ∧ Below w.heap.size w w' := times_row A n c _ w (h.argB y)
end Go.Proofs.Ytmnknegbbmjcbaa
