/- Slices of whole numbers that a call makes: make, and a literal; a map over a list that carries a state. -/
import Derived.Test.YtjhgbcgpkpahjaaK0
namespace Go.Proofs.Ytjhgbcgpkpahjaa
open Go.RowKit

theorem infoInt64 : (Try.prog.info? 2).map (fun i => (i.zero, i.size, i.bytes)) = some (some (.int .i64 0), 1, 8) := by kernel_rfl
theorem made_ints (n : Nat) : madeCells #[Value.int .i64 0] n = (ints (List.replicate n 0)).toArray := by
  apply Array.ext'
  rw [toList_madeCells_one]
  simp [ints]
/-- 'make([]int64, n)'. -/
theorem make_ints (n : Nat) (hn : n ≤ 1000000) (W : World) :
    (Instr.makeSlice 25 (.int .i64 (n : Int)) (.int .i64 (n : Int))).run Try.prog W = .ok (.slice (some ⟨W.heap.size, 0, none⟩) n n) (W.alloc (.cells (ints (List.replicate n 0)).toArray 2)) := by
  obtain ⟨i, hi, hz, hs, hb⟩ := info_parts infoInt64
  have h := run_make (P := Try.prog) W 25 2 i (.int .i64 0) Try.underlying25 hi hz .i64 .i64 n n (by omega) (by omega) (by rw [hb]; omega) (by omega)
  rw [h, hs]
  simp only [Int.toNat_natCast, Nat.mul_one]
  rw [show (Value.int IntKind.i64 0).cells = #[Value.int .i64 0] from rfl, made_ints]

/-- A map over a list that carries a state. -/
def mapS {σ : Type} (f : σ → Int → Int × σ) : σ → List Int → List Int × σ
  | s, [] => ([], s)
  | s, x :: xs => ((f s x).1 :: (mapS f (f s x).2 xs).1, (mapS f (f s x).2 xs).2)
theorem mapS_append {σ : Type} (f : σ → Int → Int × σ) (xs ys : List Int) : ∀ s, mapS f s (xs ++ ys) = ((mapS f s xs).1 ++ (mapS f (mapS f s xs).2 ys).1, (mapS f (mapS f s xs).2 ys).2) := by
  induction xs with
  | nil => intro s; simp [mapS]
  | cons x xs ih => intro s; simp [mapS, ih]
theorem mapS_length {σ : Type} (f : σ → Int → Int × σ) (xs : List Int) : ∀ s, (mapS f s xs).1.length = xs.length := by
  induction xs with
  | nil => intro s; rfl
  | cons x xs ih => intro s; simp [mapS, ih]
theorem mapS_take {σ : Type} (f : σ → Int → Int × σ) (s : σ) (xs : List Int) (k : Nat) (h : k < xs.length) :
    mapS f s (xs.take (k + 1)) = ((mapS f s (xs.take k)).1 ++ [(f (mapS f s (xs.take k)).2 (xs.getD k 0)).1], (f (mapS f s (xs.take k)).2 (xs.getD k 0)).2) := by
  rw [List.take_succ_eq_append_getElem h, mapS_append]
  have e : xs.getD k 0 = xs[k] := by simp [h]
  rw [e]
  simp [mapS]

/-- One more cell of a row that is being filled. -/
theorem fill_row (ys : List Int) (y : Int) (n k : Nat) (hy : ys.length = k) (hk : k < n) :
    (ints (ys ++ List.replicate (n - k) 0)).toArray.setIfInBounds k (.int .i64 y) = (ints (ys ++ [y] ++ List.replicate (n - (k + 1)) 0)).toArray := by
  apply Array.ext'
  obtain ⟨m, rfl⟩ : ∃ m, n = k + (m + 1) := ⟨n - k - 1, by omega⟩
  subst hy
  have e1 : ys.length + (m + 1) - ys.length = m + 1 := by omega
  have e2 : ys.length + (m + 1) - (ys.length + 1) = m := by omega
  rw [e1, e2, List.replicate_succ]
  simp [ints]
end Go.Proofs.Ytjhgbcgpkpahjaa
