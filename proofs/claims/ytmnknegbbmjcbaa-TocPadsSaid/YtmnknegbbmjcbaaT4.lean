/- toc's many: what it computes. -/
import Derived.Test.YtmnknegbbmjcbaaT3
namespace Go.Proofs.Ytmnknegbbmjcbaa
open Go.RowKit

theorem and63 {x : Int} (h0 : 0 ≤ x) (h1 : x ≤ 255) : bits .and .i64 x 63 = x % 64 := by
  have : ∀ y : Fin 256, bits .and .i64 ((y.1 : Nat) : Int) 63 = ((y.1 : Nat) : Int) % 64 := by decide +kernel
  have h := this ⟨x.toNat, by omega⟩
  simpa [Int.toNat_of_nonneg h0] using h
theorem and64 {x : Int} (h0 : 0 ≤ x) (h1 : x ≤ 255) : bits .and .i64 x 64 = if (x / 64) % 2 = 1 then 64 else 0 := by
  have : ∀ y : Fin 256, bits .and .i64 ((y.1 : Nat) : Int) 64 = if (((y.1 : Nat) : Int) / 64) % 2 = 1 then 64 else 0 := by decide +kernel
  have h := this ⟨x.toNat, by omega⟩
  simpa [Int.toNat_of_nonneg h0] using h
theorem and128 {x : Int} (h0 : 0 ≤ x) (h1 : x ≤ 255) : bits .and .i64 x 128 = if x < 128 then 0 else 128 := by
  have : ∀ y : Fin 256, bits .and .i64 ((y.1 : Nat) : Int) 128 = if ((y.1 : Nat) : Int) < 128 then 0 else 128 := by decide +kernel
  have h := this ⟨x.toNat, by omega⟩
  simpa [Int.toNat_of_nonneg h0] using h
def padM : List Int → Nat × List Int × Bool
  | [] => (0, [], true)
  | x :: xs => if x = 255 then (254 + (padM xs).1, (padM xs).2) else (x.toNat, xs, false)
def lensM (xs : List Int) (b : Bool) : Nat → List Int × List Int × Bool
  | 0 => ([], xs, b)
  | k + 1 => ((lensM xs b k).1 ++ [(lenM (lensM xs b k).2.1 (lensM xs b k).2.2).1], (lenM (lensM xs b k).2.1 (lensM xs b k).2.2).2)
def frsM (xs : List Int) (b : Bool) (ls : List Int) : Nat → List (List Int) × List Int × Bool
  | 0 => ([], xs, b)
  | k + 1 => ((frsM xs b ls k).1 ++ [(frameM (ls.getD k 0).toNat (frsM xs b ls k).2.1 (frsM xs b ls k).2.2).1], (frameM (ls.getD k 0).toNat (frsM xs b ls k).2.1 (frsM xs b ls k).2.2).2)
theorem lensM_length (xs : List Int) (b : Bool) (k : Nat) : (lensM xs b k).1.length = k := by
  induction k with
  | zero => rfl
  | succ k ih => simp [lensM, ih]
theorem frsM_length (xs : List Int) (b : Bool) (ls : List Int) (k : Nat) : (frsM xs b ls k).1.length = k := by
  induction k with
  | zero => rfl
  | succ k ih => simp [frsM, ih]
/-- What the unlike frames of code 3 are. -/
def unlikeM (zs : List Int) (m : Nat) : List (List Int) × List Int × Bool :=
  ((frsM (lensM zs false (m - 1)).2.1 (lensM zs false (m - 1)).2.2 (lensM zs false (m - 1)).1 (m - 1)).1 ++ [(frsM (lensM zs false (m - 1)).2.1 (lensM zs false (m - 1)).2.2 (lensM zs false (m - 1)).1 (m - 1)).2.1],
    [], (frsM (lensM zs false (m - 1)).2.1 (lensM zs false (m - 1)).2.2 (lensM zs false (m - 1)).1 (m - 1)).2.2)
/-- Behind the padding. -/
def restM (x : Int) (m : Nat) (q : Nat × List Int × Bool) : (List (List Int) × Nat) × List Int × Bool :=
  if q.2.2 = true ∨ q.2.1.length < q.1 then (([], 0), q.2.1, true) else
  if x < 128 then (((equalM m (q.2.1.take (q.2.1.length - q.1)) false).1, q.1), (equalM m (q.2.1.take (q.2.1.length - q.1)) false).2)
  else (((unlikeM (q.2.1.take (q.2.1.length - q.1)) m).1, q.1), (unlikeM (q.2.1.take (q.2.1.length - q.1)) m).2)
def manyM (ms : Int) (xs : List Int) : (List (List Int) × Nat) × List Int × Bool :=
  if ((byteM xs false).1 % 64).toNat = 0 ∨ 120 < (((byteM xs false).1 % 64).toNat : Int) * ms then (([], 0), (byteM xs false).2.1, true) else
  restM (byteM xs false).1 ((byteM xs false).1 % 64).toNat (if ((byteM xs false).1 / 64) % 2 = 1 then padM (byteM xs false).2.1 else (0, (byteM xs false).2.1, false))
def RetM (t : TypeId) (w0 w : World) (g : Nat) (r : (List (List Int) × Nat) × List Int × Bool) (e : Ending) (w' : World) : Prop :=
  ∃ v, e = .returned (.tuple #[v, .int .i64 r.1.2]) ∧ Frs w.heap.size w' v r.1.1 ∧ Rdr t w0 w' g r.2.1 r.2.2 ∧ Keep [g] w w'
theorem lenM_rng {t : TypeId} {w0 w : World} {g : Nat} {xs : List Int} {bad : Bool} (h : Rdr t w0 w g xs bad) (h' : Rdr t w0 w g (byteM xs bad).2.1 (byteM xs bad).2.2) : 0 ≤ (lenM xs bad).1 ∧ (lenM xs bad).1 ≤ 1275 := by
  have h1 := byteM_rng h
  have h2 := byteM_rng h'
  unfold lenM
  split
  · dsimp only
    omega
  · omega
/-- Within many: the lengths so far. -/
structure LnSt (t : TypeId) (w0 w wr : World) (g : Nat) (v : Value) (ls : List Int) (xs : List Int) (bad : Bool) : Prop where
  made : MadeV wr 3 v (ls.map (Value.int .i64))
  own : ∀ b, v.ownBlock = some b → w.heap.size ≤ b
  rdr : Rdr t w0 wr g xs bad
  kept : Keep [g] w wr
  rng : ∀ x ∈ ls, 0 ≤ x ∧ x ≤ 2000
theorem LnSt.took {t : TypeId} {w0 w wr w' : World} {g : Nat} {v : Value} {ls xs xs' : List Int} {bad bad' : Bool} (h : LnSt t w0 w wr g v ls xs bad) (h1 : 3 ≠ t) (hr : Rdr t w0 w' g xs' bad') (k : Keep [g] wr w') : LnSt t w0 w w' g v ls xs' bad' := by
  obtain ⟨cs, hb⟩ := h.rdr.blk
  exact ⟨h.made.keep k (fun b hb' => by simpa using h.made.ne hb h1 b hb'), h.own, hr, h.kept.trans k, h.rng⟩
theorem LnSt.app {t : TypeId} {w0 w wr w' : World} {g : Nat} {v v' : Value} {ls xs : List Int} {y : Int} {bad : Bool} (h : LnSt t w0 w wr g v ls xs bad) (h1 : 3 ≠ t) (hm : MadeV w' 3 v' (ls.map (Value.int .i64) ++ [.int .i64 y])) (k : Keep v.ownBlock.toList (wr.alloc (.cells #[.int .i64 y] 3)) w')
    (h3 : v'.ownBlock = v.ownBlock ∨ v'.ownBlock = some (wr.heap.size + 1)) (hg : w0.heap.size ≤ w.heap.size) (hy : 0 ≤ y ∧ y ≤ 2000) : LnSt t w0 w w' g v' (ls ++ [y]) xs bad := by
  have k0 := Keep.alloc [] wr (.cells #[.int .i64 y] 3)
  have hge : ∀ b ∈ v.ownBlock.toList, w.heap.size ≤ b := fun b hb => by
    simp only [Option.mem_toList] at hb
    exact h.own b hb
  have hno : g ∉ v.ownBlock.toList := fun hm => by
    simp only [Option.mem_toList] at hm
    obtain ⟨cs, hb⟩ := h.rdr.blk
    exact h.made.ne hb h1 g hm rfl
  have z := h.kept.size
  refine ⟨by rw [List.map_append]; exact hm, fun b hb => ?_, (h.rdr.keep0 k0).keep k hno (fun b hb => Nat.le_trans hg (hge b hb)), (h.kept.trans (k0.of0 _)).trans' k (by simp) (fun b hb => .inr (hge b hb)), fun x hx => ?_⟩
  · rcases h3 with e | e
    · exact h.own b (by rw [← e]; exact hb)
    · rw [hb] at e
      simp only [Option.some.injEq] at e
      omega
  · rcases List.mem_append.1 hx with hx | hx
    · exact h.rng x hx
    · simp only [List.mem_singleton] at hx
      subst hx
      exact hy
/-- Within many: the frames, while the lengths are read. -/
structure LfSt (t : TypeId) (w0 w wr : World) (g : Nat) (v : Value) (L : List (List Int)) (xs : List Int) (bad : Bool) (lv : Value) (ls : List Int) : Prop where
  st : EqSt t w0 w wr g v L xs bad
  lst : MadeV wr 3 lv (ls.map (Value.int .i64))
theorem LfSt.took {t : TypeId} {w0 w wr w' : World} {g : Nat} {v lv : Value} {L : List (List Int)} {ls xs xs' : List Int} {bad bad' : Bool} (h : LfSt t w0 w wr g v L xs bad lv ls) (h1 : t ≠ 29) (h2 : t ≠ 5) (h3 : 3 ≠ t) (hr : Rdr t w0 w' g xs' bad') (k : Keep [g] wr w') : LfSt t w0 w w' g v L xs' bad' lv ls := by
  obtain ⟨cs, hb⟩ := h.st.rdr.blk
  exact ⟨h.st.took h1 h2 hr k, h.lst.keep k (fun b hb' => by simpa using h.lst.ne hb h3 b hb')⟩
theorem LfSt.app {t : TypeId} {w0 w wr w' : World} {g : Nat} {v v' x lv : Value} {L : List (List Int)} {l xs ls : List Int} {bad : Bool} (h : LfSt t w0 w wr g v L xs bad lv ls) (h1 : t ≠ 29) (hf : Frs w.heap.size w' v' (L ++ [l])) (k : Keep v.ownBlock.toList (wr.alloc (.cells #[x] 29)) w') (hg : w0.heap.size ≤ w.heap.size) : LfSt t w0 w w' g v' (L ++ [l]) xs bad lv ls := by
  have k0 := Keep.alloc [] wr (.cells #[x] 29)
  refine ⟨h.st.app h1 hf k hg, (h.lst.keep0 k0).keep k (fun b hb hm => ?_)⟩
  simp only [Option.mem_toList] at hm
  obtain ⟨⟨vs, m1, _⟩, _⟩ := h.st.frs
  obtain ⟨cs, hb'⟩ := (m1.keep0 k0).typ b hm
  exact (h.lst.keep0 k0).ne hb' (by decide) b hb rfl
end Go.Proofs.Ytmnknegbbmjcbaa
