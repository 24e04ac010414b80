/- toc.Parse. -/
import Derived.Test.YtmnknegbbmjcbaaT6
namespace Go.Proofs.Ytmnknegbbmjcbaa
open Go.RowKit

structure Pk where
  cfg : Nat
  ch : Int
  fr : List (List Int)
  pad : Nat
def foundM (r : List Int) (h : Int) : (List (List Int) × Nat) × List Int × Bool :=
  if h % 4 = 0 then (((equalM 1 r false).1, 0), (equalM 1 r false).2)
  else if h % 4 = 1 then (((equalM 2 r false).1, 0), (equalM 2 r false).2)
  else if h % 4 = 2 then (([(frameM (lenM r false).1.toNat (lenM r false).2.1 (lenM r false).2.2).1, (frameM (lenM r false).1.toNat (lenM r false).2.1 (lenM r false).2.2).2.1], 0), [], (frameM (lenM r false).1.toNat (lenM r false).2.1 (lenM r false).2.2).2.2)
  else manyM (msM (h / 8).toNat) r
def longL (L : List (List Int)) : Bool := anyL (fun n => decide (1275 < n)) L
def parseM : List Int → Option Pk
  | [] => none
  | h :: r =>
    if 12 ≤ h / 8 then none
    else if (foundM r h).2.2 = true ∨ longL (foundM r h).1.1 = true then none
    else some ⟨(h / 8).toNat, 1 + (h / 4) % 2, (foundM r h).1.1, (foundM r h).1.2⟩
def pkV (k : Int) (c : Int) (v : Value) (p : Int) : Value := .agg #[.int .i64 k, .int .i64 c, v, .int .i64 p]
def RetP (w : World) (r : Option Pk) (e : Ending) (w' : World) : Prop :=
  Keep [] w w' ∧ match r with
  | none => e = .returned (.tuple #[pkV 0 0 (.slice none 0 0) 0, .int .i64 3])
  | some p => ∃ v, e = .returned (.tuple #[pkV p.cfg p.ch v p.pad, .int .i64 0]) ∧ Frs w.heap.size w' v p.fr
theorem results_row2 {fn : Func} {p u : Tmp} {ty : TypeId} (h : fn.results = #[.cell p ty, .tmp u]) (tmps : Array Value) (w : World) (g : Nat) (t : TypeId) (cs : Array Value) (fs : Array Field)
    (hp : tmps.getD p undef = .pointer (some ⟨g, 0, none⟩)) (hg : Blk w g cs t) (hu : Try.prog.underlying ty = some (.struct fs)) (hi : (Try.prog.info? ty).map (·.size) = some cs.size) (v : Value) (hv : tmps.getD u undef = v) :
    (results fn tmps).run Try.prog w = .ok (.tuple #[.agg cs, v]) w := by
  subst hv
  rw [results_cell_tmp h, hp]
  have hl := run_loadVar_row (P := Try.prog) w g t ty cs (0, 0) (.struct fs) hg hu rfl hi
  simp [asAddr, hl, Result.andThen]

/-! ### the frames are cut out of the bytes -/
def Sub (L : List (List Int)) (xs : List Int) : Prop := ∀ l ∈ L, l.Sublist xs
theorem Sub.nil (xs : List Int) : Sub [] xs := fun l hl => by cases hl
theorem Sub.mono {L : List (List Int)} {xs ys : List Int} (h : Sub L xs) (hs : xs.Sublist ys) : Sub L ys := fun l hl => (h l hl).trans hs
theorem Sub.snoc {L : List (List Int)} {xs l : List Int} (h : Sub L xs) (hs : l.Sublist xs) : Sub (L ++ [l]) xs := fun q hq => by
  rcases List.mem_append.1 hq with hq | hq
  · exact h q hq
  · simp only [List.mem_singleton] at hq
    subst hq
    exact hs
theorem Sub.fit {L : List (List Int)} {xs : List Int} (h : Sub L xs) (hr : ∀ x ∈ xs, 0 ≤ x ∧ x ≤ 255) (hb : xs.length ≤ 140737488355328) : Fit L := fun l hl => ⟨fun x hx => hr x ((h l hl).subset hx), by have := (h l hl).length_le; omega⟩
theorem sub_take (xs : List Int) (n : Nat) : (xs.take n).Sublist xs := List.take_sublist n xs
theorem sub_drop (xs : List Int) (n : Nat) : (xs.drop n).Sublist xs := List.drop_sublist n xs
theorem sub_frame (n : Nat) (xs : List Int) (b : Bool) : (frameM n xs b).1.Sublist xs ∧ (frameM n xs b).2.1.Sublist xs := by
  unfold frameM
  split
  · exact ⟨List.nil_sublist _, List.Sublist.refl _⟩
  · exact ⟨sub_take _ _, sub_drop _ _⟩
theorem sub_byte (xs : List Int) (b : Bool) : (byteM xs b).2.1.Sublist xs := by
  cases xs with
  | nil => exact List.Sublist.refl _
  | cons x xs => exact List.sublist_cons_self x xs
theorem sub_len (xs : List Int) (b : Bool) : (lenM xs b).2.1.Sublist xs := by
  unfold lenM
  split
  · exact (sub_byte _ _).trans (sub_byte _ _)
  · exact sub_byte _ _
theorem sub_lens (xs : List Int) (b : Bool) (k : Nat) : (lensM xs b k).2.1.Sublist xs := by
  induction k with
  | zero => exact List.Sublist.refl _
  | succ k ih => exact (sub_len _ _).trans ih
theorem sub_frs (xs : List Int) (b : Bool) (ls : List Int) (k : Nat) : Sub (frsM xs b ls k).1 xs ∧ (frsM xs b ls k).2.1.Sublist xs := by
  induction k with
  | zero => exact ⟨Sub.nil _, List.Sublist.refl _⟩
  | succ k ih => exact ⟨ih.1.snoc ((sub_frame _ _ _).1.trans ih.2), (sub_frame _ _ _).2.trans ih.2⟩
theorem sub_pad (xs : List Int) : (padM xs).2.1.Sublist xs := by
  induction xs with
  | nil => exact List.Sublist.refl _
  | cons x xs ih =>
    unfold padM
    split
    · exact ih.trans (List.sublist_cons_self x xs)
    · exact List.sublist_cons_self x xs
theorem sub_chunk (xs : List Int) (k i : Nat) : Sub (chunkL xs k i) xs := fun l hl => by
  unfold chunkL at hl
  obtain ⟨j, _, rfl⟩ := List.mem_map.1 hl
  exact (sub_take _ _).trans (sub_drop _ _)
theorem sub_equal (m : Nat) (xs : List Int) (b : Bool) : Sub (equalM m xs b).1 xs := by
  unfold equalM
  split
  · exact Sub.nil _
  · exact sub_chunk _ _ _
theorem sub_unlike (zs : List Int) (m : Nat) : Sub (unlikeM zs m).1 zs := by
  unfold unlikeM
  have h1 := sub_lens zs false (m - 1)
  have h2 := sub_frs (lensM zs false (m - 1)).2.1 (lensM zs false (m - 1)).2.2 (lensM zs false (m - 1)).1 (m - 1)
  exact Sub.snoc (h2.1.mono h1) (h2.2.trans h1)
theorem sub_rest (x : Int) (m : Nat) (q : Nat × List Int × Bool) : Sub (restM x m q).1.1 q.2.1 := by
  unfold restM
  split
  · exact Sub.nil _
  · split
    · exact (sub_equal _ _ _).mono (sub_take _ _)
    · exact (sub_unlike _ _).mono (sub_take _ _)
theorem sub_many (ms : Int) (xs : List Int) : Sub (manyM ms xs).1.1 xs := by
  unfold manyM
  split
  · exact Sub.nil _
  · split
    · exact (sub_rest _ _ _).mono ((sub_pad _).trans (sub_byte _ _))
    · exact (sub_rest _ _ _).mono (sub_byte _ _)
theorem sub_found (r : List Int) (h : Int) : Sub (foundM r h).1.1 r := by
  unfold foundM
  split
  · exact sub_equal _ _ _
  · split
    · exact sub_equal _ _ _
    · split
      · have h1 := sub_len r false
        have h2 := sub_frame (lenM r false).1.toNat (lenM r false).2.1 (lenM r false).2.2
        intro l hl
        simp only [List.mem_cons, List.not_mem_nil, or_false] at hl
        rcases hl with rfl | rfl
        · exact h2.1.trans h1
        · exact h2.2.trans h1
      · exact sub_many _ _
/-- Within Parse. -/
structure PaSt (w wr : World) (pb : Nat) (pc : Array Value) (ys : List Int) (bad : Bool) : Prop where
  rdr : Rdr 51 w wr (w.heap.size + 1) ys bad
  res : Blk wr w.heap.size #[.int .i64 0, .int .i64 0, .slice none 0 0, .int .i64 0] 25
  pk : Blk wr pb pc 25
  op : w.heap.size < pb
theorem PaSt.keep0 {w wr w' : World} {pb : Nat} {pc : Array Value} {ys : List Int} {bad : Bool} (h : PaSt w wr pb pc ys bad) (k : Keep [] wr w') : PaSt w w' pb pc ys bad := ⟨h.rdr.keep0 k, h.res.keep k (by simp), h.pk.keep k (by simp), h.op⟩
theorem PaSt.took {w wr w' : World} {pb : Nat} {pc : Array Value} {ys ys' : List Int} {bad bad' : Bool} (h : PaSt w wr pb pc ys bad) (k : Keep [w.heap.size + 1] wr w') (hr : Rdr 51 w w' (w.heap.size + 1) ys' bad') : PaSt w w' pb pc ys' bad' := by
  obtain ⟨cs, hb⟩ := h.rdr.blk
  exact ⟨hr, h.res.keep k (by simp), h.pk.keep k (by simpa using h.pk.ne hb (by decide)), h.op⟩
theorem PaSt.set {w wr : World} {pb : Nat} {pc : Array Value} {ys : List Int} {bad : Bool} (h : PaSt w wr pb pc ys bad) (i : Nat) (v : Value) : PaSt w (wr.setCell ⟨pb, i, none⟩ v) pb (pc.setIfInBounds i v) ys bad := by
  obtain ⟨cs, hb⟩ := h.rdr.blk
  have o := h.op
  exact ⟨h.rdr.keep (Keep.setb wr pb i v) (by simpa using (h.pk.ne hb (by decide)).symm) (by simp; omega), h.res.keep (Keep.setb wr pb i v) (by simp; omega), h.pk.set i v, h.op⟩
theorem Frs.setP {B : Nat} {wr : World} {v : Value} {L : List (List Int)} {pb : Nat} {pc : Array Value} (h : Frs B wr v L) (hb : Blk wr pb pc 25) (i : Nat) (u : Value) : Frs B (wr.setCell ⟨pb, i, none⟩ u) v L :=
  h.keep (Keep.setb wr pb i u) (Odd.one hb (by decide) (by decide))
end Go.Proofs.Ytmnknegbbmjcbaa
