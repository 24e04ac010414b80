/- The reference's Parse: the plain law, what stands while it runs. -/
import Derived.Test.YtmnknegbbmjcbaaT22
namespace Go.Proofs.Ytmnknegbbmjcbaa
open Go.RowKit

/-! ### the plain law -/
theorem equal_1 (xs : List Int) : equalM 1 xs false = ([xs], [], false) := by
  unfold equalM
  rw [if_neg (by omega)]
  have h : xs.length / 1 = xs.length := Nat.div_one _
  rw [h]
  simp [chunkL, List.range_succ]
theorem equal_odd {xs : List Int} (h : xs.length % 2 ≠ 0) : equalM 2 xs false = ([], xs, true) := by
  unfold equalM
  rw [if_pos h]
theorem equal_2 {xs : List Int} {k : Nat} (h : xs.length = 2 * k) : equalM 2 xs false = ([xs.take k, xs.drop k], [], false) := by
  unfold equalM
  rw [if_neg (by omega)]
  have h2 : xs.length / 2 = k := by omega
  rw [h2]
  have h3 : (xs.drop k).take k = xs.drop k := List.take_of_length_le (by simp; omega)
  have h4 : xs.drop (2 * k) = [] := List.drop_of_length_le (by omega)
  simp [chunkL, List.range_succ, h3, h4]
theorem frame_all (xs : List Int) (b : Bool) {n : Nat} (h : n = xs.length) : frameM n xs b = (xs, [], b) := by
  subst h
  unfold frameM
  rw [if_neg (by omega), List.take_length, List.drop_length]
theorem frame_bad {xs : List Int} {b : Bool} {n : Nat} (h : b = true ∨ xs.length < n) : (frameM n xs b).2.2 = true := by
  unfold frameM
  split
  · rfl
  · rcases h with h | h
    · exact h
    · omega
/-- Where the reference gives up behind the length of code 2, our frame goes bad. -/
theorem len_gives_up {xs : List Int} (h : (rlenM xs false).2.2 = true) : (frameM (lenM xs false).1.toNat (lenM xs false).2.1 (lenM xs false).2.2).2.2 = true := by
  unfold rlenM at h
  simp only [Bool.or_eq_true, decide_eq_true_eq] at h
  refine frame_bad ?_
  rcases h with h | h
  · exact .inl h
  · exact .inr (by omega)

/-! ### what stands while it runs -/
def RetRP (w : World) (r : Option Pk) (e : Ending) (w' : World) : Prop :=
  Keep [] w w' ∧ match r with
  | none => e = .returned (.tuple #[pkV 0 0 (.slice none 0 0) 0, .bool false])
  | some p => ∃ v, e = .returned (.tuple #[pkV p.cfg p.ch v p.pad, .bool true]) ∧ Frs w.heap.size w' v p.fr
theorem rpk_size (k ch p : Int) (A : Option Addr) (n d : Nat) : (Try.prog.info? 39).map (·.size) = some (#[Value.int .i64 k, .int .i64 ch, .slice A n d, .int .i64 p] : Array Value).size := by kernel_rfl
structure RpSt (w wr : World) (pb : Nat) (cfg ch : Int) (v : Value) (L : List (List Int)) (pad : Int) (xs : List Int) (bad : Bool) : Prop where
  st : RmSt w w wr (w.heap.size + 1) pb cfg ch v L pad xs bad
  res : Blk wr w.heap.size #[.int .i64 0, .int .i64 0, .slice none 0 0, .int .i64 0] 39
  lo : w.heap.size < pb
section
variable {w wr w' : World} {pb : Nat} {cfg ch pad : Int} {v v' x : Value} {L L' : List (List Int)} {l xs xs' : List Int} {bad bad' : Bool}
theorem RpSt.keep0 (h : RpSt w wr pb cfg ch v L pad xs bad) (k : Keep [] wr w') : RpSt w w' pb cfg ch v L pad xs bad := ⟨h.st.keep0 k, h.res.keep k (by simp), h.lo⟩
theorem RpSt.took (h : RpSt w wr pb cfg ch v L pad xs bad) (hr : Rdr 64 w w' (w.heap.size + 1) xs' bad') (k : Keep [w.heap.size + 1] wr w') : RpSt w w' pb cfg ch v L pad xs' bad' :=
  ⟨h.st.took hr k, h.res.keep k (by simp), h.lo⟩
theorem RpSt.setFr (h : RpSt w wr pb cfg ch v L pad xs bad) (hf : Frs w.heap.size wr v' L') : RpSt w (wr.setCell ⟨pb, 2, none⟩ v') pb cfg ch v' L' pad xs bad :=
  ⟨h.st.setFr hf, h.res.keep (Keep.setb wr pb 2 v') (by have := h.lo; simp; omega), h.lo⟩
theorem RpSt.app (h : RpSt w wr pb cfg ch v L pad xs bad) (k : Keep v.ownBlock.toList (wr.alloc (.cells #[x] 29)) w') :
    (Rdr 64 w w' (w.heap.size + 1) xs bad ∧ Blk w' pb #[.int .i64 cfg, .int .i64 ch, v, .int .i64 pad] 39 ∧ Keep [w.heap.size + 1, pb] w w') ∧ Blk w' w.heap.size #[.int .i64 0, .int .i64 0, .slice none 0 0, .int .i64 0] 39 := by
  have k0 := Keep.alloc [] wr (.cells #[x] 29)
  refine ⟨h.st.app k, (h.res.keep k0 (by simp)).keep k (fun hm => ?_)⟩
  simp only [Option.mem_toList] at hm
  obtain ⟨⟨vs, m1, _⟩, _⟩ := h.st.frs.keep0 k0
  exact m1.ne (h.res.keep k0 (by simp)) (by decide) _ hm rfl
theorem RpSt.fin (h : (Rdr 64 w w' (w.heap.size + 1) xs bad ∧ Blk w' pb #[.int .i64 cfg, .int .i64 ch, v, .int .i64 pad] 39 ∧ Keep [w.heap.size + 1, pb] w w') ∧ Blk w' w.heap.size #[.int .i64 0, .int .i64 0, .slice none 0 0, .int .i64 0] 39)
    (ho : w.heap.size < pb) (hf : Frs w.heap.size w' v' L) : RpSt w (w'.setCell ⟨pb, 2, none⟩ v') pb cfg ch v' L pad xs bad :=
  ⟨RmSt.fin h.1 (Nat.le_of_lt ho) (Nat.le_refl _) hf, h.2.keep (Keep.setb w' pb 2 v') (by simp; omega), ho⟩
/-- What the reference's many leaves, seen from Parse. -/
theorem RpSt.many {wq : World} {vq : Value} {Lq : List (List Int)} {padq : Int} {xq : List Int} {bq : Bool} (h : RpSt w wq pb cfg ch (.slice none 0 0) [] 0 xs false) (h2 : RmSt w wq w' (w.heap.size + 1) pb cfg ch vq Lq padq xq bq) : RpSt w w' pb cfg ch vq Lq padq xq bq :=
  ⟨⟨h2.rdr, h2.bx, h2.frs.weak h.st.kept.size, h.st.kept.trans h2.kept, h2.op, Nat.le_refl _⟩, h.res.keep h2.kept (by have := h.lo; simp; omega), h.lo⟩
theorem RpSt.k0 (h : RpSt w wr pb cfg ch v L pad xs bad) : Keep [] w wr := h.st.kept.mono (fun b hb => by
  have := h.lo
  simp only [List.mem_cons, List.not_mem_nil, or_false] at hb
  rcases hb with rfl | rfl <;> exact .inr (by omega))
theorem RpSt.new {w1 : World} (hr : Rdr 64 w w1 (w.heap.size + 1) xs bad) (he : Blk w1 w.heap.size #[.int .i64 0, .int .i64 0, .slice none 0 0, .int .i64 0] 39) :
    RpSt w (w1.alloc (.cells #[.int .i64 cfg, .int .i64 ch, .slice none 0 0, .int .i64 0] 39)) w1.heap.size cfg ch (.slice none 0 0) [] 0 xs bad := by
  have k := Keep.alloc [] w1 (.cells #[.int .i64 cfg, .int .i64 ch, .slice none 0 0, .int .i64 0] 39)
  have z := hr.kept.size
  exact ⟨⟨hr.keep0 k, Blk.new w1 _ _, Frs.nil _ _, (hr.kept.trans k).of0 _, z, Nat.le_refl _⟩, he.keep k (by simp), he.lt⟩
theorem RpSt.base (h : RpSt w wr pb cfg ch (.slice none 0 0) [] 0 xs false) : RmSt w wr wr (w.heap.size + 1) pb cfg ch (.slice none 0 0) [] 0 xs false :=
  ⟨h.st.rdr, h.st.bx, Frs.nil _ _, Keep.refl _ _, h.st.op, h.st.kept.size⟩
end
theorem Frs.lit {B : Nat} {w : World} {x : Value} {l : List Int} (h : MadeV w 5 x (bytes l)) (ho : ∀ b, x.ownBlock = some b → B ≤ b) (hB : B ≤ w.heap.size) : Frs B (w.alloc (.cells #[x] 29)) (.slice (some ⟨w.heap.size, 0, none⟩) 1 1) [l] := by
  refine ⟨⟨[x], MadeV.lit w 29 [x] (by simp), rfl, fun i y q hy hq => ?_⟩, fun b hb => ?_⟩
  · match i, hy, hq with
    | 0, hy, hq =>
      simp only [List.getElem?_cons_zero, Option.some.injEq] at hy hq
      subst hy hq
      exact ⟨h.keep0 (Keep.alloc [] _ _), ho⟩
    | i + 1, hy, _ => simp at hy
  · have hb2 : some w.heap.size = some b := hb
    simp only [Option.some.injEq] at hb2
    omega
end Go.Proofs.Ytmnknegbbmjcbaa
