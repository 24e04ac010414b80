/- What one pulse makes; the words of Run. -/
import Derived.Test.YtjhgbcgpkpahjaaS3
import Derived.Test.YtjhgbcgpkpahjaaFx
import Derived.Deep.RegionHeld3
namespace Go.Proofs.Ytjhgbcgpkpahjaa
open Go.RowKit

theorem wrapEq (x : Int) : IntKind.i64.wrap x = wrap64 x := by unfold wrap64; exact IntKind.wrap_i64 x
def tapF (taps R : List Int) (base : Nat) (r : Int) (j : Nat) : Int := wrap64 (r + mulS (taps.getD j 0) (R.getD (base + j) 0) 7)
def tapSum (taps R : List Int) (base : Nat) (r : Int) (n : Nat) : Int := (List.range n).foldl (tapF taps R base) r
theorem tapSum_succ (taps R : List Int) (base : Nat) (r : Int) (n : Nat) : tapSum taps R base r (n + 1) = tapF taps R base (tapSum taps R base r n) n := by simp [tapSum, List.range_succ]
def filF (fs O : List Int) (o : Int) (k : Nat) : Int := wrap64 (o + mulS (fs.getD k 0) (O.getD k 0) 12)
def filSum (fs O : List Int) (o : Int) (n : Nat) : Int := (List.range n).foldl (filF fs O) o
theorem filSum_succ (fs O : List Int) (o : Int) (n : Nat) : filSum fs O o (n + 1) = filF fs O (filSum fs O o n) n := by simp [filSum, List.range_succ]
/-- The excitation of a pulse. -/
def exR (loud lag : Int) (taps R : List Int) (x : Int) : Int := keptI (if 0 < lag then tapSum taps R (lag.toNat - 3) (wrap64 (x * loud)) 5 else wrap64 (x * loud))
def stepV (loud lag : Int) (taps fs : List Int) (s : Vc) (x : Int) : Int × Vc :=
  (keptI (filSum fs s.o (exR loud lag taps s.r x) fs.length), ⟨exR loud lag taps s.r x :: s.r.take 319, keptI (filSum fs s.o (exR loud lag taps s.r x) fs.length) :: s.o.take 31⟩)
theorem index_taps (t0 t1 t2 t3 t4 : Int) (j : Nat) (hj : j < 5) (W : World) :
    (Instr.index 29 (.agg #[.int .i64 t0, .int .i64 t1, .int .i64 t2, .int .i64 t3, .int .i64 t4]) (.int .i64 (j : Int))).run Try.prog W = .ok (.int .i64 ([t0, t1, t2, t3, t4].getD j 0)) W := by
  exact match j, hj with
  | 0, _ => by first | (simp [Instr.index, go_sem]; done) | (show _ = _; kernel_rfl) | exact rfl
  | 1, _ => by first | (simp [Instr.index, go_sem]; done) | (show _ = _; kernel_rfl) | exact rfl
  | 2, _ => by first | (simp [Instr.index, go_sem]; done) | (show _ = _; kernel_rfl) | exact rfl
  | 3, _ => by first | (simp [Instr.index, go_sem]; done) | (show _ = _; kernel_rfl) | exact rfl
  | 4, _ => by first | (simp [Instr.index, go_sem]; done) | (show _ = _; kernel_rfl) | exact rfl
theorem vcells_copy_r (r o : List Int) (hr : r.length = 320) :
    ((vcells r o).toList.take 1 ++ (ints (r.take 319) ++ (vcells r o).toList.drop (1 + (ints (r.take 319)).length))).toArray = vcells (r.take 1 ++ r.take 319) o := by
  apply Array.ext'
  simp only [vcells, List.toList_toArray, ints_append]
  rw [List.take_append_of_le_length (by simp [ints, hr])]
  have e : (1 + (ints (r.take 319)).length) = (ints r).length := by simp [ints, hr]
  rw [e, List.drop_left]
  simp [ints, List.map_take]
theorem vcells_copy_o (r o : List Int) (hr : r.length = 320) (ho : o.length = 32) :
    ((vcells r o).toList.take 321 ++ (ints (o.take 31) ++ (vcells r o).toList.drop (321 + (ints (o.take 31)).length))).toArray = vcells r (o.take 1 ++ o.take 31) := by
  apply Array.ext'
  simp only [vcells, List.toList_toArray, ints_append]
  have e1 : 321 = (ints r).length + 1 := by simp [ints, hr]
  have e2 : (321 + (ints (o.take 31)).length) = (ints r ++ ints o).length := by simp [ints, hr, ho]
  rw [e2, List.drop_length, e1, List.take_append, List.take_of_length_le (by omega)]
  simp [ints, List.map_take]
theorem vcells_set_r (r o : List Int) (x : Int) (hr : 0 < r.length) : (vcells r o).setIfInBounds 0 (.int .i64 x) = vcells (r.set 0 x) o := by
  apply Array.ext'
  cases r with
  | nil => simp at hr
  | cons a r => simp [vcells, ints]
theorem vcells_set_o (r o : List Int) (x : Int) (hr : r.length = 320) : (vcells r o).setIfInBounds 320 (.int .i64 x) = vcells r (o.set 0 x) := by
  apply Array.ext'
  simp only [vcells, List.setIfInBounds_toArray, List.toList_toArray]
  rw [List.set_append_right (h := by simp [ints, hr])]
  simp [ints, hr, List.map_set]
theorem shift_set (r : List Int) (n : Nat) (x : Int) (hr : 0 < r.length) : (r.take 1 ++ r.take n).set 0 x = x :: r.take n := by
  cases r with
  | nil => simp at hr
  | cons a r => simp
/-- 'make([]int64, 0, n)'. -/
theorem make_ints0 (n : Nat) (hn : n ≤ 1000000) (W : World) :
    (Instr.makeSlice 25 (.int .i64 0) (.int .i64 (n : Int))).run Try.prog W = .ok (.slice (some ⟨W.heap.size, 0, none⟩) 0 n) (W.alloc (.cells (ints (List.replicate n 0)).toArray 2)) := by
  obtain ⟨i, hi, hz, hs, hb⟩ := info_parts infoInt64
  have h := run_make (P := Try.prog) W 25 2 i (.int .i64 0) Try.underlying25 hi hz .i64 .i64 0 n (by omega) (by omega) (by rw [hb]; omega) (by omega)
  rw [h, hs]
  simp only [Int.toNat_natCast, Nat.mul_one]
  rw [show (Value.int IntKind.i64 0).cells = #[Value.int .i64 0] from rfl, made_ints]
  rfl
theorem made_room (w : World) (n : Nat) (hn : n ≤ 1000000) : Made (w.alloc (.cells (ints (List.replicate n 0)).toArray 2)) (.slice (some ⟨w.heap.size, 0, none⟩) 0 n) [] :=
  ⟨by simp [ints], .inr ⟨w.heap.size, n, _, rfl, Nat.zero_le _, heap_alloc_new w _, Nat.zero_le _, by unfold maxLen; omega, by simp [ints], by simp [ints]⟩⟩
theorem Made.typ {w : World} {v : Value} {xs : List Int} (h : Made w v xs) : ∀ g, v.ownBlock = some g → ∃ cs, Blk w g cs 2 := fun g hg => by
  obtain ⟨h1, h2⟩ := h
  rcases h2 with ⟨rfl, _⟩ | ⟨g', cap, cur, rfl, hb, hgg, rest⟩
  · cases hg
  · cases hg
    exact ⟨_, hgg⟩
theorem Made.ne_v {w : World} {v : Value} {xs : List Int} {b : Nat} {s : Vc} (h : Made w v xs) (hf : IsV w b s) : ∀ g, v.ownBlock = some g → g ≠ b := fun g hg => by
  obtain ⟨cs, hb⟩ := h.typ g hg
  exact hb.ne hf.blk (by decide)
/-- In the midst of Run: k pulses are played. -/
structure RunSt (w wr : World) (b bp : Nat) (cs : Array Value) (s : Vc) (ov : Value) (ys : List Int) : Prop where
  kept : Keep [b] w wr
  vc : IsV wr b s
  box : Blk wr bp cs 31
  out : Made wr ov ys
  fresh : ∀ g, ov.ownBlock = some g → w.heap.size ≤ g
theorem RunSt.drewN {w wr : World} {b bp : Nat} {cs : Array Value} {s : Vc} {ov : Value} {ys : List Int} (h : RunSt w wr b bp cs s ov ys) (n : Nat) : RunSt w (wr.drewN n) b bp cs s ov ys :=
  ⟨h.kept.trans (Keep.drewN _ _ _), h.vc.drewN n, h.box, h.out.keep (Keep.drewN [] _ _) (by simp), h.fresh⟩
theorem RunSt.drew {w wr : World} {b bp : Nat} {cs : Array Value} {s : Vc} {ov : Value} {ys : List Int} (h : RunSt w wr b bp cs s ov ys) : RunSt w wr.drew b bp cs s ov ys :=
  ⟨h.kept.trans (Keep.drew _ _), h.vc.drewN 1, h.box, h.out.keep (Keep.drew [] _) (by simp), h.fresh⟩
/-- The voice's block is laid anew. -/
theorem RunSt.setV {w wr w' : World} {b bp : Nat} {cs : Array Value} {s s' : Vc} {ov : Value} {ys : List Int} (h : RunSt w wr b bp cs s ov ys) (k : Keep [b] wr w') (hv : IsV w' b s') : RunSt w w' b bp cs s' ov ys :=
  ⟨h.kept.trans k, hv, h.box.keep k (by simpa using h.box.ne h.vc.blk (by decide)), h.out.keep k (fun g hg => by simpa using h.out.ne_v h.vc g hg), h.fresh⟩
/-- One more sample is appended: it lies in a block of its own first. -/
theorem RunSt.app {w wr w2 : World} {b bp : Nat} {cs : Array Value} {s : Vc} {ov v' : Value} {ys : List Int} {y : Int} (h : RunSt w wr b bp cs s ov ys)
    (h1 : Made w2 v' (ys ++ [y])) (h2 : Keep ov.ownBlock.toList (wr.alloc (.cells #[.int .i64 y] 2)) w2) (h3 : v'.ownBlock = ov.ownBlock ∨ v'.ownBlock = some (wr.heap.size + 1)) : RunSt w w2 b bp cs s v' (ys ++ [y]) := by
  have k := Keep.alloc [] wr (.cells #[.int .i64 y] 2)
  have z := h.kept.size
  refine ⟨(h.kept.trans (k.of0 _)).trans' h2 (by simp) (fun g hg => by simp only [Option.mem_toList] at hg; exact .inr (h.fresh g hg)), (h.vc.keep k (by simp)).keep h2 ?_, (h.box.keep k (by simp)).keep h2 ?_, h1, ?_⟩
  · intro hg
    simp only [Option.mem_toList] at hg
    exact h.out.ne_v h.vc _ hg rfl
  · intro hg
    simp only [Option.mem_toList] at hg
    obtain ⟨cs', hb⟩ := h.out.typ _ hg
    exact hb.ne h.box (by decide) rfl
  · intro g hg
    rcases h3 with h3 | h3
    · exact h.fresh g (by rw [← h3]; exact hg)
    · rw [hg] at h3
      simp only [Option.some.injEq] at h3
      omega
theorem IsV.setR {w : World} {b : Nat} {s : Vc} (h : IsV w b s) (x : Int) : IsV (w.setCell ⟨b, 0, none⟩ (.int .i64 x)) b ⟨s.r.set 0 x, s.o⟩ := by
  have hb := h.blk.set 0 (.int .i64 x)
  rw [vcells_set_r _ _ _ (by rw [h.lr]; omega)] at hb
  exact ⟨hb, by simp [h.lr], h.lo⟩
theorem IsV.setO {w : World} {b : Nat} {s : Vc} (h : IsV w b s) (x : Int) : IsV (w.setCell ⟨b, 320, none⟩ (.int .i64 x)) b ⟨s.r, s.o.set 0 x⟩ := by
  have hb := h.blk.set 320 (.int .i64 x)
  rw [vcells_set_o _ _ _ h.lr] at hb
  exact ⟨hb, h.lr, by simp [h.lo]⟩
/-- The two stores at a pulse's end. -/
theorem RunSt.stores {w wr : World} {b bp : Nat} {cs : Array Value} {r o : List Int} {ov : Value} {ys : List Int} (h : RunSt w wr b bp cs ⟨r.take 1 ++ r.take 319, o.take 1 ++ o.take 31⟩ ov ys) (hr : 0 < r.length) (ho : 0 < o.length) (x y : Int) :
    RunSt w (((wr.setCell ⟨b, 0, none⟩ (.int .i64 x)).setCell ⟨b, 320, none⟩ (.int .i64 y)).drew) b bp cs ⟨x :: r.take 319, y :: o.take 31⟩ ov ys := by
  have h1 := h.setV (Keep.setb wr b 0 (.int .i64 x)) (h.vc.setR x)
  have h2 := h1.setV (Keep.setb _ b 320 (.int .i64 y)) (h1.vc.setO y)
  simp only [shift_set _ _ _ hr, shift_set _ _ _ ho] at h2
  exact h2.drew
theorem rd_lit (w : World) (xs : List Int) : Rd (w.alloc (.cells (ints xs).toArray 2)) (some ⟨w.heap.size, 0, none⟩) xs := Rd.ofBlk0 (Blk.new w _ _)
end Go.Proofs.Ytjhgbcgpkpahjaa
