/- Parts that come in, opened. -/
import Derived.Test.YtjhgbcgpkpahjaaS9
import Derived.Test.YtjhgbcgpkpahjaaS8
namespace Go.Proofs.Ytjhgbcgpkpahjaa
open Go.RowKit Go.ChangeShapes Go.WideShapes Go.Deep Go.Joins

instance : Inhabited PartA := ⟨⟨none, 0, 0, [], 0, 0, 0, 0, 0, 0, 0, none, 0, 0, []⟩⟩
theorem drop_take_one {cs : List Value} {i : Nat} {v : Value} (h : (cs.drop i).take 1 = [v]) : cs[i]? = some v := by
  have h2 : (cs.drop i)[0]? = some v := by
    have : ((cs.drop i).take 1)[0]? = some v := by rw [h]; rfl
    simpa [List.getElem?_take] using this
  simpa using h2
theorem open_sl {H : Type} {enc : TypeId × Value → H} {W : World} {n : Nat} {cs : List Value} {x : DataW H × List MemPlace} (h : DataW.trod enc Try.prog W 0 (fun _ => true) true n 25 cs = some x) :
    ∃ A len cap xs, cs = [.slice A len cap] ∧ ArgI W A len cap xs := by
  rcases open_ints Try.underlying25 Try.underlying2 (by kernel_rfl) h with ⟨hcs, _⟩ | ⟨x, l, c, zs, hcs, _, hl', hm, hz, _, hcell, hwz⟩
  · have : IsRow .i64 W none 0 0 [] := .inl ⟨rfl, rfl, rfl, rfl⟩
    exact ⟨none, 0, 0, _, hcs, this.arg⟩
  · have : IsRow .i64 W (some x) l c zs := .inr ⟨_, rfl, hl', hm, by simpa using hz, hcell, hwz⟩
    exact ⟨some x, l, c, _, hcs, this.arg⟩
theorem open_arr5 {H : Type} {enc : TypeId × Value → H} {W : World} {n : Nat} {cs : List Value} {x : DataW H × List MemPlace} (h : DataW.trod enc Try.prog W 0 (fun _ => true) true n 29 cs = some x) :
    ∃ t0 t1 t2 t3 t4, cs = [.int .i64 t0, .int .i64 t1, .int .i64 t2, .int .i64 t3, .int .i64 t4] := by
  obtain ⟨xs, m, _, _, hl, hlen, hf⟩ := DataW.trod_array Try.underlying29 h
  have c2 : Try.prog.cellsOf 2 = 1 := by kernel_rfl
  have c4 : Try.prog.cellsOf 29 = 5 := by kernel_rfl
  rw [c4] at hl
  have each : ∀ i, i < 5 → ∃ t, cs[i]? = some (.int .i64 t) := by
    intro i hi
    have h1 := hf i hi
    rw [c2, Nat.mul_one, List.getElem?_eq_getElem (by omega)] at h1
    obtain ⟨t, ht, _, _⟩ := DataW.trod_int Try.underlying2 h1
    exact ⟨t, drop_take_one ht⟩
  obtain ⟨t0, h0⟩ := each 0 (by omega)
  obtain ⟨t1, h1⟩ := each 1 (by omega)
  obtain ⟨t2, h2⟩ := each 2 (by omega)
  obtain ⟨t3, h3⟩ := each 3 (by omega)
  obtain ⟨t4, h4⟩ := each 4 (by omega)
  obtain ⟨a, b, c, d, e, rfl⟩ : ∃ a b c d e, cs = [a, b, c, d, e] := by
    match cs, hl with
    | [a, b, c, d, e], _ => exact ⟨a, b, c, d, e, rfl⟩
  simp at h0 h1 h2 h3 h4
  exact ⟨t0, t1, t2, t3, t4, by simp [h0, h1, h2, h3, h4]⟩
theorem open_part1 {H : Type} {enc : TypeId × Value → H} {W : World} {fuel : Nat} {cs : List Value} {x : DataW H × List MemPlace} (h : DataW.trod enc Try.prog W 0 (fun _ => true) true fuel 31 cs = some x) :
    ∃ p : PartA, cs = p.list ∧ IsPart W p := by
  obtain ⟨xs, n, _, rfl, hl, hlen, hf⟩ := DataW.trod_struct Try.underlying31 h
  have c1 : Try.prog.cellsOf 3 = 1 := by kernel_rfl
  have c2 : Try.prog.cellsOf 2 = 1 := by kernel_rfl
  have c3 : Try.prog.cellsOf 25 = 1 := by kernel_rfl
  have c4 : Try.prog.cellsOf 29 = 5 := by kernel_rfl
  have c5 : Try.prog.cellsOf 31 = 9 := by kernel_rfl
  have hlen5 : xs.length = 5 := hlen
  have h0 := hf 0 _ rfl
  have h1 := hf 1 _ rfl
  have h2 := hf 2 _ rfl
  have h3 := hf 3 _ rfl
  have h4 := hf 4 _ rfl
  replace h0 : DataW.trod enc Try.prog W 0 (fun _ => true) true n 25 ((cs.drop 0).take (Try.prog.cellsOf 25)) = xs[0]? := h0
  replace h1 : DataW.trod enc Try.prog W 0 (fun _ => true) true n 2 ((cs.drop 1).take (Try.prog.cellsOf 2)) = xs[1]? := h1
  replace h2 : DataW.trod enc Try.prog W 0 (fun _ => true) true n 3 ((cs.drop 2).take (Try.prog.cellsOf 3)) = xs[2]? := h2
  replace h3 : DataW.trod enc Try.prog W 0 (fun _ => true) true n 29 ((cs.drop 3).take (Try.prog.cellsOf 29)) = xs[3]? := h3
  replace h4 : DataW.trod enc Try.prog W 0 (fun _ => true) true n 25 ((cs.drop 8).take (Try.prog.cellsOf 25)) = xs[4]? := h4
  rw [c3] at h0 h4
  rw [c2] at h1
  rw [c1] at h2
  rw [c4] at h3
  rw [List.getElem?_eq_getElem (by omega)] at h0 h1 h2 h3 h4
  rw [c5] at hl
  obtain ⟨A, n1, cc, ys, e0, p0⟩ := open_sl h0
  obtain ⟨loud, e1, _, _⟩ := DataW.trod_int Try.underlying2 h1
  obtain ⟨lag, e2, _, _⟩ := DataW.trod_int Try.underlying3 h2
  obtain ⟨t0, t1, t2, t3, t4, e3⟩ := open_arr5 h3
  obtain ⟨B, m, d, fs, e4, p4⟩ := open_sl h4
  refine ⟨⟨A, n1, cc, ys, loud, lag, t0, t1, t2, t3, t4, B, m, d, fs⟩, ?_, ⟨p0, p4⟩⟩
  obtain ⟨a, b, c, d', e, f, g, i, j, rfl⟩ : ∃ a b c d e f g i j, cs = [a, b, c, d, e, f, g, i, j] := by
    match cs, hl with
    | [a, b, c, d, e, f, g, i, j], _ => exact ⟨a, b, c, d, e, f, g, i, j, rfl⟩
  simp at e0 e1 e2 e3 e4
  simp [PartA.list, e0, e1, e2, e3, e4]
theorem open_parts {H : Type} {enc : TypeId × Value → H} {W : World} {a : Option Addr} {len cap : Nat} {d : DataW H} {p : List MemPlace} (h : DataW.Trod enc Try.prog W 0 (fun _ => true) true 34 (.slice a len cap) d p) :
    ∃ l, Parts W a len cap l := by
  obtain ⟨fuel, hf⟩ := h
  rcases open_slice Try.underlying34 hf with ⟨hcs, _⟩ | ⟨x, l, c, m, n, D, Pl, hcs, _, hl, hm, hmm, _, hx⟩
  · simp [Value.cells] at hcs
    obtain ⟨rfl, rfl, rfl⟩ := hcs
    exact ⟨[], rfl, Nat.le_refl _, by omega, fun i p hp => by simp at hp⟩
  · simp [Value.cells] at hcs
    obtain ⟨rfl, rfl, rfl⟩ := hcs
    have c4 : Try.prog.cellsOf 31 = 9 := by kernel_rfl
    have hm2 : m = cap := by simpa using hmm
    obtain ⟨f, hf⟩ := choose_lt (α := PartA) (n := len) (p := fun i p => (∀ j v, p.list[j]? = some v → W.cell? ((x.add (i * 9)).add j) = some v) ∧ IsPart W p) (fun i hi => by
      obtain ⟨cs', h1, h2⟩ := hx i (by omega)
      obtain ⟨p, rfl, hp⟩ := open_part1 h2
      rw [c4] at h1
      obtain ⟨_, h3, h4⟩ := World.cells?_some h1
      refine ⟨p, fun j v hv => ?_, hp⟩
      have hj : j < 9 := by
        have := (List.getElem?_eq_some_iff.1 hv).1
        simpa [PartA.list] using this
      rw [h4 j hj, hv])
    refine ⟨(List.range len).map f, by simp, hl, by unfold maxLen at hm; omega, fun i p hp => ?_⟩
    rw [List.getElem?_map] at hp
    by_cases hi : i < len
    · rw [List.getElem?_range hi] at hp
      simp only [Option.map_some, Option.some.injEq] at hp
      subst hp
      exact ⟨x, rfl, (hf i hi).1, (hf i hi).2⟩
    · rw [List.getElem?_eq_none (by simp; omega)] at hp
      cases hp
theorem bounds_row (A : Option Addr) (n c : Nat) (l : List PartA) (w : World) (h : Parts w A n c l) :
    Calls Try.prog 8 #[.slice A n c] w fun e w' => e = .returned (.bool true) ∧ Below w.heap.size w w' :=
  (bounds_walk A n c l w h).mono fun _ _ ⟨he, k⟩ => ⟨he, k.toBelow⟩
end Go.Proofs.Ytjhgbcgpkpahjaa
