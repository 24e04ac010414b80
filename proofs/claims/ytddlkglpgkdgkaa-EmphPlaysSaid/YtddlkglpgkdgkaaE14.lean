/- The slice of acts that comes in, opened. -/
import Derived.Test.YtddlkglpgkdgkaaE13
import Derived.Lib.SmallJoins
namespace Go.Proofs.Ytddlkglpgkdgkaa
open Go.RowKit Go.ChangeShapes Go.WideShapes Go.Deep Go.Joins

instance : Inhabited ActA := ⟨⟨0, 0, 0, none, 0, 0, []⟩⟩
theorem drop_take_one {cs : List Value} {i : Nat} {v : Value} (h : (cs.drop i).take 1 = [v]) : cs[i]? = some v := by
  have h2 : (cs.drop i)[0]? = some v := by
    have : ((cs.drop i).take 1)[0]? = some v := by rw [h]; rfl
    simpa [List.getElem?_take] using this
  simpa using h2
theorem open_act {H : Type} {enc : TypeId × Value → H} {W : World} {fuel : Nat} {cs : List Value} {x : DataW H × List MemPlace} (h : DataW.trod enc Try.prog W 0 (fun _ => true) true fuel 38 cs = some x) :
    ∃ p : ActA, cs = p.cells ∧ ArgI W p.X p.len p.cap p.xs := by
  obtain ⟨y0, y1, y2, y3, n, _, hl, h0, h1, h2, h3⟩ := trod_struct4 Try.underlying38 h
  have c1 : Try.prog.cellsOf 3 = 1 := by kernel_rfl
  have c2 : Try.prog.cellsOf 2 = 1 := by kernel_rfl
  have c3 : Try.prog.cellsOf 25 = 1 := by kernel_rfl
  have c4 : Try.prog.cellsOf 38 = 4 := by kernel_rfl
  simp only [c1, c2, c3] at h0 h1 h2 h3
  rw [c4] at hl
  obtain ⟨op, e0, _, _⟩ := DataW.trod_int Try.underlying3 h0
  obtain ⟨lag, e1, _, _⟩ := DataW.trod_int Try.underlying3 h1
  obtain ⟨g, e2, _, _⟩ := DataW.trod_int Try.underlying2 h2
  have E : ∀ v, (cs.drop 3).take 1 = [v] → cs = [.int .i64 op, .int .i64 lag, .int .i64 g, v] := by
    intro v e3
    match cs, hl with
    | [a, b, c, d], _ => simp at e0 e1 e2 e3; simp [e0, e1, e2, e3]
  rcases open_ints Try.underlying25 Try.underlying2 (by kernel_rfl) h3 with ⟨hcs, _⟩ | ⟨x, l, c, zs, hcs, _, hl', hm, hz, _, hcell, hwz⟩
  · have : IsRow .i64 W none 0 0 [] := .inl ⟨rfl, rfl, rfl, rfl⟩
    exact ⟨⟨op, lag, g, none, 0, 0, _⟩, E _ hcs, this.arg⟩
  · have : IsRow .i64 W (some x) l c zs := .inr ⟨_, rfl, hl', hm, by simpa using hz, hcell, hwz⟩
    exact ⟨⟨op, lag, g, some x, l, c, _⟩, E _ hcs, this.arg⟩
theorem open_acts {H : Type} {enc : TypeId × Value → H} {W : World} {a : Option Addr} {len cap : Nat} {d : DataW H} {p : List MemPlace} (h : DataW.Trod enc Try.prog W 0 (fun _ => true) true 33 (.slice a len cap) d p) :
    ∃ acts, Acts W a len cap acts := by
  obtain ⟨fuel, hf⟩ := h
  rcases open_slice Try.underlying33 hf with ⟨hcs, _⟩ | ⟨x, l, c, m, n, D, Pl, hcs, _, hl, hm, hmm, _, hx⟩
  · simp [Value.cells] at hcs
    obtain ⟨rfl, rfl, rfl⟩ := hcs
    exact ⟨[], rfl, Nat.le_refl _, by omega, fun i p hp => by simp at hp⟩
  · simp [Value.cells] at hcs
    obtain ⟨rfl, rfl, rfl⟩ := hcs
    have c4 : Try.prog.cellsOf 38 = 4 := by kernel_rfl
    have hm2 : m = cap := by simpa using hmm
    obtain ⟨f, hf⟩ := choose_lt (α := ActA) (n := len) (p := fun i p => (∀ j v, p.cells[j]? = some v → W.cell? ((x.add (i * 4)).add j) = some v) ∧ ArgI W p.X p.len p.cap p.xs) (fun i hi => by
      obtain ⟨cs', h1, h2⟩ := hx i (by omega)
      obtain ⟨p, rfl, hp⟩ := open_act h2
      rw [c4] at h1
      obtain ⟨_, h3, h4⟩ := World.cells?_some h1
      refine ⟨p, fun j v hv => ?_, hp⟩
      have hj : j < 4 := by
        have := (List.getElem?_eq_some_iff.1 hv).1
        simpa [ActA.cells] using this
      rw [h4 j hj, hv])
    refine ⟨(List.range len).map f, by simp, hl, by unfold maxLen at hm; omega, fun i p hp => ?_⟩
    rw [List.getElem?_map] at hp
    by_cases hi : i < len
    · rw [List.getElem?_range hi] at hp
      simp only [Option.map_some, Option.some.injEq] at hp
      subst hp
      exact ⟨x, rfl, (hf i hi).1, (hf i hi).2⟩
    · rw [List.getElem?_eq_none (by simp; omega)] at hp
      cases hp
theorem plays_row (A : Option Addr) (n c : Nat) (acts : List ActA) (w : World) (h : Acts w A n c acts) :
    Calls Try.prog 4 #[.slice A n c] w fun e w' => e = .returned (.bool true) ∧ Below w.heap.size w w' :=
  (plays_walk A n c acts w h).mono fun _ _ ⟨he, k⟩ => ⟨he, k.toBelow⟩
end Go.Proofs.Ytddlkglpgkdgkaa
