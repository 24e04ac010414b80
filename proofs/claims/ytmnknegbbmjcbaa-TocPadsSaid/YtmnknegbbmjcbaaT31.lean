/- A packet among a row's arguments; the walk of TocPacks. -/
import Derived.Test.YtmnknegbbmjcbaaT29
import Derived.Test.YtmnknegbbmjcbaaT30
import Derived.Lib.SmallJoins
import Derived.Deep.Matrix
namespace Go.Proofs.Ytmnknegbbmjcbaa
open Go.RowKit Go.ChangeShapes Go.WideShapes Go.Deep Go.Joins

structure PkA where
  cfg : Int
  ch : Int
  pad : Int
  A : Option Addr
  n : Nat
  c : Nat
  L : List (List Int)
def PkA.val (p : PkA) : Value := .agg #[.int .i64 p.cfg, .int .i64 p.ch, .slice p.A p.n p.c, .int .i64 p.pad]
def IsPk (w : World) (v : Value) (p : PkA) : Prop := v = p.val ∧ FrR w p.A p.n p.c p.L
theorem weightsAll_mem {H : Type} {P : Program} {e : TypeId} {d : DataW H} {n : Nat} (hn : n ∈ d.weights P e) : ∀ {l : List (DataW H)}, d ∈ l → n ∈ DataW.weightsAll P e l
  | [], h => by cases h
  | x :: r, h => by
    simp only [DataW.weightsAll, List.mem_append]
    rcases List.mem_cons.1 h with rfl | h
    · exact .inl hn
    · exact .inr (weightsAll_mem hn h)
theorem open_pk {H : Type} {enc : TypeId × Value → H} {W : World} {base : Nat} {v : Value} {d : DataW H} {ps : List MemPlace} {ts : List TypeId} {ds : List (DataW H)} {j : Nat} (hv : Value.okWide Try.prog W .any base 25 v)
    (hsz : (DataW.weightsEach Try.prog ts ds).all (· ≤ reachBytes) = true) (ht : ts[j]? = some 25) (hd : ds[j]? = some d) (h : DataW.Trod enc Try.prog W 0 (fun _ => true) true 25 v d ps) :
    ∃ z : PkA, IsPk W v z := by
  obtain ⟨cs, rfl, _⟩ := okWide_struct Try.underlying25 hv
  obtain ⟨fuel, hf⟩ := h
  obtain ⟨y0, y1, y2, y3, n, hx, hl, h0, h1, h2, h3⟩ := trod_struct4 Try.underlying25 hf
  have c1 : Try.prog.cellsOf 3 = 1 := by kernel_rfl
  have c3 : Try.prog.cellsOf 23 = 1 := by kernel_rfl
  have c4 : Try.prog.cellsOf 25 = 4 := by kernel_rfl
  simp only [c1, c3] at h0 h1 h2 h3
  rw [c4] at hl
  obtain ⟨cfg, e0, _, _⟩ := DataW.trod_int Try.underlying3 h0
  obtain ⟨ch, e1, _, _⟩ := DataW.trod_int Try.underlying3 h1
  obtain ⟨pad, e3, _, _⟩ := DataW.trod_int Try.underlying3 h3
  have E : ∀ u, ((Value.agg cs).cells.toList.drop 2).take 1 = [u] → Value.agg cs = .agg #[.int .i64 cfg, .int .i64 ch, u, .int .i64 pad] := by
    intro u e2
    obtain ⟨cs⟩ := cs
    have hl4 : cs.length = 4 := hl
    obtain ⟨a, b, c, d, rfl⟩ : ∃ a b c d, cs = [a, b, c, d] := by
      match cs, hl4 with
      | [a, b, c, d], _ => exact ⟨a, b, c, d, rfl⟩
    replace e0 : [a] = [Value.int .i64 cfg] := e0
    replace e1 : [b] = [Value.int .i64 ch] := e1
    replace e2 : [c] = [u] := e2
    replace e3 : [d] = [Value.int .i64 pad] := e3
    simp at e0 e1 e2 e3
    simp [e0, e1, e2, e3]
  rcases open_int_rows Try.underlying23 Try.underlying29 Try.underlying5 (by kernel_rfl) (by kernel_rfl) h2 with ⟨hcs, _⟩ | ⟨a, len, cap, A, L, C, Z, hcs, _, hlc, hcm, hy, hr⟩
  · exact ⟨⟨cfg, ch, pad, none, 0, 0, []⟩, E _ hcs, FrR.empty _⟩
  · refine ⟨⟨cfg, ch, pad, some a, len, cap, (List.range len).map fun r => (Z r).take (L r)⟩, E _ hcs, by simp, hlc, by unfold maxLen at hcm; omega, (fun h => by cases h), fun i l hi => ?_⟩
    rw [List.getElem?_map] at hi
    have hil : i < len := by
      rcases Nat.lt_or_ge i len with h | h
      · exact h
      · rw [List.getElem?_eq_none (by simp; omega)] at hi
        cases hi
    rw [List.getElem?_range hil] at hi
    simp only [Option.map_some, Option.some.injEq] at hi
    subst hi
    obtain ⟨r1, r2, r3, r4, r5, r6, r7⟩ := hr i (by omega)
    have hlen : ((Z i).take (L i)).length = L i := by simp; omega
    have hbig : L i ≤ 140737488355328 := by
      cases hA : A i with
      | none =>
        have := r6 hA
        omega
      | some a' =>
        have hmem : ((lits (H := H) .u8 ((Z i).take (L i))).length + (lits (H := H) .u8 ((Z i).drop (L i))).length) * Try.prog.bytesOf 5 ∈ d.weights Try.prog 25 := by
          have hd2 : d = .agg [y0.1, y1.1, y2.1, y3.1] := (Prod.mk.inj hx).1
          rw [hd2, hy]
          simp only [DataW.weights, Try.underlying25, Try.underlying23, DataW.weightsEach, List.map_cons, List.map_nil, List.mem_append, List.mem_cons]
          refine .inr (.inr (.inl (.inr (.inl (weightsAll_mem (d := intRow .u8 (A i) (L i) (Z i)) ?_ ?_)))))
          · rw [hA]
            simp [intRow, DataW.weights, Try.underlying29]
          · exact List.mem_map.2 ⟨i, by simpa using hil, rfl⟩
        have hb : Try.prog.bytesOf 5 = 1 := by kernel_rfl
        have hle := List.all_eq_true.1 hsz _ (DataW.weights_mem_each ht hd _ hmem)
        rw [hb] at hle
        simp only [decide_eq_true_eq, Nat.mul_one] at hle
        have h1 : (lits (H := H) .u8 ((Z i).take (L i))).length = L i := by rw [show (lits (H := H) .u8 ((Z i).take (L i))).length = ((Z i).take (L i)).length by simp [lits]]; exact hlen
        unfold reachBytes at hle
        omega
    refine ⟨a, A i, C i, rfl, by rw [hlen]; exact r1, ?_⟩
    rw [hlen]
    have hreads : RdV W (A i) (bytes ((Z i).take (L i))) := fun q u hq => by
      have hqi := (List.getElem?_eq_some_iff.1 hq).1
      rw [bytes_length, hlen] at hqi
      rw [bytes_get _ q (by omega)] at hq
      cases hA : A i with
      | none =>
        have := r6 hA
        omega
      | some a' =>
        refine ⟨a', rfl, ?_⟩
        rw [(r7 a' hA).2 q (by omega), ← hq]
        simp [hqi]
    refine ⟨hlen, r2, by unfold maxLen at r3; omega, hreads, fun hA => by have := r6 hA; omega, fun a' ha' h0 => ?_, fun z hz => wf_u8 (r5 z (List.mem_of_mem_take hz)), hbig⟩
    rw [ha'] at hreads
    exact hreads.block_lt (by rw [bytes_length]; omega)
end Go.Proofs.Ytmnknegbbmjcbaa
