/- Words of this proof: a block known whole, what a call keeps of the memory, slices that read as lists. -/
import Derived.Test.YtmnknegbbmjcbaaRows
import Derived.WalkKit
import Derived.WalkSpells
import Derived.WalkLawsBesides
import Derived.StillTailTactics
import Derived.Deep.QuietTactic
import Derived.BigQuiet
import Derived.Laws.CopyOwn
import Derived.Deep.AppendLies
import Derived.Deep.AppendSrc
import Derived.Deep.DrawnRows
import Derived.Lib.Hide
namespace Go.Proofs.Ytmnknegbbmjcbaa
open Go.RowKit

/-! ### a block known whole -/
def Blk (w : World) (b : Nat) (cs : Array Value) (t : TypeId) : Prop := w.heap[b]? = some (.cells cs t (0, 0))
theorem Blk.cell {w : World} {b : Nat} {cs : Array Value} {t : TypeId} (h : Blk w b cs t) (i : Nat) : w.cell? ⟨b, i, none⟩ = cs[i]? := cell_of_row w b i cs t (0, 0) h
theorem Blk.free {w : World} {b : Nat} {cs : Array Value} {t : TypeId} (h : Blk w b cs t) (i : Nat) : w.frozen? ⟨b, i, none⟩ = false := by simp [World.frozen?, show w.heap[b]? = _ from h]
theorem Blk.lt {w : World} {b : Nat} {cs : Array Value} {t : TypeId} (h : Blk w b cs t) : b < w.heap.size := (Array.getElem?_eq_some_iff.1 h).1
theorem Blk.one {w : World} {b : Nat} {v : Value} {t : TypeId} (h : Blk w b #[v] t) : w.cell? ⟨b, 0, none⟩ = some v := by
  have := h.cell 0
  simpa using this
theorem Blk.new (w : World) (cs : Array Value) (t : TypeId) : Blk (w.alloc (.cells cs t)) w.heap.size cs t := heap_alloc_new w _
theorem Blk.set {w : World} {b : Nat} {cs : Array Value} {t : TypeId} (h : Blk w b cs t) (i : Nat) (v : Value) : Blk (w.setCell ⟨b, i, none⟩ v) b (cs.setIfInBounds i v) t :=
  heap_setCell_same w b i cs t v h
theorem Blk.row {w : World} {b : Nat} {cs : Array Value} {t : TypeId} (h : Blk w b cs t) (cs' : Array Value) : Blk (w.setRow b cs') b cs' t := setRow_heap w b cs cs' t _ h
theorem Blk.ne {w : World} {b b' : Nat} {cs cs' : Array Value} {t t' : TypeId} (h : Blk w b cs t) (h' : Blk w b' cs' t') (ht : t ≠ t') : b ≠ b' := by
  rintro rfl
  have := (show w.heap[b]? = _ from h).symm.trans (show w.heap[b]? = _ from h')
  simp only [Option.some.injEq, Obj.cells.injEq] at this
  exact ht this.2.1
theorem Blk.ne_cells {w : World} {b b' : Nat} {cs cs' : Array Value} {t t' : TypeId} (h : Blk w b cs t) (h' : Blk w b' cs' t') (ht : cs ≠ cs') : b ≠ b' := by
  rintro rfl
  have := (show w.heap[b]? = _ from h).symm.trans (show w.heap[b]? = _ from h')
  simp only [Option.some.injEq, Obj.cells.injEq] at this
  exact ht this.1

/-! ### what is kept: all old blocks but those of a list -/
structure Keep (l : List Nat) (w w' : World) : Prop where
  os : w'.os = w.os
  tape : w'.tape = w.tape
  output : w'.output = w.output
  size : w.heap.size ≤ w'.heap.size
  block : ∀ k, k < w.heap.size → k ∉ l → w'.heap[k]? = w.heap[k]?
theorem Keep.refl (l : List Nat) (w : World) : Keep l w w := ⟨rfl, rfl, rfl, Nat.le_refl _, fun _ _ _ => rfl⟩
theorem Keep.trans' {l l1 l2 : List Nat} {w w1 w2 : World} (h : Keep l1 w w1) (k : Keep l2 w1 w2) (h1 : ∀ b ∈ l1, b ∈ l ∨ w.heap.size ≤ b) (h2 : ∀ b ∈ l2, b ∈ l ∨ w.heap.size ≤ b) : Keep l w w2 :=
  ⟨k.os.trans h.os, k.tape.trans h.tape, k.output.trans h.output, Nat.le_trans h.size k.size, fun b hb hl =>
    (k.block b (Nat.lt_of_lt_of_le hb h.size) (fun hm => by rcases h2 b hm with h' | h' <;> first | exact hl h' | omega)).trans
      (h.block b hb (fun hm => by rcases h1 b hm with h' | h' <;> first | exact hl h' | omega))⟩
theorem Keep.trans {l : List Nat} {w w1 w2 : World} (h : Keep l w w1) (k : Keep l w1 w2) : Keep l w w2 := h.trans' k (fun _ h => .inl h) (fun _ h => .inl h)
theorem Keep.mono {l l' : List Nat} {w w' : World} (h : Keep l w w') (hl : ∀ b ∈ l, b ∈ l' ∨ w.heap.size ≤ b) : Keep l' w w' := h.trans' (Keep.refl [] _) hl (fun _ h => by cases h)
theorem Keep.of0 {w w' : World} (h : Keep [] w w') (l : List Nat) : Keep l w w' := h.mono (fun _ h => by cases h)
theorem Keep.alloc (l : List Nat) (w : World) (o : Obj) : Keep l w (w.alloc o) := ⟨rfl, rfl, rfl, by simp, fun k hk _ => Below.heap_alloc w o k hk⟩
theorem Keep.drew (l : List Nat) (w : World) : Keep l w w.drew := ⟨rfl, rfl, rfl, Nat.le_refl _, fun _ _ _ => rfl⟩
theorem Keep.drewN (l : List Nat) (w : World) (n : Nat) : Keep l w (w.drewN n) := ⟨rfl, rfl, rfl, Nat.le_refl _, fun _ _ _ => rfl⟩
theorem Keep.set (w : World) (a : Addr) (v : Value) : Keep [a.block] w (w.setCell a v) := ⟨rfl, rfl, rfl, by simp, fun k _ hl => heap_setCell_other w a k v (by simpa using hl)⟩
theorem Keep.setb (w : World) (b i : Nat) (v : Value) : Keep [b] w (w.setCell ⟨b, i, none⟩ v) := Keep.set w ⟨b, i, none⟩ v
theorem Keep.row (w : World) (b : Nat) (cs : Array Value) : Keep [b] w (w.setRow b cs) := ⟨rfl, rfl, rfl, by simp, fun k _ hl => setRow_other w b k cs (by simpa using hl)⟩
theorem Keep.grown {w w' : World} {b : Option Nat} (h : w.grownBy w' b) : Keep b.toList w w' := ⟨h.os, h.tape, h.output, h.size, fun k hk hl => h.block k hk (fun e => hl (by simp [← e]))⟩
theorem Keep.below {w w' : World} (h : Below w.heap.size w w') : Keep [] w w' := ⟨h.os, h.tape, h.output, h.size, fun k hk _ => h.block k hk⟩
theorem Keep.toBelow {w w' : World} (h : Keep [] w w') : Below w.heap.size w w' := ⟨h.os, h.tape, h.output, h.size, fun k hk => h.block k hk (by simp)⟩
theorem Keep.below_of {B : Nat} {l : List Nat} {w0 w w' : World} (h0 : Below B w0 w) (h : Keep l w w') (hB : B ≤ w.heap.size) (hl : ∀ b ∈ l, B ≤ b) : Below B w0 w' :=
  h0.trans ⟨h.os, h.tape, h.output, h.size, fun k hk => h.block k (by omega) (fun hm => by have := hl k hm; omega)⟩
theorem Blk.keep {w w' : World} {b : Nat} {cs : Array Value} {t : TypeId} {l : List Nat} (h : Blk w b cs t) (k : Keep l w w') (hl : b ∉ l) : Blk w' b cs t := (k.block b h.lt hl).trans h
theorem Blk.drew {w : World} {b : Nat} {cs : Array Value} {t : TypeId} (h : Blk w b cs t) : Blk w.drew b cs t := h
theorem Blk.drewN {w : World} {b : Nat} {cs : Array Value} {t : TypeId} (h : Blk w b cs t) (n : Nat) : Blk (w.drewN n) b cs t := h
theorem Blk.alloc {w : World} {b : Nat} {cs : Array Value} {t : TypeId} (h : Blk w b cs t) (o : Obj) : Blk (w.alloc o) b cs t := h.keep (Keep.alloc [] w o) (by simp)
theorem Blk.setOther {w : World} {b : Nat} {cs : Array Value} {t : TypeId} (h : Blk w b cs t) {a : Addr} (v : Value) (hne : b ≠ a.block) : Blk (w.setCell a v) b cs t := h.keep (Keep.set w a v) (by simpa using hne)
theorem Keep.cell {l : List Nat} {w w' : World} (h : Keep l w w') {a : Addr} {v : Value} (hc : w.cell? a = some v) (hl : a.block ∉ l) : w'.cell? a = some v :=
  (World.cell?_of_block (h.block a.block (World.block_lt_of_cell? w a hc) hl)).trans hc

/-! ### slices that read as lists of whole numbers -/
/-- From address A on the cells of w read as xs. -/
def Rd (w : World) (A : Option Addr) (xs : List Int) : Prop := ∀ i, i < xs.length → ∃ a, A = some a ∧ w.cell? (a.add i) = some (.int .i64 (xs.getD i 0))
theorem add_block (a : Addr) (i : Nat) : (a.add i).block = a.block := by unfold Addr.add; split <;> rfl
theorem Rd.nil (w : World) (A : Option Addr) : Rd w A [] := fun i hi => by simp at hi
theorem Rd.keep {l : List Nat} {w w' : World} {A : Option Addr} {xs : List Int} (h : Rd w A xs) (k : Keep l w w') (hl : ∀ a, A = some a → a.block ∉ l) : Rd w' A xs := fun i hi => by
  obtain ⟨a, ha, hc⟩ := h i hi
  exact ⟨a, ha, k.cell hc (by rw [add_block]; exact hl a ha)⟩
theorem add_plain (g j : Nat) : (⟨g, 0, none⟩ : Addr).add j = ⟨g, j, none⟩ := by unfold Addr.add; split <;> simp_all
def ints (xs : List Int) : List Value := xs.map (Value.int .i64)
theorem ints_length (xs : List Int) : (ints xs).length = xs.length := by simp [ints]
theorem ints_get (xs : List Int) (i : Nat) (h : i < xs.length) : (ints xs)[i]? = some (.int .i64 (xs.getD i 0)) := by simp [ints, h]
theorem ints_append (xs ys : List Int) : ints (xs ++ ys) = ints xs ++ ints ys := by simp [ints]
theorem ints_one (xs : List Int) : ∀ v ∈ ints xs, v.oneCell' = true := by
  intro v hv
  obtain ⟨x, _, rfl⟩ := List.mem_map.1 hv
  rfl
/-- A block whose first cells are xs. -/
theorem Rd.ofBlk {w : World} {b : Nat} {xs : List Int} {tail : List Value} {t : TypeId} (h : Blk w b (ints xs ++ tail).toArray t) : Rd w (some ⟨b, 0, none⟩) xs := fun i hi => by
  refine ⟨_, rfl, ?_⟩
  rw [add_plain, h.cell i]
  simp only [List.getElem?_toArray]
  rw [List.getElem?_append_left (by rw [ints_length]; exact hi), ints_get xs i hi]
theorem Rd.ofBlk0 {w : World} {b : Nat} {xs : List Int} {t : TypeId} (h : Blk w b (ints xs).toArray t) : Rd w (some ⟨b, 0, none⟩) xs :=
  Rd.ofBlk (tail := []) (by simpa using h)
theorem Rd.at_ {w : World} {A : Option Addr} {xs : List Int} (h : Rd w A xs) (i : Nat) (hi : i < xs.length) : ∃ a, A = some a ∧ w.cell? (a.add i) = some (.int .i64 (xs.getD i 0)) := h i hi
theorem Rd.addr {w : World} {A : Option Addr} {xs : List Int} (h : Rd w A xs) (hi : 0 < xs.length) : ∃ a, A = some a ∧ ∀ i, i < xs.length → w.cell? (a.add i) = some (.int .i64 (xs.getD i 0)) := by
  obtain ⟨a, rfl, _⟩ := h 0 hi
  refine ⟨a, rfl, fun i hi => ?_⟩
  obtain ⟨a', e, hc⟩ := h i hi
  cases e
  exact hc
theorem Rd.take {w : World} {A : Option Addr} {xs : List Int} (h : Rd w A xs) (n : Nat) : Rd w A (xs.take n) := fun i hi => by
  simp only [List.length_take] at hi
  obtain ⟨a, e, hc⟩ := h i (by omega)
  refine ⟨a, e, ?_⟩
  rw [hc]
  simp [show i < n by omega]
theorem add_add (a : Addr) (m n : Nat) : (a.add m).add n = a.add (m + n) := by
  unfold Addr.add
  by_cases hm : m = 0
  · subst hm; simp
  · by_cases hn : n = 0
    · subst hn; simp
    · simp [hm, hn, Nat.add_assoc]
theorem Rd.drop {w : World} {A : Option Addr} {xs : List Int} (h : Rd w A xs) (n : Nat) : Rd w (A.map (·.add n)) (xs.drop n) := fun i hi => by
  simp only [List.length_drop] at hi
  obtain ⟨a, rfl, hc⟩ := h (n + i) (by omega)
  refine ⟨_, rfl, ?_⟩
  rw [add_add, hc]
  simp
theorem Rd.block_lt {w : World} {a : Addr} {xs : List Int} (h : Rd w (some a) xs) (hi : 0 < xs.length) : a.block < w.heap.size := by
  obtain ⟨a', e, hc⟩ := h 0 hi
  cases e
  have := World.block_lt_of_cell? w _ hc
  rwa [add_block] at this

/-! ### contracts over a world that is kept or drawn -/
theorem qs {P : Program} {f : FuncId} {args : Array Value} {w : World} {v : Value} (h : Calls P f args w fun e w' => e = .returned v ∧ w = w') :
    Calls P f args w fun e w' => e = .returned v ∧ w' = w := h.mono fun _ _ ⟨a, b⟩ => ⟨a, b.symm⟩
theorem qq {P : Program} {f : FuncId} {args : Array Value} {w : World} {n : Nat} {v : Value}
    (h : Calls P f args (w.drewN n) fun e w' => e = .returned v ∧ w.drewN n = w') : Calls P f args (w.drewN n) fun e w'' => e = .returned v ∧ ∃ m, w'' = w.drewN m :=
  h.mono fun _ _ ⟨he, hm⟩ => ⟨he, n, hm.symm⟩
theorem ret_i {k : IntKind} {a b : Int} (h : a = b) : Ending.returned (.int k a) = .returned (.int k b) := by rw [h]
end Go.Proofs.Ytmnknegbbmjcbaa
