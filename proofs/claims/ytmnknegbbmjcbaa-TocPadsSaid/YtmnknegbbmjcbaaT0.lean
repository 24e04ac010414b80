/- Slices of values: what they read as, those that a call owns; append; slicing; bytes. -/
import Derived.Test.YtmnknegbbmjcbaaK0
import Derived.Maps.AppendAt
import Derived.Laws.BytesArg
namespace Go.Proofs.Ytmnknegbbmjcbaa
open Go.RowKit

/-- A slice type with elements of one cell. -/
structure SlT (t e : TypeId) (z : Value) (by_ : Nat) : Prop where
  under : Try.prog.underlying t = some (.slice e)
  info : (Try.prog.info? e).map (fun i => (i.zero, i.size, i.bytes)) = some (some z, 1, by_)
  zc : z.cells.size = 1
  le : by_ ≤ 24
theorem slB : SlT 29 5 (.int .u8 0) 1 := ⟨Try.underlying29, by kernel_rfl, rfl, by omega⟩
theorem slF : SlT 23 29 (.slice none 0 0) 24 := ⟨Try.underlying23, by kernel_rfl, rfl, by omega⟩
theorem slI : SlT 59 3 (.int .i64 0) 8 := ⟨Try.underlying59, by kernel_rfl, rfl, by omega⟩

def RdV (w : World) (A : Option Addr) (vs : List Value) : Prop := ∀ i v, vs[i]? = some v → ∃ a, A = some a ∧ w.cell? (a.add i) = some v
theorem RdV.nil (w : World) (A : Option Addr) : RdV w A [] := fun i v hv => by simp at hv
theorem RdV.keep {l : List Nat} {w w' : World} {A : Option Addr} {vs : List Value} (h : RdV w A vs) (k : Keep l w w') (hl : ∀ a, A = some a → 0 < vs.length → a.block ∉ l) : RdV w' A vs := fun i v hv => by
  obtain ⟨a, ha, hc⟩ := h i v hv
  have hi := (List.getElem?_eq_some_iff.1 hv).1
  exact ⟨a, ha, k.cell hc (by rw [add_block]; exact hl a ha (by omega))⟩
theorem RdV.keep0 {w w' : World} {A : Option Addr} {vs : List Value} (h : RdV w A vs) (k : Keep [] w w') : RdV w' A vs := h.keep k (by simp)
theorem RdV.take {w : World} {A : Option Addr} {vs : List Value} (h : RdV w A vs) (n : Nat) : RdV w A (vs.take n) := fun i v hv => by
  refine h i v ?_
  rw [List.getElem?_take] at hv
  split at hv
  · exact hv
  · cases hv
theorem RdV.drop {w : World} {A : Option Addr} {vs : List Value} (h : RdV w A vs) (n : Nat) : RdV w (A.map (·.add n)) (vs.drop n) := fun i v hv => by
  rw [List.getElem?_drop] at hv
  obtain ⟨a, ha, hc⟩ := h (n + i) v hv
  exact ⟨a.add n, by rw [ha]; rfl, by rw [add_add]; exact hc⟩
theorem RdV.block_lt {w : World} {a : Addr} {vs : List Value} (h : RdV w (some a) vs) (hi : 0 < vs.length) : a.block < w.heap.size := by
  obtain ⟨a', ha, hc⟩ := h 0 vs[0] (List.getElem?_eq_getElem hi)
  cases ha
  have := World.block_lt_of_cell? w _ hc
  rwa [add_block] at this

/-- A slice that is owned: its block is its own, it starts there. -/
def MadeV (w : World) (e : TypeId) (v : Value) (vs : List Value) : Prop := w.ownsRow 0 e 1 v vs.length vs
theorem MadeV.nil (w : World) (e : TypeId) : MadeV w e (.slice none 0 0) [] := World.ownsRow_nil w 0 e 1
theorem MadeV.keep {w w' : World} {l : List Nat} {e : TypeId} {v : Value} {vs : List Value} (h : MadeV w e v vs) (k : Keep l w w') (hl : ∀ g, v.ownBlock = some g → g ∉ l) : MadeV w' e v vs := by
  obtain ⟨h1, h2⟩ := h
  refine ⟨h1, ?_⟩
  rcases h2 with h2 | ⟨g, cap, cur, rfl, hb, hg, rest⟩
  · exact .inl h2
  · exact .inr ⟨g, cap, cur, rfl, hb, Blk.keep (show Blk w g cur _ from hg) k (hl g rfl), rest⟩
theorem MadeV.keep0 {w w' : World} {e : TypeId} {v : Value} {vs : List Value} (h : MadeV w e v vs) (k : Keep [] w w') : MadeV w' e v vs := h.keep k (by simp)
theorem MadeV.lt {w : World} {e : TypeId} {v : Value} {vs : List Value} (h : MadeV w e v vs) : ∀ g, v.ownBlock = some g → g < w.heap.size := fun g hg => (World.ownsRow.lt h g hg).2
theorem MadeV.typ {w : World} {e : TypeId} {v : Value} {vs : List Value} (h : MadeV w e v vs) : ∀ g, v.ownBlock = some g → ∃ cs, Blk w g cs e := fun g hg => by
  obtain ⟨h1, h2⟩ := h
  rcases h2 with ⟨rfl, _⟩ | ⟨g', cap, cur, rfl, hb, hgg, rest⟩
  · cases hg
  · cases hg
    exact ⟨cur, hgg⟩
theorem MadeV.ne {w : World} {e t : TypeId} {v : Value} {vs : List Value} {b : Nat} {cs : Array Value} (h : MadeV w e v vs) (hb : Blk w b cs t) (ht : e ≠ t) : ∀ g, v.ownBlock = some g → g ≠ b := fun g hg => by
  obtain ⟨cs', h'⟩ := h.typ g hg
  exact h'.ne hb ht
theorem MadeV.reads {w : World} {e : TypeId} {v : Value} {vs : List Value} (h : MadeV w e v vs) : ∃ A c, v = .slice A vs.length c ∧ vs.length ≤ c ∧ c ≤ 9223372036854775807 ∧ RdV w A vs ∧ (A = none → vs.length = 0) ∧ (∀ a, A = some a → v.ownBlock = some a.block) := by
  obtain ⟨h1, h2⟩ := h
  rcases h2 with ⟨rfl, h0⟩ | ⟨g, cap, cur, rfl, _, hg, hn, hm, hs, ht⟩
  · have hv : vs = [] := List.eq_nil_of_length_eq_zero h0
    subst hv
    exact ⟨none, 0, rfl, Nat.le_refl _, by omega, RdV.nil _ _, fun _ => rfl, fun a ha => by cases ha⟩
  · refine ⟨_, cap, rfl, hn, by unfold maxLen at hm; omega, fun i v hv => ⟨_, rfl, ?_⟩, (fun hA => by cases hA), (fun a ha => by cases ha; rfl)⟩
    rw [add_plain, Blk.cell (show Blk w g cur _ from hg)]
    have hi := (List.getElem?_eq_some_iff.1 hv).1
    rw [Nat.mul_one] at ht
    rw [← ht, List.getElem?_take, if_pos hi] at hv
    simpa using hv
theorem MadeV.ofBlk {w : World} {e : TypeId} {g : Nat} {vs : List Value} (h : Blk w g vs.toArray e) (hl : vs.length ≤ 1000000000) : MadeV w e (.slice (some ⟨g, 0, none⟩) vs.length vs.length) vs :=
  ⟨by simp, .inr ⟨g, vs.length, vs.toArray, rfl, Nat.zero_le _, h, Nat.le_refl _, by unfold maxLen; omega, by simp, by simp⟩⟩
theorem MadeV.lit (w : World) (e : TypeId) (vs : List Value) (hl : vs.length ≤ 1000000000) : MadeV (w.alloc (.cells vs.toArray e)) e (.slice (some ⟨w.heap.size, 0, none⟩) vs.length vs.length) vs := MadeV.ofBlk (Blk.new w _ _) hl
theorem rdV_lit (w : World) (e : TypeId) (vs : List Value) : RdV (w.alloc (.cells vs.toArray e)) (some ⟨w.heap.size, 0, none⟩) vs := fun i v hv => ⟨_, rfl, by rw [add_plain, (Blk.new w _ _).cell]; simpa using hv⟩

/-- 'append(dst, src...)', dst one of the call's own. -/
theorem run_append_v {t e : TypeId} {z : Value} {by_ : Nat} (S : SlT t e z by_) (w : World) (ty : TypeId) (v : Value) (vs : List Value) (hm : MadeV w e v vs) (A : Option Addr) (n c : Nat) (ys : List Value) (hn : ys.length = n) (hr : RdV w A ys)
    (h1c : ∀ u ∈ ys, u.oneCell' = true) (hbig : (vs.length + n) * by_ ≤ 140737488355328) (hb2 : vs.length + n ≤ 140737488355328) (hnn : A = none → n = 0) :
    ∃ v' w', (Builtin.append_ #[t, t] ty #[v, .slice A n c]).run Try.prog w = .ok v' w' ∧ MadeV w' e v' (vs ++ ys) ∧ Keep v.ownBlock.toList w w' ∧ (v'.ownBlock = v.ownBlock ∨ v'.ownBlock = some w.heap.size) := by
  obtain ⟨i, hi, hz, hs, hb⟩ := info_parts S.info
  cases A with
  | some a =>
    obtain ⟨v', w', h1, h2, h3, _, h5⟩ := run_append_own_at (P := Try.prog) w 0 t ty e i z 1 by_ S.under hi hz hs hb S.zc (by omega) v vs.length vs hm a n c ys (by omega)
      (fun j u hu => by
        obtain ⟨a', e', hc⟩ := hr j u hu
        cases e'
        exact hc) h1c (by unfold maxLen; omega) hbig (Nat.zero_le _)
    refine ⟨v', w', h1, ?_, Keep.grown h3, h5⟩
    unfold MadeV
    rw [List.length_append, hn]
    exact h2
  | none =>
    have h0 := hnn rfl
    subst h0
    have hy : ys = [] := List.eq_nil_of_length_eq_zero hn
    subst hy
    rw [List.append_nil]
    obtain ⟨h1, h2⟩ := hm
    rcases h2 with ⟨rfl, h0⟩ | ⟨g, cap, cur, rfl, hb0, hg, hnc, hcm, hcs, ht⟩
    · refine ⟨.slice none 0 0, w, ?_, ⟨h1, .inl ⟨rfl, h0⟩⟩, Keep.refl _ _, .inl rfl⟩
      simp [Builtin.append_, run_underlying S.under, sizeOf, typeInfo, hi, Builtin.lenOf, Builtin.firstCells]
    · have hrun := run_append_room_src (P := Try.prog) w t t ty e i S.under hi g 0 vs.length cap (.slice none 0 c) 0 [] (Src.ofNil w S.under c) (by omega) (by simp) (by simp)
      refine ⟨_, _, hrun, ?_, ?_, .inl rfl⟩
      · simp only [World.setCells]
        exact ⟨h1, .inr ⟨g, cap, cur, by rw [Nat.add_zero], hb0, hg, hnc, hcm, hcs, ht⟩⟩
      · simp only [World.setCells]
        exact Keep.refl _ _
/-- At a list of operations; guarded or not, where it is wanted. -/
theorem append_v {t e : TypeId} {z : Value} {by_ : Nat} (S : SlT t e z by_) {o : Oper} {a : Act} {ops : Array Oper} {rest : List Oper} {w : World} {Q : Exit → Act → World → Prop} (hgd : Region.wanted o (yielded ops a.tmps) = true) (s x : Operand)
    (ho : o.op = .call { callee := .builtin .append, args := #[s, x], argTypes := #[t, t] }) (v : Value) (vs : List Value) (hv : a.eval s = v) (hm : MadeV w e v vs)
    (A : Option Addr) (n c : Nat) (ys : List Value) (hx : a.eval x = .slice A n c) (hn : ys.length = n) (hr : RdV w A ys) (h1c : ∀ u ∈ ys, u.oneCell' = true)
    (hbig : (vs.length + n) * by_ ≤ 140737488355328) (hb2 : vs.length + n ≤ 140737488355328) (hnn : A = none → n = 0)
    (h : ∀ v' w', MadeV w' e v' (vs ++ ys) → Keep v.ownBlock.toList w w' → (v'.ownBlock = v.ownBlock ∨ v'.ownBlock = some w.heap.size) → wpList Try.prog ops Q rest (a.put o.dst v') w') :
    wpList Try.prog ops Q (o :: rest) a w := by
  refine wpList_step fun K hK => ?_
  rw [if_pos hgd]
  obtain ⟨v', w', hrun, h1, h2, h3⟩ := run_append_v S w o.type v vs hm A n c ys hn hr h1c hbig hb2 hnn
  unfold Oper.wp
  simp [execOp, ho, resolve, invoke, builtin, hv, hx, hrun, Result.andThen]
  exact hK _ _ (h v' w' h1 h2 h3)
/-- The same at a step of a region that draws. -/
theorem step_append_v {t e : TypeId} {z : Value} {by_ : Nat} (S : SlT t e z by_) {o : Oper} {a : Act} {ops : Array Oper} {w : World} {K : Act → World → Prop} {Q : Exit → Act → World → Prop} {E : Prop} (hgd : o.guard = none) (s x : Operand)
    (ho : o.op = .call { callee := .builtin .append, args := #[s, x], argTypes := #[t, t] }) (v : Value) (vs : List Value) (hv : a.eval s = v) (hm : MadeV w e v vs)
    (A : Option Addr) (n c : Nat) (ys : List Value) (hx : a.eval x = .slice A n c) (hn : ys.length = n) (hr : RdV w A ys) (h1c : ∀ u ∈ ys, u.oneCell' = true)
    (hbig : (vs.length + n) * by_ ≤ 140737488355328) (hb2 : vs.length + n ≤ 140737488355328) (hnn : A = none → n = 0)
    (h : ∀ v' w', MadeV w' e v' (vs ++ ys) → Keep v.ownBlock.toList w w' → (v'.ownBlock = v.ownBlock ∨ v'.ownBlock = some w.heap.size) → K (a.put o.dst v') w') :
    if Region.wanted o (yielded ops a.tmps) = true then Oper.wp Try.prog o a w K Q else E := by
  have hw : Region.wanted o (yielded ops a.tmps) = true := by simp [Region.wanted, hgd]
  rw [if_pos hw]
  obtain ⟨v', w', hrun, h1, h2, h3⟩ := run_append_v S w o.type v vs hm A n c ys hn hr h1c hbig hb2 hnn
  unfold Oper.wp
  simp [execOp, ho, resolve, invoke, builtin, hv, hx, hrun, Result.andThen]
  exact h v' w' h1 h2 h3

theorem elem_of {t e : TypeId} {z : Value} {by_ : Nat} (S : SlT t e z by_) : Try.prog.elem t = e := by simp [Program.elem, S.under]
/-- 'xs[m:]'. -/
theorem cut_from_v {t e : TypeId} {z : Value} {by_ : Nat} (S : SlT t e z by_) (A : Option Addr) (n c m : Nat) (hm : m ≤ n) (hnc : n ≤ c) :
    ∃ A' : Option Addr, (∀ W : World, (Instr.slice t (.slice A n c) (some (.int .i64 (m : Int))) none none).run Try.prog W = .ok (.slice A' (n - m) (c - m)) W) ∧
      (∀ (w : World) (vs : List Value), vs.length = n → RdV w A vs → RdV w A' (vs.drop m)) ∧ (∀ a', A' = some a' → ∃ a, A = some a ∧ a'.block = a.block) ∧ (A' = none → A = none) := by
  obtain ⟨i, hi, hz, hs, hb⟩ := info_parts S.info
  have hel := elem_of S
  refine ⟨if c = m then A else A.map (·.add m), fun W => ?_, ?_, ?_, ?_⟩
  · have hu : Try.prog.underlying t = some (.slice (Try.prog.elem t)) := by rw [hel]; exact S.under
    rw [run_slice_l W t A n c hu .i64 (m : Int) (Int.natCast_nonneg _) (by omega), hel]
    simp [sizeOf, typeInfo, hi, hs, sliced, Result.andThen]
  · intro w vs hx h
    split
    · have : vs.drop m = [] := List.drop_of_length_le (by omega)
      rw [this]
      exact RdV.nil _ _
    · exact h.drop m
  · intro a' h
    split at h
    · exact ⟨a', h, rfl⟩
    · obtain ⟨a, ha, rfl⟩ := Option.map_eq_some_iff.1 h
      exact ⟨a, ha, add_block a m⟩
  · intro h
    split at h
    · exact h
    · simpa using h
/-- 'xs[:m]'. -/
theorem cut_to_v {t e : TypeId} {z : Value} {by_ : Nat} (S : SlT t e z by_) (A : Option Addr) (n c m : Nat) (hm : m ≤ n) (hnc : n ≤ c) :
    ∀ W : World, (Instr.slice t (.slice A n c) none (some (.int .i64 (m : Int))) none).run Try.prog W = .ok (.slice A m c) W := by
  intro W
  obtain ⟨i, hi, hz, hs, hb⟩ := info_parts S.info
  have hel := elem_of S
  have hu : Try.prog.underlying t = some (.slice (Try.prog.elem t)) := by rw [hel]; exact S.under
  rw [run_slice_h W t A n c hu .i64 (m : Int) (Int.natCast_nonneg _) (by omega), hel]
  have h0 : ∀ a : Addr, a.add 0 = a := fun a => by unfold Addr.add; split <;> simp_all
  have h1 : A.map (fun a => a.add 0) = A := by cases A <;> simp [h0]
  simp [sizeOf, typeInfo, hi, hs, sliced, Result.andThen, h1]

/-! ### bytes -/
def bytes (xs : List Int) : List Value := xs.map (Value.int .u8)
theorem bytes_length (xs : List Int) : (bytes xs).length = xs.length := by simp [bytes]
theorem bytes_append (xs ys : List Int) : bytes (xs ++ ys) = bytes xs ++ bytes ys := by simp [bytes]
theorem bytes_take (xs : List Int) (n : Nat) : bytes (xs.take n) = (bytes xs).take n := by simp [bytes]
theorem bytes_drop (xs : List Int) (n : Nat) : bytes (xs.drop n) = (bytes xs).drop n := by simp [bytes]
theorem bytes_one (xs : List Int) : ∀ u ∈ bytes xs, u.oneCell' = true := by
  intro u hu
  simp only [bytes, List.mem_map] at hu
  obtain ⟨x, _, rfl⟩ := hu
  rfl
theorem bytes_get (xs : List Int) (i : Nat) (h : i < xs.length) : (bytes xs)[i]? = some (.int .u8 (xs.getD i 0)) := by simp [bytes, h]
/-- A slice of bytes that came in: what it reads as. -/
structure ArgB (w : World) (A : Option Addr) (n c : Nat) (xs : List Int) : Prop where
  ln : xs.length = n
  cp : n ≤ c
  most : c ≤ 9223372036854775807
  reads : RdV w A (bytes xs)
  nil : A = none → n = 0
  old : ∀ a, A = some a → 0 < n → a.block < w.heap.size
  rng : ∀ x ∈ xs, 0 ≤ x ∧ x ≤ 255
  big : n ≤ 140737488355328
theorem ArgB.keep {w w' : World} {A : Option Addr} {n c : Nat} {xs : List Int} {l : List Nat} (h : ArgB w A n c xs) (k : Keep l w w') (hl : ∀ a, A = some a → 0 < n → a.block ∉ l) : ArgB w' A n c xs :=
  ⟨h.ln, h.cp, h.most, h.reads.keep k (fun a ha h0 => hl a ha (by rw [bytes_length, h.ln] at h0; exact h0)), h.nil, fun a ha h0 => by have := h.old a ha h0; have := k.size; omega, h.rng, h.big⟩
theorem ArgB.keep0 {w w' : World} {A : Option Addr} {n c : Nat} {xs : List Int} (h : ArgB w A n c xs) (k : Keep [] w w') : ArgB w' A n c xs := h.keep k (by simp)
theorem MadeV.argB {w : World} {v : Value} {xs : List Int} (h : MadeV w 5 v (bytes xs)) (hr : ∀ x ∈ xs, 0 ≤ x ∧ x ≤ 255) (hb : xs.length ≤ 140737488355328) : ∃ A c, v = .slice A xs.length c ∧ ArgB w A xs.length c xs := by
  obtain ⟨A, c, hv, hc, hm, hrd, hn, ho⟩ := h.reads
  rw [bytes_length] at hv hc hn
  exact ⟨A, c, hv, rfl, hc, hm, hrd, hn, fun a ha h0 => h.lt _ (ho a ha), hr, hb⟩
end Go.Proofs.Ytmnknegbbmjcbaa
