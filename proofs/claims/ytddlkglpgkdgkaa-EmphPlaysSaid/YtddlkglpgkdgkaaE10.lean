/- The walk of EmphChains: steps are done one after the other; the sound that is handed in stays as it was; none is a copy. -/
import Derived.Test.YtddlkglpgkdgkaaE9
namespace Go.Proofs.Ytddlkglpgkdgkaa
open Go.RowKit

theorem Made.store {w : World} {A : Option Addr} {n c : Nat} {zs : List Int} (h : Made w (.slice A n c) zs) (i : Nat) (hi : i < zs.length) (y : Int) :
    ∃ g, A = some ⟨g, 0, none⟩ ∧ w.cell? ⟨g, i, none⟩ = some (.int .i64 (zs.getD i 0)) ∧ w.frozen? ⟨g, i, none⟩ = false ∧ Made (w.setCell ⟨g, i, none⟩ (.int .i64 y)) (.slice A n c) (zs.set i y) := by
  obtain ⟨h1, h2⟩ := h
  rcases h2 with ⟨hv, h0⟩ | ⟨g, cap, cur, hv, hb, hg, hn, hc, hs, ht⟩
  · omega
  · simp only [Value.slice.injEq] at hv
    obtain ⟨rfl, rfl, rfl⟩ := hv
    have hb' : Blk w g cur 2 := hg
    have hlt : i < cur.size := by omega
    have hgi : cur[i]? = some (.int .i64 (zs.getD i 0)) := by
      have h3 := ints_get zs i hi
      rw [← ht, List.getElem?_take, if_pos (by omega)] at h3
      simpa using h3
    refine ⟨g, rfl, by rw [hb'.cell, hgi], hb'.free i, ⟨by simp [ints], .inr ⟨g, c, _, by rw [List.length_set], Nat.zero_le _, hb'.set i _, by rw [List.length_set]; exact hn, hc, by simpa using hs, ?_⟩⟩⟩
    rw [List.length_set, Nat.mul_one, Array.toList_setIfInBounds, List.take_set]
    rw [Nat.mul_one] at ht
    rw [ht]
    simp [ints]

/-! ### steps kept in a slice -/
theorem infoFunc : (Try.prog.info? 30).map (fun i => (i.zero, i.size, i.bytes)) = some (some .nilFunc, 1, 8) := by kernel_rfl
def MadeF (w : World) (v : Value) (l : List (Stp Flt)) : Prop := w.ownsRow 0 30 1 v l.length (l.map Stp.val)
theorem MadeF.nil (w : World) : MadeF w (.slice none 0 0) [] := World.ownsRow_nil w 0 _ 1
theorem MadeF.keep {w w' : World} {l : List Nat} {v : Value} {xs : List (Stp Flt)} (h : MadeF w v xs) (k : Keep l w w') (hl : ∀ g, v.ownBlock = some g → g ∉ l) : MadeF w' v xs := by
  obtain ⟨h1, h2⟩ := h
  refine ⟨h1, ?_⟩
  rcases h2 with h2 | ⟨g, cap, cur, rfl, hb, hg, rest⟩
  · exact .inl h2
  · exact .inr ⟨g, cap, cur, rfl, hb, Blk.keep (show Blk w g cur _ from hg) k (hl g rfl), rest⟩
theorem MadeF.lt {w : World} {v : Value} {xs : List (Stp Flt)} (h : MadeF w v xs) : ∀ g, v.ownBlock = some g → g < w.heap.size := fun g hg => (World.ownsRow.lt h g hg).2
theorem MadeF.typ {w : World} {v : Value} {xs : List (Stp Flt)} (h : MadeF w v xs) : ∀ g, v.ownBlock = some g → ∃ cs, Blk w g cs 30 := fun g hg => by
  obtain ⟨h1, h2⟩ := h
  rcases h2 with ⟨rfl, _⟩ | ⟨g', cap, cur, rfl, hb, hgg, rest⟩
  · cases hg
  · cases hg
    exact ⟨cur, hgg⟩
theorem MadeF.reads {w : World} {v : Value} {l : List (Stp Flt)} (h : MadeF w v l) : ∃ B d, v = .slice B l.length d ∧ ∀ i p, l[i]? = some p → ∃ b, B = some b ∧ v.ownBlock = some b.block ∧ w.cell? (b.add i) = some p.val := by
  obtain ⟨h1, h2⟩ := h
  rcases h2 with ⟨rfl, h0⟩ | ⟨g, cap, cur, rfl, _, hg, hn, _, hs, ht⟩
  · have : l = [] := List.eq_nil_of_length_eq_zero h0
    subst this
    exact ⟨none, 0, rfl, fun i p h => by simp at h⟩
  · refine ⟨_, cap, rfl, fun i p hp => ⟨_, rfl, rfl, ?_⟩⟩
    rw [add_plain, Blk.cell (show Blk w g cur _ from hg)]
    have hi := (List.getElem?_eq_some_iff.1 hp).1
    have h3 : (l.map Stp.val)[i]? = some p.val := by simp [hp]
    rw [← ht, List.getElem?_take, if_pos (by omega)] at h3
    simpa using h3
theorem append_step {o : Oper} {a : Act} {ops : Array Oper} {rest : List Oper} {w : World} {Q : Exit → Act → World → Prop} (hgd : o.guard = none) (s x : Operand)
    (ho : o.op = .call { callee := .builtin .append, args := #[s, x], argTypes := #[43, 43] }) (v : Value) (l : List (Stp Flt)) (hv : a.eval s = v) (hm : MadeF w v l)
    (g : Nat) (p : Stp Flt) (hx : a.eval x = .slice (some ⟨g, 0, none⟩) 1 1) (hb : Blk w g #[p.val] 30) (hbig : l.length ≤ 1000)
    (h : ∀ v' w', MadeF w' v' (l ++ [p]) → Keep v.ownBlock.toList w w' → (v'.ownBlock = v.ownBlock ∨ v'.ownBlock = some w.heap.size) → wpList Try.prog ops Q rest (a.put o.dst v') w') :
    wpList Try.prog ops Q (o :: rest) a w := by
  obtain ⟨i, hi, hz, hs, hby⟩ := info_parts infoFunc
  refine wpList_plain hgd fun K hK => ?_
  obtain ⟨v', w', hrun, h2, h3, _, h5⟩ := run_append_own_at (P := Try.prog) w 0 43 o.type 30 i .nilFunc 1 8 Try.underlying43 hi hz hs hby rfl (by omega) v l.length (l.map Stp.val) hm ⟨g, 0, none⟩ 1 1 [p.val] rfl
    (fun j u hu => by
      have hj : j = 0 := by
        have := (List.getElem?_eq_some_iff.1 hu).1
        simp at this
        omega
      subst hj
      rw [add_plain, hb.cell]
      simpa using hu) (by intro u hu; simp only [List.mem_singleton] at hu; subst hu; rfl) (by unfold maxLen; omega) (by omega) (Nat.zero_le _)
  unfold Oper.wp
  simp [execOp, ho, resolve, invoke, builtin, hv, hx, hrun, Result.andThen]
  refine hK _ _ (h v' w' ?_ (Keep.grown h3) h5)
  unfold MadeF
  rw [List.length_append, List.map_append]
  exact h2

/-! ### the steps of the law -/
def stp (b j : Nat) : Stp Flt := if j % 2 = 0 then raiseP b else lowerP b
def stpL (b n : Nat) : List (Stp Flt) := (List.range n).map (stp b)
theorem stpL_succ (b n : Nat) : stpL b (n + 1) = stpL b n ++ [stp b n] := by simp [stpL, List.range_succ]
theorem stpL_length (b n : Nat) : (stpL b n).length = n := by simp [stpL]
theorem chain_same (a b n : Nat) (s : Flt) (xs : List Int) : chainL (stpL a n) s xs = chainL (stpL b n) s xs := by
  have : ∀ (l : List Nat) (r : List Int × Flt), (l.map (stp a)).foldl (fun r p => p.f r.2 r.1) r = (l.map (stp b)).foldl (fun r p => p.f r.2 r.1) r := by
    intro l
    induction l with
    | nil => intro r; rfl
    | cons j l ih =>
      intro r
      simp only [List.map_cons, List.foldl_cons, ih]
      have e : (stp a j).f = (stp b j).f := by unfold stp; split <;> rfl
      rw [e]
  exact this _ _
theorem chain_succ (b n : Nat) (s : Flt) (xs : List Int) : chainL (stpL b (n + 1)) s xs = (stp b n).f (chainL (stpL b n) s xs).2 (chainL (stpL b n) s xs).1 := by
  rw [stpL_succ]; simp [chainL]
theorem chain_len (b n : Nat) (s : Flt) (xs : List Int) : (chainL (stpL b n) s xs).1.length = xs.length := by
  induction n with
  | zero => rfl
  | succ n ih => rw [chain_succ]; unfold stp; split <;> simp only [raiseP, lowerP] <;> rw [mapS_length, ih]
end Go.Proofs.Ytddlkglpgkdgkaa
