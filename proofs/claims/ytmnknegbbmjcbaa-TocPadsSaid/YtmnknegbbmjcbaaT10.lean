/- append of zeros; toc's told. -/
import Derived.Test.YtmnknegbbmjcbaaT9
import Derived.Lib.AppendZerosOnto
namespace Go.Proofs.Ytmnknegbbmjcbaa
open Go.RowKit

theorem zeros_list (k : Nat) : (Builtin.zeroCells (Value.int IntKind.u8 0).cells k).toList = bytes (List.replicate k 0) := by
  apply List.ext_getElem
  · simp [Builtin.zeroCells, bytes, Value.cells]
  · intro i h1 h2
    simp [Builtin.zeroCells, bytes, Value.cells, Nat.mod_one]
theorem run_append_zeros (w : World) (ty : TypeId) (v : Value) (xs : List Int) (hm : MadeV w 5 v (bytes xs)) (hv : ∃ b, v.ownBlock = some b) (k : Nat) (hbig : xs.length + k ≤ 1000000) :
    ∃ v' w', (Builtin.append_ #[29, 3] ty #[v, .int .i64 k]).run Try.prog w = .ok v' w' ∧ MadeV w' 5 v' (bytes (xs ++ List.replicate k 0)) ∧ Keep v.ownBlock.toList w w' ∧ (v'.ownBlock = v.ownBlock ∨ v'.ownBlock = some w.heap.size) := by
  obtain ⟨i, hi, hz, hs, hb⟩ := info_parts slB.info
  obtain ⟨h1, h2⟩ := hm
  have hw : IntKind.i64.wrap (k : Int) = k := by rw [IntKind.wrap_i64]; omega
  have hneg : ¬ ((k : Int) < 0) := by omega
  have h48i : ¬ (281474976710656 < (k : Int) * (i.bytes : Int)) := by rw [hb]; omega
  have hl2 : (bytes (xs ++ List.replicate k 0)).length = xs.length + k := by simp [bytes]
  have hlz : (bytes (List.replicate k 0)).length = k := by simp [bytes]
  rcases h2 with ⟨rfl, _⟩ | ⟨g, cap, cur, rfl, hb0, hg, hnc, hcm, hcs, ht⟩
  · obtain ⟨b, hb⟩ := hv
    cases hb
  · rw [bytes_length] at hnc ht
    rw [Nat.mul_one] at ht hcs
    by_cases hroom : xs.length + k ≤ cap
    · have hst := run_storeCells_at Try.prog g xs.length 5 (bytes (List.replicate k 0)) 0 cur w hg (by rw [hlz]; omega) (bytes_one _)
      simp only [Nat.add_zero] at hst
      obtain ⟨row, hrow⟩ : ∃ row, row = (cur.toList.take xs.length ++ bytes (List.replicate k 0) ++ cur.toList.drop (xs.length + (bytes (List.replicate k 0)).length)).toArray := ⟨_, rfl⟩
      rw [← hrow] at hst
      have hrs : row.size = cap := by
        rw [hrow]
        simp only [List.size_toArray, List.length_append, List.length_take, List.length_drop, Array.length_toList, hlz]
        omega
      have hrt : row.toList.take (xs.length + k) = bytes (xs ++ List.replicate k 0) := by
        rw [hrow, ht, List.toList_toArray, ← bytes_append, ← hl2]
        exact List.take_left
      have hap : (Builtin.append_ #[29, 3] ty #[.slice (some ⟨g, 0, none⟩) xs.length cap, .int .i64 k]).run Try.prog w = .ok (.slice (some ⟨g, 0, none⟩) (xs.length + k) cap) (w.setRow g row) := by
        by_cases hk : k = 0
        · subst hk
          have hst' : (storeCells ⟨g, xs.length, none⟩ []).run Try.prog w = .ok () (w.setRow g row) := hst
          simp [Builtin.append_, run_underlying Try.underlying29, run_underlying Try.underlying3, sizeOf, typeInfo, zeroValue, hi, hz, hs, asInt, asIntOf, hnc, Addr.add_lit, hst', show IntKind.i64.wrap (0 : Int) = 0 from rfl]
        · simp [Builtin.append_, run_underlying Try.underlying29, run_underlying Try.underlying3, sizeOf, typeInfo, zeroValue, hi, hz, hs, asInt, asIntOf, hw, hneg, h48i, hroom, hk, Addr.add_lit, zeros_list, hst]
      refine ⟨.slice (some ⟨g, 0, none⟩) (xs.length + k) cap, w.setRow g row, by rw [bytes_length]; exact hap, ?_, Keep.row w g row, .inl rfl⟩
      exact ⟨by rw [hl2]; simp, .inr ⟨g, cap, row, by rw [hl2], Nat.zero_le _, setRow_heap w g cur row 5 _ hg, by rw [hl2]; exact hroom, hcm, by omega, by rw [hl2, Nat.mul_one]; exact hrt⟩⟩
    · have hk : 0 < k := by omega
      have hold : (Builtin.firstCells i.size xs.length (.slice (some ⟨g, 0, none⟩) xs.length cap)).run Try.prog w.drew = .ok (bytes xs).toArray w.drew := by
        refine run_firstCells_some w.drew i.size xs.length ⟨g, 0, none⟩ xs.length cap (bytes xs) (by rw [bytes_length, hs, Nat.mul_one]) (fun j u hu => ?_)
        have hj := (List.getElem?_eq_some_iff.1 hu).1
        rw [bytes_length] at hj
        rw [add_plain, Blk.cell (show Blk w.drew g cur 5 from hg)]
        rw [← ht, List.getElem?_take, if_pos hj] at hu
        simpa using hu
      have hr := Lib.run_append_grow_zeros (P := Try.prog) w 29 3 ty 5 i (.int .u8 0) .i64 .i64 Try.underlying29 Try.underlying3 hi hz (some ⟨g, 0, none⟩) xs.length cap (bytes xs) hold k hk (by omega) (by omega) (by omega) (by rw [hb]; omega)
        (growslice_fits (by omega) (by rw [hb]; omega))
      rw [bytes_length]
      refine ⟨_, _, hr, ?_, ⟨rfl, rfl, rfl, by simp, fun q hq _ => Below.heap_alloc w.drew _ q hq⟩, .inr rfl⟩
      have hge := grownCap_ge w (xs.length + k) cap 5
      have hle := grownCap_le_maxLen w (xs.length + k) cap 5 (by unfold maxLen; omega)
      refine ⟨by rw [hl2]; simp, .inr ⟨w.heap.size, grownCap w (xs.length + k) cap 5, _, by rw [hl2], Nat.zero_le _, heap_alloc_new w.drew _, by rw [hl2]; exact hge, hle, ?_, ?_⟩⟩
      · simp only [Array.size_append, List.size_toArray, size_zeroCells, bytes_length]
        simp [Value.cells]
        omega
      · rw [hl2, Nat.mul_one]
        simp only [Array.toList_append, List.append_assoc, zeros_list]
        rw [← List.append_assoc, ← bytes_append, ← hl2]
        exact List.take_left

theorem small64 {n : Nat} (h : n ≤ 1000000) : wrap64 (n : Int) = (n : Int) := by unfold wrap64; omega
theorem small8 {n : Nat} (h : n ≤ 255) : IntKind.u8.wrap (n : Int) = (n : Int) := by rw [IntKind.wrap_u8]; omega
def toldM (n : Nat) : List Int := if n ≤ 251 then [(n : Int)] else [((252 + n % 4 : Nat) : Int), (((n - (252 + n % 4)) / 4 : Nat) : Int)]
/-- What an appending function leaves: its own slice, longer. -/
def RetA (v : Value) (w : World) (xs : List Int) (e : Ending) (w' : World) : Prop :=
  ∃ v', e = .returned v' ∧ MadeV w' 5 v' (bytes xs) ∧ Keep v.ownBlock.toList w w' ∧ (v'.ownBlock = v.ownBlock ∨ ∀ b, v'.ownBlock = some b → w.heap.size ≤ b)
set_option maxHeartbeats 1000000
theorem told_calls (w : World) (v : Value) (xs : List Int) (n : Nat) (hm : MadeV w 5 v (bytes xs)) (hn : n ≤ 1275) (hx : xs.length ≤ 100000) :
    Calls Try.prog 31 #[v, .int .i64 n] w (RetA v w (xs ++ toldM n)) := by
  obtain ⟨A, c, hv, _⟩ := hm.reads
  obtain ⟨k, hk⟩ : ∃ k, k = (bytes xs).length := ⟨_, rfl⟩
  rw [← hk] at hv
  subst hv
  have HM := Lib.hid hm
  have HX : Hid ((bytes xs).length ≤ 100000) := Lib.hid (by rw [bytes_length]; exact hx)
  clear hm hk hx
  by_cases h : n ≤ 251
  · have hc : IntKind.u8.wrap (n : Int) = (n : Int) := small8 (by omega)
    have HT : Hid (toldM n = [(n : Int)]) := Lib.hid (by unfold toldM; rw [if_pos h])
    have HA : Hid (MadeV (w.alloc (.cells #[.int .u8 n] 5)) 5 (.slice A k c) (bytes xs)) := Lib.hid (HM.out.keep0 (Keep.alloc [] _ _))
    have HR : Hid (RdV (w.alloc (.cells #[.int .u8 n] 5)) (some ⟨w.heap.size, 0, none⟩) (bytes [(n : Int)])) := Lib.hid (rdV_lit w 5 (bytes [(n : Int)]))
    go_enter Try.func31, Try.ntmps31
    go_wp2_with (at_builtin; refine append_v slB (by first | rfl | kernel_rfl) _ _ rfl _ (bytes xs) rfl HA.out _ _ _ (bytes [(n : Int)]) rfl rfl HR.out (bytes_one _) (by have := HX.out; simp; omega) (by have := HX.out; simp; omega) (fun hA => by cases hA) ?_)
    intro v' w' m1 m2 m3
    have H1 := Lib.hid m1
    have H2 := Lib.hid m2
    have H3 := Lib.hid m3
    clear m1 m2 m3
    go_wp2_with fail
    go_ret
    refine ⟨v', rfl, ?_, ?_, ?_⟩
    · rw [HT.out, bytes_append]; exact H1.out
    · exact ((Keep.alloc [] w _).of0 _).trans H2.out
    · rcases H3.out with e | e
      · exact .inl e
      · refine .inr (fun b hb => ?_)
        rw [hb] at e
        simp only [Option.some.injEq] at e
        omega
  · obtain ⟨q, hq⟩ : ∃ q, q = 252 + n % 4 := ⟨_, rfl⟩
    obtain ⟨r, hr⟩ : ∃ r, r = (n - q) / 4 := ⟨_, rfl⟩
    have hq2 : q ≤ 255 := by omega
    have hr2 : r ≤ 255 := by omega
    have HT : Hid (toldM n = [(q : Int), (r : Int)]) := Lib.hid (by unfold toldM; rw [if_neg h, ← hq, ← hr])
    have e0 : wrap64 (252 + (n : Int) % 4) = (q : Int) := by rw [show (252 : Int) + (n : Int) % 4 = (q : Int) by omega]; exact small64 (Nat.le_trans hq2 (by decide))
    have e1 : IntKind.i64.wrap (252 + (n : Int) % 4) = (q : Int) := by rw [wrapEq']; exact e0
    have e2 : wrap64 ((n : Int) - (q : Int)) = ((n - q : Nat) : Int) := by rw [show (n : Int) - (q : Int) = ((n - q : Nat) : Int) by omega]; exact small64 (by omega)
    have e3 : IntKind.i64.wrap ((n : Int) - (q : Int)) = ((n - q : Nat) : Int) := by rw [wrapEq']; exact e2
    have e40 : ((n - q : Nat) : Int) / 4 = (r : Int) := by rw [hr]; rfl
    have e4 : wrap64 (((n - q : Nat) : Int) / 4) = (r : Int) := by rw [e40]; exact small64 (Nat.le_trans hr2 (by decide))
    have e5 : IntKind.i64.wrap (((n - q : Nat) : Int) / 4) = (r : Int) := by rw [wrapEq']; exact e4
    have e6 : IntKind.u8.wrap (q : Int) = (q : Int) := small8 hq2
    have e7 : IntKind.u8.wrap (r : Int) = (r : Int) := small8 hr2
    obtain ⟨d, hd⟩ : ∃ d, d = n - q := ⟨_, rfl⟩
    rw [← hd] at e2 e3 e4 e5
    clear hq hr hd e40
    have HA : Hid (MadeV (w.alloc (.cells #[.int .u8 q, .int .u8 r] 5)) 5 (.slice A k c) (bytes xs)) := Lib.hid (HM.out.keep0 (Keep.alloc [] _ _))
    have HR : Hid (RdV (w.alloc (.cells #[.int .u8 q, .int .u8 r] 5)) (some ⟨w.heap.size, 0, none⟩) (bytes [(q : Int), (r : Int)])) := Lib.hid (rdV_lit w 5 (bytes [(q : Int), (r : Int)]))
    go_enter Try.func31, Try.ntmps31
    go_wp2_with (at_builtin; refine append_v slB (by first | rfl | kernel_rfl) _ _ rfl _ (bytes xs) rfl HA.out _ _ _ (bytes [(q : Int), (r : Int)]) rfl rfl HR.out (bytes_one _) (by have := HX.out; simp; omega) (by have := HX.out; simp; omega) (fun hA => by cases hA) ?_)
    intro v' w' m1 m2 m3
    have H1 := Lib.hid m1
    have H2 := Lib.hid m2
    have H3 := Lib.hid m3
    clear m1 m2 m3
    go_wp2_with fail
    go_ret
    refine ⟨v', rfl, ?_, ?_, ?_⟩
    · rw [HT.out, bytes_append]; exact H1.out
    · exact ((Keep.alloc [] w _).of0 _).trans H2.out
    · rcases H3.out with e | e
      · exact .inl e
      · refine .inr (fun b hb => ?_)
        rw [hb] at e
        simp only [Option.some.injEq] at e
        omega
end Go.Proofs.Ytmnknegbbmjcbaa
