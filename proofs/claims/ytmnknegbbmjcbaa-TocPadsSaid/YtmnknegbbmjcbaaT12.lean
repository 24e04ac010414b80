/- toc.Number. -/
import Derived.Test.YtmnknegbbmjcbaaT11
namespace Go.Proofs.Ytmnknegbbmjcbaa
open Go.RowKit

def isCfg (m r s : Int) (n : Nat) : Bool := decide (modeM n = m) && (decide (rateM n = r) && decide (msM n = s))
/-- What Number answers: the first config that is such a one. -/
def NumR (m r s : Int) (k : Int) (e : Int) : Prop := (∃ n : Nat, n < 12 ∧ isCfg m r s n = true ∧ (∀ j, j < n → isCfg m r s j = false) ∧ k = n ∧ e = 0) ∨ ((∀ j, j < 12 → isCfg m r s j = false) ∧ k = 0 ∧ e = 1)
theorem eq_cfg (W : World) (a b c m r s : Int) : (binOp .eql 31 (.agg #[.int .i64 a, .int .i64 b, .int .i64 c]) (.agg #[.int .i64 m, .int .i64 r, .int .i64 s])).run Try.prog W = .ok (.bool (decide (a = m) && (decide (b = r) && decide (c = s)))) W := by
  go_simp
  by_cases h1 : a = m <;> by_cases h2 : b = r <;> by_cases h3 : c = s <;> simp [h1, h2, h3]
set_option maxHeartbeats 1000000
theorem number_calls (m r s : Int) (w : World) :
    Calls Try.prog 13 #[.agg #[.int .i64 m, .int .i64 r, .int .i64 s]] w fun e w' => (∃ k c : Int, e = .returned (.tuple #[.int .i64 k, .int .i64 c]) ∧ NumR m r s k c) ∧ Keep [] w w' := by
  have HB : Hid (Blk (w.alloc (.cells #[.int .i64 m, .int .i64 r, .int .i64 s] 31)) w.heap.size #[.int .i64 m, .int .i64 r, .int .i64 s] 31) := Lib.hid (Blk.new w _ _)
  have HK : Hid (Keep [] w (w.alloc (.cells #[.int .i64 m, .int .i64 r, .int .i64 s] 31))) := Lib.hid (Keep.alloc [] w _)
  have heq := eq_cfg
  go_enter Try.func13, Try.ntmps13
  go_wp2_with fail
  go_loopw [7] (fun i wr => ∃ k : Nat, k ≤ 12 ∧ i = .int .i64 k ∧ Hid (Keep [] w wr ∧ Blk wr w.heap.size #[.int .i64 m, .int .i64 r, .int .i64 s] 31 ∧ ∀ j, j < k → isCfg m r s j = false)) (fun i _ => 12 - (intOf i).toNat)
  case atStart => exact ⟨0, by omega, rfl, Lib.hid ⟨HK.out, HB.out, fun j hj => by omega⟩⟩
  case round =>
    clear HB HK
    obtain ⟨k, hk, rfl, HS⟩ := hrel
    by_cases hlt : k < 12
    · go_wp2_with fail
      refine (of_ok _ k hlt).mono ?_
      rintro e w2 ⟨rfl, k2⟩
      unfold ofV cfgV
      have kk := k2.trans (Keep.alloc [] w2 (.cells #[.int .i64 (modeM k), .int .i64 (rateM k), .int .i64 (msM k)] 31))
      have HB2 := Lib.hid (HS.out.2.1.keep kk (by simp))
      have HK2 := Lib.hid (HS.out.1.trans kk)
      have HJ := Lib.hid HS.out.2.2
      clear kk k2 HS
      have c0 : (w2.alloc (.cells #[.int .i64 (modeM k), .int .i64 (rateM k), .int .i64 (msM k)] 31)).cell? ⟨w.heap.size, 0, none⟩ = some (.int .i64 m) := HB2.out.cell 0
      have c1 : (w2.alloc (.cells #[.int .i64 (modeM k), .int .i64 (rateM k), .int .i64 (msM k)] 31)).cell? ⟨w.heap.size, 1, none⟩ = some (.int .i64 r) := HB2.out.cell 1
      have c2 : (w2.alloc (.cells #[.int .i64 (modeM k), .int .i64 (rateM k), .int .i64 (msM k)] 31)).cell? ⟨w.heap.size, 2, none⟩ = some (.int .i64 s) := HB2.out.cell 2
      cases hc : isCfg m r s k with
      | true =>
        have hc' : (decide (modeM k = m) && (decide (rateM k = r) && decide (msM k = s))) = true := hc
        have HC := Lib.hid hc
        clear hc
        go_wp2_with fail
        go_ret2
        exact ⟨⟨_, _, rfl, .inl ⟨k, hlt, HC.out, HJ.out, rfl, rfl⟩⟩, HK2.out⟩
      | false =>
        have hc' : (decide (modeM k = m) && (decide (rateM k = r) && decide (msM k = s))) = false := hc
        have HC := Lib.hid hc
        clear hc
        go_wp2_with fail
        go_roundw
        case rel => exact ⟨k + 1, by omega, by go_num, Lib.hid ⟨HK2.out, HB2.out, fun j hj => by
          by_cases hjk : j < k
          · exact HJ.out j hjk
          · obtain rfl : j = k := by omega
            exact HC.out⟩⟩
        case measure => simp [intOf]; omega
    · obtain rfl : k = 12 := by omega
      go_wp2_with fail
      go_ret2
      exact ⟨⟨_, _, rfl, .inr ⟨HS.out.2.2, rfl, rfl⟩⟩, HS.out.1⟩
/-- 'string(b)'. -/
theorem run_str (w : World) (A : Option Addr) (n c : Nat) (xs : List Int) (hr : RdV w A (bytes xs)) (hl : xs.length = n) (hnil : A = none → n = 0) : (convert 29 9 (.slice A n c)).run Try.prog w = .ok (.string (strOfNums xs)) w := by
  have hs := Try.underlying29
  have he := Try.underlying5
  have hd := Try.underlying9
  cases A with
  | none =>
    have h0 := hnil rfl
    subst h0
    have hx : xs = [] := List.eq_nil_of_length_eq_zero hl
    subst hx
    exact run_convert_bytes_nil w 29 5 hs he 0 c 9 hd
  | some a =>
    have hcells : (loadCells a n).run Try.prog w = .ok (xs.map (Value.int .u8)).toArray w := by
      have := run_loadCells_list (P := Try.prog) w a (xs.map (Value.int .u8)) (fun j v hj => by
        obtain ⟨a', ha, hc⟩ := hr j v hj
        cases ha
        exact hc)
      simpa [hl] using this
    rw [run_convert_bytes_string w 29 9 5 _ n c hs he hd, run_bytesToString w a n c xs hcells, foldl_push_bytes]
    simp [strOfNums, ByteArray.empty, ByteArray.emptyWithCapacity]
    rfl
end Go.Proofs.Ytmnknegbbmjcbaa
