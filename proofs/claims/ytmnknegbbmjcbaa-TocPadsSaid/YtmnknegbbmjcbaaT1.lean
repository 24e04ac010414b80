/- toc.Of, toc.Number; the reference's Mode, RateOf, Ms. -/
import Derived.Test.YtmnknegbbmjcbaaK0
import Derived.Laws.ResultCell
namespace Go.Proofs.Ytmnknegbbmjcbaa
open Go.RowKit

def RetK (w : World) (v : Value) (e : Ending) (w' : World) : Prop := e = .returned v ∧ Keep [] w w'
def cfgV (m r s : Int) : Value := .agg #[.int .i64 m, .int .i64 r, .int .i64 s]
def modeM (n : Nat) : Int := if n < 4 then 0 else if n < 6 then 1 else 2
def rateM (n : Nat) : Int := [8000, 8000, 16000, 16000, 24000, 24000, 8000, 8000, 16000, 16000, 24000, 24000].getD n 0
def msM (n : Nat) : Int := 10 + 10 * ((n % 2 : Nat) : Int)
def ofV (n : Nat) : Value := .tuple #[cfgV (modeM n) (rateM n) (msM n), .int .i64 0]
def ofBad : Value := .tuple #[cfgV 0 0 0, .int .i64 1]
set_option maxHeartbeats 1000000
theorem of_0 (w : World) : Calls Try.prog 12 #[.int .i64 0] w (RetK w (ofV 0)) := by
  go_enter Try.func12, Try.ntmps12
  go_wp2_with fail
  go_region
  all_goals (
    go_wp2_with fail
    refine bodyPost_ret (v := ofV 0) (by simp [results, Try.results12, go_sem]; rfl) rfl ⟨rfl, ?_⟩
    exact (((Keep.alloc [] _ _).trans (Keep.alloc [] _ _)).trans (Keep.alloc [] _ _)).trans (Keep.drew [] _))
theorem of_1 (w : World) : Calls Try.prog 12 #[.int .i64 1] w (RetK w (ofV 1)) := by
  go_enter Try.func12, Try.ntmps12
  go_wp2_with fail
  go_region
  all_goals (
    go_wp2_with fail
    refine bodyPost_ret (v := ofV 1) (by simp [results, Try.results12, go_sem]; rfl) rfl ⟨rfl, ?_⟩
    exact (((Keep.alloc [] _ _).trans (Keep.alloc [] _ _)).trans (Keep.alloc [] _ _)).trans (Keep.drew [] _))
theorem of_2 (w : World) : Calls Try.prog 12 #[.int .i64 2] w (RetK w (ofV 2)) := by
  go_enter Try.func12, Try.ntmps12
  go_wp2_with fail
  go_region
  all_goals (
    go_wp2_with fail
    refine bodyPost_ret (v := ofV 2) (by simp [results, Try.results12, go_sem]; rfl) rfl ⟨rfl, ?_⟩
    exact (((Keep.alloc [] _ _).trans (Keep.alloc [] _ _)).trans (Keep.alloc [] _ _)).trans (Keep.drew [] _))
theorem of_3 (w : World) : Calls Try.prog 12 #[.int .i64 3] w (RetK w (ofV 3)) := by
  go_enter Try.func12, Try.ntmps12
  go_wp2_with fail
  go_region
  all_goals (
    go_wp2_with fail
    refine bodyPost_ret (v := ofV 3) (by simp [results, Try.results12, go_sem]; rfl) rfl ⟨rfl, ?_⟩
    exact (((Keep.alloc [] _ _).trans (Keep.alloc [] _ _)).trans (Keep.alloc [] _ _)).trans (Keep.drew [] _))
theorem of_4 (w : World) : Calls Try.prog 12 #[.int .i64 4] w (RetK w (ofV 4)) := by
  go_enter Try.func12, Try.ntmps12
  go_wp2_with fail
  all_goals (
    refine bodyPost_ret (v := ofV 4) (by simp [results, Try.results12, go_sem]; rfl) rfl ⟨rfl, ?_⟩
    exact (Keep.alloc [] _ _).trans (Keep.alloc [] _ _))
theorem of_5 (w : World) : Calls Try.prog 12 #[.int .i64 5] w (RetK w (ofV 5)) := by
  go_enter Try.func12, Try.ntmps12
  go_wp2_with fail
  all_goals (
    refine bodyPost_ret (v := ofV 5) (by simp [results, Try.results12, go_sem]; rfl) rfl ⟨rfl, ?_⟩
    exact (Keep.alloc [] _ _).trans (Keep.alloc [] _ _))
theorem of_6 (w : World) : Calls Try.prog 12 #[.int .i64 6] w (RetK w (ofV 6)) := by
  go_enter Try.func12, Try.ntmps12
  go_wp2_with fail
  go_region
  all_goals (
    go_wp2_with fail
    refine bodyPost_ret (v := ofV 6) (by simp [results, Try.results12, go_sem]; rfl) rfl ⟨rfl, ?_⟩
    exact (((Keep.alloc [] _ _).trans (Keep.alloc [] _ _)).trans (Keep.alloc [] _ _)).trans (Keep.drew [] _))
theorem of_7 (w : World) : Calls Try.prog 12 #[.int .i64 7] w (RetK w (ofV 7)) := by
  go_enter Try.func12, Try.ntmps12
  go_wp2_with fail
  go_region
  all_goals (
    go_wp2_with fail
    refine bodyPost_ret (v := ofV 7) (by simp [results, Try.results12, go_sem]; rfl) rfl ⟨rfl, ?_⟩
    exact (((Keep.alloc [] _ _).trans (Keep.alloc [] _ _)).trans (Keep.alloc [] _ _)).trans (Keep.drew [] _))
theorem of_8 (w : World) : Calls Try.prog 12 #[.int .i64 8] w (RetK w (ofV 8)) := by
  go_enter Try.func12, Try.ntmps12
  go_wp2_with fail
  go_region
  all_goals (
    go_wp2_with fail
    refine bodyPost_ret (v := ofV 8) (by simp [results, Try.results12, go_sem]; rfl) rfl ⟨rfl, ?_⟩
    exact (((Keep.alloc [] _ _).trans (Keep.alloc [] _ _)).trans (Keep.alloc [] _ _)).trans (Keep.drew [] _))
theorem of_9 (w : World) : Calls Try.prog 12 #[.int .i64 9] w (RetK w (ofV 9)) := by
  go_enter Try.func12, Try.ntmps12
  go_wp2_with fail
  go_region
  all_goals (
    go_wp2_with fail
    refine bodyPost_ret (v := ofV 9) (by simp [results, Try.results12, go_sem]; rfl) rfl ⟨rfl, ?_⟩
    exact (((Keep.alloc [] _ _).trans (Keep.alloc [] _ _)).trans (Keep.alloc [] _ _)).trans (Keep.drew [] _))
theorem of_10 (w : World) : Calls Try.prog 12 #[.int .i64 10] w (RetK w (ofV 10)) := by
  go_enter Try.func12, Try.ntmps12
  go_wp2_with fail
  go_region
  all_goals (
    go_wp2_with fail
    refine bodyPost_ret (v := ofV 10) (by simp [results, Try.results12, go_sem]; rfl) rfl ⟨rfl, ?_⟩
    exact (((Keep.alloc [] _ _).trans (Keep.alloc [] _ _)).trans (Keep.alloc [] _ _)).trans (Keep.drew [] _))
theorem of_11 (w : World) : Calls Try.prog 12 #[.int .i64 11] w (RetK w (ofV 11)) := by
  go_enter Try.func12, Try.ntmps12
  go_wp2_with fail
  go_region
  all_goals (
    go_wp2_with fail
    refine bodyPost_ret (v := ofV 11) (by simp [results, Try.results12, go_sem]; rfl) rfl ⟨rfl, ?_⟩
    exact (((Keep.alloc [] _ _).trans (Keep.alloc [] _ _)).trans (Keep.alloc [] _ _)).trans (Keep.drew [] _))
theorem of_ok (w : World) (n : Nat) (h : n < 12) : Calls Try.prog 12 #[.int .i64 n] w (RetK w (ofV n)) := by
  have : n = 0 ∨ n = 1 ∨ n = 2 ∨ n = 3 ∨ n = 4 ∨ n = 5 ∨ n = 6 ∨ n = 7 ∨ n = 8 ∨ n = 9 ∨ n = 10 ∨ n = 11 := by omega
  rcases this with rfl | rfl | rfl | rfl | rfl | rfl | rfl | rfl | rfl | rfl | rfl | rfl
  · exact of_0 w
  · exact of_1 w
  · exact of_2 w
  · exact of_3 w
  · exact of_4 w
  · exact of_5 w
  · exact of_6 w
  · exact of_7 w
  · exact of_8 w
  · exact of_9 w
  · exact of_10 w
  · exact of_11 w
theorem of_bad (w : World) (n : Int) (h : n < 0 ∨ 12 ≤ n) : Calls Try.prog 12 #[.int .i64 n] w (RetK w ofBad) := by
  go_enter Try.func12, Try.ntmps12
  go_wp2_with fail
  all_goals first
    | (exfalso; omega)
    | (refine bodyPost_ret (v := ofBad) (by simp [results, Try.results12, go_sem]; rfl) rfl ⟨rfl, ?_⟩
       exact Keep.alloc [] _ _)
/-- The reference's. -/
theorem mode_calls (w : World) (n : Nat) (h : n < 12) : Calls Try.prog 20 #[.int .i64 n] w (RetK w (.int .i64 (modeM n))) := by
  have : n = 0 ∨ n = 1 ∨ n = 2 ∨ n = 3 ∨ n = 4 ∨ n = 5 ∨ n = 6 ∨ n = 7 ∨ n = 8 ∨ n = 9 ∨ n = 10 ∨ n = 11 := by omega
  rcases this with rfl | rfl | rfl | rfl | rfl | rfl | rfl | rfl | rfl | rfl | rfl | rfl
  all_goals (
    go_enter Try.func20, Try.ntmps20
    go_wp2
    go_ret
    exact ⟨rfl, Keep.refl [] _⟩)
theorem ms_calls (w : World) (n : Nat) (h : n < 12) : Calls Try.prog 22 #[.int .i64 n] w (fun e w' => e = .returned (.int .i64 (msM n)) ∧ w = w') := by
  have : n = 0 ∨ n = 1 ∨ n = 2 ∨ n = 3 ∨ n = 4 ∨ n = 5 ∨ n = 6 ∨ n = 7 ∨ n = 8 ∨ n = 9 ∨ n = 10 ∨ n = 11 := by omega
  rcases this with rfl | rfl | rfl | rfl | rfl | rfl | rfl | rfl | rfl | rfl | rfl | rfl
  all_goals (
    go_enter Try.func22, Try.ntmps22
    go_wp2
    go_ret
    exact ⟨rfl, rfl⟩)
theorem rate_calls (w : World) (n : Nat) (h : n < 12) : Calls Try.prog 21 #[.int .i64 n] w (RetK w (.int .i64 (rateM n))) := by
  have : n = 0 ∨ n = 1 ∨ n = 2 ∨ n = 3 ∨ n = 4 ∨ n = 5 ∨ n = 6 ∨ n = 7 ∨ n = 8 ∨ n = 9 ∨ n = 10 ∨ n = 11 := by omega
  rcases this with rfl | rfl | rfl | rfl | rfl | rfl | rfl | rfl | rfl | rfl | rfl | rfl
  all_goals (
    go_enter Try.func21, Try.ntmps21
    go_wp2
    go_ret
    exact ⟨rfl, Keep.alloc [] _ _⟩)
end Go.Proofs.Ytmnknegbbmjcbaa
