/- synth.Pcm; Run of a voice in the form the laws use. -/
import Derived.Test.YtjhgbcgpkpahjaaS5
namespace Go.Proofs.Ytjhgbcgpkpahjaa
open Go.RowKit

def pcmI (x : Int) : Int := sat16 (mulS x 1 4)
def pcmL (xs : List Int) : List Int := xs.map pcmI
structure PcmSt (w wr : World) (g n k : Nat) (xs : List Int) : Prop where
  kept : Keep [] w wr
  out : Blk wr g (ints (pcmL (xs.take k) ++ List.replicate (n - k) 0)).toArray 2
theorem PcmSt.start (w : World) (n : Nat) (xs : List Int) : PcmSt w (w.alloc (.cells (ints (List.replicate n 0)).toArray 2)) w.heap.size n 0 xs :=
  ⟨Keep.alloc _ _ _, by simpa [pcmL] using Blk.new w _ _⟩
theorem PcmSt.next {w wr : World} {n k : Nat} {xs : List Int} (h : PcmSt w wr w.heap.size n k xs) (hn : xs.length = n) (hlt : k < n) {q : Int} (hq : q = xs.getD k 0) :
    wr.cell? ⟨w.heap.size, k, none⟩ = some (.int .i64 0) ∧ wr.frozen? ⟨w.heap.size, k, none⟩ = false ∧ PcmSt w (wr.setCell ⟨w.heap.size, k, none⟩ (.int .i64 (pcmI q))) w.heap.size n (k + 1) xs := by
  have hl : (pcmL (xs.take k)).length = k := by simp [pcmL]; omega
  refine ⟨?_, h.out.free k, h.kept.trans' (Keep.setb _ _ _ _) (by simp) (by simp), ?_⟩
  · rw [h.out.cell]
    have e : n - k = (n - k - 1) + 1 := by omega
    rw [e, List.replicate_succ]
    simp [ints, hl]
  · have hs := h.out.set k (.int .i64 (pcmI q))
    rw [fill_row _ _ n k hl hlt] at hs
    have e : pcmL (xs.take (k + 1)) = pcmL (xs.take k) ++ [pcmI q] := by
      rw [List.take_add_one, pcmL, List.map_append, hq]
      simp [show k < xs.length by omega, pcmL]
    rw [e]
    exact hs
def RetPcm (w : World) (xs : List Int) (n : Nat) (e : Ending) (w' : World) : Prop := ∃ g, w.heap.size ≤ g ∧ e = .returned (.slice (some ⟨g, 0, none⟩) n n) ∧ Keep [] w w' ∧ Blk w' g (ints (pcmL xs)).toArray 2
set_option maxHeartbeats 1000000 in
theorem pcm_calls (A : Option Addr) (xs : List Int) (n c : Nat) (w : World) (hn : xs.length = n) (hn' : n ≤ 1000000) (hr : Rd w A xs) : Calls Try.prog 13 #[.slice A n c] w (RetPcm w xs n) := by
  have hmk := make_ints n hn'
  have HN := Lib.hid hn
  have HR := Lib.hid hr
  clear hn hr
  go_enter Try.func13, Try.ntmps13
  go_wp2_with fail
  clear hmk
  go_loopw [11] (fun i wr => ∃ k : Nat, k ≤ n ∧ i = .int .i64 k ∧ PcmSt w wr w.heap.size n k xs) (fun i _ => n - (intOf i).toNat)
  case atStart => exact ⟨0, Nat.zero_le _, rfl, PcmSt.start w n xs⟩
  case round =>
    obtain ⟨k, hk, rfl, HS⟩ := hrel
    have HS := Lib.hid HS
    by_cases hlt : k < n
    · obtain ⟨a, rfl, hca⟩ := HR.out k (by rw [HN.out]; exact hlt)
      have hcw : wr.cell? (a.add k) = some (.int .i64 (xs.getD k 0)) := HS.out.kept.cell hca (by simp)
      obtain ⟨q, hq⟩ : ∃ q, q = xs.getD k 0 := ⟨_, rfl⟩
      rw [← hq] at hcw
      have HX := Lib.hid (HS.out.next HN.out hlt hq)
      clear hq hca
      go_wp2_with fail
      refine (mul_calls _ _ 4 (by omega) (by omega) _).mono ?_
      rintro e w' ⟨rfl, rfl⟩
      go_wp2_with fail
      refine (sat16_calls _ _).mono ?_
      rintro e w' ⟨rfl, rfl⟩
      have c2 := HX.out.1
      have f2 := HX.out.2.1
      have hk0 : (0 : Int) ≤ (k : Int) := by omega
      have hk1 : (k : Int) < (n : Int) := by omega
      go_wp2_with fail
      go_roundw
      case rel => exact ⟨k + 1, by omega, by go_num, HX.out.2.2⟩
      case measure => simp [intOf]; omega
    · go_wp2_with fail
      go_ret
      obtain rfl : k = n := by omega
      have h := HS.out
      have e := h.out
      rw [Nat.sub_self, List.replicate_zero, List.append_nil, ← HN.out, List.take_length] at e
      exact ⟨_, Nat.le_refl _, rfl, h.kept, e⟩
end Go.Proofs.Ytjhgbcgpkpahjaa
