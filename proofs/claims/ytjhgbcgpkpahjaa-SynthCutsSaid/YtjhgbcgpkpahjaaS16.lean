/- The reference's Pcm. -/
import Derived.Test.YtjhgbcgpkpahjaaS15
namespace Go.Proofs.Ytjhgbcgpkpahjaa
open Go.RowKit

structure RPst (w wr : World) (v : Value) (ys : List Int) : Prop where
  kept : Keep [] w wr
  out : Made wr v ys
  fresh : ∀ g, v.ownBlock = some g → w.heap.size ≤ g
theorem RPst.app {w wr w2 : World} {v v' : Value} {ys : List Int} {y : Int} (h : RPst w wr v ys) (h1 : Made w2 v' (ys ++ [y])) (h2 : Keep v.ownBlock.toList (wr.alloc (.cells #[.int .i64 y] 2)) w2) (h3 : v'.ownBlock = v.ownBlock ∨ v'.ownBlock = some (wr.heap.size + 1)) : RPst w w2 v' (ys ++ [y]) := by
  have k := Keep.alloc [] wr (.cells #[.int .i64 y] 2)
  have z := h.kept.size
  refine ⟨(h.kept.trans k).trans' h2 (by simp) (fun g hg => .inr (h.fresh g (by simpa using hg))), h1, fun g hg => ?_⟩
  rcases h3 with h3 | h3
  · exact h.fresh g (by rw [← h3]; exact hg)
  · rw [hg] at h3
    simp only [Option.some.injEq] at h3
    omega
set_option maxHeartbeats 1000000 in
theorem rpcm_calls (A : Option Addr) (xs : List Int) (n c : Nat) (w : World) (hn : xs.length = n) (hn' : n ≤ 1000000) (hr : Rd w A xs) : Calls Try.prog 18 #[.slice A n c] w (fun e w' => ∃ v, e = .returned v ∧ RPst w w' v (pcmL xs)) := by
  have HN := Lib.hid hn
  have HR := Lib.hid hr
  clear hn hr
  go_enter Try.func18, Try.ntmps18
  go_wp2_with fail
  go_loopw [3, 4] (fun v i wr => ∃ k : Nat, k ≤ n ∧ i = .int .i64 k ∧ RPst w wr v (pcmL (xs.take k))) (fun _ i _ => n - (intOf i).toNat)
  case atStart => exact ⟨0, Nat.zero_le _, rfl, Keep.refl _ _, (World.ownsRow_nil _ 0 _ 1), fun g hg => by cases hg⟩
  case round =>
    obtain ⟨k, hk, rfl, HS⟩ := hrel
    have HS := Lib.hid HS
    by_cases hlt : k < n
    · obtain ⟨a, rfl, hca⟩ := HR.out k (by rw [HN.out]; exact hlt)
      have hcw : wr.cell? (a.add k) = some (.int .i64 (xs.getD k 0)) := HS.out.kept.cell hca (by simp)
      obtain ⟨q, hq⟩ : ∃ q, q = xs.getD k 0 := ⟨_, rfl⟩
      rw [← hq] at hcw
      have HT : Hid (pcmL (xs.take (k + 1)) = pcmL (xs.take k) ++ [pcmI q]) := by
        refine Lib.hid ?_
        rw [List.take_add_one, pcmL, List.map_append, hq]
        simp [show k < xs.length by rw [HN.out]; exact hlt, pcmL]
      have HL : Hid ((pcmL (xs.take k)).length + 1 ≤ 1000000000) := Lib.hid (by simp [pcmL]; omega)
      clear hq hca
      generalize pcmL (xs.take k) = Y at *
      go_wp2_with fail
      refine (rmul_calls _ _ 4 (by omega) (by omega) _).mono ?_
      rintro e w' ⟨rfl, rfl⟩
      go_wp2_with fail
      refine (rsat16_calls _ _).mono ?_
      rintro e w' ⟨rfl, rfl⟩
      obtain ⟨y, hy⟩ : ∃ y, y = sat16 (mulS q 1 4) := ⟨_, rfl⟩
      rw [← hy]
      have HY := Lib.hid hy
      clear hy
      have HM : Hid (Made (wr.alloc (.cells #[.int .i64 y] 2)) u3 Y) := Lib.hid (HS.out.out.keep (Keep.alloc [] _ _) (by simp))
      have HY1 : Hid (Rd (wr.alloc (.cells #[.int .i64 y] 2)) (some ⟨wr.heap.size, 0, none⟩) [y]) := Lib.hid (rd_lit wr [y])
      go_wp2_with (at_builtin; refine append_made rfl _ _ rfl _ Y rfl HM.out _ _ _ [y] rfl rfl HY1.out HL.out (by simp) ?_)
      intro v' w6 h1 h2 h3
      have H2 := Lib.hid (HS.out.app h1 h2 (by simpa using h3))
      clear h1 h2 h3 HM HY1
      go_wp2_with fail
      go_roundw
      case rel => exact ⟨k + 1, by omega, by go_num, by rw [HT.out, pcmI, ← HY.out]; exact H2.out⟩
      case measure => simp [intOf]; omega
    · go_wp2_with fail
      go_ret
      obtain rfl : n = k := by omega
      have h := HS.out
      rw [← HN.out, List.take_length] at h
      exact ⟨_, rfl, h⟩
end Go.Proofs.Ytjhgbcgpkpahjaa
