/- The law's 'is', where both are the same. -/
import Derived.Test.YtmnknegbbmjcbaaT16
namespace Go.Proofs.Ytmnknegbbmjcbaa
open Go.RowKit

theorem str_drew {w : World} {A : Option Addr} {n c : Nat} {xs : List Int} (h : ArgB w A n c xs) (z : Nat) : (convert 29 9 (.slice A n c)).run Try.prog (w.drewN z) = .ok (.string (strOfNums xs)) (w.drewN z) :=
  run_str (w.drewN z) A n c xs (h.reads.keep0 (Keep.drewN _ _ _)) h.ln h.nil
structure IsSt (w wr : World) (pb rb : Nat) (pc rc : Array Value) (FA GA : Option Addr) (n fc gc : Nat) (L : List (List Int)) : Prop where
  kept : Keep [] w wr
  px : Blk wr pb pc 25
  rx : Blk wr rb rc 39
  pf : FrR wr FA n fc L
  rf : FrR wr GA n gc L
theorem IsSt.keep {w wr w' : World} {pb rb : Nat} {pc rc : Array Value} {FA GA : Option Addr} {n fc gc : Nat} {L : List (List Int)} (h : IsSt w wr pb rb pc rc FA GA n fc gc L) (k : Keep [] wr w') : IsSt w w' pb rb pc rc FA GA n fc gc L :=
  ⟨h.kept.trans k, h.px.keep k (by simp), h.rx.keep k (by simp), h.pf.keep0 k, h.rf.keep0 k⟩
set_option maxHeartbeats 2000000
theorem is_calls (cfg ch pad : Int) (FA GA : Option Addr) (n fc gc : Nat) (L : List (List Int)) (w : World) (hf : FrR w FA n fc L) (hg : FrR w GA n gc L) :
    Calls Try.prog 17 #[.agg #[.int .i64 cfg, .int .i64 ch, .slice FA n fc, .int .i64 pad], .agg #[.int .i64 cfg, .int .i64 ch, .slice GA n gc, .int .i64 pad]] w (RetK w (.bool true)) := by
  have HF := Lib.hid hf
  have hcp := hf.cp
  have hgp := hg.cp
  have hmo := hf.most
  have hmg := hg.most
  have HN := Lib.hid hf.ln
  have HS0 : Hid (IsSt w ((w.alloc (.cells #[.int .i64 cfg, .int .i64 ch, .slice FA n fc, .int .i64 pad] 25)).alloc (.cells #[.int .i64 cfg, .int .i64 ch, .slice GA n gc, .int .i64 pad] 39)) w.heap.size (w.heap.size + 1) #[.int .i64 cfg, .int .i64 ch, .slice FA n fc, .int .i64 pad] #[.int .i64 cfg, .int .i64 ch, .slice GA n gc, .int .i64 pad] FA GA n fc gc L) := by
    have k := (Keep.alloc [] w (.cells #[.int .i64 cfg, .int .i64 ch, .slice FA n fc, .int .i64 pad] 25)).trans (Keep.alloc [] _ (.cells #[.int .i64 cfg, .int .i64 ch, .slice GA n gc, .int .i64 pad] 39))
    have hb := Blk.new (w.alloc (.cells #[.int .i64 cfg, .int .i64 ch, .slice FA n fc, .int .i64 pad] 25)) #[.int .i64 cfg, .int .i64 ch, .slice GA n gc, .int .i64 pad] 39
    rw [World.size_alloc] at hb
    exact Lib.hid ⟨k, (Blk.new w _ _).alloc _, hb, hf.keep0 k, hg.keep0 k⟩
  clear hf hg
  go_enter Try.func17, Try.ntmps17
  go_wp2_with fail
  go_loopw [5] (fun i wr => ∃ k : Nat, k ≤ n ∧ i = .int .i64 k ∧ IsSt w wr w.heap.size (w.heap.size + 1) #[.int .i64 cfg, .int .i64 ch, .slice FA n fc, .int .i64 pad] #[.int .i64 cfg, .int .i64 ch, .slice GA n gc, .int .i64 pad] FA GA n fc gc L) (fun i _ => n - (intOf i).toNat)
  case atStart => exact ⟨0, by omega, rfl, HS0.out⟩
  case round =>
    clear HS0
    obtain ⟨k, hk, rfl, HS⟩ := hrel
    have HS := Lib.hid HS
    have d2 : wr.cell? ⟨w.heap.size, 2, none⟩ = some (.slice FA n fc) := HS.out.px.cell 2
    have e2 : wr.cell? ⟨w.heap.size + 1, 2, none⟩ = some (.slice GA n gc) := HS.out.rx.cell 2
    by_cases hlt : k < n
    · obtain ⟨l, hl⟩ : ∃ l, L[k]? = some l := ⟨_, List.getElem?_eq_getElem (by rw [HN.out]; exact hlt)⟩
      obtain ⟨a, X, d, rfl, hca, hax⟩ := HS.out.pf.at_ k l hl
      obtain ⟨b, Y, e, rfl, hcb, hbx⟩ := HS.out.rf.at_ k l hl
      obtain ⟨q, hq⟩ : ∃ q, q = l.length := ⟨_, rfl⟩
      rw [← hq] at hca hcb hax hbx
      obtain ⟨S, hS⟩ : ∃ S, S = strOfNums l := ⟨_, rfl⟩
      have h1 := str_drew hax
      have h2 := str_drew hbx
      rw [← hS] at h1 h2
      have hk0 : (0 : Int) ≤ (k : Int) := by omega
      have hk1 : (k : Int) < (n : Int) := by omega
      clear hl hax hbx hq hS
      go_wp2_with fail
      go_quiet (fail)
      go_wp2_with fail
      go_roundw
      case rel => exact ⟨k + 1, by omega, by go_num, HS.out.keep (Keep.drewN _ _ _)⟩
      case measure => simp [intOf]; omega
    · go_wp2_with fail
      go_ret
      exact ⟨rfl, HS.out.kept⟩
end Go.Proofs.Ytmnknegbbmjcbaa
