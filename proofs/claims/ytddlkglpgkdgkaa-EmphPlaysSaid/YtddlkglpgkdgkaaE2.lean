/- 'each': a map over a list by a closure that carries a state of its own. -/
import Derived.Test.YtddlkglpgkdgkaaK1
import Derived.Test.YtddlkglpgkdgkaaE1
namespace Go.Proofs.Ytddlkglpgkdgkaa
open Go.RowKit

/-- What a closure does, a round. -/
structure Steps1 {σ : Type} (bf : Nat) (B : Nat) (fn : FuncId) (caps : Array Value) (Inv : σ → World → Prop) (f : σ → Int → Int × σ) : Prop where
  call : ∀ (args : Array Value) (w : World), (callFunc fn args).run Try.prog w = .ok (.enter fn args) w
  step : ∀ s v w, -16777216 ≤ v → v ≤ 16777216 → Inv s w → Calls Try.prog fn (#[.int .i64 v] ++ caps) w fun e w' => e = .returned (.int .i64 (f s v).1) ∧ Keep [bf] w w' ∧ Inv (f s v).2 w'
  keep : ∀ s w w' l, Inv s w → Keep l w w' → (∀ b ∈ l, B ≤ b) → B ≤ w.heap.size → Inv s w'
def stepK {σ : Type} (f : σ → Int → Int × σ) (s : σ) (v : Int) : Int × σ := f s (keptI v)
def RetEach {σ : Type} (bf : Nat) (w : World) (Inv : σ → World → Prop) (r : List Int × σ) (e : Ending) (w' : World) : Prop :=
  ∃ g, w.heap.size ≤ g ∧ e = .returned (.slice (some ⟨g, 0, none⟩) r.1.length r.1.length) ∧ Keep [bf] w w' ∧ Blk w' g (ints r.1).toArray 2 ∧ Inv r.2 w'
structure EachRel {σ : Type} (bf : Nat) (w : World) (Inv : σ → World → Prop) (f : σ → Int → Int × σ) (s0 : σ) (xs : List Int) (n k : Nat) (wr : World) : Prop where
  kept : Keep [bf] w wr
  size : w.heap.size < wr.heap.size
  out : Blk wr w.heap.size (ints ((mapS (stepK f) s0 (xs.take k)).1 ++ List.replicate (n - k) 0)).toArray 2
  inv : Inv (mapS (stepK f) s0 (xs.take k)).2 wr
theorem EachRel.start {σ : Type} (bf : Nat) (w : World) {fn : FuncId} {caps : Array Value} (Inv : σ → World → Prop) (f : σ → Int → Int × σ) (s0 : σ) (xs : List Int) (n : Nat) (hI : Inv s0 w) (hF : Steps1 bf w.heap.size fn caps Inv f) :
    EachRel bf w Inv f s0 xs n 0 (w.alloc (.cells (ints (List.replicate n 0)).toArray 2)) :=
  ⟨Keep.alloc _ _ _, by simp, by simpa [mapS] using Blk.new w _ _, by simpa [mapS] using hF.keep s0 _ _ [] hI (Keep.alloc _ _ _) (by simp) (Nat.le_refl _)⟩
/-- In the middle of a round: the closure has answered, its answer is not stored yet. -/
structure EachMid {σ : Type} (bf : Nat) (w : World) (Inv : σ → World → Prop) (f : σ → Int → Int × σ) (s0 : σ) (xs : List Int) (n k : Nat) (y : Int) (w2 : World) : Prop where
  old : w2.cell? ⟨w.heap.size, k, none⟩ = some (.int .i64 0)
  free : w2.frozen? ⟨w.heap.size, k, none⟩ = false
  done : EachRel bf w Inv f s0 xs n (k + 1) (w2.setCell ⟨w.heap.size, k, none⟩ (.int .i64 y))
theorem EachRel.next {σ : Type} {bf : Nat} {w : World} {fn : FuncId} {caps : Array Value} {Inv : σ → World → Prop} {f : σ → Int → Int × σ} {s0 : σ} {xs : List Int} {n k : Nat} {wr w2 : World} {q : Int}
    (h : EachRel bf w Inv f s0 xs n k wr) (hF : Steps1 bf w.heap.size fn caps Inv f) (hq : q = xs.getD k 0) (hlt : k < n) (hk2 : Keep [bf] wr w2) (hi2 : Inv (f (mapS (stepK f) s0 (xs.take k)).2 (keptI q)).2 w2) (hn : xs.length = n)
    (hbf : bf < w.heap.size) : EachMid bf w Inv f s0 xs n k (f (mapS (stepK f) s0 (xs.take k)).2 (keptI q)).1 w2 := by
  have hl : (mapS (stepK f) s0 (xs.take k)).1.length = k := by rw [mapS_length, List.length_take]; omega
  have hb2 := h.out.keep hk2 (by simp; omega)
  have hm := mapS_take (stepK f) s0 xs k (by omega)
  have hz : stepK f (mapS (stepK f) s0 (xs.take k)).2 (xs.getD k 0) = f (mapS (stepK f) s0 (xs.take k)).2 (keptI q) := by rw [hq]; rfl
  rw [hz] at hm
  refine ⟨?_, hb2.free k, ?_⟩
  · rw [hb2.cell]
    have e : n - k = (n - k - 1) + 1 := by omega
    rw [e, List.replicate_succ]
    simp [ints, hl]
  · have hs := hb2.set k (.int .i64 (f (mapS (stepK f) s0 (xs.take k)).2 (keptI q)).1)
    rw [fill_row _ _ n k hl hlt] at hs
    refine ⟨(h.kept.trans hk2).trans' (Keep.setb _ _ _ _) (by simp) (by simp), ?_, ?_, ?_⟩
    · have := h.size; have := hk2.size; simp; omega
    · rw [hm]; exact hs
    · rw [hm]
      exact hF.keep _ _ _ [w.heap.size] hi2 (Keep.setb _ _ _ _) (by simp) (by have := h.size; have := hk2.size; omega)
set_option maxHeartbeats 1000000 in
theorem each_calls {σ : Type} (bf : Nat) (fn : FuncId) (caps : Array Value) (Inv : σ → World → Prop) (f : σ → Int → Int × σ) (s0 : σ) (w : World) (hbf : bf < w.heap.size) (hF : Steps1 bf w.heap.size fn caps Inv f)
    (A : Option Addr) (xs : List Int) (n c : Nat) (hn : xs.length = n) (hnc : n ≤ c) (hn' : n ≤ 4096) (hr : Rd w A xs) (hA : ∀ a, A = some a → 0 < n → a.block ≠ bf) (hI : Inv s0 w) :
    Calls Try.prog 22 #[.slice A n c, .func (.func fn) #[] caps] w (RetEach bf w Inv (mapS (stepK f) s0 xs)) := by
  have hmk := make_ints n (by omega)
  have HF := Lib.hid hF
  have HR := Lib.hid hr
  have HA := Lib.hid hA
  have HI := Lib.hid hI
  have HN := Lib.hid hn
  have HB := Lib.hid hbf
  clear hF hr hA hI hn hbf
  go_enter Try.func22, Try.ntmps22
  go_wp2_with fail
  go_loopw [18] (fun i wr => ∃ k : Nat, k ≤ n ∧ i = .int .i64 k ∧ EachRel bf w Inv f s0 xs n k wr) (fun i _ => n - (intOf i).toNat)
  case atStart => exact ⟨0, Nat.zero_le _, rfl, EachRel.start bf w Inv f s0 xs n HI.out HF.out⟩
  case round =>
    obtain ⟨k, hk, rfl, HE⟩ := hrel
    have HE := Lib.hid HE
    rename_i wr _ _
    by_cases hlt : k < n
    · obtain ⟨a, rfl, hca⟩ := HR.out k (by rw [HN.out]; exact hlt)
      have hcw := HE.out.kept.cell hca (by rw [add_block]; simpa using HA.out a rfl (by omega))
      have hcw' : k < n → wr.cell? (a.add k) = some (.int .i64 (xs.getD k 0)) := fun _ => hcw
      clear hca hcw
      obtain ⟨q, hq⟩ : ∃ q, q = xs.getD k 0 := ⟨_, rfl⟩
      rw [← hq] at hcw'
      have HQ := Lib.hid hq
      clear hq
      go_wp2_with fail
      refine (kept_calls _ _).mono ?_; rintro e w' ⟨rfl, rfl⟩
      have hb := keptI_bd q
      go_wp2_with fail
      rw [HF.out.call, Oper.upon_enter]
      refine (HF.out.step _ _ _ hb.1 hb.2 HE.out.inv).mono ?_
      rintro e w2 ⟨rfl, hk2, hi2⟩
      have HE2 := Lib.hid (HE.out.next HF.out HQ.out hlt hk2 hi2 HN.out HB.out)
      clear hk2 hi2
      have c2 := HE2.out.old
      have f2 := HE2.out.free
      go_wp2_with fail
      go_roundw
      case rel => exact ⟨k + 1, by omega, by go_num, HE2.out.done⟩
      case measure => simp [intOf]; omega
    · go_wp2
      go_ret
      obtain rfl : k = n := by omega
      have hE := HE.out
      have h1 := HN.out
      refine ⟨w.heap.size, Nat.le_refl _, ?_, hE.kept, ?_, ?_⟩
      · rw [mapS_length, h1]; exact rfl
      · have := hE.out
        rwa [Nat.sub_self, List.replicate_zero, List.append_nil, ← h1, List.take_length] at this
      · have := hE.inv
        rwa [← h1, List.take_length] at this
end Go.Proofs.Ytddlkglpgkdgkaa
