/- A part; Good. -/
import Derived.Test.YtjhgbcgpkpahjaaS1
namespace Go.Proofs.Ytjhgbcgpkpahjaa
open Go.RowKit

/-- A part, as it comes in: two slices and seven numbers. -/
structure PartA where
  A : Option Addr
  n : Nat
  c : Nat
  xs : List Int
  loud : Int
  lag : Int
  t0 : Int
  t1 : Int
  t2 : Int
  t3 : Int
  t4 : Int
  B : Option Addr
  m : Nat
  d : Nat
  fs : List Int
def PartA.taps (p : PartA) : List Int := [p.t0, p.t1, p.t2, p.t3, p.t4]
def partCells (A : Option Addr) (n c : Nat) (loud lag t0 t1 t2 t3 t4 : Int) (B : Option Addr) (m d : Nat) : Array Value :=
  #[.slice A n c, .int .i64 loud, .int .i64 lag, .int .i64 t0, .int .i64 t1, .int .i64 t2, .int .i64 t3, .int .i64 t4, .slice B m d]
def PartA.cells (p : PartA) : Array Value := partCells p.A p.n p.c p.loud p.lag p.t0 p.t1 p.t2 p.t3 p.t4 p.B p.m p.d
structure IsPart (w : World) (p : PartA) : Prop where
  pul : ArgI w p.A p.n p.c p.xs
  fil : ArgI w p.B p.m p.d p.fs
theorem ArgI.keep {w w' : World} {A : Option Addr} {n c : Nat} {xs : List Int} {l : List Nat} (h : ArgI w A n c xs) (k : Keep l w w') (hl : ∀ a, A = some a → 0 < n → a.block ∉ l) : ArgI w' A n c xs := by
  refine ⟨h.ln, h.cp, h.most, ?_, h.nil, fun x hx h0 => Nat.lt_of_lt_of_le (h.old x hx h0) k.size⟩
  intro i hi
  obtain ⟨a, ha, hc⟩ := h.reads i hi
  exact ⟨a, ha, k.cell hc (by rw [add_block]; exact hl a ha (by have := h.ln; omega))⟩
theorem ArgI.keep0 {w w' : World} {A : Option Addr} {n c : Nat} {xs : List Int} (h : ArgI w A n c xs) (k : Keep [] w w') : ArgI w' A n c xs := h.keep k (by simp)
theorem IsPart.keep0 {w w' : World} {p : PartA} (h : IsPart w p) (k : Keep [] w w') : IsPart w' p := ⟨h.pul.keep0 k, h.fil.keep0 k⟩
def lagOk (l : Int) : Bool := decide (l = 0) || (decide (3 ≤ l) && decide (l ≤ 318))
/-- May a part be? -/
def goodB (p : PartA) : Bool := decide (1 ≤ p.n) && (decide (p.n ≤ 480) && (okL 16 p.xs && (decide (0 ≤ p.loud) && (decide (p.loud ≤ 262144) && (lagOk p.lag && (okL 128 p.taps && (decide (p.m ≤ 32) && okL 131072 p.fs)))))))
theorem part_taps {w : World} {b : Nat} {A : Option Addr} {n c : Nat} {loud lag t0 t1 t2 t3 t4 : Int} {B : Option Addr} {m d : Nat} (h : Blk w b (partCells A n c loud lag t0 t1 t2 t3 t4 B m d) 31) : Rd w (some ⟨b, 3, none⟩) [t0, t1, t2, t3, t4] := by
  intro i hi
  refine ⟨_, rfl, ?_⟩
  have e : (⟨b, 3, none⟩ : Addr).add i = ⟨b, 3 + i, none⟩ := by unfold Addr.add; split <;> simp_all
  rw [e, h.cell]
  match i, hi with
  | 0, _ => rfl
  | 1, _ => rfl
  | 2, _ => rfl
  | 3, _ => rfl
  | 4, _ => rfl
def RetGood (w : World) (b : Bool) (e : Ending) (w' : World) : Prop := e = .returned (.bool b) ∧ Keep [] w w'
theorem ArgI.at0 {w w' : World} {A : Option Addr} {n c : Nat} {xs : List Int} (h : ArgI w A n c xs) (k : Keep [] w w') : Rd w' A xs := (h.keep0 k).reads
set_option maxRecDepth 100000 in
set_option maxHeartbeats 4000000 in
theorem good_calls (p : PartA) (w : World) (hp : IsPart w p) : Calls Try.prog 14 #[.agg p.cells] w (RetGood w (goodB p)) := by
  obtain ⟨A, n, c, xs, loud, lag, t0, t1, t2, t3, t4, B, m, d, fs⟩ := p
  have HPu : Hid (ArgI w A n c xs) := Lib.hid hp.pul
  have HPf : Hid (ArgI w B m d fs) := Lib.hid hp.fil
  have HB : Hid (Blk (w.alloc (.cells #[.slice A n c, .int .i64 loud, .int .i64 lag, .int .i64 t0, .int .i64 t1, .int .i64 t2, .int .i64 t3, .int .i64 t4, .slice B m d] 31)) w.heap.size #[.slice A n c, .int .i64 loud, .int .i64 lag, .int .i64 t0, .int .i64 t1, .int .i64 t2, .int .i64 t3, .int .i64 t4, .slice B m d] 31) := Lib.hid (Blk.new w _ 31)
  have HK : Hid (Keep [] w (w.alloc (.cells #[.slice A n c, .int .i64 loud, .int .i64 lag, .int .i64 t0, .int .i64 t1, .int .i64 t2, .int .i64 t3, .int .i64 t4, .slice B m d] 31))) := Lib.hid (Keep.alloc [] w _)
  clear hp
  change Calls _ _ #[.agg #[.slice A n c, .int .i64 loud, .int .i64 lag, .int .i64 t0, .int .i64 t1, .int .i64 t2, .int .i64 t3, .int .i64 t4, .slice B m d]] w _
  by_cases hn1 : n < 1
  · have e : goodB ⟨A, n, c, xs, loud, lag, t0, t1, t2, t3, t4, B, m, d, fs⟩ = false := by simp [goodB, lagOk, show n = 0 by omega]
    rw [e]; clear e
    go_enter Try.func14, Try.ntmps14
    go_wp2_with fail
    go_ret
    exact ⟨rfl, HK.out⟩
  · by_cases hn2 : 480 < n
    · have e : goodB ⟨A, n, c, xs, loud, lag, t0, t1, t2, t3, t4, B, m, d, fs⟩ = false := by simp [goodB, lagOk, show ¬ n ≤ 480 by omega]
      rw [e]; clear e
      go_enter Try.func14, Try.ntmps14
      go_wp2_with fail
      go_ret
      exact ⟨rfl, HK.out⟩
    · have hn3 : n ≤ 480 := by omega
      cases hx : okL 16 xs with
      | false =>
        have e : goodB ⟨A, n, c, xs, loud, lag, t0, t1, t2, t3, t4, B, m, d, fs⟩ = false := by simp [goodB, lagOk, hx]
        rw [e]; clear e
        have HX := Lib.hid hx
        clear hx
        go_enter Try.func14, Try.ntmps14
        go_wp2_with fail
        refine (within_calls _ _ _ _ 16 _ HPu.out.ln (by omega) (HPu.out.at0 HK.out) (by omega) (by omega)).mono ?_
        rintro e w1 ⟨rfl, k1⟩
        have HB1 := Lib.hid (HB.out.keep k1 (by simp))
        have HK1 := Lib.hid (HK.out.trans k1)
        clear k1
        rw [HX.out]
        go_wp2_with fail
        go_ret
        exact ⟨rfl, HK1.out⟩
      | true =>
        by_cases hl1 : loud < 0
        · have e : goodB ⟨A, n, c, xs, loud, lag, t0, t1, t2, t3, t4, B, m, d, fs⟩ = false := by simp [goodB, lagOk, show ¬ 0 ≤ loud by omega]
          rw [e]; clear e
          have HX := Lib.hid hx
          clear hx
          go_enter Try.func14, Try.ntmps14
          go_wp2_with fail
          refine (within_calls _ _ _ _ 16 _ HPu.out.ln (by omega) (HPu.out.at0 HK.out) (by omega) (by omega)).mono ?_
          rintro e w1 ⟨rfl, k1⟩
          have HB1 := Lib.hid (HB.out.keep k1 (by simp))
          have HK1 := Lib.hid (HK.out.trans k1)
          clear k1
          have c0 : w1.cell? ⟨w.heap.size, 0, none⟩ = some (.slice A n c) := HB1.out.cell 0
          have c1 : w1.cell? ⟨w.heap.size, 1, none⟩ = some (.int .i64 loud) := HB1.out.cell 1
          have c2 : w1.cell? ⟨w.heap.size, 2, none⟩ = some (.int .i64 lag) := HB1.out.cell 2
          have c8 : w1.cell? ⟨w.heap.size, 8, none⟩ = some (.slice B m d) := HB1.out.cell 8
          rw [HX.out]
          go_wp2_with fail
          go_ret
          exact ⟨rfl, HK1.out⟩
        · by_cases hl2 : 262144 < loud
          · have e : goodB ⟨A, n, c, xs, loud, lag, t0, t1, t2, t3, t4, B, m, d, fs⟩ = false := by simp [goodB, lagOk, show ¬ loud ≤ 262144 by omega]
            rw [e]; clear e
            have HX := Lib.hid hx
            clear hx
            go_enter Try.func14, Try.ntmps14
            go_wp2_with fail
            refine (within_calls _ _ _ _ 16 _ HPu.out.ln (by omega) (HPu.out.at0 HK.out) (by omega) (by omega)).mono ?_
            rintro e w1 ⟨rfl, k1⟩
            have HB1 := Lib.hid (HB.out.keep k1 (by simp))
            have HK1 := Lib.hid (HK.out.trans k1)
            clear k1
            have c0 : w1.cell? ⟨w.heap.size, 0, none⟩ = some (.slice A n c) := HB1.out.cell 0
            have c1 : w1.cell? ⟨w.heap.size, 1, none⟩ = some (.int .i64 loud) := HB1.out.cell 1
            have c2 : w1.cell? ⟨w.heap.size, 2, none⟩ = some (.int .i64 lag) := HB1.out.cell 2
            have c8 : w1.cell? ⟨w.heap.size, 8, none⟩ = some (.slice B m d) := HB1.out.cell 8
            rw [HX.out]
            go_wp2_with fail
            go_ret
            exact ⟨rfl, HK1.out⟩
          · have HX := Lib.hid hx
            clear hx
            by_cases hlag : lag = 0 ∨ (3 ≤ lag ∧ lag ≤ 318)
            · have hlg : lagOk lag = true := by rcases hlag with h | ⟨h, h'⟩ <;> simp [lagOk, h] <;> omega
              have e : goodB ⟨A, n, c, xs, loud, lag, t0, t1, t2, t3, t4, B, m, d, fs⟩ = (okL 128 [t0, t1, t2, t3, t4] && (decide (m ≤ 32) && okL 131072 fs)) := by simp [goodB, PartA.taps, HX.out, hlg, show 1 ≤ n by omega, hn3, show 0 ≤ loud by omega, show loud ≤ 262144 by omega]
              rw [e]; clear e hlg
              rcases hlag with rfl | ⟨hg1, hg2⟩
              · go_enter Try.func14, Try.ntmps14
                go_wp2_with fail
                refine (within_calls _ _ _ _ 16 _ HPu.out.ln (by omega) (HPu.out.at0 HK.out) (by omega) (by omega)).mono ?_
                rintro e w1 ⟨rfl, k1⟩
                have HB1 := Lib.hid (HB.out.keep k1 (by simp))
                have HK1 := Lib.hid (HK.out.trans k1)
                clear k1
                have c0 : w1.cell? ⟨w.heap.size, 0, none⟩ = some (.slice A n c) := HB1.out.cell 0
                have c1 : w1.cell? ⟨w.heap.size, 1, none⟩ = some (.int .i64 loud) := HB1.out.cell 1
                have c2 : w1.cell? ⟨w.heap.size, 2, none⟩ = some (.int .i64 0) := HB1.out.cell 2
                have c8 : w1.cell? ⟨w.heap.size, 8, none⟩ = some (.slice B m d) := HB1.out.cell 8
                rw [HX.out]
                go_wp2_with fail
                refine (within_calls _ _ _ _ 128 _ rfl (by simp) (part_taps HB1.out) (by omega) (by omega)).mono ?_
                rintro e w2 ⟨rfl, k2⟩
                have HB2 := Lib.hid (HB1.out.keep k2 (by simp))
                have HK2 := Lib.hid (HK1.out.trans k2)
                clear k2 c0 c1 c2 c8
                have c0 : w2.cell? ⟨w.heap.size, 0, none⟩ = some (.slice A n c) := HB2.out.cell 0
                have c1 : w2.cell? ⟨w.heap.size, 1, none⟩ = some (.int .i64 loud) := HB2.out.cell 1
                have c2 : w2.cell? ⟨w.heap.size, 2, none⟩ = some (.int .i64 0) := HB2.out.cell 2
                have c8 : w2.cell? ⟨w.heap.size, 8, none⟩ = some (.slice B m d) := HB2.out.cell 8
                cases ht : okL 128 [t0, t1, t2, t3, t4] with
                | false =>
                  go_wp2_with fail
                  go_ret
                  exact ⟨by first | rfl | (simp [*]; done) | (simp; omega), HK2.out⟩
                | true =>
                  by_cases hm : 32 < m
                  · have em : decide (m ≤ 32) = false := by simp; omega
                    rw [em]
                    go_wp2_with fail
                    go_ret
                    exact ⟨by first | rfl | (simp [*]; done) | (simp; omega), HK2.out⟩
                  · have hm2 : m ≤ 32 := by omega
                    go_wp2_with fail
                    refine (within_calls _ _ _ _ 131072 _ HPf.out.ln (by omega) (HPf.out.at0 HK2.out) (by omega) (by omega)).mono ?_
                    rintro e w3 ⟨rfl, k3⟩
                    have HK3 := Lib.hid (HK2.out.trans k3)
                    clear k3 c0 c1 c2 c8
                    go_wp2_with fail
                    go_ret
                    exact ⟨by cases okL 131072 fs <;> simp [hm2] <;> omega, HK3.out⟩
              · have hg3 : ¬ lag = 0 := by omega
                go_enter Try.func14, Try.ntmps14
                go_wp2_with fail
                refine (within_calls _ _ _ _ 16 _ HPu.out.ln (by omega) (HPu.out.at0 HK.out) (by omega) (by omega)).mono ?_
                rintro e w1 ⟨rfl, k1⟩
                have HB1 := Lib.hid (HB.out.keep k1 (by simp))
                have HK1 := Lib.hid (HK.out.trans k1)
                clear k1
                have c0 : w1.cell? ⟨w.heap.size, 0, none⟩ = some (.slice A n c) := HB1.out.cell 0
                have c1 : w1.cell? ⟨w.heap.size, 1, none⟩ = some (.int .i64 loud) := HB1.out.cell 1
                have c2 : w1.cell? ⟨w.heap.size, 2, none⟩ = some (.int .i64 lag) := HB1.out.cell 2
                have c8 : w1.cell? ⟨w.heap.size, 8, none⟩ = some (.slice B m d) := HB1.out.cell 8
                rw [HX.out]
                go_wp2_with fail
                refine (within_calls _ _ _ _ 128 _ rfl (by simp) (part_taps HB1.out) (by omega) (by omega)).mono ?_
                rintro e w2 ⟨rfl, k2⟩
                have HB2 := Lib.hid (HB1.out.keep k2 (by simp))
                have HK2 := Lib.hid (HK1.out.trans k2)
                clear k2 c0 c1 c2 c8
                have c0 : w2.cell? ⟨w.heap.size, 0, none⟩ = some (.slice A n c) := HB2.out.cell 0
                have c1 : w2.cell? ⟨w.heap.size, 1, none⟩ = some (.int .i64 loud) := HB2.out.cell 1
                have c2 : w2.cell? ⟨w.heap.size, 2, none⟩ = some (.int .i64 lag) := HB2.out.cell 2
                have c8 : w2.cell? ⟨w.heap.size, 8, none⟩ = some (.slice B m d) := HB2.out.cell 8
                cases ht : okL 128 [t0, t1, t2, t3, t4] with
                | false =>
                  go_wp2_with fail
                  go_ret
                  exact ⟨by first | rfl | (simp [*]; done) | (simp; omega), HK2.out⟩
                | true =>
                  by_cases hm : 32 < m
                  · have em : decide (m ≤ 32) = false := by simp; omega
                    rw [em]
                    go_wp2_with fail
                    go_ret
                    exact ⟨by first | rfl | (simp [*]; done) | (simp; omega), HK2.out⟩
                  · have hm2 : m ≤ 32 := by omega
                    go_wp2_with fail
                    refine (within_calls _ _ _ _ 131072 _ HPf.out.ln (by omega) (HPf.out.at0 HK2.out) (by omega) (by omega)).mono ?_
                    rintro e w3 ⟨rfl, k3⟩
                    have HK3 := Lib.hid (HK2.out.trans k3)
                    clear k3 c0 c1 c2 c8
                    go_wp2_with fail
                    go_ret
                    exact ⟨by cases okL 131072 fs <;> simp [hm2] <;> omega, HK3.out⟩
            · have hg3 : ¬ lag = 0 := fun h => hlag (.inl h)
              have hlg : lagOk lag = false := by simp [lagOk]; omega
              have e : goodB ⟨A, n, c, xs, loud, lag, t0, t1, t2, t3, t4, B, m, d, fs⟩ = false := by simp [goodB, hlg]
              rw [e]; clear e
              clear hlg
              by_cases hg1 : 3 ≤ lag
              · have hg2 : ¬ lag ≤ 318 := fun h => hlag (.inr ⟨hg1, h⟩)
                go_enter Try.func14, Try.ntmps14
                go_wp2_with fail
                refine (within_calls _ _ _ _ 16 _ HPu.out.ln (by omega) (HPu.out.at0 HK.out) (by omega) (by omega)).mono ?_
                rintro e w1 ⟨rfl, k1⟩
                have HB1 := Lib.hid (HB.out.keep k1 (by simp))
                have HK1 := Lib.hid (HK.out.trans k1)
                clear k1
                have c0 : w1.cell? ⟨w.heap.size, 0, none⟩ = some (.slice A n c) := HB1.out.cell 0
                have c1 : w1.cell? ⟨w.heap.size, 1, none⟩ = some (.int .i64 loud) := HB1.out.cell 1
                have c2 : w1.cell? ⟨w.heap.size, 2, none⟩ = some (.int .i64 lag) := HB1.out.cell 2
                have c8 : w1.cell? ⟨w.heap.size, 8, none⟩ = some (.slice B m d) := HB1.out.cell 8
                rw [HX.out]
                go_wp2_with fail
                go_ret
                exact ⟨rfl, HK1.out⟩
              · go_enter Try.func14, Try.ntmps14
                go_wp2_with fail
                refine (within_calls _ _ _ _ 16 _ HPu.out.ln (by omega) (HPu.out.at0 HK.out) (by omega) (by omega)).mono ?_
                rintro e w1 ⟨rfl, k1⟩
                have HB1 := Lib.hid (HB.out.keep k1 (by simp))
                have HK1 := Lib.hid (HK.out.trans k1)
                clear k1
                have c0 : w1.cell? ⟨w.heap.size, 0, none⟩ = some (.slice A n c) := HB1.out.cell 0
                have c1 : w1.cell? ⟨w.heap.size, 1, none⟩ = some (.int .i64 loud) := HB1.out.cell 1
                have c2 : w1.cell? ⟨w.heap.size, 2, none⟩ = some (.int .i64 lag) := HB1.out.cell 2
                have c8 : w1.cell? ⟨w.heap.size, 8, none⟩ = some (.slice B m d) := HB1.out.cell 8
                rw [HX.out]
                go_wp2_with fail
                go_ret
                exact ⟨rfl, HK1.out⟩
end Go.Proofs.Ytjhgbcgpkpahjaa
