/- The walk of EmphCuts: a sound that is cut in two is raised, lowered, combed the same. -/
import Derived.Test.YtddlkglpgkdgkaaE7
namespace Go.Proofs.Ytddlkglpgkdgkaa
open Go.RowKit

/-! ### the plain law -/
def rO (u v : Int) : Int × Int := (keptI (keptI v - mulS 27853 u 15), keptI v)
def lO (u v : Int) : Int × Int := (keptI (keptI v + mulS 27853 u 15), keptI (keptI v + mulS 27853 u 15))
def cO (lag : Nat) (g : Int) (u : List Int) (v : Int) : Int × List Int := (keptI (keptI v + mulS g (u.getD (lag - 1) 0) 15), keptI (keptI v + mulS g (u.getD (lag - 1) 0) 15) :: u.take 511)
theorem raise_O (xs : List Int) : ∀ s, mapS (stepK raiseF) s xs = ((mapS rO s.up xs).1, ⟨(mapS rO s.up xs).2, s.low, s.comb⟩) := by
  induction xs with
  | nil => intro s; rfl
  | cons x xs ih => intro s; simp only [mapS, ih]; rfl
theorem lower_O (xs : List Int) : ∀ s, mapS (stepK lowerF) s xs = ((mapS lO s.low xs).1, ⟨s.up, (mapS lO s.low xs).2, s.comb⟩) := by
  induction xs with
  | nil => intro s; rfl
  | cons x xs ih => intro s; simp only [mapS, ih]; rfl
theorem comb_O (lag : Nat) (g : Int) (xs : List Int) : ∀ s, mapS (stepK (combF lag g)) s xs = ((mapS (cO lag g) s.comb xs).1, ⟨s.up, s.low, (mapS (cO lag g) s.comb xs).2⟩) := by
  induction xs with
  | nil => intro s; rfl
  | cons x xs ih => intro s; simp only [mapS, ih]; rfl
/-- All three in turn. -/
def full (lag : Nat) (g : Int) (s : Flt) (xs : List Int) : List Int × Flt :=
  mapS (stepK (combF lag g)) (mapS (stepK lowerF) (mapS (stepK raiseF) s xs).2 (mapS (stepK raiseF) s xs).1).2 (mapS (stepK lowerF) (mapS (stepK raiseF) s xs).2 (mapS (stepK raiseF) s xs).1).1
theorem full_O (lag : Nat) (g : Int) (s : Flt) (xs : List Int) : full lag g s xs =
    ((mapS (cO lag g) s.comb (mapS lO s.low (mapS rO s.up xs).1).1).1, ⟨(mapS rO s.up xs).2, (mapS lO s.low (mapS rO s.up xs).1).2, (mapS (cO lag g) s.comb (mapS lO s.low (mapS rO s.up xs).1).1).2⟩) := by
  simp only [full, raise_O, lower_O, comb_O]
theorem full_append (lag : Nat) (g : Int) (s : Flt) (xs ys : List Int) : full lag g s (xs ++ ys) = ((full lag g s xs).1 ++ (full lag g (full lag g s xs).2 ys).1, (full lag g (full lag g s xs).2 ys).2) := by
  simp only [full_O, mapS_append]
theorem full_length (lag : Nat) (g : Int) (s : Flt) (xs : List Int) : (full lag g s xs).1.length = xs.length := by
  unfold full; rw [mapS_length, mapS_length, mapS_length]

/-! ### the methods, the answer's length told -/
def RetN (bf : Nat) (w : World) (n : Nat) (r : List Int × Flt) (e : Ending) (w' : World) : Prop :=
  ∃ g, w.heap.size ≤ g ∧ e = .returned (.slice (some ⟨g, 0, none⟩) n n) ∧ Keep [bf] w w' ∧ Blk w' g (ints r.1).toArray 2 ∧ IsFil w' bf r.2 ∧ r.1.length = n
def RetCN (bf : Nat) (w : World) (n : Nat) (r : List Int × Flt) (e : Ending) (w' : World) : Prop :=
  ∃ g, w.heap.size ≤ g ∧ e = .returned (.tuple #[.slice (some ⟨g, 0, none⟩) n n, .int .i64 0]) ∧ Keep [bf] w w' ∧ Blk w' g (ints r.1).toArray 2 ∧ IsFil w' bf r.2 ∧ r.1.length = n
theorem raise_n (bf : Nat) (s : Flt) (A : Option Addr) (xs : List Int) (n c : Nat) (w : World) (hf : IsFil w bf s) (hn : xs.length = n) (hnc : n ≤ c) (hn' : n ≤ 4096) (hr : Rd w A xs) (hA : ∀ a, A = some a → 0 < n → a.block ≠ bf) :
    Calls Try.prog 13 #[.pointer (some ⟨bf, 0, none⟩), .slice A n c] w (RetN bf w n (mapS (stepK raiseF) s xs)) :=
  (raise_calls bf s A xs n c w hf hn hnc hn' hr hA).mono fun e w' ⟨_, he, g, h1, hv, h2, h3, h4⟩ => by
    rw [mapS_length, hn] at hv
    exact ⟨g, h1, by rw [he, hv], h2, h3, h4, by rw [mapS_length, hn]⟩
theorem lower_n (bf : Nat) (s : Flt) (A : Option Addr) (xs : List Int) (n c : Nat) (w : World) (hf : IsFil w bf s) (hn : xs.length = n) (hnc : n ≤ c) (hn' : n ≤ 4096) (hr : Rd w A xs) (hA : ∀ a, A = some a → 0 < n → a.block ≠ bf) :
    Calls Try.prog 14 #[.pointer (some ⟨bf, 0, none⟩), .slice A n c] w (RetN bf w n (mapS (stepK lowerF) s xs)) :=
  (lower_calls bf s A xs n c w hf hn hnc hn' hr hA).mono fun e w' ⟨_, he, g, h1, hv, h2, h3, h4⟩ => by
    rw [mapS_length, hn] at hv
    exact ⟨g, h1, by rw [he, hv], h2, h3, h4, by rw [mapS_length, hn]⟩
theorem comb_n (bf : Nat) (s : Flt) (lag : Nat) (g : Int) (A : Option Addr) (xs : List Int) (n c : Nat) (w : World) (hl0 : 1 ≤ lag) (hl1 : lag ≤ 512) (hg0 : 0 ≤ g) (hg1 : g ≤ 24576) (hf : IsFil w bf s) (hn : xs.length = n) (hnc : n ≤ c) (hn' : n ≤ 4096) (hr : Rd w A xs)
    (hA : ∀ a, A = some a → 0 < n → a.block ≠ bf) :
    Calls Try.prog 11 #[.pointer (some ⟨bf, 0, none⟩), .slice A n c, .int .i64 lag, .int .i64 g] w (RetCN bf w n (mapS (stepK (combF lag g)) s xs)) :=
  (comb_calls bf s lag g A xs n c w hl0 hl1 hg0 hg1 hf hn hnc hn' hr hA).mono fun e w' ⟨_, he, g, h1, hv, h2, h3, h4⟩ => by
    rw [mapS_length, hn] at hv
    exact ⟨g, h1, by rw [he, hv], h2, h3, h4, by rw [mapS_length, hn]⟩
/-- One filter's sound in the midst of the law: the list that a method made, the filter, another filter that stays. -/
structure MidSt (w W : World) (a b g : Nat) (r : List Int × Flt) (n : Nat) (t : Flt) : Prop where
  kept : Keep [] w W
  oa : w.heap.size ≤ a
  ob : w.heap.size ≤ b
  ne : a ≠ b
  blk : Blk W g (ints r.1).toArray 2
  fa : IsFil W a r.2
  fb : IsFil W b t
  ln : r.1.length = n
theorem MidSt.step {w W W' : World} {a b g g' : Nat} {r r' : List Int × Flt} {n : Nat} {t : Flt} (h : MidSt w W a b g r n t) (k : Keep [a] W W') (hb : Blk W' g' (ints r'.1).toArray 2) (hf : IsFil W' a r'.2) (hl : r'.1.length = n) : MidSt w W' a b g' r' n t :=
  ⟨h.kept.trans' k (by simp) (by simpa using h.oa), h.oa, h.ob, h.ne, hb, hf, h.fb.keep k (by simpa using fun e => h.ne e.symm), hl⟩
theorem MidSt.neA {w W : World} {a b g : Nat} {r : List Int × Flt} {n : Nat} {t : Flt} (h : MidSt w W a b g r n t) : ∀ x, some (⟨g, 0, none⟩ : Addr) = some x → 0 < n → x.block ≠ a := by
  rintro x ⟨⟩ _
  exact h.blk.ne h.fa.blk (by decide)

set_option maxRecDepth 100000 in
set_option maxHeartbeats 4000000 in
theorem cuts_walk (A : Option Addr) (n c : Nat) (xs : List Int) (cut lag g : Int) (w : World) (ha : ArgI w A n c xs) :
    Calls Try.prog 6 #[.slice A n c, .int .i64 cut, .int .i64 lag, .int .i64 g] w (RetKept w (.bool true)) := by
  have HA := Lib.hid ha
  have hm := ha.most
  have hnc := ha.cp
  clear ha
  go_enter Try.func6, Try.ntmps6
  go_wp2_with fail
  refine (awake_calls _).mono ?_
  rintro e w0 ⟨rfl, k⟩
  have H0 := Lib.hid k
  clear k
  by_cases hgood : n ≤ 1000 ∧ 0 ≤ cut ∧ cut ≤ n ∧ 1 ≤ lag ∧ lag ≤ 512 ∧ 0 ≤ g ∧ g ≤ 24576
  · obtain ⟨hn, hc0, hc1, hl0, hl1, hg0, hg1⟩ := hgood
    obtain ⟨k, rfl⟩ := Int.eq_ofNat_of_zero_le hc0
    obtain ⟨m, rfl⟩ := Int.eq_ofNat_of_zero_le (show 0 ≤ lag by omega)
    have hk : k ≤ n := by omega
    have hkc : k ≤ c := by omega
    have hm0 : 1 ≤ m := by omega
    have hm1 : m ≤ 512 := by omega
    obtain ⟨A2, hcut, hA2, hA3, _⟩ := cut_from A n c k hk hnc
    have HC2 : Hid ((∀ (w : World) (xs : List Int), xs.length = n → Rd w A xs → Rd w A2 (xs.drop k)) ∧ (∀ a', A2 = some a' → ∃ a, A = some a ∧ a'.block = a.block)) := Lib.hid ⟨hA2, hA3⟩
    clear hA2 hA3
    have HAf : Hid (∀ a, A = some a → 0 < n → a.block < w.heap.size) := Lib.hid (fun a h h0 => HA.out.old a h h0)
    go_wp2_with fail
    refine (new_calls _).mono ?_
    rintro e w1 ⟨a, f1, rfl, f2, f3⟩
    have H1 : Hid (w.heap.size ≤ a ∧ Keep [] w w1 ∧ IsFil w1 a newFlt) := Lib.hid ⟨by have := H0.out.size; omega, H0.out.trans f2, f3⟩
    clear f1 f2 f3 H0
    go_wp2_with fail
    refine (new_calls _).mono ?_
    rintro e w2 ⟨b, f1, rfl, f2, f3⟩
    have H2 : Hid (w.heap.size ≤ a ∧ a < b ∧ Keep [] w w2 ∧ IsFil w2 a newFlt ∧ IsFil w2 b newFlt) :=
      Lib.hid ⟨H1.out.1, by have := H1.out.2.2.lt; omega, H1.out.2.1.trans f2, H1.out.2.2.keep f2 (by simp), f3⟩
    clear f1 f2 f3 H1
    go_wp2_with fail
    refine (raise_n a newFlt A xs n c w2 H2.out.2.2.2.1 HA.out.ln hnc (by omega) (HA.out.reads.keep H2.out.2.2.1 (by simp)) (fun x h h0 => by have := HAf.out x h h0; have := H2.out.1; omega)).mono ?_
    rintro e w3 ⟨g1, a1, rfl, a2, a3, a4, a5⟩
    have H3 : Hid (MidSt w w3 a b g1 (mapS (stepK raiseF) newFlt xs) n newFlt) := by
      obtain ⟨h1, h2, h3, h4, h5⟩ := H2.out
      exact Lib.hid ⟨h3.trans' a2 (by simp) (by simpa using h1), h1, by omega, by omega, a3, a4, h5.keep a2 (by simp; omega), a5⟩
    clear a1 a2 a3 a4 a5 H2
    go_wp2_with fail
    refine (lower_n a _ _ _ n n w3 H3.out.fa H3.out.ln (by omega) (by omega) (Rd.ofBlk0 H3.out.blk) H3.out.neA).mono ?_
    rintro e w4 ⟨g2, a1, rfl, a2, a3, a4, a5⟩
    have H4 := Lib.hid (H3.out.step a2 a3 a4 a5)
    clear a1 a2 a3 a4 a5 H3
    go_wp2_with fail
    refine (comb_n a _ m g _ _ n n w4 hm0 hm1 hg0 hg1 H4.out.fa H4.out.ln (by omega) (by omega) (Rd.ofBlk0 H4.out.blk) H4.out.neA).mono ?_
    rintro e w5 ⟨g3, a1, rfl, a2, a3, a4, a5⟩
    have H5 : Hid (MidSt w w5 a b g3 (full m g newFlt xs) n newFlt) := Lib.hid (H4.out.step a2 a3 a4 a5)
    clear a1 a2 a3 a4 a5 H4
    go_wp2_with fail
    refine (raise_n b newFlt A (xs.take k) k c w5 H5.out.fb (by rw [List.length_take, HA.out.ln]; omega) hkc (by omega) ((HA.out.reads.take k).keep H5.out.kept (by simp)) (fun x h h0 => by have := HAf.out x h (by omega); have := H5.out.ob; omega)).mono ?_
    rintro e w6 ⟨g4, a1, rfl, a2, a3, a4, a5⟩
    have H6 : Hid (MidSt w w6 b a g4 (mapS (stepK raiseF) newFlt (xs.take k)) k (full m g newFlt xs).2 ∧ Blk w6 g3 (ints (full m g newFlt xs).1).toArray 2) := by
      obtain ⟨h1, h2, h3, h4, h5, h6, h7, h8⟩ := H5.out
      exact Lib.hid ⟨⟨h1.trans' a2 (by simp) (by simpa using h3), h3, h2, fun e => h4 e.symm, a3, a4, h6.keep a2 (by simpa using h4), a5⟩, h5.keep a2 (by simpa using h5.ne h7.blk (by decide))⟩
    clear a1 a2 a3 a4 a5 H5
    go_wp2_with fail
    refine (lower_n b _ _ _ k k w6 H6.out.1.fa H6.out.1.ln (by omega) (by omega) (Rd.ofBlk0 H6.out.1.blk) H6.out.1.neA).mono ?_
    rintro e w7 ⟨g5, a1, rfl, a2, a3, a4, a5⟩
    have H7 := Lib.hid (And.intro (H6.out.1.step a2 a3 a4 a5) (H6.out.2.keep a2 (by simpa using H6.out.2.ne H6.out.1.fa.blk (by decide))))
    clear a1 a2 a3 a4 a5 H6
    go_wp2_with fail
    refine (comb_n b _ m g _ _ k k w7 hm0 hm1 hg0 hg1 H7.out.1.fa H7.out.1.ln (by omega) (by omega) (Rd.ofBlk0 H7.out.1.blk) H7.out.1.neA).mono ?_
    rintro e w8 ⟨g6, a1, rfl, a2, a3, a4, a5⟩
    have HNE : Hid (g3 ≠ g6 ∧ w.heap.size ≤ g6) := Lib.hid (by have := H7.out.2.lt; have := H7.out.1.kept.size; omega)
    have H8 : Hid (MidSt w w8 b a g6 (full m g newFlt (xs.take k)) k (full m g newFlt xs).2 ∧ Blk w8 g3 (ints (full m g newFlt xs).1).toArray 2) :=
      Lib.hid (And.intro (H7.out.1.step a2 a3 a4 a5) (H7.out.2.keep a2 (by simpa using H7.out.2.ne H7.out.1.fa.blk (by decide))))
    clear a1 a2 a3 a4 a5 H7
    go_wp2_with fail
    refine (copy_calls b _ _ H8.out.1.fa).mono ?_
    rintro e w9 ⟨c', f1, rfl, f2, f3⟩
    have H9 : Hid (MidSt w w9 b a g6 (full m g newFlt (xs.take k)) k (full m g newFlt xs).2 ∧ Blk w9 g3 (ints (full m g newFlt xs).1).toArray 2 ∧ IsFil w9 c' (full m g newFlt (xs.take k)).2 ∧ w.heap.size ≤ c' ∧ b < c' ∧ a < c' ∧ g6 ≠ c' ∧ g3 ≠ c') := by
      obtain ⟨h1, h2, h3, h4, h5, h6, h7, h8⟩ := H8.out.1
      have z1 := h1.size
      have z2 := h6.lt
      have z3 := h7.lt
      exact Lib.hid ⟨⟨h1.trans f2, h2, h3, h4, h5.keep f2 (by simp), h6.keep f2 (by simp), h7.keep f2 (by simp), h8⟩, H8.out.2.keep f2 (by simp), f3, by omega, by omega, by omega, (h5.keep f2 (by simp)).ne f3.blk (by decide), (H8.out.2.keep f2 (by simp)).ne f3.blk (by decide)⟩
    clear f1 f2 f3 H8
    go_wp2_with fail
    refine (raise_lit c' _ w9 [5] 1 _ H9.out.2.2.1 rfl (by omega) rfl).mono ?_
    rintro e w10 ⟨_, rfl, g7, a1, rfl, a2, a3, a4⟩
    have H10 : Hid (MidSt w w10 b a g6 (full m g newFlt (xs.take k)) k (full m g newFlt xs).2 ∧ Blk w10 g3 (ints (full m g newFlt xs).1).toArray 2) := by
      obtain ⟨⟨h1, h2, h3, h4, h5, h6, h7, h8⟩, q1, q2, q3, q4, q5, q6, q7⟩ := H9.out
      exact Lib.hid ⟨⟨h1.trans' a2 (by simp) (by simpa using q3), h2, h3, h4, h5.keep a2 (by simpa using q6), h6.keep a2 (by simp; omega), h7.keep a2 (by simp; omega), h8⟩, q1.keep a2 (by simpa using q7)⟩
    clear a1 a2 a3 a4 H9
    go_wp2_with fail
    refine (raise_n b _ A2 (xs.drop k) (n - k) (c - k) w10 H10.out.1.fa (by rw [List.length_drop, HA.out.ln]) (by omega) (by omega) (HC2.out.1 _ _ HA.out.ln (HA.out.reads.keep H10.out.1.kept (by simp))) (fun x h h0 => by
      obtain ⟨x', hx, hb⟩ := HC2.out.2 x h
      rw [hb]
      have := HAf.out x' hx (by omega)
      have := H10.out.1.oa
      omega)).mono ?_
    rintro e w11 ⟨g8, a1, rfl, a2, a3, a4, a5⟩
    have H11 : Hid (MidSt w w11 b a g8 (mapS (stepK raiseF) (full m g newFlt (xs.take k)).2 (xs.drop k)) (n - k) (full m g newFlt xs).2 ∧ Blk w11 g3 (ints (full m g newFlt xs).1).toArray 2 ∧ Blk w11 g6 (ints (full m g newFlt (xs.take k)).1).toArray 2 ∧ (full m g newFlt (xs.take k)).1.length = k) := by
      obtain ⟨⟨h1, h2, h3, h4, h5, h6, h7, h8⟩, q1⟩ := H10.out
      exact Lib.hid ⟨⟨h1.trans' a2 (by simp) (by simpa using h2), h2, h3, h4, a3, a4, h7.keep a2 (by simpa using fun e => h4 e.symm), a5⟩, q1.keep a2 (by simpa using q1.ne h6.blk (by decide)), h5.keep a2 (by simpa using h5.ne h6.blk (by decide)), h8⟩
    clear a1 a2 a3 a4 a5 H10
    go_wp2_with fail
    refine (lower_n b _ _ _ (n - k) (n - k) w11 H11.out.1.fa H11.out.1.ln (by omega) (by omega) (Rd.ofBlk0 H11.out.1.blk) H11.out.1.neA).mono ?_
    rintro e w12 ⟨g9, a1, rfl, a2, a3, a4, a5⟩
    have H12 := Lib.hid (And.intro (H11.out.1.step a2 a3 a4 a5) (And.intro (H11.out.2.1.keep a2 (by simpa using H11.out.2.1.ne H11.out.1.fa.blk (by decide))) (And.intro (H11.out.2.2.1.keep a2 (by simpa using H11.out.2.2.1.ne H11.out.1.fa.blk (by decide))) H11.out.2.2.2)))
    clear a1 a2 a3 a4 a5 H11
    go_wp2_with fail
    refine (comb_n b _ m g _ _ (n - k) (n - k) w12 hm0 hm1 hg0 hg1 H12.out.1.fa H12.out.1.ln (by omega) (by omega) (Rd.ofBlk0 H12.out.1.blk) H12.out.1.neA).mono ?_
    rintro e w13 ⟨g10, a1, rfl, a2, a3, a4, a5⟩
    have H13 : Hid (MidSt w w13 b a g10 (full m g (full m g newFlt (xs.take k)).2 (xs.drop k)) (n - k) (full m g newFlt xs).2 ∧ Blk w13 g3 (ints (full m g newFlt xs).1).toArray 2 ∧ Blk w13 g6 (ints (full m g newFlt (xs.take k)).1).toArray 2 ∧ (full m g newFlt (xs.take k)).1.length = k) :=
      Lib.hid (And.intro (H12.out.1.step a2 a3 a4 a5) (And.intro (H12.out.2.1.keep a2 (by simpa using H12.out.2.1.ne H12.out.1.fa.blk (by decide))) (And.intro (H12.out.2.2.1.keep a2 (by simpa using H12.out.2.2.1.ne H12.out.1.fa.blk (by decide))) H12.out.2.2.2)))
    clear a1 a2 a3 a4 a5 H12
    have hcat : (full m g newFlt xs).1 = (full m g newFlt (xs.take k)).1 ++ (full m g (full m g newFlt (xs.take k)).2 (xs.drop k)).1 ∧ (full m g newFlt xs).2 = (full m g (full m g newFlt (xs.take k)).2 (xs.drop k)).2 := by
      have := full_append m g newFlt (xs.take k) (xs.drop k)
      rw [List.take_append_drop] at this
      rw [this]
      exact ⟨rfl, rfl⟩
    have HCAT := Lib.hid hcat
    clear hcat
    have HM : Hid (Made w13 (.slice (some ⟨g6, 0, none⟩) k k) (full m g newFlt (xs.take k)).1) := by
      have := Made.ofBlk H13.out.2.2.1 (by rw [H13.out.2.2.2]; omega)
      rw [H13.out.2.2.2] at this
      exact Lib.hid this
    have hlq : Hid ((full m g newFlt (xs.take k)).1.length + (n - k) ≤ 1000000000) := Lib.hid (by rw [H13.out.2.2.2]; omega)
    go_wp2_with (at_builtin; refine append_made rfl _ _ rfl _ _ rfl HM.out _ _ _ _ rfl H13.out.1.ln (Rd.ofBlk0 H13.out.1.blk) hlq.out (by simp) ?_)
    intro v' w14 m1 m2 m3
    have H14 : Hid (Keep [] w w14 ∧ Made w14 v' (full m g newFlt xs).1 ∧ Blk w14 g3 (ints (full m g newFlt xs).1).toArray 2 ∧ IsFil w14 b (full m g newFlt xs).2 ∧ IsFil w14 a (full m g newFlt xs).2) := by
      rw [← HCAT.out.1] at m1
      obtain ⟨⟨h1, h2, h3, h4, h5, h6, h7, h8⟩, q1, q2, q3⟩ := H13.out
      rw [← HCAT.out.2] at h6
      have k6 : Keep [g6] w13 w14 := m2
      obtain ⟨z1, z2⟩ := HNE.out
      exact Lib.hid ⟨h1.trans' k6 (by simp) (by simpa using z2), m1, q1.keep k6 (by simpa using z1), h6.keep k6 (by simpa using fun e => q2.ne h6.blk (by decide) e.symm), h7.keep k6 (by simpa using fun e => q2.ne h7.blk (by decide) e.symm)⟩
    clear m1 m2 m3 H13 HM hlq
    go_wp2_with fail
    refine (lsame_rm _ _ _ n n v' w14 true (by rw [full_length, HA.out.ln]) (by omega) (by rw [full_length, HA.out.ln]; omega) (Rd.ofBlk0 H14.out.2.2.1) H14.out.2.1 (by simp)).mono ?_
    rintro e w15 ⟨rfl, k15⟩
    have H15 := Lib.hid (And.intro (H14.out.1.trans k15) (And.intro (H14.out.2.2.2.1.keep k15 (by simp)) (H14.out.2.2.2.2.keep k15 (by simp))))
    clear k15 H14
    go_wp2_with fail
    refine (same_kept a b _ _ w15 true H15.out.2.2 H15.out.2.1 (by simp)).mono ?_
    rintro e w16 ⟨rfl, k16⟩
    have H16 := Lib.hid (H15.out.1.trans k16)
    clear k16 H15
    go_wp2_with fail
    go_ret
    exact ⟨rfl, H16.out⟩
  · go_wp2_with fail
    all_goals first
      | (exfalso; omega)
      | (go_ret; exact ⟨rfl, H0.out⟩)
theorem cuts_row (A : Option Addr) (n c : Nat) (zs : List Int) (cut lag g : Int) (w : World) (h : IsRow .i64 w A n c zs) (_ : n * 8 ≤ 140737488351232) (_ : (Lit.int .i64 cut).wf = true) (_ : (Lit.int .i64 lag).wf = true) (_ : (Lit.int .i64 g).wf = true) :
    Calls Try.prog 6 #[.slice A n c, .int .i64 cut, .int .i64 lag, .int .i64 g] w fun e w' => e = .returned (.bool true) ∧ Below w.heap.size w w' :=
  (cuts_walk A n c _ cut lag g w h.arg).mono fun _ _ ⟨he, k⟩ => ⟨he, k.toBelow⟩
end Go.Proofs.Ytddlkglpgkdgkaa
