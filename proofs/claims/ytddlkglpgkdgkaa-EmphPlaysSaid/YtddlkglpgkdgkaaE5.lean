/- 'awake': the few samples that every statement of emph asks first. It answers true. -/
import Derived.Test.YtddlkglpgkdgkaaE4
namespace Go.Proofs.Ytddlkglpgkdgkaa
open Go.RowKit

/-! ### calls on a list that is written out at the call -/
theorem rd_lit (w : World) (xs : List Int) : Rd (w.alloc (.cells (ints xs).toArray 2)) (some ⟨w.heap.size, 0, none⟩) xs := Rd.ofBlk0 (Blk.new w _ _)
theorem RetFlt.of_alloc {bf : Nat} {w : World} {o : Obj} {r : List Int × Flt} {v : Value} {w' : World} (h : MadeBy bf (w.alloc o) r v w') : MadeBy bf w r v w' := by
  obtain ⟨g, h1, h2, h3, h4⟩ := h
  exact ⟨g, by simp at h1; omega, h2, (Keep.alloc _ _ _).trans h3, h4⟩
theorem raise_lit (bf : Nat) (s : Flt) (w : World) (xs : List Int) (n : Nat) (cs : Array Value) (hf : IsFil w bf s) (hn : xs.length = n) (hn' : n ≤ 4096) (hcs : (ints xs).toArray = cs) :
    Calls Try.prog 13 #[.pointer (some ⟨bf, 0, none⟩), .slice (some ⟨w.heap.size, 0, none⟩) n n] (w.alloc (.cells cs 2)) (RetFlt bf w (mapS (stepK raiseF) s xs)) := by
  subst hcs
  have := hf.lt
  exact (raise_calls bf s _ xs n n _ (hf.keep (Keep.alloc [] w _) (by simp)) hn (Nat.le_refl _) hn' (rd_lit w xs) (by rintro a ⟨⟩ _; simp; omega)).mono fun e w' ⟨v, he, h⟩ => ⟨v, he, RetFlt.of_alloc h⟩
theorem lower_lit (bf : Nat) (s : Flt) (w : World) (xs : List Int) (n : Nat) (cs : Array Value) (hf : IsFil w bf s) (hn : xs.length = n) (hn' : n ≤ 4096) (hcs : (ints xs).toArray = cs) :
    Calls Try.prog 14 #[.pointer (some ⟨bf, 0, none⟩), .slice (some ⟨w.heap.size, 0, none⟩) n n] (w.alloc (.cells cs 2)) (RetFlt bf w (mapS (stepK lowerF) s xs)) := by
  subst hcs
  have := hf.lt
  exact (lower_calls bf s _ xs n n _ (hf.keep (Keep.alloc [] w _) (by simp)) hn (Nat.le_refl _) hn' (rd_lit w xs) (by rintro a ⟨⟩ _; simp; omega)).mono fun e w' ⟨v, he, h⟩ => ⟨v, he, RetFlt.of_alloc h⟩
theorem comb_lit (bf : Nat) (s : Flt) (lag : Nat) (g : Int) (w : World) (xs : List Int) (n : Nat) (cs : Array Value) (hl0 : 1 ≤ lag) (hl1 : lag ≤ 512) (hg0 : 0 ≤ g) (hg1 : g ≤ 24576) (hf : IsFil w bf s) (hn : xs.length = n) (hn' : n ≤ 4096) (hcs : (ints xs).toArray = cs) :
    Calls Try.prog 11 #[.pointer (some ⟨bf, 0, none⟩), .slice (some ⟨w.heap.size, 0, none⟩) n n, .int .i64 lag, .int .i64 g] (w.alloc (.cells cs 2)) (RetComb bf w (mapS (stepK (combF lag g)) s xs)) := by
  subst hcs
  have := hf.lt
  exact (comb_calls bf s lag g _ xs n n _ hl0 hl1 hg0 hg1 (hf.keep (Keep.alloc [] w _) (by simp)) hn (Nat.le_refl _) hn' (rd_lit w xs) (by rintro a ⟨⟩ _; simp; omega)).mono fun e w' ⟨v, he, h⟩ => ⟨v, he, RetFlt.of_alloc h⟩
def RetKept (w : World) (v : Value) (e : Ending) (w' : World) : Prop := e = .returned v ∧ Keep [] w w'
theorem lsame_lit (A : Option Addr) (xs ys : List Int) (n m c d : Nat) (w : World) (cs : Array Value) (b : Bool) (hx : xs.length = n) (hn : n ≤ 1000000) (ha : Rd w A xs) (hm : ys.length = m) (hm' : m ≤ 1000000) (hcs : (ints ys).toArray = cs) (hb : decide (xs = ys) = b) :
    Calls Try.prog 16 #[.slice A n c, .slice (some ⟨w.heap.size, 0, none⟩) m d] (w.alloc (.cells cs 2)) (RetKept w (.bool b)) := by
  subst hcs
  subst hb
  exact (lsame_calls A _ xs ys n m c d _ hx hm hn hm' (ha.keep (Keep.alloc [] w _) (by simp)) (rd_lit w ys)).mono fun e w' ⟨he, q, hq⟩ => ⟨he, by rw [hq]; exact (Keep.alloc [] w _).trans (Keep.drewN _ _ _)⟩
theorem same_kept (bf bg : Nat) (s s' : Flt) (w : World) (b : Bool) (hf : IsFil w bf s) (hg : IsFil w bg s') (hb : decide (s = s') = b) :
    Calls Try.prog 15 #[.pointer (some ⟨bf, 0, none⟩), .pointer (some ⟨bg, 0, none⟩)] w (RetKept w (.bool b)) := by
  subst hb
  exact (same_calls bf bg s s' w hf hg).mono fun e w' ⟨he, q, hq⟩ => ⟨he, by rw [hq]; exact Keep.drewN _ _ _⟩
theorem chain_lit (w : World) (xs : List Int) (n : Nat) (cs : Array Value) (hn : xs.length = n) (hn' : n ≤ 4096) (hcs : (ints xs).toArray = cs) :
    Calls Try.prog 12 #[.slice (some ⟨w.heap.size, 0, none⟩) n n, .slice none 0 0] (w.alloc (.cells cs 2)) (RetMade w xs) := by
  subst hcs
  refine (chain_calls (σ := Unit) [] (fun _ _ => True) [] () _ (by simp) (by simp) (fun _ _ _ _ _ => trivial) trivial _ xs n n hn (Nat.le_refl _) hn' (rd_lit w xs) (by simp) none 0 0 rfl (by omega) (by simp)).mono ?_
  rintro e w' ⟨v, he, h1, h2, h3, _⟩
  exact ⟨v, he, h1, (Keep.alloc [] w _).trans h2, fun g hg => by have := h3 g hg; simp at this; omega⟩
theorem lsame_made (v : Value) (xs ys : List Int) (n m d : Nat) (w : World) (cs : Array Value) (b : Bool) (hm : Made w v xs) (hx : xs.length = n) (hn : n ≤ 1000000) (hm1 : ys.length = m) (hm' : m ≤ 1000000) (hcs : (ints ys).toArray = cs) (hb : decide (xs = ys) = b) :
    Calls Try.prog 16 #[v, .slice (some ⟨w.heap.size, 0, none⟩) m d] (w.alloc (.cells cs 2)) (RetKept w (.bool b)) := by
  obtain ⟨A, c, rfl, _, hr, _⟩ := hm.reads
  rw [hx]
  exact lsame_lit A xs ys n m c d w cs b hx hn hr hm1 hm' hcs hb

theorem lsame_rr (A B : Option Addr) (xs ys : List Int) (n m c d : Nat) (w : World) (b : Bool) (hx : xs.length = n) (hy : ys.length = m) (hn : n ≤ 1000000) (hm : m ≤ 1000000) (ha : Rd w A xs) (hb : Rd w B ys) (he : decide (xs = ys) = b) :
    Calls Try.prog 16 #[.slice A n c, .slice B m d] w (RetKept w (.bool b)) := by
  subst he
  exact (lsame_calls A B xs ys n m c d w hx hy hn hm ha hb).mono fun e w' ⟨he, q, hq⟩ => ⟨he, by rw [hq]; exact Keep.drewN _ _ _⟩
theorem lsame_rm (A : Option Addr) (xs ys : List Int) (n c : Nat) (v : Value) (w : World) (b : Bool) (hx : xs.length = n) (hn : n ≤ 1000000) (hm : ys.length ≤ 1000000) (ha : Rd w A xs) (hb : Made w v ys) (he : decide (xs = ys) = b) :
    Calls Try.prog 16 #[.slice A n c, v] w (RetKept w (.bool b)) := by
  obtain ⟨B, d, rfl, _, hr, _⟩ := hb.reads
  exact lsame_rr A B xs ys n ys.length c d w b hx rfl hn hm ha hr he
theorem lsame_mr (B : Option Addr) (xs ys : List Int) (m d : Nat) (v : Value) (w : World) (b : Bool) (hy : ys.length = m) (hm : m ≤ 1000000) (hn : xs.length ≤ 1000000) (ha : Made w v xs) (hb : Rd w B ys) (he : decide (xs = ys) = b) :
    Calls Try.prog 16 #[v, .slice B m d] w (RetKept w (.bool b)) := by
  obtain ⟨A, c, rfl, _, hr, _⟩ := ha.reads
  exact lsame_rr A B xs ys xs.length m c d w b rfl hy hn hm hr hb he

/-- What awake holds when it comes to its answer. -/
structure AwakeSt (w W : World) (a b c f g : Nat) (s : Flt) : Prop where
  kept : Keep [] w W
  la : Blk W a (ints [100, 15]).toArray 2
  lb : Blk W b (ints [100, 85]).toArray 2
  lc : Blk W c (ints [100, 50]).toArray 2
  ff : IsFil W f newFlt
  fg : IsFil W g s
theorem AwakeSt.keep {w W W' : World} {a b c f g : Nat} {s : Flt} (h : AwakeSt w W a b c f g s) (k : Keep [] W W') : AwakeSt w W' a b c f g s :=
  ⟨h.kept.trans k, h.la.keep k (by simp), h.lb.keep k (by simp), h.lc.keep k (by simp), h.ff.keep k (by simp), h.fg.keep k (by simp)⟩
def upFlt : Flt := ⟨100, 0, zeros⟩
theorem aw_raise : mapS (stepK raiseF) newFlt [100, 100] = ([100, 15], upFlt) := by
  have e1 : keptI (100 - mulS 27853 0 15) = 100 := by decide +kernel
  have e2 : keptI (100 - mulS 27853 100 15) = 15 := by decide +kernel
  have e3 : keptI 100 = 100 := by decide +kernel
  simp only [mapS, stepK, raiseF, newFlt, upFlt, e1, e2, e3]
theorem aw_lower : (mapS (stepK lowerF) newFlt [100, 0]).1 = [100, 85] := by
  have e1 : keptI (keptI 100 + mulS 27853 0 15) = 100 := by decide +kernel
  have e2 : keptI (keptI 0 + mulS 27853 100 15) = 85 := by decide +kernel
  simp only [mapS, stepK, lowerF, newFlt, e1, e2]
theorem aw_comb : (mapS (stepK (combF 1 16384)) newFlt [100, 0]).1 = [100, 50] := by
  have e0 : zeros.getD 0 0 = 0 := by decide +kernel
  have e1 : keptI (keptI 100 + mulS 16384 0 15) = 100 := by decide +kernel
  have e2 : keptI (keptI 0 + mulS 16384 100 15) = 50 := by decide +kernel
  simp only [mapS, stepK, combF, newFlt, Nat.sub_self, e0, e1, List.getD_cons_zero, e2]
theorem aw_ne : decide (upFlt = newFlt) = false := by
  rw [decide_eq_false_iff_not]
  intro h
  have := congrArg Flt.up h
  simp [upFlt, newFlt] at this

set_option maxRecDepth 100000 in
set_option maxHeartbeats 2000000 in
theorem awake_calls (w : World) : Calls Try.prog 9 #[] w (RetKept w (.bool true)) := by
  go_enter Try.func9, Try.ntmps9
  go_wp2_with fail
  refine (new_calls _).mono ?_
  rintro e w1 ⟨f, f1, rfl, f2, f3⟩
  have H1 := Lib.hid (And.intro f1 (And.intro f2 f3))
  clear f1 f2 f3
  go_wp2_with fail
  refine (raise_lit f newFlt w1 [100, 100] 2 _ H1.out.2.2 rfl (by omega) rfl).mono ?_
  rintro e w2 ⟨_, rfl, a, a1, rfl, a2, a3, a4⟩
  rw [aw_raise] at *
  have H2 := Lib.hid (And.intro a1 (And.intro a2 (And.intro a3 a4)))
  clear a1 a2 a3 a4
  go_wp2_with fail
  refine (new_calls _).mono ?_
  rintro e w3 ⟨f', f1, rfl, f2, f3⟩
  have H3 := Lib.hid (And.intro f1 (And.intro f2 f3))
  clear f1 f2 f3
  go_wp2_with fail
  refine (lower_lit f' newFlt w3 [100, 0] 2 _ H3.out.2.2 rfl (by omega) rfl).mono ?_
  rintro e w4 ⟨_, rfl, b, a1, rfl, a2, a3, a4⟩
  rw [aw_lower] at *
  have H4 := Lib.hid (And.intro a1 (And.intro a2 a3))
  clear a1 a2 a3 a4
  go_wp2_with fail
  refine (new_calls _).mono ?_
  rintro e w5 ⟨f'', f1, rfl, f2, f3⟩
  have H5 := Lib.hid (And.intro f1 (And.intro f2 f3))
  clear f1 f2 f3
  go_wp2_with fail
  refine (comb_lit f'' newFlt 1 16384 w5 [100, 0] 2 _ (by omega) (by omega) (by omega) (by omega) H5.out.2.2 rfl (by omega) rfl).mono ?_
  rintro e w6 ⟨_, rfl, c, a1, rfl, a2, a3, a4⟩
  rw [aw_comb] at *
  have H6 := Lib.hid (And.intro a1 (And.intro a2 a3))
  clear a1 a2 a3 a4
  have H : Hid (Keep [] w w6 ∧ Blk w6 a (ints [100, 15]).toArray 2 ∧ Blk w6 b (ints [100, 85]).toArray 2 ∧ Blk w6 c (ints [100, 50]).toArray 2 ∧ IsFil w6 f upFlt ∧ w.heap.size ≤ f) := by
    obtain ⟨p1, p2, p3⟩ := H1.out
    obtain ⟨q1, q2, q3, q4⟩ := H2.out
    obtain ⟨r1, r2, r3⟩ := H3.out
    obtain ⟨s1, s2, s3⟩ := H4.out
    obtain ⟨t1, t2, t3⟩ := H5.out
    obtain ⟨u1, u2, u3⟩ := H6.out
    have z1 := p2.size
    have z2 := q2.size
    have z3 := r2.size
    have z4 := s2.size
    have z5 := t2.size
    have z6 := q3.lt
    have z7 := s3.lt
    have z8 := q4.lt
    have k2 : Keep [] w w2 := p2.trans' q2 (by simp) (by simp; omega)
    have k4 : Keep [] w2 w4 := r2.trans' s2 (by simp) (by simp; omega)
    have k6 : Keep [] w4 w6 := t2.trans' u2 (by simp) (by simp; omega)
    exact Lib.hid ⟨(k2.trans k4).trans k6, (q3.keep k4 (by simp)).keep k6 (by simp), s3.keep k6 (by simp), u3, (q4.keep k4 (by simp)).keep k6 (by simp), p1⟩
  clear H1 H2 H3 H4 H5 H6
  go_wp2_with fail
  refine (copy_calls f upFlt _ H.out.2.2.2.2.1).mono ?_
  rintro e w7 ⟨g, f1, rfl, f2, f3⟩
  have H7 := Lib.hid (And.intro f1 (And.intro f2 f3))
  clear f1 f2 f3
  go_wp2_with fail
  refine (reset_calls f upFlt _ (H.out.2.2.2.2.1.keep H7.out.2.1 (by simp))).mono ?_
  rintro e w8 ⟨rfl, f2, f3⟩
  have H8 : Hid (AwakeSt w w8 a b c f g upFlt) := by
    obtain ⟨h1, h2, h3, h4, h5, h6⟩ := H.out
    obtain ⟨g1, g2, g3⟩ := H7.out
    have z1 := h5.lt
    have z2 := g2.size
    have k : Keep [f] w6 w8 := (g2.of0 _).trans f2
    have na : a ≠ f := h2.ne h5.blk (by decide)
    have nb : b ≠ f := h3.ne h5.blk (by decide)
    have nc : c ≠ f := h4.ne h5.blk (by decide)
    exact Lib.hid ⟨h1.trans' k (by simp) (by simpa using h6), h2.keep k (by simpa using na), h3.keep k (by simpa using nb), h4.keep k (by simpa using nc), f3, g3.keep f2 (by simp; omega)⟩
  clear H H7 f2 f3
  go_wp2_with fail
  refine (lsame_lit _ [100, 15] [100, 15] 2 2 2 2 w8 _ true rfl (by omega) (Rd.ofBlk0 H8.out.la) rfl (by omega) rfl (by decide)).mono ?_
  rintro e w9 ⟨rfl, k⟩
  have H9 := Lib.hid (H8.out.keep k)
  clear k H8
  go_wp2_with fail
  refine (lsame_lit _ [100, 85] [100, 85] 2 2 2 2 w9 _ true rfl (by omega) (Rd.ofBlk0 H9.out.lb) rfl (by omega) rfl (by decide)).mono ?_
  rintro e w10 ⟨rfl, k⟩
  have H10 := Lib.hid (H9.out.keep k)
  clear k H9
  go_wp2_with fail
  refine (lsame_lit _ [100, 50] [100, 50] 2 2 2 2 w10 _ true rfl (by omega) (Rd.ofBlk0 H10.out.lc) rfl (by omega) rfl (by decide)).mono ?_
  rintro e w11 ⟨rfl, k⟩
  have H11 := Lib.hid (H10.out.keep k)
  clear k H10
  go_wp2_with fail
  refine (new_calls _).mono ?_
  rintro e w12 ⟨f', f1, rfl, f2, f3⟩
  have H12 := Lib.hid (And.intro (H11.out.keep f2) f3)
  clear f1 f2 f3 H11
  go_wp2_with fail
  refine (same_kept f f' newFlt newFlt _ true H12.out.1.ff H12.out.2 (by simp)).mono ?_
  rintro e w13 ⟨rfl, k⟩
  have H13 := Lib.hid (H12.out.1.keep k)
  clear k H12
  go_wp2_with fail
  refine (same_kept g f upFlt newFlt _ false H13.out.fg H13.out.ff aw_ne).mono ?_
  rintro e w14 ⟨rfl, k⟩
  have H14 := Lib.hid (H13.out.keep k)
  clear k H13
  go_wp2_with fail
  refine (chain_lit w14 [5] 1 _ rfl (by omega) rfl).mono ?_
  rintro e w15 ⟨v, rfl, m1, m2, m3⟩
  have H15 := Lib.hid (And.intro (H14.out.keep m2) m1)
  clear m1 m2 m3 H14
  go_wp2_with fail
  refine (lsame_made v [5] [5] 1 1 1 w15 _ true H15.out.2 rfl (by omega) rfl (by omega) rfl (by decide)).mono ?_
  rintro e w16 ⟨rfl, k⟩
  have H16 := Lib.hid (H15.out.1.keep k)
  clear k H15
  go_wp2_with fail
  go_ret
  exact ⟨rfl, H16.out.kept⟩
end Go.Proofs.Ytddlkglpgkdgkaa
