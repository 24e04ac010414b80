/- The walk of EmphKnown: it answers true, and leaves the memory that was there as it was. -/
import Derived.Test.YtddlkglpgkdgkaaE5
namespace Go.Proofs.Ytddlkglpgkdgkaa
open Go.RowKit

theorem bad_lit (bf : Nat) (lag g : Int) (s : Flt) (w : World) (cs : Array Value) (n : Nat) (hf : IsFil w bf s) (h : lag < 1 ∨ 512 < lag ∨ g < 0 ∨ 24576 < g) :
    Calls Try.prog 11 #[.pointer (some ⟨bf, 0, none⟩), .slice (some ⟨w.heap.size, 0, none⟩) n n, .int .i64 lag, .int .i64 g] (w.alloc (.cells cs 2))
      fun e w' => e = .returned (.tuple #[.slice none 0 0, .int .i64 1]) ∧ Keep [] w w' ∧ IsFil w' bf s :=
  (comb_bad bf lag g _ n n _ h).mono fun _ _ ⟨he, k⟩ => ⟨he, (Keep.alloc [] w _).trans k, hf.keep ((Keep.alloc [] w _).trans k) (by simp)⟩

/-- Steps that are written out at the call. -/
theorem steps_lit {σ : Type} (S : List Nat) (l : List (Stp σ)) (w : World) (hS : ∀ b ∈ S, b < w.heap.size) :
    ∀ i p, l[i]? = some p → ∃ b, some (⟨w.heap.size, 0, none⟩ : Addr) = some b ∧ b.block ∉ S ∧ (w.alloc (.cells (l.map Stp.val).toArray 30)).cell? (b.add i) = some p.val := fun i p hp => by
  refine ⟨_, rfl, fun hm => by have := hS _ hm; simp at this, ?_⟩
  rw [add_plain, (Blk.new w _ _).cell i]
  simp [hp]
/-! ### a chain through two filters -/
def raiseP1 (b : Nat) : Stp (Flt × Flt) := ⟨13, .pointer (some ⟨b, 0, none⟩), fun s xs => ((mapS (stepK raiseF) s.1 xs).1, ((mapS (stepK raiseF) s.1 xs).2, s.2))⟩
def lowerP2 (b : Nat) : Stp (Flt × Flt) := ⟨14, .pointer (some ⟨b, 0, none⟩), fun s xs => ((mapS (stepK lowerF) s.2 xs).1, (s.1, (mapS (stepK lowerF) s.2 xs).2))⟩
def Two (b c : Nat) (s : Flt × Flt) (w : World) : Prop := b ≠ c ∧ IsFil w b s.1 ∧ IsFil w c s.2
theorem raise_good1 (b c : Nat) : (raiseP1 b).Good [b, c] (Two b c) where
  call := fun args w => by unfold raiseP1; kernel_rfl
  len := fun s xs => by simp only [raiseP1]; exact mapS_length _ _ _
  step := fun s A xs n cc w hf hn hnc hn' hr hA => (raise_calls b s.1 A xs n cc w hf.2.1 hn hnc hn' hr (fun a ha h0 => by have := hA a ha h0; simp at this; exact this.1)).mono fun e w' ⟨v, he, g, h1, hv, h2, h3, h4⟩ => by
    rw [mapS_length, hn] at hv
    exact ⟨g, h1, by rw [he, hv], h2.mono (by simp), h3, hf.1, h4, hf.2.2.keep h2 (by simpa using fun e => hf.1 e.symm)⟩
theorem lower_good2 (b c : Nat) : (lowerP2 c).Good [b, c] (Two b c) where
  call := fun args w => by unfold lowerP2; kernel_rfl
  len := fun s xs => by simp only [lowerP2]; exact mapS_length _ _ _
  step := fun s A xs n cc w hf hn hnc hn' hr hA => (lower_calls c s.2 A xs n cc w hf.2.2 hn hnc hn' hr (fun a ha h0 => by have := hA a ha h0; simp at this; exact this.2)).mono fun e w' ⟨v, he, g, h1, hv, h2, h3, h4⟩ => by
    rw [mapS_length, hn] at hv
    exact ⟨g, h1, by rw [he, hv], h2.mono (by simp), h3, hf.1, hf.2.1.keep h2 (by simpa using hf.1), h4⟩
theorem known_chain (b c : Nat) : (chainL [raiseP1 b, lowerP2 c] (newFlt, newFlt) [100, 100]).1 = [100, 100] := by
  have e1 : keptI (keptI 100 + mulS 27853 0 15) = 100 := by decide +kernel
  have e2 : keptI (keptI 15 + mulS 27853 100 15) = 100 := by decide +kernel
  simp only [chainL, List.foldl_cons, List.foldl_nil, raiseP1, lowerP2, aw_raise]
  simp only [mapS, stepK, lowerF, newFlt, e1, e2]

set_option maxRecDepth 100000 in
set_option maxHeartbeats 2000000 in
theorem known_walk (w : World) : Calls Try.prog 3 #[] w (RetKept w (.bool true)) := by
  go_enter Try.func3, Try.ntmps3
  go_wp2_with fail
  refine (awake_calls _).mono ?_
  rintro e w0 ⟨rfl, k⟩
  have H0 := Lib.hid k
  clear k
  go_wp2_with fail
  refine (new_calls _).mono ?_
  rintro e w1 ⟨f, f1, rfl, f2, f3⟩
  have H1 : Hid (w.heap.size ≤ f ∧ Keep [] w w1 ∧ IsFil w1 f newFlt) := Lib.hid ⟨by have := H0.out.size; omega, H0.out.trans f2, f3⟩
  clear f1 f2 f3 H0
  go_wp2_with fail
  refine (bad_lit f 0 5 newFlt w1 _ 1 H1.out.2.2 (by omega)).mono ?_
  rintro e w2 ⟨rfl, k, h⟩
  have H2 := Lib.hid (And.intro H1.out.1 (And.intro (H1.out.2.1.trans k) h))
  clear k h H1
  go_wp2_with fail
  refine (bad_lit f 513 5 newFlt w2 _ 1 H2.out.2.2 (by omega)).mono ?_
  rintro e w3 ⟨rfl, k, h⟩
  have H3 := Lib.hid (And.intro H2.out.1 (And.intro (H2.out.2.1.trans k) h))
  clear k h H2
  go_wp2_with fail
  refine (bad_lit f 1 24577 newFlt w3 _ 1 H3.out.2.2 (by omega)).mono ?_
  rintro e w4 ⟨rfl, k, h⟩
  have H4 := Lib.hid (And.intro H3.out.1 (And.intro (H3.out.2.1.trans k) h))
  clear k h H3
  go_wp2_with fail
  refine (new_calls _).mono ?_
  rintro e w5 ⟨b, f1, rfl, f2, f3⟩
  have H5 := Lib.hid (And.intro f1 (And.intro f2 f3))
  clear f1 f2 f3
  go_wp2_with fail
  refine (new_calls _).mono ?_
  rintro e w6 ⟨c, f1, rfl, f2, f3⟩
  have H6 := Lib.hid (And.intro f1 (And.intro f2 f3))
  clear f1 f2 f3
  go_wp2_with fail
  have H7 : Hid (Rd (w6.alloc (.cells ([raiseP1 b, lowerP2 c].map Stp.val).toArray 30)) (some ⟨w4.heap.size, 0, none⟩) [100, 100] ∧ Two b c (newFlt, newFlt) (w6.alloc (.cells ([raiseP1 b, lowerP2 c].map Stp.val).toArray 30)) ∧
      w4.heap.size < b ∧ w4.heap.size < c ∧ b < w6.heap.size ∧ c < w6.heap.size ∧ Keep [] w4 (w6.alloc (.cells ([raiseP1 b, lowerP2 c].map Stp.val).toArray 30))) := by
    obtain ⟨p1, p2, p3⟩ := H5.out
    obtain ⟨q1, q2, q3⟩ := H6.out
    have z1 := p2.size
    have z2 := q2.size
    have z3 := p3.lt
    have z4 := q3.lt
    simp only [World.size_alloc] at p1 z1
    have k := Keep.alloc [] w6 (.cells ([raiseP1 b, lowerP2 c].map Stp.val).toArray 30)
    have hr := rd_lit w4 [100, 100]
    exact Lib.hid ⟨((hr.keep p2 (by simp)).keep q2 (by simp)).keep k (by simp), ⟨by omega, (p3.keep q2 (by simp)).keep k (by simp), q3.keep k (by simp)⟩, by omega, by omega, by omega, by omega,
      (((Keep.alloc [] w4 _).trans p2).trans q2).trans k⟩
  clear H5 H6
  refine (chain_calls [b, c] (Two b c) [raiseP1 b, lowerP2 c] (newFlt, newFlt) (w6.alloc (.cells ([raiseP1 b, lowerP2 c].map Stp.val).toArray 30)) (by simp [raise_good1, lower_good2]) (by have := H7.out.2.2.2.2; simp; omega)
    (fun s w w' h k => ⟨h.1, h.2.1.keep k (by simp), h.2.2.keep k (by simp)⟩) H7.out.2.1 _ [100, 100] 2 2 rfl (by omega) (by omega) H7.out.1 (by simp) (some ⟨w6.heap.size, 0, none⟩) 2 2 rfl (by omega)
    (steps_lit [b, c] _ w6 (by have := H7.out.2.2.2.2; simp; omega))).mono ?_
  rintro e w7 ⟨v, rfl, m1, m2, m3, m4⟩
  rw [known_chain] at m1
  have H8 : Hid (Keep [] w w7 ∧ IsFil w7 f newFlt ∧ Made w7 v [100, 100]) := by
    obtain ⟨h1, h2, h3⟩ := H4.out
    obtain ⟨a1, a2, a3, a4, a5, a6, a7⟩ := H7.out
    have z := h3.lt
    have zz := h2.size
    exact Lib.hid ⟨(h2.trans a7).trans' m2 (by simp) (by simp; omega), (h3.keep a7 (by simp)).keep m2 (by simp; omega), m1⟩
  clear m1 m2 m3 m4 H7 H4
  go_wp2_with fail
  refine (new_calls _).mono ?_
  rintro e w8 ⟨f', f1, rfl, f2, f3⟩
  have H9 : Hid (Keep [] w w8 ∧ IsFil w8 f newFlt ∧ Made w8 v [100, 100] ∧ IsFil w8 f' newFlt) := Lib.hid ⟨H8.out.1.trans f2, H8.out.2.1.keep f2 (by simp), H8.out.2.2.keep f2 (by simp), f3⟩
  clear f1 f2 f3 H8
  go_wp2_with fail
  refine (same_kept f f' newFlt newFlt _ true H9.out.2.1 H9.out.2.2.2 (by simp)).mono ?_
  rintro e w9 ⟨rfl, k⟩
  have H10 : Hid (Keep [] w w9 ∧ Made w9 v [100, 100]) := Lib.hid ⟨H9.out.1.trans k, H9.out.2.2.1.keep k (by simp)⟩
  clear k H9
  go_wp2_with fail
  refine (lsame_made v [100, 100] [100, 100] 2 2 2 w9 _ true H10.out.2 rfl (by omega) rfl (by omega) rfl (by decide)).mono ?_
  rintro e w10 ⟨rfl, k⟩
  have H11 := Lib.hid (H10.out.1.trans k)
  clear k H10
  go_wp2_with fail
  go_ret
  exact ⟨rfl, H11.out⟩

theorem known_row (w : World) : Calls Try.prog 3 #[] w fun e w' => e = .returned (.bool true) ∧ Below w.heap.size w w' :=
  (known_walk w).mono fun _ _ ⟨he, k⟩ => ⟨he, k.toBelow⟩
end Go.Proofs.Ytddlkglpgkdgkaa
