/- The reference's filter: Raise, Lower, Comb. -/
import Derived.Test.YtddlkglpgkdgkaaE11
namespace Go.Proofs.Ytddlkglpgkdgkaa
open Go.RowKit

/-- The reference's filter in memory: two numbers and a list. -/
def RFil (w : World) (b : Nat) (u l : Int) (cv : Value) : Prop := Blk w b #[.int .i64 u, .int .i64 l, cv] 36
theorem rfil_0 (u l : Int) (cv : Value) : (#[Value.int .i64 u, .int .i64 l, cv])[0]? = some (.int .i64 u) := rfl
theorem rfil_1 (u l : Int) (cv : Value) : (#[Value.int .i64 u, .int .i64 l, cv])[1]? = some (.int .i64 l) := rfl
theorem rfil_2 (u l : Int) (cv : Value) : (#[Value.int .i64 u, .int .i64 l, cv])[2]? = some cv := rfl
theorem RFil.set0 {w : World} {b : Nat} {u l : Int} {cv : Value} (h : RFil w b u l cv) (x : Int) : RFil (w.setCell ⟨b, 0, none⟩ (.int .i64 x)) b x l cv := Blk.set h 0 _
theorem RFil.set1 {w : World} {b : Nat} {u l : Int} {cv : Value} (h : RFil w b u l cv) (x : Int) : RFil (w.setCell ⟨b, 1, none⟩ (.int .i64 x)) b u x cv := Blk.set h 1 _
theorem RFil.set2 {w : World} {b : Nat} {u l : Int} {cv : Value} (h : RFil w b u l cv) (x : Value) : RFil (w.setCell ⟨b, 2, none⟩ x) b u l x := Blk.set h 2 _
theorem RFil.keep {w w' : World} {b : Nat} {u l : Int} {cv : Value} {L : List Nat} (h : RFil w b u l cv) (k : Keep L w w') (hl : b ∉ L) : RFil w' b u l cv := Blk.keep h k hl
theorem Made.ne_rfil {w : World} {v : Value} {xs : List Int} {b : Nat} {u l : Int} {cv : Value} (h : Made w v xs) (hf : RFil w b u l cv) : ∀ g, v.ownBlock = some g → g ≠ b := fun g hg => by
  obtain ⟨cs, hb⟩ := h.typ g hg
  exact hb.ne hf (by decide)
theorem Made.nil (w : World) : Made w (.slice none 0 0) [] := World.ownsRow_nil w 0 _ 1

/-- In the midst of Raise or Lower: k samples are answered. -/
structure RSt (w wr : World) (b : Nat) (u l : Int) (cv ov : Value) (ys : List Int) : Prop where
  kept : Keep [b] w wr
  fil : RFil wr b u l cv
  out : Made wr ov ys
  fresh : ∀ g, ov.ownBlock = some g → w.heap.size ≤ g
/-- One more answer is appended: the element lies in a block of its own first. -/
theorem RSt.app {w wr w1 w2 : World} {b : Nat} {u l : Int} {cv ov v' : Value} {ys : List Int} {y : Int} (h : RSt w wr b u l cv ov ys) (k0 : Keep [] wr w1) (h1 : Made w2 v' (ys ++ [y])) (h2 : Keep ov.ownBlock.toList w1 w2) (h3 : v'.ownBlock = ov.ownBlock ∨ v'.ownBlock = some w1.heap.size)
    (_hb : b < w.heap.size) : RSt w w2 b u l cv v' (ys ++ [y]) := by
  have m1 := h.out.keep k0 (by simp)
  have f1 := h.fil.keep k0 (by simp)
  refine ⟨(h.kept.trans (k0.of0 _)).trans' h2 (by simp) (fun g hg => by simp only [Option.mem_toList] at hg; exact .inr (h.fresh g hg)), f1.keep h2 (fun hg => by simp only [Option.mem_toList] at hg; exact m1.ne_rfil f1 b hg rfl), h1, ?_⟩
  intro g hg
  rcases h3 with h3 | h3
  · exact h.fresh g (by rw [← h3]; exact hg)
  · rw [hg] at h3
    simp only [Option.some.injEq] at h3
    have := h.kept.size
    have := k0.size
    omega
def RetR (b : Nat) (w : World) (ys : List Int) (u l : Int) (cv : Value) (e : Ending) (w' : World) : Prop := ∃ v, e = .returned v ∧ RSt w w' b u l cv v ys

set_option maxRecDepth 100000 in
set_option maxHeartbeats 2000000 in
theorem rraise_calls (b : Nat) (u l : Int) (cv : Value) (A : Option Addr) (xs : List Int) (n c : Nat) (w : World) (hf : RFil w b u l cv) (hn : xs.length = n) (_hnc : n ≤ c) (hn' : n ≤ 4096) (hr : Rd w A xs) (hA : ∀ a, A = some a → 0 < n → a.block ≠ b) :
    Calls Try.prog 17 #[.pointer (some ⟨b, 0, none⟩), .slice A n c] w (RetR b w (mapS rO u xs).1 (mapS rO u xs).2 l cv) := by
  have HF := Lib.hid hf
  have HB := Lib.hid hf.lt
  have HN := Lib.hid hn
  have HR := Lib.hid hr
  have HA := Lib.hid hA
  clear hf hn hr hA
  go_enter Try.func17, Try.ntmps17
  go_wp2_with fail
  go_loopw [5, 6] (fun ov i wr => ∃ k : Nat, k ≤ n ∧ i = .int .i64 k ∧ RSt w wr b (mapS rO u (xs.take k)).2 l cv ov (mapS rO u (xs.take k)).1) (fun _ i _ => n - (intOf i).toNat)
  case atStart => exact ⟨0, Nat.zero_le _, rfl, Keep.refl _ _, HF.out, Made.nil _, fun g hg => by cases hg⟩
  case round =>
    obtain ⟨k, hk, rfl, HS⟩ := hrel
    have HS := Lib.hid HS
    by_cases hlt : k < n
    · have hlt2 : k < 4096 := by omega
      obtain ⟨a, rfl, hca⟩ := HR.out k (by rw [HN.out]; exact hlt)
      have hcw := fun (_ : k < n) => HS.out.kept.cell hca (by rw [add_block]; simpa using HA.out a rfl (by omega))
      obtain ⟨q, hq⟩ : ∃ q, q = xs.getD k 0 := ⟨_, rfl⟩
      rw [← hq] at hcw
      have HT : Hid (mapS rO u (xs.take (k + 1)) = ((mapS rO u (xs.take k)).1 ++ [keptI (keptI q - mulS 27853 (mapS rO u (xs.take k)).2 15)], keptI q)) := by
        have := mapS_take rO u xs k (by rw [HN.out]; exact hlt)
        rw [← hq] at this
        exact Lib.hid this
      clear hq hca
      have HL : Hid ((mapS rO u (xs.take k)).1.length = k) := Lib.hid (by rw [mapS_length, List.length_take, HN.out]; omega)
      generalize (mapS rO u (xs.take k)).2 = uk at *
      generalize (mapS rO u (xs.take k)).1 = yk at *
      have c0 := HS.out.fil.cell 0
      rw [rfil_0] at c0
      have hmm := mulS_bd15 27853 uk (by omega) (by omega)
      obtain ⟨hm1, hm2⟩ := hmm
      go_wp2_with fail
      refine (keep_calls _ _).mono ?_; rintro e w' ⟨rfl, rfl⟩
      have hqb := keptI_bd q
      obtain ⟨hq1, hq2⟩ := hqb
      go_wp2_with fail
      refine (rmul_calls _ _ 15 (by omega) (by omega) _).mono ?_; rintro e w' ⟨rfl, rfl⟩
      go_wp2_with fail
      refine (keep_calls _ _).mono ?_; rintro e w' ⟨rfl, rfl⟩
      generalize keptI (keptI q - mulS 27853 uk 15) = y at *
      have HO : Hid (Made (wr.alloc (.cells #[.int .i64 y] 2)) u5 yk) := Lib.hid (HS.out.out.keep (Keep.alloc [] _ _) (by simp))
      have HY : Hid (Rd (wr.alloc (.cells #[.int .i64 y] 2)) (some ⟨wr.heap.size, 0, none⟩) [y]) := Lib.hid (rd_lit wr [y])
      have HBG : Hid (yk.length + 1 ≤ 1000000000) := Lib.hid (by rw [HL.out]; omega)
      go_wp2_with (at_builtin; refine append_made rfl _ _ rfl _ yk rfl HO.out _ _ _ [y] rfl rfl HY.out HBG.out (by simp) ?_)
      intro v' w2 h1 h2 h3
      have H2 := Lib.hid (HS.out.app (Keep.alloc [] wr _) h1 h2 (by simpa using h3) HB.out)
      clear h1 h2 h3 HO HY HBG
      have c2 := H2.out.fil.cell 0
      rw [rfil_0] at c2
      have f2 := Blk.free H2.out.fil 0
      have H3 : Hid (RSt w (w2.setCell ⟨b, 0, none⟩ (.int .i64 (keptI q))) b (keptI q) l cv v' (yk ++ [y])) := by
        obtain ⟨p1, p2, p3, p4⟩ := H2.out
        exact Lib.hid ⟨p1.trans (Keep.setb _ _ _ _), p2.set0 _, p3.keep (Keep.setb _ _ _ _) (fun g hg => by simpa using p3.ne_rfil p2 g hg), p4⟩
      go_wp2_with fail
      go_roundw
      case rel => exact ⟨k + 1, by omega, by go_num, by rw [HT.out]; exact H3.out⟩
      case measure => simp [intOf]; omega
    · obtain rfl : k = n := by omega
      have hk' : xs.take k = xs := List.take_of_length_le (by rw [HN.out]; exact Nat.le_refl _)
      rw [hk'] at HS
      clear hk'
      go_wp2
      go_ret
      exact ⟨_, rfl, HS.out⟩
set_option maxRecDepth 100000 in
set_option maxHeartbeats 2000000 in
theorem rlower_calls (b : Nat) (u l : Int) (cv : Value) (A : Option Addr) (xs : List Int) (n c : Nat) (w : World) (hf : RFil w b u l cv) (hn : xs.length = n) (_hnc : n ≤ c) (hn' : n ≤ 4096) (hr : Rd w A xs) (hA : ∀ a, A = some a → 0 < n → a.block ≠ b) :
    Calls Try.prog 18 #[.pointer (some ⟨b, 0, none⟩), .slice A n c] w (RetR b w (mapS lO l xs).1 u (mapS lO l xs).2 cv) := by
  have HF := Lib.hid hf
  have HB := Lib.hid hf.lt
  have HN := Lib.hid hn
  have HR := Lib.hid hr
  have HA := Lib.hid hA
  clear hf hn hr hA
  go_enter Try.func18, Try.ntmps18
  go_wp2_with fail
  go_loopw [5, 6] (fun ov i wr => ∃ k : Nat, k ≤ n ∧ i = .int .i64 k ∧ RSt w wr b u (mapS lO l (xs.take k)).2 cv ov (mapS lO l (xs.take k)).1) (fun _ i _ => n - (intOf i).toNat)
  case atStart => exact ⟨0, Nat.zero_le _, rfl, Keep.refl _ _, HF.out, Made.nil _, fun g hg => by cases hg⟩
  case round =>
    obtain ⟨k, hk, rfl, HS⟩ := hrel
    have HS := Lib.hid HS
    by_cases hlt : k < n
    · have hlt2 : k < 4096 := by omega
      obtain ⟨a, rfl, hca⟩ := HR.out k (by rw [HN.out]; exact hlt)
      have hcw := fun (_ : k < n) => HS.out.kept.cell hca (by rw [add_block]; simpa using HA.out a rfl (by omega))
      obtain ⟨q, hq⟩ : ∃ q, q = xs.getD k 0 := ⟨_, rfl⟩
      rw [← hq] at hcw
      have HT : Hid (mapS lO l (xs.take (k + 1)) = ((mapS lO l (xs.take k)).1 ++ [keptI (keptI q + mulS 27853 (mapS lO l (xs.take k)).2 15)], keptI (keptI q + mulS 27853 (mapS lO l (xs.take k)).2 15))) := by
        have := mapS_take lO l xs k (by rw [HN.out]; exact hlt)
        rw [← hq] at this
        exact Lib.hid this
      clear hq hca
      have HL : Hid ((mapS lO l (xs.take k)).1.length = k) := Lib.hid (by rw [mapS_length, List.length_take, HN.out]; omega)
      generalize (mapS lO l (xs.take k)).2 = lk at *
      generalize (mapS lO l (xs.take k)).1 = yk at *
      have c0 := HS.out.fil.cell 1
      rw [rfil_1] at c0
      have f0 := Blk.free HS.out.fil 1
      have hmm := mulS_bd15 27853 lk (by omega) (by omega)
      obtain ⟨hm1, hm2⟩ := hmm
      have hqb := keptI_bd q
      obtain ⟨hq1, hq2⟩ := hqb
      have hk0 : (0 : Int) ≤ (k : Int) := by omega
      have hk1 : (k : Int) < (n : Int) := by omega
      have hcq := hcw hlt
      generalize hy : keptI (keptI q + mulS 27853 lk 15) = y at HT
      have HYE := Lib.hid hy
      clear hy
      have H1 : Hid (RSt w (wr.drew.setCell ⟨b, 1, none⟩ (.int .i64 y)) b u y cv u5 yk) := by
        obtain ⟨p1, p2, p3, p4⟩ := HS.out
        have k1 := (Keep.drew [b] wr).trans (Keep.setb wr.drew b 1 (.int .i64 y))
        exact Lib.hid ⟨p1.trans k1, (p2.keep (Keep.drew [] wr) (by simp)).set1 _, p3.keep k1 (fun g hg => by simpa using p3.ne_rfil p2 g hg), p4⟩
      have hw : IntKind.i64.wrap (keptI q + mulS 27853 lk 15) = keptI q + mulS 27853 lk 15 := IntWalk.i64_in _ (by omega)
      go_wp2_with fail
      go_still_tail 15, (by kernel_rfl)
      still_call (qs (keep_calls _ _))
      repeat still_step
      still_call (qs (rmul_calls _ _ 15 (by omega) (by omega) _))
      repeat still_step
      still_call (qs (keep_calls _ _))
      repeat still_step
      refine wpStill_nil ?_
      change wpList _ _ _ _ _ wr.drew
      rw [HYE.out]
      clear hw hm1 hm2 hq1 hq2
      have f1 : (wr.drew).frozen? ⟨b, 1, none⟩ = false := f0
      have c1 : (wr.drew).cell? ⟨b, 1, none⟩ = some (.int .i64 lk) := c0
      generalize hwd : wr.drew = wd at *
      have c2 := H1.out.fil.cell 1
      rw [rfil_1] at c2
      have HO : Hid (Made ((wd.setCell ⟨b, 1, none⟩ (.int .i64 y)).alloc (.cells #[.int .i64 y] 2)) u5 yk) := Lib.hid (H1.out.out.keep (Keep.alloc [] _ _) (by simp))
      have HY : Hid (Rd ((wd.setCell ⟨b, 1, none⟩ (.int .i64 y)).alloc (.cells #[.int .i64 y] 2)) (some ⟨wd.heap.size, 0, none⟩) [y]) := Lib.hid (by
        have := rd_lit (wd.setCell ⟨b, 1, none⟩ (.int .i64 y)) [y]
        rw [World.size_setCell] at this
        exact this)
      have HBG : Hid (yk.length + 1 ≤ 1000000000) := Lib.hid (by rw [HL.out]; omega)
      clear hwd hcq hk0 hk1
      go_wp2_with (at_builtin; refine append_made rfl _ _ rfl _ yk rfl HO.out _ _ _ [y] rfl rfl HY.out HBG.out (by simp) ?_)
      intro v' w2 h1 h2 h3
      have H2 := Lib.hid (H1.out.app (Keep.alloc [] _ _) h1 h2 (by simpa using h3) HB.out)
      clear h1 h2 h3 HO HY HBG
      go_wp2_with fail
      go_roundw
      case rel => exact ⟨k + 1, by omega, by go_num, by rw [HT.out]; exact H2.out⟩
      case measure => simp [intOf]; omega
    · obtain rfl : k = n := by omega
      have hk' : xs.take k = xs := List.take_of_length_le (by rw [HN.out]; exact Nat.le_refl _)
      rw [hk'] at HS
      clear hk'
      go_wp2
      go_ret
      exact ⟨_, rfl, HS.out⟩

theorem Made.cap_le {w : World} {A : Option Addr} {n c : Nat} {xs : List Int} (h : Made w (.slice A n c) xs) : c ≤ 9223372036854775807 := by
  obtain ⟨_, h2⟩ := h
  rcases h2 with ⟨hv, h0⟩ | ⟨g, cap, cur, hv, _, _, _, hc, _⟩
  · simp only [Value.slice.injEq] at hv; omega
  · simp only [Value.slice.injEq] at hv; unfold maxLen at hc; omega
/-! ### Comb -/
/-- In the midst of Comb: the answers, and all that was answered. -/
structure CSt (w wr : World) (b : Nat) (u l : Int) (cv cv' ov : Value) (ys lst : List Int) : Prop where
  kept : Keep (b :: cv.ownBlock.toList) w wr
  fil : RFil wr b u l cv'
  list : Made wr cv' lst
  lo : ∀ g, cv'.ownBlock = some g → cv.ownBlock = some g ∨ w.heap.size ≤ g
  ne : ∀ g, cv'.ownBlock = some g → ov.ownBlock ≠ some g
  out : Made wr ov ys
  fresh : ∀ g, ov.ownBlock = some g → w.heap.size ≤ g
theorem CSt.drewN {w wr : World} {b : Nat} {u l : Int} {cv cv' ov : Value} {ys lst : List Int} (h : CSt w wr b u l cv cv' ov ys lst) (n : Nat) : CSt w (wr.drewN n) b u l cv cv' ov ys lst :=
  ⟨h.kept.trans (Keep.drewN _ _ _), h.fil, h.list, h.lo, h.ne, h.out, h.fresh⟩
/-- The list grows by one, and is stored. -/
theorem CSt.app1 {w wr w1 w2 : World} {b : Nat} {u l : Int} {cv cv' ov v2 : Value} {ys lst : List Int} {y : Int} (h : CSt w wr b u l cv cv' ov ys lst) (k0 : Keep [] wr w1) (h1 : Made w2 v2 (lst ++ [y])) (h2 : Keep cv'.ownBlock.toList w1 w2)
    (h3 : v2.ownBlock = cv'.ownBlock ∨ v2.ownBlock = some w1.heap.size) : CSt w (w2.setCell ⟨b, 2, none⟩ v2) b u l cv v2 ov ys (lst ++ [y]) ∧ w2.cell? ⟨b, 2, none⟩ = some cv' ∧ w2.frozen? ⟨b, 2, none⟩ = false := by
  have f1 := h.fil.keep k0 (by simp)
  have l1 := h.list.keep k0 (by simp)
  have o1 := h.out.keep k0 (by simp)
  have f2 : RFil w2 b u l cv' := f1.keep h2 (fun hg => by simp only [Option.mem_toList] at hg; exact l1.ne_rfil f1 b hg rfl)
  have o2 : Made w2 ov ys := o1.keep h2 (fun g hg hm => by simp only [Option.mem_toList] at hm; exact h.ne g hm hg)
  have ks := Keep.setb w2 b 2 v2
  have z1 := h.kept.size
  have z2 := k0.size
  refine ⟨⟨?_, f2.set2 v2, h1.keep ks (fun g hg => by simpa using h1.ne_rfil f2 g hg), ?_, ?_, o2.keep ks (fun g hg => by simpa using o2.ne_rfil f2 g hg), h.fresh⟩, ?_, Blk.free f2 2⟩
  · refine ((h.kept.trans (k0.of0 _)).trans' h2 (fun g hg => .inl hg) (fun g hg => ?_)).trans' ks (fun g hg => .inl hg) (by simp)
    simp only [Option.mem_toList] at hg
    rcases h.lo g hg with h' | h'
    · exact .inl (by simp [h'])
    · exact .inr h'
  · intro g hg
    rcases h3 with h3 | h3
    · exact h.lo g (by rw [← h3]; exact hg)
    · rw [hg] at h3; simp only [Option.some.injEq] at h3; exact .inr (by omega)
  · intro g hg ho
    rcases h3 with h3 | h3
    · exact h.ne g (by rw [← h3]; exact hg) ho
    · rw [hg] at h3
      simp only [Option.some.injEq] at h3
      have := h.out.lt g ho
      omega
  · have := Blk.cell f2 2
    rw [rfil_2] at this
    exact this
/-- The answers grow by one. -/
theorem CSt.app2 {w wr w1 w2 : World} {b : Nat} {u l : Int} {cv cv' ov v2 : Value} {ys lst : List Int} {y : Int} (h : CSt w wr b u l cv cv' ov ys lst) (k0 : Keep [] wr w1) (h1 : Made w2 v2 (ys ++ [y])) (h2 : Keep ov.ownBlock.toList w1 w2)
    (h3 : v2.ownBlock = ov.ownBlock ∨ v2.ownBlock = some w1.heap.size) : CSt w w2 b u l cv cv' v2 (ys ++ [y]) lst := by
  have f1 := h.fil.keep k0 (by simp)
  have l1 := h.list.keep k0 (by simp)
  have o1 := h.out.keep k0 (by simp)
  have z1 := h.kept.size
  have z2 := k0.size
  refine ⟨(h.kept.trans (k0.of0 _)).trans' h2 (fun g hg => .inl hg) (fun g hg => by simp only [Option.mem_toList] at hg; exact .inr (h.fresh g hg)), f1.keep h2 (fun hg => by simp only [Option.mem_toList] at hg; exact o1.ne_rfil f1 b hg rfl),
    l1.keep h2 (fun g hg hm => by simp only [Option.mem_toList] at hm; exact h.ne g hg hm), h.lo, ?_, h1, ?_⟩
  · intro g hg ho
    rcases h3 with h3 | h3
    · exact h.ne g hg (by rw [← h3]; exact ho)
    · rw [ho] at h3
      simp only [Option.some.injEq] at h3
      have := h.list.lt g hg
      omega
  · intro g hg
    rcases h3 with h3 | h3
    · exact h.fresh g (by rw [← h3]; exact hg)
    · rw [hg] at h3; simp only [Option.some.injEq] at h3; omega

def rcF (lag : Nat) (g : Int) (lst : List Int) (v : Int) : Int × List Int := (keptI (keptI v + mulS g (aheadL lst lag) 15), lst ++ [keptI (keptI v + mulS g (aheadL lst lag) 15)])
theorem rcF_len (lag : Nat) (g : Int) (xs : List Int) : ∀ lst, (mapS (rcF lag g) lst xs).2.length = lst.length + xs.length := by
  induction xs with
  | nil => intro lst; simp [mapS]
  | cons x xs ih => intro lst; simp only [mapS, ih]; simp [rcF]; omega
theorem ahead_of (n : Int) (A : Option Addr) (l : List Int) (m c : Nat) (w : World) (r : Int) (hl : l.length = m) (hm : m ≤ 1000000) (ha : Rd w A l) (hr : aheadL l n = r) :
    Calls Try.prog 30 #[.slice A m c, .int .i64 n] w fun e w' => e = .returned (.int .i64 r) ∧ w = w' := by
  subst hr
  exact ahead_calls A l m c n w hl hm ha
def RetRC (b : Nat) (w : World) (ys : List Int) (u l : Int) (cv : Value) (lst : List Int) (e : Ending) (w' : World) : Prop :=
  ∃ v cv', e = .returned v ∧ Keep (b :: cv.ownBlock.toList) w w' ∧ RFil w' b u l cv' ∧ Made w' cv' lst ∧ (∀ g, cv'.ownBlock = some g → w.heap.size ≤ g) ∧ Made w' v ys ∧ ∀ g, v.ownBlock = some g → w.heap.size ≤ g
set_option maxRecDepth 100000 in
set_option maxHeartbeats 4000000 in
theorem rcomb_calls (b : Nat) (u l : Int) (cv : Value) (lst : List Int) (lag : Nat) (g : Int) (A : Option Addr) (xs : List Int) (n c : Nat) (w : World) (_hl0 : 1 ≤ lag) (_hl1 : lag ≤ 512) (hg0 : 0 ≤ g) (hg1 : g ≤ 24576) (hf : RFil w b u l cv) (hlst : Made w cv lst) (hll : lst.length ≤ 512)
    (hn : xs.length = n) (_hnc : n ≤ c) (hn' : n ≤ 4096) (hr : Rd w A xs) (hA : ∀ a, A = some a → 0 < n → a.block ≠ b ∧ cv.ownBlock ≠ some a.block) :
    Calls Try.prog 19 #[.pointer (some ⟨b, 0, none⟩), .slice A n c, .int .i64 lag, .int .i64 g] w (RetRC b w (mapS (rcF lag g) lst xs).1 u l cv (lastL (mapS (rcF lag g) lst xs).2 512)) := by
  have HF := Lib.hid hf
  have HB := Lib.hid hf.lt
  have HLS := Lib.hid hlst
  have HN := Lib.hid hn
  have HR := Lib.hid hr
  have HA := Lib.hid hA
  have HLL := Lib.hid hll
  clear hf hn hr hA hlst hll
  go_enter Try.func19, Try.ntmps19
  go_wp2_with fail
  go_loopw [9, 10] (fun ov i wr => ∃ (k : Nat) (cv' : Value), k ≤ n ∧ i = .int .i64 k ∧ CSt w wr b u l cv cv' ov (mapS (rcF lag g) lst (xs.take k)).1 (mapS (rcF lag g) lst (xs.take k)).2) (fun _ i _ => n - (intOf i).toNat)
  case atStart => exact ⟨0, cv, Nat.zero_le _, rfl, Keep.refl _ _, HF.out, HLS.out, fun g hg => .inl hg, fun g _ h => by simp [Value.ownBlock] at h, Made.nil _, fun g hg => by cases hg⟩
  case round =>
    obtain ⟨k, cv', hk, rfl, HS⟩ := hrel
    have HS := Lib.hid HS
    by_cases hlt : k < n
    · have hlt2 : k < 4096 := by omega
      obtain ⟨a, rfl, hca⟩ := HR.out k (by rw [HN.out]; exact hlt)
      have hcq := HS.out.kept.cell hca (by
        rw [add_block]
        obtain ⟨x1, x2⟩ := HA.out a rfl (by omega)
        simp only [List.mem_cons, Option.mem_toList, not_or]
        exact ⟨x1, x2⟩)
      obtain ⟨q, hq⟩ : ∃ q, q = xs.getD k 0 := ⟨_, rfl⟩
      rw [← hq] at hcq
      have HT : Hid (mapS (rcF lag g) lst (xs.take (k + 1)) = ((mapS (rcF lag g) lst (xs.take k)).1 ++ [keptI (keptI q + mulS g (aheadL (mapS (rcF lag g) lst (xs.take k)).2 lag) 15)], (mapS (rcF lag g) lst (xs.take k)).2 ++ [keptI (keptI q + mulS g (aheadL (mapS (rcF lag g) lst (xs.take k)).2 lag) 15)])) := by
        have := mapS_take (rcF lag g) lst xs k (by rw [HN.out]; exact hlt)
        rw [← hq] at this
        exact Lib.hid this
      clear hq hca
      have HL : Hid ((mapS (rcF lag g) lst (xs.take k)).1.length = k ∧ (mapS (rcF lag g) lst (xs.take k)).2.length = lst.length + k) := Lib.hid ⟨by rw [mapS_length, List.length_take, HN.out]; omega, by rw [rcF_len, List.length_take, HN.out]; omega⟩
      generalize (mapS (rcF lag g) lst (xs.take k)).2 = lk at *
      generalize (mapS (rcF lag g) lst (xs.take k)).1 = yk at *
      obtain ⟨C, d, hcv, hd, hrd, _⟩ := HS.out.list.reads
      subst hcv
      have HRD := Lib.hid hrd
      clear hrd
      have c0 := Blk.cell HS.out.fil 2
      rw [rfil_2] at c0
      have hmm := mulS_bd15 g (aheadL lk lag) (by omega) (by omega)
      obtain ⟨hm1, hm2⟩ := hmm
      have hqb := keptI_bd q
      obtain ⟨hq1, hq2⟩ := hqb
      have hk0 : (0 : Int) ≤ (k : Int) := by omega
      have hk1 : (k : Int) < (n : Int) := by omega
      have hlen : Hid (lk.length ≤ 1000000) := Lib.hid (by have := HL.out.2; have := HLL.out; omega)
      generalize hah : aheadL lk lag = ah at *
      have HAH := Lib.hid hah
      clear hah
      have hw : IntKind.i64.wrap (keptI q + mulS g ah 15) = keptI q + mulS g ah 15 := IntWalk.i64_in _ (by omega)
      go_wp2_with fail
      go_quiet ((first | exact qq (keep_calls _ _) | exact qq (ahead_of (lag : Int) C lk lk.length d _ ah rfl hlen.out (HRD.out.keep (Keep.drewN [] wr _) (by simp)) HAH.out) | exact qq (rmul_calls _ _ 15 (by omega) (by omega) _)))
      clear hw hm1 hm2 hq1 hq2 hk0 hk1 hcq
      generalize keptI (keptI q + mulS g ah 15) = y at *
      have HSD := Lib.hid (HS.out.drewN nq)
      have c1 : (wr.drewN nq).cell? ⟨b, 2, none⟩ = some (.slice C lk.length d) := c0
      clear HS c0 HRD
      generalize wr.drewN nq = wd at *
      have HO : Hid (Made (wd.alloc (.cells #[.int .i64 y] 2)) (.slice C lk.length d) lk) := Lib.hid (HSD.out.list.keep (Keep.alloc [] _ _) (by simp))
      have HY : Hid (Rd (wd.alloc (.cells #[.int .i64 y] 2)) (some ⟨wd.heap.size, 0, none⟩) [y]) := Lib.hid (rd_lit _ [y])
      have HBG : Hid (lk.length + 1 ≤ 1000000000) := Lib.hid (by have := hlen.out; omega)
      go_wp2_with (at_builtin; refine append_made rfl _ _ rfl _ lk rfl HO.out _ _ _ [y] rfl rfl HY.out HBG.out (by simp) ?_)
      intro v2 w2 h1 h2 h3
      obtain ⟨V, vc, hv2, _, _, _⟩ := h1.reads
      subst hv2
      have H2 := Lib.hid (HSD.out.app1 (Keep.alloc [] _ _) h1 h2 (by simpa using h3))
      clear h1 h2 h3 HO HY HBG HSD c1
      have c2 := H2.out.2.1
      have f2 := H2.out.2.2
      generalize (lk ++ [y]).length = vl at *
      have HO : Hid (Made ((w2.setCell ⟨b, 2, none⟩ (.slice V vl vc)).alloc (.cells #[.int .i64 y] 2)) u9 yk) := Lib.hid (H2.out.1.out.keep (Keep.alloc [] _ _) (by simp))
      have HY : Hid (Rd ((w2.setCell ⟨b, 2, none⟩ (.slice V vl vc)).alloc (.cells #[.int .i64 y] 2)) (some ⟨w2.heap.size, 0, none⟩) [y]) := Lib.hid (by
        have := rd_lit (w2.setCell ⟨b, 2, none⟩ (.slice V vl vc)) [y]
        rw [World.size_setCell] at this
        exact this)
      have HBG : Hid (yk.length + 1 ≤ 1000000000) := Lib.hid (by rw [HL.out.1]; omega)
      go_wp2_with (at_builtin; refine append_made rfl _ _ rfl _ yk rfl HO.out _ _ _ [y] rfl rfl HY.out HBG.out (by simp) ?_)
      intro v3 w3 h1 h2 h3
      have H3 := Lib.hid (H2.out.1.app2 (Keep.alloc [] _ _) h1 h2 (by simpa using h3))
      clear h1 h2 h3 HO HY HBG H2 c2 f2
      go_wp2_with fail
      go_roundw
      case rel => exact ⟨k + 1, _, by omega, by go_num, by rw [HT.out]; exact H3.out⟩
      case measure => simp [intOf]; omega
    · obtain rfl : k = n := by omega
      have hk' : xs.take k = xs := List.take_of_length_le (by rw [HN.out]; exact Nat.le_refl _)
      rw [hk'] at HS
      have HL : Hid ((mapS (rcF lag g) lst xs).2.length ≤ 1000000) := Lib.hid (by rw [rcF_len, HN.out]; have := HLL.out; omega)
      generalize (mapS (rcF lag g) lst xs).2 = lk at *
      generalize (mapS (rcF lag g) lst xs).1 = yk at *
      clear hk'
      obtain ⟨C, d, hcv, hd, hrd, _⟩ := HS.out.list.reads
      subst hcv
      have HRD := Lib.hid hrd
      clear hrd
      have c0 := Blk.cell HS.out.fil 2
      rw [rfil_2] at c0
      go_wp2_with fail
      refine (last_calls C lk lk.length d 512 wr rfl hd HS.out.list.cap_le HL.out (by omega) (by omega) HRD.out (fun hC => made_none HS.out.list hC)).mono ?_
      rintro e w2 ⟨v2, rfl, m1, m2, m3⟩
      obtain ⟨V, vc, hv2, _, _, _⟩ := m1.reads
      subst hv2
      have H2 : Hid (RFil w2 b u l (.slice C lk.length d)) := Lib.hid (HS.out.fil.keep m2 (by simp))
      have c2 := Blk.cell H2.out 2
      rw [rfil_2] at c2
      have f2 := Blk.free H2.out 2
      have H3 : Hid (Keep (b :: cv.ownBlock.toList) w (w2.setCell ⟨b, 2, none⟩ (.slice V (lastL lk 512).length vc)) ∧ RFil (w2.setCell ⟨b, 2, none⟩ (.slice V (lastL lk 512).length vc)) b u l (.slice V (lastL lk 512).length vc) ∧
          Made (w2.setCell ⟨b, 2, none⟩ (.slice V (lastL lk 512).length vc)) (.slice V (lastL lk 512).length vc) (lastL lk 512) ∧ (∀ g, (Value.slice V (lastL lk 512).length vc).ownBlock = some g → w.heap.size ≤ g) ∧
          Made (w2.setCell ⟨b, 2, none⟩ (.slice V (lastL lk 512).length vc)) u9 yk ∧ ∀ g, u9.ownBlock = some g → w.heap.size ≤ g) := by
        have hs := HS.out
        have ks := Keep.setb w2 b 2 (.slice V (lastL lk 512).length vc)
        refine Lib.hid ⟨(hs.kept.trans (m2.of0 _)).trans' ks (fun g hg => .inl hg) (by simp), H2.out.set2 _, m1.keep ks (fun g hg => by simpa using m1.ne_rfil H2.out g hg), fun g hg => ?_, (hs.out.keep m2 (by simp)).keep ks (fun g hg => by simpa using (hs.out.keep m2 (by simp)).ne_rfil H2.out g hg), hs.fresh⟩
        have := m3 g hg
        have := hs.kept.size
        omega
      clear m1 m2 m3 c0 HS
      go_wp2_with fail
      go_ret
      obtain ⟨q1, q2, q3, q4, q5, q6⟩ := H3.out
      exact ⟨_, _, rfl, q1, q2, q3, q4, q5, q6⟩
end Go.Proofs.Ytddlkglpgkdgkaa
