/- The methods of a filter: Raise, Lower, Comb, New, Copy, Reset, Same. -/
import Derived.Test.YtddlkglpgkdgkaaE2
import Derived.Test.YtddlkglpgkdgkaaK2
namespace Go.Proofs.Ytddlkglpgkdgkaa
open Go.RowKit

/-- What a filter keeps. -/
structure Flt where
  up : Int
  low : Int
  comb : List Int
def Flt.new : Flt := ⟨0, 0, List.replicate 512 0⟩
def raiseF (s : Flt) (v : Int) : Int × Flt := (keptI (v - mulS 27853 s.up 15), ⟨v, s.low, s.comb⟩)
def lowerF (s : Flt) (v : Int) : Int × Flt := (keptI (v + mulS 27853 s.low 15), ⟨s.up, keptI (v + mulS 27853 s.low 15), s.comb⟩)
def combF (lag : Nat) (g : Int) (s : Flt) (v : Int) : Int × Flt := (keptI (v + mulS g (s.comb.getD (lag - 1) 0) 15), ⟨s.up, s.low, keptI (v + mulS g (s.comb.getD (lag - 1) 0) 15) :: s.comb.take 511⟩)
structure IsFil (w : World) (bf : Nat) (s : Flt) : Prop where
  blk : Fil w bf s.up s.low s.comb
  len : s.comb.length = 512
theorem IsFil.keep {w w' : World} {bf : Nat} {s : Flt} {l : List Nat} (h : IsFil w bf s) (k : Keep l w w') (hl : bf ∉ l) : IsFil w' bf s := ⟨Blk.keep h.blk k hl, h.len⟩
theorem IsFil.lt {w : World} {bf : Nat} {s : Flt} (h : IsFil w bf s) : bf < w.heap.size := Blk.lt h.blk
/-- A filter, and the variable that holds its address. -/
structure Held (bf bx : Nat) (s : Flt) (w : World) : Prop where
  fil : IsFil w bf s
  box : Blk w bx #[.pointer (some ⟨bf, 0, none⟩)] 23
theorem Held.keep {w w' : World} {bf bx : Nat} {s : Flt} {l : List Nat} (h : Held bf bx s w) (k : Keep l w w') (h1 : bf ∉ l) (h2 : bx ∉ l) : Held bf bx s w' := ⟨h.fil.keep k h1, h.box.keep k h2⟩
theorem raise_steps (bf bx B : Nat) (h1 : bf < B) (h2 : bx < B) : Steps1 bf B 26 #[.pointer (some ⟨bx, 0, none⟩)] (Held bf bx) raiseF where
  call := fun args w => by kernel_rfl
  step := fun s v w h0 h3 h => (raise1_calls v s.up s.low s.comb bf bx w h0 h3 h.fil.blk h.box).mono fun e w' ⟨he, hk, hf⟩ =>
    ⟨he, hk, ⟨⟨hf, h.fil.len⟩, h.box.keep hk (by simpa using h.box.ne h.fil.blk (by decide))⟩⟩
  keep := fun s w w' l h hk hl _ => h.keep hk (fun hm => by have := hl _ hm; omega) (fun hm => by have := hl _ hm; omega)
theorem lower_steps (bf bx B : Nat) (h1 : bf < B) (h2 : bx < B) : Steps1 bf B 27 #[.pointer (some ⟨bx, 0, none⟩)] (Held bf bx) lowerF where
  call := fun args w => by kernel_rfl
  step := fun s v w h0 h3 h => (lower1_calls v s.up s.low s.comb bf bx w h0 h3 h.fil.blk h.box).mono fun e w' ⟨he, hk, hf⟩ =>
    ⟨he, hk, ⟨⟨hf, h.fil.len⟩, h.box.keep hk (by simpa using h.box.ne h.fil.blk (by decide))⟩⟩
  keep := fun s w w' l h hk hl _ => h.keep hk (fun hm => by have := hl _ hm; omega) (fun hm => by have := hl _ hm; omega)
structure HeldC (bf bg bx bl : Nat) (lag : Nat) (g : Int) (s : Flt) (w : World) : Prop extends Held bf bx s w where
  boxg : Blk w bg #[.int .i64 g] 2
  boxl : Blk w bl #[.int .i64 lag] 3
theorem comb_steps (bf bg bx bl B lag : Nat) (g : Int) (h1 : bf < B) (h2 : bg < B) (h3 : bx < B) (h4 : bl < B) (hg0 : 0 ≤ g) (hg1 : g ≤ 24576) (hl0 : 1 ≤ lag) (hl1 : lag ≤ 512) :
    Steps1 bf B 23 #[.pointer (some ⟨bg, 0, none⟩), .pointer (some ⟨bx, 0, none⟩), .pointer (some ⟨bl, 0, none⟩)] (HeldC bf bg bx bl lag g) (combF lag g) where
  call := fun args w => by kernel_rfl
  step := fun s v w h0 h5 h => (comb1_calls v g s.up s.low _ s.comb lag bf bg bx bl w h0 h5 hg0 hg1 hl0 hl1 h.fil.len rfl h.fil.blk h.boxg h.box h.boxl).mono fun e w' ⟨he, hk, hf⟩ =>
    ⟨he, hk, ⟨⟨⟨hf, by simp [combF, h.fil.len]⟩, h.box.keep hk (by simpa using h.box.ne h.fil.blk (by decide))⟩, h.boxg.keep hk (by simpa using h.boxg.ne h.fil.blk (by decide)), h.boxl.keep hk (by simpa using h.boxl.ne h.fil.blk (by decide))⟩⟩
  keep := fun s w w' l h hk hl _ => ⟨h.toHeld.keep hk (fun hm => by have := hl _ hm; omega) (fun hm => by have := hl _ hm; omega), h.boxg.keep hk (fun hm => by have := hl _ hm; omega), h.boxl.keep hk (fun hm => by have := hl _ hm; omega)⟩

/-- What a method of a filter answers: a new list; the filter behind it. -/
def MadeBy (bf : Nat) (w : World) (r : List Int × Flt) (v : Value) (w' : World) : Prop :=
  ∃ g, w.heap.size ≤ g ∧ v = .slice (some ⟨g, 0, none⟩) r.1.length r.1.length ∧ Keep [bf] w w' ∧ Blk w' g (ints r.1).toArray 2 ∧ IsFil w' bf r.2
def RetFlt (bf : Nat) (w : World) (r : List Int × Flt) (e : Ending) (w' : World) : Prop := ∃ v, e = .returned v ∧ MadeBy bf w r v w'

set_option maxHeartbeats 400000 in
theorem raise_calls (bf : Nat) (s : Flt) (A : Option Addr) (xs : List Int) (n c : Nat) (w : World) (hf : IsFil w bf s) (hn : xs.length = n) (hnc : n ≤ c) (hn' : n ≤ 4096) (hr : Rd w A xs) (hA : ∀ a, A = some a → 0 < n → a.block ≠ bf) :
    Calls Try.prog 13 #[.pointer (some ⟨bf, 0, none⟩), .slice A n c] w (RetFlt bf w (mapS (stepK raiseF) s xs)) := by
  have HR := Lib.hid (hr.keep (Keep.alloc [] w (.cells #[.pointer (some ⟨bf, 0, none⟩)] 23)) (by simp))
  have HH : Hid (Held bf w.heap.size s (w.alloc (.cells #[.pointer (some ⟨bf, 0, none⟩)] 23))) := Lib.hid ⟨hf.keep (Keep.alloc [] w _) (by simp), Blk.new w _ _⟩
  have hlt := hf.lt
  have HN := Lib.hid hn
  have HA := Lib.hid hA
  clear hn hr hf hA
  go_enter Try.func13, Try.ntmps13
  go_wp2_with fail
  refine (each_calls bf _ _ (Held bf w.heap.size) raiseF s _ (by simp; omega) (raise_steps _ _ _ (by simp; omega) (by simp)) A xs n c HN.out hnc hn' HR.out HA.out HH.out).mono ?_
  rintro e w' ⟨g, h1, rfl, h2, h3, h4⟩
  have H : Hid (w.heap.size ≤ g ∧ Keep [bf] w w' ∧ Blk w' g (ints (mapS (stepK raiseF) s xs).1).toArray 2 ∧ IsFil w' bf (mapS (stepK raiseF) s xs).2) :=
    Lib.hid ⟨by simp at h1; omega, (Keep.alloc _ _ _).trans h2, h3, h4.fil⟩
  clear h1 h2 h3 h4
  go_wp2_with fail
  go_ret
  exact ⟨_, rfl, g, H.out.1, rfl, H.out.2⟩

set_option maxHeartbeats 400000 in
theorem lower_calls (bf : Nat) (s : Flt) (A : Option Addr) (xs : List Int) (n c : Nat) (w : World) (hf : IsFil w bf s) (hn : xs.length = n) (hnc : n ≤ c) (hn' : n ≤ 4096) (hr : Rd w A xs) (hA : ∀ a, A = some a → 0 < n → a.block ≠ bf) :
    Calls Try.prog 14 #[.pointer (some ⟨bf, 0, none⟩), .slice A n c] w (RetFlt bf w (mapS (stepK lowerF) s xs)) := by
  have HR := Lib.hid (hr.keep (Keep.alloc [] w (.cells #[.pointer (some ⟨bf, 0, none⟩)] 23)) (by simp))
  have HH : Hid (Held bf w.heap.size s (w.alloc (.cells #[.pointer (some ⟨bf, 0, none⟩)] 23))) := Lib.hid ⟨hf.keep (Keep.alloc [] w _) (by simp), Blk.new w _ _⟩
  have hlt := hf.lt
  have HN := Lib.hid hn
  have HA := Lib.hid hA
  clear hn hr hf hA
  go_enter Try.func14, Try.ntmps14
  go_wp2_with fail
  refine (each_calls bf _ _ (Held bf w.heap.size) lowerF s _ (by simp; omega) (lower_steps _ _ _ (by simp; omega) (by simp)) A xs n c HN.out hnc hn' HR.out HA.out HH.out).mono ?_
  rintro e w' ⟨g, h1, rfl, h2, h3, h4⟩
  have H : Hid (w.heap.size ≤ g ∧ Keep [bf] w w' ∧ Blk w' g (ints (mapS (stepK lowerF) s xs).1).toArray 2 ∧ IsFil w' bf (mapS (stepK lowerF) s xs).2) :=
    Lib.hid ⟨by simp at h1; omega, (Keep.alloc _ _ _).trans h2, h3, h4.fil⟩
  clear h1 h2 h3 h4
  go_wp2_with fail
  go_ret
  exact ⟨_, rfl, g, H.out.1, rfl, H.out.2⟩

def RetComb (bf : Nat) (w : World) (r : List Int × Flt) (e : Ending) (w' : World) : Prop := ∃ v, e = .returned (.tuple #[v, .int .i64 0]) ∧ MadeBy bf w r v w'
set_option maxHeartbeats 1000000 in
theorem comb_calls (bf : Nat) (s : Flt) (lag : Nat) (g : Int) (A : Option Addr) (xs : List Int) (n c : Nat) (w : World) (hl0 : 1 ≤ lag) (hl1 : lag ≤ 512) (hg0 : 0 ≤ g) (hg1 : g ≤ 24576) (hf : IsFil w bf s) (hn : xs.length = n) (hnc : n ≤ c) (hn' : n ≤ 4096) (hr : Rd w A xs)
    (hA : ∀ a, A = some a → 0 < n → a.block ≠ bf) :
    Calls Try.prog 11 #[.pointer (some ⟨bf, 0, none⟩), .slice A n c, .int .i64 lag, .int .i64 g] w (RetComb bf w (mapS (stepK (combF lag g)) s xs)) := by
  have k1 := Keep.alloc [] w (.cells #[.pointer (some ⟨bf, 0, none⟩)] 23)
  have k2 := Keep.alloc [] (w.alloc (.cells #[.pointer (some ⟨bf, 0, none⟩)] 23)) (.cells #[.int .i64 lag] 3)
  have k3 := Keep.alloc [] ((w.alloc (.cells #[.pointer (some ⟨bf, 0, none⟩)] 23)).alloc (.cells #[.int .i64 lag] 3)) (.cells #[.int .i64 g] 2)
  have k := (k1.trans k2).trans k3
  have HR := Lib.hid (hr.keep k (by simp))
  have HH : Hid (HeldC bf (w.heap.size + 2) w.heap.size (w.heap.size + 1) lag g s (((w.alloc (.cells #[.pointer (some ⟨bf, 0, none⟩)] 23)).alloc (.cells #[.int .i64 lag] 3)).alloc (.cells #[.int .i64 g] 2))) := by
    refine Lib.hid ⟨⟨hf.keep k (by simp), ((Blk.new w _ _).keep k2 (by simp)).keep k3 (by simp)⟩, ?_, ?_⟩
    · have := Blk.new ((w.alloc (.cells #[.pointer (some ⟨bf, 0, none⟩)] 23)).alloc (.cells #[.int .i64 lag] 3)) #[.int .i64 g] 2
      simpa using this
    · have := (Blk.new (w.alloc (.cells #[.pointer (some ⟨bf, 0, none⟩)] 23)) #[.int .i64 lag] 3).keep k3 (by simp)
      simpa using this
  have hlt := hf.lt
  have HN := Lib.hid hn
  have HA := Lib.hid hA
  have HK := Lib.hid k
  clear hn hr hf hA k k1 k2 k3
  go_enter Try.func11, Try.ntmps11
  go_wp2_with fail
  refine (each_calls bf _ _ (HeldC bf (w.heap.size + 2) w.heap.size (w.heap.size + 1) lag g) (combF lag g) s _ (by simp; omega) (comb_steps _ _ _ _ _ _ _ (by simp; omega) (by simp) (by simp; omega) (by simp) hg0 hg1 hl0 hl1) A xs n c HN.out hnc hn' HR.out HA.out HH.out).mono ?_
  rintro e w' ⟨gg, h1, rfl, h2, h3, h4⟩
  have H : Hid (w.heap.size ≤ gg ∧ Keep [bf] w w' ∧ Blk w' gg (ints (mapS (stepK (combF lag g)) s xs).1).toArray 2 ∧ IsFil w' bf (mapS (stepK (combF lag g)) s xs).2) :=
    Lib.hid ⟨by simp at h1; omega, (HK.out.of0 _).trans h2, h3, h4.toHeld.fil⟩
  clear h1 h2 h3 h4
  go_wp2_with fail
  go_ret2
  exact ⟨_, rfl, gg, H.out.1, rfl, H.out.2⟩

/-- A comb that may not be. -/
def RetBad (w : World) (e : Ending) (w' : World) : Prop := e = .returned (.tuple #[.slice none 0 0, .int .i64 1]) ∧ Keep [] w w'
set_option maxHeartbeats 1000000 in
theorem comb_bad (bf : Nat) (lag g : Int) (A : Option Addr) (n c : Nat) (w : World) (h : lag < 1 ∨ 512 < lag ∨ g < 0 ∨ 24576 < g) :
    Calls Try.prog 11 #[.pointer (some ⟨bf, 0, none⟩), .slice A n c, .int .i64 lag, .int .i64 g] w (RetBad w) := by
  have HK : Hid (Keep [] w (((w.alloc (.cells #[.pointer (some ⟨bf, 0, none⟩)] 23)).alloc (.cells #[.int .i64 lag] 3)).alloc (.cells #[.int .i64 g] 2))) :=
    Lib.hid (((Keep.alloc [] w _).trans (Keep.alloc [] _ _)).trans (Keep.alloc [] _ _))
  by_cases h1 : lag < 1
  · clear h
    go_enter Try.func11, Try.ntmps11
    go_wp2_with fail
    go_ret2
    exact ⟨rfl, HK.out⟩
  · by_cases h2 : 512 < lag
    · clear h
      go_enter Try.func11, Try.ntmps11
      go_wp2_with fail
      go_ret2
      exact ⟨rfl, HK.out⟩
    · by_cases h3 : g < 0
      · clear h
        go_enter Try.func11, Try.ntmps11
        go_wp2_with fail
        go_ret2
        exact ⟨rfl, HK.out⟩
      · have h4 : 24576 < g := by omega
        clear h
        go_enter Try.func11, Try.ntmps11
        go_wp2_with fail
        go_ret2
        exact ⟨rfl, HK.out⟩

/-! ### New, Copy, Reset, Same -/
def zeros : List Int := List.replicate 512 0
theorem zeros_length : zeros.length = 512 := List.length_replicate
theorem zero_filt (w : World) : (zeroValue 47).run Try.prog w = .ok (.agg (filt 0 0 zeros)) w := by kernel_rfl
theorem size_filt (up low : Int) (c : List Int) (hc : c.length = 512) : (filt up low c).size = 514 := by simp [filt, ints, hc]
theorem info_filt : (Try.prog.info? 47).map (·.size) = some 514 := by kernel_rfl
def newFlt : Flt := ⟨0, 0, zeros⟩

/-- What makes a new filter. -/
def RetNew (w : World) (s : Flt) (e : Ending) (w' : World) : Prop := ∃ g, w.heap.size ≤ g ∧ e = .returned (.pointer (some ⟨g, 0, none⟩)) ∧ Keep [] w w' ∧ IsFil w' g s
theorem filt_one (up low : Int) (c : List Int) : (filt up low c).all (·.oneCell') = true := by
  refine Array.all_eq_true_iff_forall_mem.2 ?_
  intro v hv
  simp only [filt, List.mem_toArray, List.mem_cons] at hv
  rcases hv with rfl | rfl | hv
  · rfl
  · rfl
  · exact ints_one _ v hv
set_option maxHeartbeats 400000 in
theorem new_calls (w : World) : Calls Try.prog 10 #[] w (RetNew w newFlt) := by
  have hb := zero_filt
  have H : Hid (RetNew w newFlt (.returned (.pointer (some ⟨w.heap.size, 0, none⟩))) (w.alloc (.cells (filt 0 0 zeros) 47))) :=
    Lib.hid ⟨_, Nat.le_refl _, rfl, Keep.alloc _ _ _, ⟨Blk.new w _ _, zeros_length⟩⟩
  go_enter Try.func10, Try.ntmps10
  go_wp2_with fail
  go_ret
  exact H.out

def RetReset (bf : Nat) (w : World) (e : Ending) (w' : World) : Prop := e = .returned (.tuple #[]) ∧ Keep [bf] w w' ∧ IsFil w' bf newFlt
set_option maxHeartbeats 400000 in
theorem reset_calls (bf : Nat) (s : Flt) (w : World) (hf : IsFil w bf s) : Calls Try.prog 21 #[.pointer (some ⟨bf, 0, none⟩)] w (RetReset bf w) := by
  have hb := zero_filt
  have HF := Lib.hid hf
  have H : Hid (RetReset bf w (.returned (.tuple #[])) (w.setRow bf (filt 0 0 zeros))) := Lib.hid ⟨rfl, Keep.row _ _ _, ⟨hf.blk.row _, zeros_length⟩⟩
  clear hf
  go_enter Try.func21, Try.ntmps21
  go_wp2_with (refine wpList_store_row rfl 47 _ _ rfl bf _ rfl rfl 47 _ HF.out.blk (by rw [size_filt _ _ _ zeros_length]; exact info_filt) (by rw [size_filt _ _ _ zeros_length, size_filt _ _ _ HF.out.len]) (filt_one _ _ _) ?_)
  go_end0
  exact H.out

set_option maxHeartbeats 400000 in
theorem copy_calls (bf : Nat) (s : Flt) (w : World) (hf : IsFil w bf s) : Calls Try.prog 20 #[.pointer (some ⟨bf, 0, none⟩)] w (RetNew w s) := by
  have hb := zero_filt
  have HF := Lib.hid hf
  have HG : Hid (Blk (w.alloc (.cells (filt 0 0 zeros) 47)) w.heap.size (filt 0 0 zeros) 47) := Lib.hid (Blk.new w _ _)
  have H : Hid (RetNew w s (.returned (.pointer (some ⟨w.heap.size, 0, none⟩))) ((w.alloc (.cells (filt 0 0 zeros) 47)).setRow w.heap.size (filt s.up s.low s.comb))) :=
    Lib.hid ⟨_, Nat.le_refl _, rfl, (Keep.alloc [] _ _).trans' (Keep.row _ _ _) (by simp) (by simp), ⟨HG.out.row _, hf.len⟩⟩
  clear hf
  go_enter Try.func20, Try.ntmps20
  go_wp2_with (first
    | (refine wpList_load_row rfl 47 _ rfl bf rfl 47 _ (0, 0) _ HF.out.blk Try.underlying47 rfl (by rw [size_filt _ _ _ HF.out.len]; exact info_filt) ?_)
    | (refine wpList_store_row rfl 47 _ _ rfl w.heap.size _ rfl rfl 47 _ HG.out (by rw [size_filt _ _ _ HF.out.len]; exact info_filt) (by rw [size_filt _ _ _ zeros_length, size_filt _ _ _ HF.out.len]) (filt_one _ _ _) ?_))
  go_ret
  exact H.out

instance : DecidableEq Flt := fun a b => decidable_of_iff (a.up = b.up ∧ a.low = b.low ∧ a.comb = b.comb) ⟨fun ⟨h1, h2, h3⟩ => by cases a; cases b; simp_all, fun h => by subst h; exact ⟨rfl, rfl, rfl⟩⟩
theorem filt_comb (up low : Int) (c : List Int) (hc : c.length = 512) : (filt up low c).extract 2 514 = (ints c).toArray := by
  apply Array.ext'
  simp only [filt, Array.toList_extract, List.extract_eq_take_drop, List.drop_succ_cons, List.drop_zero, Nat.reduceSub]
  exact List.take_of_length_le (by simp [ints, hc])
theorem part_comb (w : World) (a b : Int) (c : List Int) (h : c.length = 512) : (part 45 (filt a b c) 2).run Try.prog w = .ok (.agg (ints c).toArray) w := by
  have hsz : (Try.prog.info? 45).map (·.size) = some 512 := by kernel_rfl
  obtain ⟨i, hi, hs⟩ := Option.map_eq_some_iff.1 hsz
  have p2 := run_part_row (P := Try.prog) w 45 _ Try.underlying45 rfl i hi (filt a b c) 2
  have e : 2 + i.size = 514 := by omega
  rw [p2, e, filt_comb a b c h]
theorem flt_dec (s s' : Flt) : decide (s = s') = (s.up == s'.up && (s.low == s'.low && decide (s.comb = s'.comb))) := by
  rw [Bool.eq_iff_iff]
  cases s; cases s'
  simp
theorem eq_filt (w : World) (d : Nat) (s s' : Flt) (h : s.comb.length = 512) (h' : s'.comb.length = 512) :
    (Op.equalIn (d + 3) 47 (.agg (filt s.up s.low s.comb)) (.agg (filt s'.up s'.low s'.comb))).run Try.prog w = .ok (decide (s = s')) w := by
  have p0 := run_part_one (P := Try.prog) w 2 .i64 Try.underlying2 (filt s.up s.low s.comb) 0 _ (filt_0 _ _ _)
  have p0' := run_part_one (P := Try.prog) w 2 .i64 Try.underlying2 (filt s'.up s'.low s'.comb) 0 _ (filt_0 _ _ _)
  have p1 := run_part_one (P := Try.prog) w 2 .i64 Try.underlying2 (filt s.up s.low s.comb) 1 _ (filt_1 _ _ _)
  have p1' := run_part_one (P := Try.prog) w 2 .i64 Try.underlying2 (filt s'.up s'.low s'.comb) 1 _ (filt_1 _ _ _)
  have p2 := part_comb w s.up s.low s.comb h
  have p2' := part_comb w s'.up s'.low s'.comb h'
  have q0 := run_equalIn_int (P := Try.prog) w (d + 1) 2 .i64 .i64 s.up s'.up Try.underlying2
  have q1 := run_equalIn_int (P := Try.prog) w (d + 1) 2 .i64 .i64 s.low s'.low Try.underlying2
  have q2 := run_eq_ints (P := Try.prog) w d 45 2 512 Try.underlying45 Try.underlying2 (by kernel_rfl) s.comb s'.comb h h'
  rw [run_equalIn_struct w (d + 2) 47 _ _ (by kernel_rfl) (by kernel_rfl)]
  have hf : ((Try.prog.fieldsOf 47).toList.map fun f => (f.name, f.type, f.offset)) = [("raised", 2, 0), ("lowered", 2, 1), ("comb", 45, 2)] := by kernel_rfl
  generalize (Try.prog.fieldsOf 47).toList = l at hf
  rcases l with _ | ⟨f0, _ | ⟨f1, _ | ⟨f2, _ | ⟨f3, l⟩⟩⟩⟩ <;> simp only [List.map_cons, List.map_nil, List.cons.injEq, Prod.mk.injEq, reduceCtorEq, and_false, and_true] at hf
  obtain ⟨⟨n0, t0, o0⟩, ⟨n1, t1, o1⟩, ⟨n2, t2, o2⟩⟩ := hf
  change Sem.run Try.prog (Op.equalIn (d + 2) 2 _ _) w = _ at q0
  change Sem.run Try.prog (Op.equalIn (d + 2) 2 _ _) w = _ at q1
  change Sem.run Try.prog (Op.equalIn (d + 2) 45 _ _) w = _ at q2
  have e0 : ("raised" ≠ "_") := by decide
  have e1 : ("lowered" ≠ "_") := by decide
  have e2 : ("comb" ≠ "_") := by decide
  rw [flt_dec s s']
  generalize (s.up == s'.up) = b0 at *
  generalize (s.low == s'.low) = b1 at *
  generalize decide (s.comb = s'.comb) = b2 at *
  simp only [Op.eqFields, n0, t0, o0, n1, t1, o1, n2, t2, o2, if_pos e0, if_pos e1, if_pos e2, Sem.run_bind, p0, p0', q0, Result.andThen_ok]
  cases b0 with
  | false => simp only [Bool.not_false, if_true, Sem.run_pure, Bool.false_and]
  | true =>
    simp only [Bool.not_true, Bool.false_eq_true, if_false, Sem.run_bind, p1, p1', q1, Result.andThen_ok, Bool.true_and]
    cases b1 with
    | false => simp only [Bool.not_false, if_true, Sem.run_pure, Bool.false_and]
    | true =>
      simp only [Bool.not_true, Bool.false_eq_true, if_false, Sem.run_bind]
      rw [p2, Result.andThen_ok, p2', Result.andThen_ok, q2, Result.andThen_ok]
      cases b2 with
      | false => rfl
      | true => rfl
theorem eq_filt' (w : World) (s s' : Flt) (h : s.comb.length = 512) (h' : s'.comb.length = 512) (n : Nat) (hn : n = 10000) :
    (Op.equalIn n 47 (.agg (filt s.up s.low s.comb)) (.agg (filt s'.up s'.low s'.comb))).run Try.prog w = .ok (decide (s = s')) w := by
  obtain ⟨d, rfl⟩ : ∃ d, n = d + 3 := ⟨n - 3, by omega⟩
  exact eq_filt w d s s' h h'
theorem guard_filt : Try.prog.eqGuardType Try.prog.depth 47 = false := by kernel_rfl
theorem same_op {ρ : Operand → Value} {o : Oper} (w : World) (x y : Operand) (ho : o.op = .binOp .eql 47 x y 47) (s s' : Flt) (h : s.comb.length = 512) (h' : s'.comb.length = 512)
    (hx : ρ x = .agg (filt s.up s.low s.comb)) (hy : ρ y = .agg (filt s'.up s'.low s'.comb)) : (execOp ρ o).run Try.prog w = .ok (.value (.bool (decide (s = s')))) w :=
  exec_eql w _ _ x y ho _ _ hx hy guard_filt _ (eq_filt' w s s' h h' _ rfl)
theorem load_op {ρ : Operand → Value} {o : Oper} (w : World) (x : Operand) (ho : o.op = .load 47 x) (g : Nat) (hx : ρ x = .pointer (some ⟨g, 0, none⟩)) (s : Flt) (hf : IsFil w g s) :
    (execOp ρ o).run Try.prog w = .ok (.value (.agg (filt s.up s.low s.comb))) w :=
  exec_load_row w _ x ho g hx _ _ _ hf.blk Try.underlying47 rfl (by rw [size_filt _ _ _ hf.len]; exact info_filt)
theorem IsFil.drewN {w : World} {bf : Nat} {s : Flt} (h : IsFil w bf s) (n : Nat) : IsFil (w.drewN n) bf s := ⟨h.blk, h.len⟩
set_option maxHeartbeats 400000 in
theorem same_calls (bf bg : Nat) (s s' : Flt) (w : World) (hf : IsFil w bf s) (hg : IsFil w bg s') :
    Calls Try.prog 15 #[.pointer (some ⟨bf, 0, none⟩), .pointer (some ⟨bg, 0, none⟩)] w fun e w' => e = .returned (.bool (decide (s = s'))) ∧ ∃ n, w' = w.drewN n := by
  have HF := Lib.hid hf
  have HG := Lib.hid hg
  clear hf hg
  go_enter Try.func15, Try.ntmps15
  go_wp2_with fail
  refine wp_region_quiet_lit (by kernel_rfl) (by kernel_rfl) ?_
  refine wpQuiet_by rfl (.pointer (some ⟨bf, 0, none⟩)) (fun n => exec_move _ _ rfl _ rfl) ?_
  simp only [Act.put, List.setIfInBounds_toArray, List.set_cons_succ, List.set_cons_zero]
  refine wpQuiet_by rfl (.pointer (some ⟨bf, 0, none⟩)) (fun n => exec_nilCheck _ _ rfl _ rfl) ?_
  simp only [Act.put, List.setIfInBounds_toArray, List.set_cons_succ, List.set_cons_zero]
  refine wpQuiet_by rfl (.agg (filt s.up s.low s.comb)) (fun n => load_op _ _ rfl bf rfl s (HF.out.drewN n)) ?_
  simp only [Act.put, List.setIfInBounds_toArray, List.set_cons_succ, List.set_cons_zero]
  refine wpQuiet_by rfl (.pointer (some ⟨bg, 0, none⟩)) (fun n => exec_move _ _ rfl _ rfl) ?_
  simp only [Act.put, List.setIfInBounds_toArray, List.set_cons_succ, List.set_cons_zero]
  refine wpQuiet_by rfl (.pointer (some ⟨bg, 0, none⟩)) (fun n => exec_nilCheck _ _ rfl _ rfl) ?_
  simp only [Act.put, List.setIfInBounds_toArray, List.set_cons_succ, List.set_cons_zero]
  refine wpQuiet_by rfl (.agg (filt s'.up s'.low s'.comb)) (fun n => load_op _ _ rfl bg rfl s' (HG.out.drewN n)) ?_
  simp only [Act.put, List.setIfInBounds_toArray, List.set_cons_succ, List.set_cons_zero]
  refine wpQuiet_by rfl (.bool (decide (s = s'))) (fun n => same_op _ _ _ rfl s s' HF.out.len HG.out.len rfl rfl) ?_
  simp only [Act.put, List.setIfInBounds_toArray, List.set_cons_succ, List.set_cons_zero]
  refine wpQuiet_by rfl (.bool (decide (s = s'))) (fun n => exec_assign _ _ rfl _ rfl) ?_
  simp only [Act.put, List.setIfInBounds_toArray, List.set_cons_succ, List.set_cons_zero]
  refine wpQuiet_nil ?_
  rintro w' ⟨n, rfl⟩
  go_wp2
  go_ret
  exact ⟨rfl, n, rfl⟩
end Go.Proofs.Ytddlkglpgkdgkaa
