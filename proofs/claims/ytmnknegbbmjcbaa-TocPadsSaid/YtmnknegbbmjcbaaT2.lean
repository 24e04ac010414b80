/- toc's reader: byte, length, frame; slices.Clone. -/
import Derived.Test.YtmnknegbbmjcbaaT0
import Derived.Test.YtmnknegbbmjcbaaT1
namespace Go.Proofs.Ytmnknegbbmjcbaa
open Go.RowKit

/-- A reader (ours, or the reference's: t) at g: what is left to be read, and whether it has gone bad; the bytes lie in w0. -/
structure Rdr (t : TypeId) (w0 w : World) (g : Nat) (xs : List Int) (bad : Bool) : Prop where
  kept : Keep [] w0 w
  og : w0.heap.size ≤ g
  at_ : ∃ A n c, Blk w g #[.slice A n c, .bool bad] t ∧ ArgB w0 A n c xs
theorem Rdr.keep {t : TypeId} {w0 w w' : World} {g : Nat} {xs : List Int} {bad : Bool} {l : List Nat} (h : Rdr t w0 w g xs bad) (k : Keep l w w') (hl : g ∉ l) (h0 : ∀ b ∈ l, w0.heap.size ≤ b) : Rdr t w0 w' g xs bad := by
  obtain ⟨A, n, c, h1, h2⟩ := h.at_
  exact ⟨h.kept.trans' k (by simp) (fun b hb => .inr (h0 b hb)), h.og, A, n, c, h1.keep k hl, h2⟩
theorem Rdr.keep0 {t : TypeId} {w0 w w' : World} {g : Nat} {xs : List Int} {bad : Bool} (h : Rdr t w0 w g xs bad) (k : Keep [] w w') : Rdr t w0 w' g xs bad := h.keep k (by simp) (by simp)
theorem Rdr.store {t : TypeId} {w0 w : World} {g : Nat} {A : Option Addr} {n c : Nat} {bad : Bool} {v : Value} {i : Nat} {xs : List Int} {bad' : Bool} {A' : Option Addr} {n' c' : Nat} (hk : Keep [] w0 w) (hg : w0.heap.size ≤ g) (hb : Blk w g #[.slice A n c, .bool bad] t)
    (e : #[Value.slice A n c, .bool bad].setIfInBounds i v = #[.slice A' n' c', .bool bad']) (ha : ArgB w0 A' n' c' xs) : Rdr t w0 (w.setCell ⟨g, i, none⟩ v) g xs bad' := by
  have h := hb.set i v
  rw [e] at h
  exact ⟨hk.trans' (Keep.setb w g i v) (by simp) (by simpa using hg), hg, A', n', c', h, ha⟩
/-- What is left of a slice behind its first m. -/
theorem ArgB.from_ {w0 : World} {A : Option Addr} {n c m : Nat} {xs : List Int} {A' : Option Addr} (h : ArgB w0 A n c xs) (hm : m ≤ n) (hr : ∀ (w : World) (vs : List Value), vs.length = n → RdV w A vs → RdV w A' (vs.drop m)) (hb : ∀ a', A' = some a' → ∃ a, A = some a ∧ a'.block = a.block) (hn : A' = none → A = none) :
    ArgB w0 A' (n - m) (c - m) (xs.drop m) := by
  refine ⟨?_, ?_, ?_, ?_, fun hA => ?_, fun a ha h0 => ?_, fun x hx => h.rng x (List.mem_of_mem_drop hx), by have := h.big; omega⟩
  · have := h.ln
    simp
    omega
  · have := h.cp
    omega
  · have := h.most
    omega
  · rw [bytes_drop]
    exact hr w0 _ (by rw [bytes_length, h.ln]) h.reads
  · have := h.nil (hn hA)
    omega
  · obtain ⟨a', ha', e⟩ := hb a ha
    rw [e]
    exact h.old a' ha' (by omega)
theorem ArgB.to_ {w0 : World} {A : Option Addr} {n c m : Nat} {xs : List Int} (h : ArgB w0 A n c xs) (hm : m ≤ n) : ArgB w0 A m c (xs.take m) := by
  refine ⟨?_, ?_, h.most, ?_, fun hA => ?_, fun a ha h0 => h.old a ha (by omega), fun x hx => h.rng x (List.mem_of_mem_take hx), by have := h.big; omega⟩
  · have := h.ln
    simp
    omega
  · have := h.cp
    omega
  · rw [bytes_take]
    exact h.reads.take m
  · have := h.nil hA
    omega
def byteM : List Int → Bool → Int × List Int × Bool
  | [], _ => (0, [], true)
  | x :: xs, b => (x, xs, b)
/-- What a reader's function leaves. -/
def RetR (t : TypeId) (w0 w : World) (g : Nat) (r : Int × List Int × Bool) (e : Ending) (w' : World) : Prop := e = .returned (.int .i64 r.1) ∧ Rdr t w0 w' g r.2.1 r.2.2 ∧ Keep [g] w w'
theorem rng_of {w0 : World} {A : Option Addr} {n c : Nat} {x : Int} {xs : List Int} (h : ArgB w0 A n c (x :: xs)) : 0 ≤ x ∧ x ≤ 255 := h.rng x (by simp)
set_option maxHeartbeats 1000000
theorem byte_calls (w0 w : World) (g : Nat) (xs : List Int) (bad : Bool) (h : Rdr 51 w0 w g xs bad) :
    Calls Try.prog 23 #[.pointer (some ⟨g, 0, none⟩)] w (RetR 51 w0 w g (byteM xs bad)) := by
  obtain ⟨A, n, c, hb, ha⟩ := h.at_
  have HK := Lib.hid h.kept
  have HG := Lib.hid h.og
  have HB := Lib.hid hb
  have HA := Lib.hid ha
  have c0 : w.cell? ⟨g, 0, none⟩ = some (.slice A n c) := hb.cell 0
  have c1 : w.cell? ⟨g, 1, none⟩ = some (.bool bad) := hb.cell 1
  have f0 := hb.free 0
  have f1 := hb.free 1
  cases xs with
  | nil =>
    have hn := ha.ln
    simp only [List.length_nil] at hn
    subst hn
    clear ha hb h
    go_enter Try.func23, Try.ntmps23
    go_wp2_with fail
    go_ret
    exact ⟨rfl, Rdr.store HK.out HG.out HB.out (A' := A) (n' := 0) (c' := c) (bad' := true) rfl HA.out, Keep.setb _ _ _ _⟩
  | cons x xs =>
    have hn := ha.ln
    simp only [List.length_cons] at hn
    have hcp := ha.cp
    have hmo := ha.most
    obtain ⟨hx0, hx1⟩ := rng_of ha
    obtain ⟨a, rfl, hca⟩ := ha.reads 0 (.int .u8 x) rfl
    rw [Addr.add_zero'] at hca
    have hcw := h.kept.cell hca (by simp)
    obtain ⟨A', hcf, hrf, hbf, hnf⟩ := cut_from_v slB (some a) n c 1 (by omega) hcp
    have HF : Hid (ArgB w0 A' (n - 1) (c - 1) xs) := Lib.hid (ha.from_ (by omega : 1 ≤ n) hrf hbf hnf)
    have hcf' : ∀ W : World, (Instr.slice 29 (.slice (some a) n c) (some (.int .i64 1)) none none).run Try.prog W = .ok (.slice A' (n - 1) (c - 1)) W := hcf
    clear ha hb h hca hrf hbf hnf hcf
    have h0 : (0 : Int) < (n : Int) := by omega
    have h1 : n ≠ 0 := by omega
    clear hn
    go_enter Try.func23, Try.ntmps23
    go_wp2_with fail
    go_ret
    exact ⟨rfl, Rdr.store HK.out HG.out HB.out (A' := A') (n' := n - 1) (c' := c - 1) (bad' := bad) rfl HF.out, Keep.setb _ _ _ _⟩
theorem byteM_rng {t : TypeId} {w0 w : World} {g : Nat} {xs : List Int} {bad : Bool} (h : Rdr t w0 w g xs bad) : 0 ≤ (byteM xs bad).1 ∧ (byteM xs bad).1 ≤ 255 := by
  obtain ⟨A, n, c, _, ha⟩ := h.at_
  cases xs with
  | nil => exact ⟨by simp [byteM], by simp [byteM]⟩
  | cons x xs => exact rng_of ha
def lenM (xs : List Int) (bad : Bool) : Int × List Int × Bool :=
  if 251 < (byteM xs bad).1 then ((byteM xs bad).1 + 4 * (byteM (byteM xs bad).2.1 (byteM xs bad).2.2).1, (byteM (byteM xs bad).2.1 (byteM xs bad).2.2).2) else byteM xs bad
theorem length_calls (w0 w : World) (g : Nat) (xs : List Int) (bad : Bool) (h : Rdr 51 w0 w g xs bad) :
    Calls Try.prog 25 #[.pointer (some ⟨g, 0, none⟩)] w (RetR 51 w0 w g (lenM xs bad)) := by
  go_enter Try.func25, Try.ntmps25
  go_wp2_with fail
  refine (byte_calls w0 w g xs bad h).mono ?_
  rintro e w1 ⟨rfl, h1, k1⟩
  obtain ⟨hb0, hb1⟩ := byteM_rng h
  obtain ⟨r, hr⟩ : ∃ r, r = byteM xs bad := ⟨_, rfl⟩
  rw [← hr] at h1 hb0 hb1 ⊢
  have HR := Lib.hid hr
  have H1 := Lib.hid h1
  have K1 := Lib.hid k1
  clear h hr h1 k1
  obtain ⟨x, ys, b⟩ := r
  dsimp only at hb0 hb1
  by_cases hx : 251 < x
  · go_wp2_with fail
    refine (byte_calls w0 w1 g ys b H1.out).mono ?_
    rintro e w2 ⟨rfl, h2, k2⟩
    obtain ⟨hc0, hc1⟩ := byteM_rng H1.out
    obtain ⟨r2, hr2⟩ : ∃ r2, r2 = byteM ys b := ⟨_, rfl⟩
    rw [← hr2] at h2 hc0 hc1 ⊢
    have HR2 := Lib.hid hr2
    have H2 := Lib.hid h2
    have K2 := Lib.hid k2
    clear hr2 h2 k2
    obtain ⟨x2, ys2, b2⟩ := r2
    dsimp only at hc0 hc1
    have e : lenM xs bad = (x + 4 * x2, ys2, b2) := by
      unfold lenM
      rw [← HR.out]
      dsimp only
      rw [if_pos hx, ← HR2.out]
    have E := Lib.hid e
    clear e
    have e1 : IntKind.i64.wrap (4 * x2) = 4 * x2 := IntWalk.i64_in _ (by omega)
    have e2 : IntKind.i64.wrap (x + 4 * x2) = x + 4 * x2 := IntWalk.i64_in _ (by omega)
    go_wp2_with fail
    go_ret
    rw [E.out]
    exact ⟨rfl, H2.out, K1.out.trans K2.out⟩
  · have e : lenM xs bad = (x, ys, b) := by
      unfold lenM
      rw [← HR.out]
      dsimp only
      rw [if_neg hx]
    have E := Lib.hid e
    clear e
    go_wp2_with fail
    go_ret
    rw [E.out]
    exact ⟨rfl, H1.out, K1.out⟩

/-! ### slices.Clone, frame -/
theorem run_eq_nil (A : Option Addr) (n c : Nat) (W : World) : (binOp .eql 29 (.slice A n c) (.slice none 0 0)).run Try.prog W = .ok (.bool A.isNone) W := by
  have h1 : ∀ d : Nat, (Op.equalIn (d + 1) 29 (.slice A n c) (.slice none 0 0)).run Try.prog W = .ok A.isNone W := fun d => by
    cases A <;> simp [Op.equalIn, run_underlying Try.underlying29]
  have h : (Op.equal 29 (.slice A n c) (.slice none 0 0)).run Try.prog W = .ok A.isNone W := h1 9999
  simp [binOp, h]
/-- A fresh slice of bytes. -/
def RetB (w : World) (xs : List Int) (e : Ending) (w' : World) : Prop := ∃ v, e = .returned v ∧ MadeV w' 5 v (bytes xs) ∧ Keep [] w w' ∧ (∀ b, v.ownBlock = some b → w.heap.size ≤ b)
theorem clone_calls (A : Option Addr) (n c : Nat) (xs : List Int) (w : World) (h : ArgB w A n c xs) :
    Calls Try.prog 38 #[.slice A n c] w fun e w' => RetB w xs e w' ∧ (A = none → e = .returned (.slice none 0 0)) ∧ (∀ v, e = .returned v → A ≠ none → ∃ a m d, v = .slice (some a) m d) := by
  have H := Lib.hid h
  have hcp := h.cp
  have hmo := h.most
  have hbig := h.big
  cases A with
  | none =>
    have h0 := h.nil rfl
    subst h0
    have hx : xs = [] := List.eq_nil_of_length_eq_zero h.ln
    subst hx
    clear h
    have hq : ∀ W : World, (binOp .eql 29 (.slice none 0 c) (.slice none 0 0)).run Try.prog W = .ok (.bool true) W := run_eq_nil none 0 c
    go_enter Try.func38, Try.ntmps38
    go_wp2_with fail
    go_ret
    exact ⟨⟨_, rfl, MadeV.nil _ _, Keep.refl _ _, fun b hb => by cases hb⟩, fun _ => rfl, fun v hv hA => absurd rfl hA⟩
  | some a =>
    clear h
    have hq : ∀ W : World, (binOp .eql 29 (.slice (some a) n c) (.slice none 0 0)).run Try.prog W = .ok (.bool false) W := run_eq_nil (some a) n c
    go_enter Try.func38, Try.ntmps38
    have HM : Hid (MadeV (w.alloc (.cells #[] 5)) 5 (.slice (some ⟨w.heap.size, 0, none⟩) 0 0) []) := Lib.hid (MadeV.lit w 5 [] (by simp))
    have HR : Hid (RdV (w.alloc (.cells #[] 5)) (some a) (bytes xs)) := Lib.hid (H.out.reads.keep0 (Keep.alloc [] _ _))
    have HN : Hid ((bytes xs).length = n) := Lib.hid (by rw [bytes_length]; exact H.out.ln)
    go_wp2_with (at_builtin; refine append_v slB (by first | rfl | kernel_rfl) _ _ rfl _ [] rfl HM.out _ _ _ (bytes xs) rfl HN.out HR.out (bytes_one xs) (by simp; omega) (by simp; omega) (fun hA => by cases hA) ?_)
    intro v' w' h1 h2 h3
    change MadeV w' _ v' (bytes xs) at h1
    have H1 := Lib.hid h1
    have H2 := Lib.hid h2
    have H3 := Lib.hid h3
    clear h1 h2 h3
    go_wp2_with fail
    go_ret
    have hk : Keep [] w w' := (Keep.alloc [] w (.cells #[] 5)).trans' H2.out (by simp) (by simp [Value.ownBlock])
    have ho : v'.ownBlock = some w.heap.size ∨ v'.ownBlock = some (w.heap.size + 1) := H3.out
    refine ⟨⟨v', rfl, H1.out, hk, fun b hb => ?_⟩, (fun hA => by cases hA), fun v hv _ => ?_⟩
    · rcases ho with e | e <;> (rw [hb] at e; simp only [Option.some.injEq] at e; omega)
    · cases hv
      obtain ⟨B, d, hv', _, _, _, hn, _⟩ := H1.out.reads
      cases B with
      | none =>
        rw [hv'] at ho
        simp [Value.ownBlock] at ho
      | some b => exact ⟨_, _, _, hv'⟩
def frameM (n : Nat) (xs : List Int) (bad : Bool) : List Int × List Int × Bool := if xs.length < n then ([], xs, true) else (xs.take n, xs.drop n, bad)
/-- What the taking of a frame leaves: the frame is a fresh slice. -/
def RetF (t : TypeId) (w0 w : World) (g : Nat) (r : List Int × List Int × Bool) (e : Ending) (w' : World) : Prop :=
  ∃ v, e = .returned v ∧ MadeV w' 5 v (bytes r.1) ∧ Rdr t w0 w' g r.2.1 r.2.2 ∧ Keep [g] w w' ∧ ∀ b, v.ownBlock = some b → w.heap.size ≤ b
theorem frame_calls (w0 w : World) (g m : Nat) (xs : List Int) (bad : Bool) (h : Rdr 51 w0 w g xs bad) :
    Calls Try.prog 26 #[.pointer (some ⟨g, 0, none⟩), .int .i64 m] w (RetF 51 w0 w g (frameM m xs bad)) := by
  obtain ⟨A, n, c, hb, ha⟩ := h.at_
  have HK := Lib.hid h.kept
  have HG := Lib.hid h.og
  have HB := Lib.hid hb
  have HA := Lib.hid ha
  have c0 : w.cell? ⟨g, 0, none⟩ = some (.slice A n c) := hb.cell 0
  have c1 : w.cell? ⟨g, 1, none⟩ = some (.bool bad) := hb.cell 1
  have f0 := hb.free 0
  have f1 := hb.free 1
  have hn := ha.ln
  by_cases hm : n < m
  · have hM : frameM m xs bad = ([], xs, true) := by
      unfold frameM
      rw [if_pos (by omega)]
    have HM := Lib.hid hM
    clear ha hb h hn hM
    go_enter Try.func26, Try.ntmps26
    go_wp2_with fail
    go_ret
    rw [HM.out]
    exact ⟨_, rfl, MadeV.nil _ _, Rdr.store HK.out HG.out HB.out (A' := A) (n' := n) (c' := c) (bad' := true) rfl HA.out, Keep.setb _ _ _ _, fun b hb => by cases hb⟩
  · have hM : frameM m xs bad = (xs.take m, xs.drop m, bad) := by
      unfold frameM
      rw [if_neg (by omega)]
    have HM := Lib.hid hM
    have hmn : m ≤ n := by omega
    have hcp := ha.cp
    have hct := cut_to_v slB A n c m hmn hcp
    obtain ⟨A', hcf, hrf, hbf, hnf⟩ := cut_from_v slB A n c m hmn hcp
    have HF := Lib.hid (ha.from_ hmn hrf hbf hnf)
    have HT := Lib.hid ((ha.to_ hmn).keep0 h.kept)
    clear ha hb h hn hM hrf hbf hnf f1 c1
    go_enter Try.func26, Try.ntmps26
    go_wp2_with fail
    refine (clone_calls A m c (xs.take m) w HT.out).mono ?_
    rintro e w1 ⟨⟨v, rfl, h1, h2, h3⟩, h4, h5⟩
    have d0 : w1.cell? ⟨g, 0, none⟩ = some (.slice A n c) := h2.cell c0 (by simp)
    have HB1 := Lib.hid (HB.out.keep h2 (by simp))
    have e0 := HB1.out.free 0
    have HK1 := Lib.hid (HK.out.trans h2)
    have HV := Lib.hid h1
    have HW := Lib.hid h2
    have HO := Lib.hid h3
    have HR : Hid (Rdr 51 w0 (w1.setCell ⟨g, 0, none⟩ (.slice A' (n - m) (c - m))) g (xs.drop m) bad) := Lib.hid (Rdr.store HK1.out HG.out HB1.out (A' := A') (n' := n - m) (c' := c - m) (bad' := bad) rfl HF.out)
    have HKK : Hid (Keep [g] w (w1.setCell ⟨g, 0, none⟩ (.slice A' (n - m) (c - m)))) := Lib.hid ((HW.out.of0 _).trans (Keep.setb _ _ _ _))
    cases A with
    | none =>
      have hv := h4 rfl
      simp only [Ending.returned.injEq] at hv
      subst hv
      clear h1 h2 h3 h4 h5 c0 f0
      have hq : ∀ W : World, (binOp .eql 29 (.slice none 0 0) (.slice none 0 0)).run Try.prog W = .ok (.bool true) W := run_eq_nil none 0 0
      have hx : xs.take m = [] := by
        have h0 := HT.out.nil rfl
        have h1 := HT.out.ln
        exact List.eq_nil_of_length_eq_zero (by omega)
      have HX := Lib.hid hx
      clear hx
      go_wp2_with fail
      go_ret
      rw [HM.out]
      refine ⟨_, rfl, ?_, HR.out.keep0 (Keep.alloc [] _ _), HKK.out.trans (Keep.alloc _ _ _), fun b hb => ?_⟩
      · dsimp only
        rw [HX.out]
        have hl := MadeV.lit (w1.setCell ⟨g, 0, none⟩ (.slice A' (n - m) (c - m))) 5 [] (by simp)
        rw [World.size_setCell] at hl
        exact hl
      · have hb' : some w1.heap.size = some b := hb
        simp only [Option.some.injEq] at hb'
        have := HW.out.size
        omega
    | some a =>
      obtain ⟨a', m', d', rfl⟩ := h5 v rfl (by simp)
      clear h1 h2 h3 h4 h5 c0 f0
      have hq : ∀ W : World, (binOp .eql 29 (.slice (some a') m' d') (.slice none 0 0)).run Try.prog W = .ok (.bool false) W := run_eq_nil (some a') m' d'
      go_wp2_with fail
      go_ret
      rw [HM.out]
      exact ⟨_, rfl, HV.out.keep (Keep.setb _ _ _ _) (fun b hb => by simpa using HV.out.ne HB1.out (by decide) b hb), HR.out, HKK.out, HO.out⟩
end Go.Proofs.Ytmnknegbbmjcbaa
