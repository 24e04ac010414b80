/- The reference's many: what stands while it runs. -/
import Derived.Test.YtmnknegbbmjcbaaT21
import Derived.Test.YtmnknegbbmjcbaaT8
namespace Go.Proofs.Ytmnknegbbmjcbaa
open Go.RowKit

/-- Within the reference's many (or its Parse): the taker at g, the packet at pb. -/
structure RmSt (w0 w wr : World) (g pb : Nat) (cfg ch : Int) (v : Value) (L : List (List Int)) (pad : Int) (xs : List Int) (bad : Bool) : Prop where
  rdr : Rdr 64 w0 wr g xs bad
  bx : Blk wr pb #[.int .i64 cfg, .int .i64 ch, v, .int .i64 pad] 39
  frs : Frs w.heap.size wr v L
  kept : Keep [g, pb] w wr
  op : w0.heap.size ≤ pb
  ow : w0.heap.size ≤ w.heap.size
section
variable {w0 w wr w' : World} {g pb : Nat} {cfg ch pad pad' : Int} {v v' x : Value} {L : List (List Int)} {l xs xs' : List Int} {bad bad' : Bool}
theorem RmSt.ne (h : RmSt w0 w wr g pb cfg ch v L pad xs bad) : pb ≠ g := by
  obtain ⟨cs, hb⟩ := h.rdr.blk
  exact h.bx.ne hb (by decide)
theorem RmSt.keep0 (h : RmSt w0 w wr g pb cfg ch v L pad xs bad) (k : Keep [] wr w') : RmSt w0 w w' g pb cfg ch v L pad xs bad :=
  ⟨h.rdr.keep0 k, h.bx.keep k (by simp), h.frs.keep0 k, h.kept.trans (k.of0 _), h.op, h.ow⟩
theorem RmSt.took (h : RmSt w0 w wr g pb cfg ch v L pad xs bad) (hr : Rdr 64 w0 w' g xs' bad') (k : Keep [g] wr w') : RmSt w0 w w' g pb cfg ch v L pad xs' bad' := by
  obtain ⟨cs, hb⟩ := h.rdr.blk
  exact ⟨hr, h.bx.keep k (by simpa using h.ne), h.frs.keep k (Odd.one hb (by decide) (by decide)), h.kept.trans (k.mono (by simp)), h.op, h.ow⟩
theorem RmSt.spoil (h : RmSt w0 w wr g pb cfg ch v L pad xs bad) : RmSt w0 w (wr.setCell ⟨g, 1, none⟩ (.bool true)) g pb cfg ch v L pad xs true := by
  obtain ⟨A, n, c, hb, ha⟩ := h.rdr.at_
  exact h.took (Rdr.store h.rdr.kept h.rdr.og hb (A' := A) (n' := n) (c' := c) (bad' := true) rfl ha) (Keep.setb _ _ _ _)
theorem RmSt.setPad (h : RmSt w0 w wr g pb cfg ch v L pad xs bad) (p : Int) : RmSt w0 w (wr.setCell ⟨pb, 3, none⟩ (.int .i64 p)) g pb cfg ch v L p xs bad := by
  have k := Keep.setb wr pb 3 (.int .i64 p)
  exact ⟨h.rdr.keep k (by simpa using h.ne.symm) (by simpa using h.op), h.bx.set 3 _, h.frs.keep k (Odd.one h.bx (by decide) (by decide)), h.kept.trans (k.mono (by simp)), h.op, h.ow⟩
theorem RmSt.setFr (h : RmSt w0 w wr g pb cfg ch v L pad xs bad) {L' : List (List Int)} (hf : Frs w.heap.size wr v' L') : RmSt w0 w (wr.setCell ⟨pb, 2, none⟩ v') g pb cfg ch v' L' pad xs bad := by
  have k := Keep.setb wr pb 2 v'
  exact ⟨h.rdr.keep k (by simpa using h.ne.symm) (by simpa using h.op), h.bx.set 2 _, hf.keep k (Odd.one h.bx (by decide) (by decide)), h.kept.trans (k.mono (by simp)), h.op, h.ow⟩
/-- Behind an append onto the frames: the packet still holds the elder row. -/
theorem RmSt.app (h : RmSt w0 w wr g pb cfg ch v L pad xs bad) (k : Keep v.ownBlock.toList (wr.alloc (.cells #[x] 29)) w') :
    Rdr 64 w0 w' g xs bad ∧ Blk w' pb #[.int .i64 cfg, .int .i64 ch, v, .int .i64 pad] 39 ∧ Keep [g, pb] w w' := by
  have k0 := Keep.alloc [] wr (.cells #[x] 29)
  have h' := h.keep0 k0
  obtain ⟨⟨vs, m1, _⟩, ho⟩ := h'.frs
  obtain ⟨cs, hb⟩ := h'.rdr.blk
  have no : ∀ (b : Nat) (t : TypeId) (cs : Array Value), Blk (wr.alloc (.cells #[x] 29)) b cs t → 29 ≠ t → b ∉ v.ownBlock.toList := fun b t cs hb' ht hm => by
    simp only [Option.mem_toList] at hm
    exact m1.ne hb' ht b hm rfl
  have hge : ∀ b ∈ v.ownBlock.toList, w.heap.size ≤ b := fun b hb' => by
    simp only [Option.mem_toList] at hb'
    exact ho b hb'
  exact ⟨h'.rdr.keep k (no _ _ _ hb (by decide)) (fun b hb' => Nat.le_trans h.ow (hge b hb')), h'.bx.keep k (no _ _ _ h'.bx (by decide)), h'.kept.trans' k (fun b hb' => .inl hb') (fun b hb' => .inr (hge b hb'))⟩
/-- The frame is appended and stored. -/
theorem RmSt.fin (h1 : Rdr 64 w0 w' g xs bad ∧ Blk w' pb #[.int .i64 cfg, .int .i64 ch, v, .int .i64 pad] 39 ∧ Keep [g, pb] w w') (hop : w0.heap.size ≤ pb) (how : w0.heap.size ≤ w.heap.size) (hf : Frs w.heap.size w' v' L) :
    RmSt w0 w (w'.setCell ⟨pb, 2, none⟩ v') g pb cfg ch v' L pad xs bad := by
  obtain ⟨a, b, c⟩ := h1
  obtain ⟨cs, hb⟩ := a.blk
  have hne : pb ≠ g := b.ne hb (by decide)
  have k := Keep.setb w' pb 2 v'
  exact ⟨a.keep k (by simpa using hne.symm) (by simpa using hop), b.set 2 _, hf.keep k (Odd.one b (by decide) (by decide)), c.trans (k.mono (by simp)), hop, how⟩
end
/-- While the reference reads the lengths. -/
structure RlSt (w0 w wr : World) (g pb : Nat) (cfg ch pad : Int) (xs : List Int) (bad : Bool) (lv : Value) (ls : List Int) : Prop where
  st : RmSt w0 w wr g pb cfg ch (.slice none 0 0) [] pad xs bad
  made : MadeV wr 3 lv (ls.map (Value.int .i64))
  own : ∀ b, lv.ownBlock = some b → w.heap.size ≤ b
  rng : ∀ x ∈ ls, 0 ≤ x ∧ x ≤ 2000
theorem RlSt.took {w0 w wr w' : World} {g pb : Nat} {cfg ch pad : Int} {xs xs' : List Int} {bad bad' : Bool} {lv : Value} {ls : List Int} (h : RlSt w0 w wr g pb cfg ch pad xs bad lv ls) (hr : Rdr 64 w0 w' g xs' bad') (k : Keep [g] wr w') : RlSt w0 w w' g pb cfg ch pad xs' bad' lv ls := by
  obtain ⟨cs, hb⟩ := h.st.rdr.blk
  exact ⟨h.st.took hr k, h.made.keep k (fun b hb' => by simpa using h.made.ne hb (by decide) b hb'), h.own, h.rng⟩
theorem RlSt.app {w0 w wr w' : World} {g pb : Nat} {cfg ch pad y : Int} {xs : List Int} {bad : Bool} {lv v' : Value} {ls : List Int} (h : RlSt w0 w wr g pb cfg ch pad xs bad lv ls) (hm : MadeV w' 3 v' (ls.map (Value.int .i64) ++ [.int .i64 y])) (k : Keep lv.ownBlock.toList (wr.alloc (.cells #[.int .i64 y] 3)) w')
    (h3 : v'.ownBlock = lv.ownBlock ∨ v'.ownBlock = some (wr.heap.size + 1)) (hy : 0 ≤ y ∧ y ≤ 2000) : RlSt w0 w w' g pb cfg ch pad xs bad v' (ls ++ [y]) := by
  have k0 := Keep.alloc [] wr (.cells #[.int .i64 y] 3)
  have h' := h.st.keep0 k0
  obtain ⟨cs, hb⟩ := h'.rdr.blk
  have hge : ∀ b ∈ lv.ownBlock.toList, w.heap.size ≤ b := fun b hb => by
    simp only [Option.mem_toList] at hb
    exact h.own b hb
  have no : ∀ (b : Nat) (t : TypeId) (cs : Array Value), Blk (wr.alloc (.cells #[.int .i64 y] 3)) b cs t → 3 ≠ t → b ∉ lv.ownBlock.toList := fun b t cs hb' ht hm' => by
    simp only [Option.mem_toList] at hm'
    exact (h.made.keep0 k0).ne hb' ht b hm' rfl
  have z : wr.heap.size ≥ w.heap.size := h.st.kept.size
  refine ⟨⟨h'.rdr.keep k (no _ _ _ hb (by decide)) (fun b hb' => Nat.le_trans h.st.ow (hge b hb')), h'.bx.keep k (no _ _ _ h'.bx (by decide)), Frs.nil _ _, h'.kept.trans' k (fun b hb' => .inl hb') (fun b hb' => .inr (hge b hb')), h'.op, h'.ow⟩, by rw [List.map_append]; exact hm, fun b hb' => ?_, fun x hx => ?_⟩
  · rcases h3 with e | e
    · exact h.own b (by rw [← e]; exact hb')
    · rw [hb'] at e
      simp only [Option.some.injEq] at e
      omega
  · rcases List.mem_append.1 hx with hx | hx
    · exact h.rng x hx
    · simp only [List.mem_singleton] at hx
      subst hx
      exact hy
/-- While the reference takes the frames of unlike lengths. -/
structure RfSt (w0 w wr : World) (g pb : Nat) (cfg ch : Int) (v : Value) (L : List (List Int)) (pad : Int) (xs : List Int) (bad : Bool) (lv : Value) (ls : List Int) : Prop where
  st : RmSt w0 w wr g pb cfg ch v L pad xs bad
  made : MadeV wr 3 lv (ls.map (Value.int .i64))
  rng : ∀ x ∈ ls, 0 ≤ x ∧ x ≤ 2000
section
variable {w0 w wr w' : World} {g pb : Nat} {cfg ch pad : Int} {v v' x lv : Value} {L : List (List Int)} {ls xs xs' : List Int} {bad bad' : Bool}
theorem RfSt.keep0 (h : RfSt w0 w wr g pb cfg ch v L pad xs bad lv ls) (k : Keep [] wr w') : RfSt w0 w w' g pb cfg ch v L pad xs bad lv ls := ⟨h.st.keep0 k, h.made.keep0 k, h.rng⟩
theorem RfSt.took (h : RfSt w0 w wr g pb cfg ch v L pad xs bad lv ls) (hr : Rdr 64 w0 w' g xs' bad') (k : Keep [g] wr w') : RfSt w0 w w' g pb cfg ch v L pad xs' bad' lv ls := by
  obtain ⟨cs, hb⟩ := h.st.rdr.blk
  exact ⟨h.st.took hr k, h.made.keep k (fun b hb' => by simpa using h.made.ne hb (by decide) b hb'), h.rng⟩
theorem RfSt.app (h : RfSt w0 w wr g pb cfg ch v L pad xs bad lv ls) (k : Keep v.ownBlock.toList (wr.alloc (.cells #[x] 29)) w') :
    (Rdr 64 w0 w' g xs bad ∧ Blk w' pb #[.int .i64 cfg, .int .i64 ch, v, .int .i64 pad] 39 ∧ Keep [g, pb] w w') ∧ MadeV w' 3 lv (ls.map (Value.int .i64)) := by
  have k0 := Keep.alloc [] wr (.cells #[x] 29)
  refine ⟨h.st.app k, (h.made.keep0 k0).keep k (fun b hb hm => ?_)⟩
  simp only [Option.mem_toList] at hm
  obtain ⟨⟨vs, m1, _⟩, _⟩ := h.st.frs
  obtain ⟨cs, hb'⟩ := (m1.keep0 k0).typ b hm
  exact (h.made.keep0 k0).ne hb' (by decide) b hb rfl
theorem RfSt.fin (h1 : (Rdr 64 w0 w' g xs bad ∧ Blk w' pb #[.int .i64 cfg, .int .i64 ch, v, .int .i64 pad] 39 ∧ Keep [g, pb] w w') ∧ MadeV w' 3 lv (ls.map (Value.int .i64))) (hop : w0.heap.size ≤ pb) (how : w0.heap.size ≤ w.heap.size) (hf : Frs w.heap.size w' v' L) (hr : ∀ x ∈ ls, 0 ≤ x ∧ x ≤ 2000) :
    RfSt w0 w (w'.setCell ⟨pb, 2, none⟩ v') g pb cfg ch v' L pad xs bad lv ls :=
  ⟨RmSt.fin h1.1 hop how hf, h1.2.keep (Keep.setb w' pb 2 v') (fun b hb => by simpa using h1.2.ne h1.1.2.1 (by decide) b hb), hr⟩
end
theorem len_rng {t : TypeId} {w0 w : World} {g : Nat} {xs : List Int} {bad : Bool} (h : Rdr t w0 w g xs bad) : 0 ≤ (lenM xs bad).1 ∧ (lenM xs bad).1 ≤ 1275 := by
  obtain ⟨A, n, c, _, ha⟩ := h.at_
  unfold lenM
  cases xs with
  | nil => simp [byteM]
  | cons x xs =>
    have h1 := ha.rng x (by simp)
    cases xs with
    | nil => by_cases hx : 251 < x <;> simp [byteM, hx] <;> omega
    | cons y ys =>
      have h2 := ha.rng y (by simp)
      by_cases hx : 251 < x <;> simp [byteM, hx] <;> omega
theorem sumN_le {ls : List Int} (h : ∀ x ∈ ls, 0 ≤ x ∧ x ≤ 2000) (k : Nat) : sumN ls k ≤ 2000 * k := by
  induction k with
  | zero => exact Nat.le_refl _
  | succ k ih =>
    have h2 : (ls.getD k 0).toNat ≤ 2000 := by
      by_cases hk : k < ls.length
      · have := h (ls.getD k 0) (by simp [hk])
        omega
      · simp [List.getD_eq_getElem?_getD, List.getElem?_eq_none (show ls.length ≤ k by omega)]
    show sumN ls k + _ ≤ _
    omega
/-- What the reference's many leaves. -/
def RetRM (w0 w : World) (g pb : Nat) (cfg ch : Int) (r : (List (List Int) × Nat) × List Int × Bool) (e : Ending) (w' : World) : Prop :=
  e = .returned (.tuple #[]) ∧ ∃ v L pad xs bad, RmSt w0 w w' g pb cfg ch v L pad xs bad ∧ bad = r.2.2 ∧ (bad = false → L = r.1.1 ∧ pad = (r.1.2 : Int))
def lenAt (w : World) (g : Nat) : Nat := match w.cell? ⟨g, 0, none⟩ with | some (.slice _ n _) => n | _ => 0
theorem pad_wrap {p n : Nat} (h : p ≤ 254 * n) (hn : n ≤ 200000000000000) : wrap64 (p : Int) = (p : Int) := by unfold wrap64; omega
set_option maxRecDepth 100000
set_option maxHeartbeats 4000000
theorem rmany_calls (w0 w : World) (g pb k : Nat) (ch : Int) (xs : List Int) (hk : k < 12) (h : RmSt w0 w w g pb k ch (.slice none 0 0) [] 0 xs false) :
    Calls Try.prog 36 #[.pointer (some ⟨g, 0, none⟩), .pointer (some ⟨pb, 0, none⟩)] w (RetRM w0 w g pb k ch (manyM (msM k) xs)) := by
  have H0 := Lib.hid h
  clear h
  go_enter Try.func36, Try.ntmps36
  go_wp2_with fail
  refine (one_calls w0 w g xs false H0.out.rdr).mono ?_
  rintro e w1 ⟨rfl, h1, k1⟩
  obtain ⟨hb0, hb1⟩ := byteM_rng H0.out.rdr
  obtain ⟨r, hr⟩ : ∃ r, r = byteM xs false := ⟨_, rfl⟩
  have hbf : r.1 % 64 ≠ 0 → r.2.2 = false := by
    rw [hr]
    cases xs with
    | nil => intro h; exact absurd rfl h
    | cons x xs => intro _; rfl
  rw [← hr] at h1 hb0 hb1 ⊢
  have HR := Lib.hid hr
  have H1 := Lib.hid (H0.out.took h1 k1)
  clear hr h1 k1
  obtain ⟨x, ys, b⟩ := r
  dsimp only at hb0 hb1 hbf H1
  obtain ⟨m, hm⟩ : ∃ m : Nat, x % 64 = (m : Int) := Int.eq_ofNat_of_zero_le (by omega)
  have hm2 : m ≤ 63 := by omega
  have h63 : bits .and .i64 x 63 = (m : Int) := by rw [and63 hb0 hb1]; exact hm
  obtain ⟨ms, hms⟩ : ∃ ms, ms = msM k := ⟨_, rfl⟩
  have hmr := msM_rng k
  have HMS := Lib.hid hms
  rw [← hms] at hmr ⊢
  obtain ⟨hms1, hms2⟩ := hmr
  obtain ⟨q, hq⟩ : ∃ q, q = (m : Int) * ms := ⟨_, rfl⟩
  have hq0 : 0 ≤ q := by rw [hq]; exact Int.mul_nonneg (by omega) (by omega)
  have hq1 : q ≤ 1260 := by
    rw [hq]
    have := Int.mul_le_mul (show (m : Int) ≤ 63 by omega) hms2 (by omega) (by omega)
    omega
  have hw1 : wrap64 ((m : Int) * ms) = q := by rw [← hq]; unfold wrap64; omega
  have hw2 : IntKind.i64.wrap ((m : Int) * ms) = q := by rw [wrapEq']; exact hw1
  have hman : manyM ms xs = if m = 0 ∨ 120 < q then (([], 0), ys, true) else restM x m (if (x / 64) % 2 = 1 then padM ys else (0, ys, false)) := by
    unfold manyM
    rw [← HR.out]
    dsimp only
    rw [hm, Int.toNat_natCast, ← hq]
  have HMAN := Lib.hid hman
  have HMX := Lib.hid hm
  have HBF := Lib.hid hbf
  have c1 : w1.cell? ⟨g, 1, none⟩ = some (.bool b) := by
    obtain ⟨_, _, _, h, _⟩ := H1.out.rdr.c0
    exact h
  have f1 : w1.frozen? ⟨g, 1, none⟩ = false := by
    obtain ⟨_, _, _, _, _, h, _⟩ := H1.out.rdr.c0
    exact h
  have p0 : w1.cell? ⟨pb, 0, none⟩ = some (.int .i64 k) := H1.out.bx.cell 0
  clear hman hq hm hbf hms
  by_cases hm0 : m = 0
  · subst hm0
    have hM : manyM ms xs = (([], 0), ys, true) := by rw [HMAN.out, if_pos (.inl rfl)]
    have HM := Lib.hid hM
    have HS := Lib.hid H1.out.spoil
    clear hM
    go_wp2_with fail
    all_goals (
      go_end0
      refine ⟨rfl, _, _, _, _, _, HS.out, ?_, fun h => by cases h⟩
      rw [← HMS.out, HM.out])
  · have hb : b = false := HBF.out (by rw [HMX.out]; omega)
    subst hb
    have hm1 : 1 ≤ m := by omega
    have hne0 : ((m : Int) == 0) = false := by simpa using hm0
    go_wp2_with fail
    refine (ms_calls w1 k hk).mono ?_
    rintro e w' ⟨rfl, rfl⟩
    rw [← HMS.out]
    by_cases hlq : 120 < q
    · have hM : manyM ms xs = (([], 0), ys, true) := by rw [HMAN.out, if_pos (.inr hlq)]
      have HM := Lib.hid hM
      have HS := Lib.hid H1.out.spoil
      clear hM
      go_wp2_with fail
      go_end0
      refine ⟨rfl, _, _, _, _, _, HS.out, ?_, fun h => by cases h⟩
      rw [← HMS.out, HM.out]
    · rw [if_neg (by omega)] at HMAN
      by_cases h64 : (x / 64) % 2 = 1
      · have e64 : bits .and .i64 x 64 = 64 := by rw [and64 hb0 hb1, if_pos h64]
        rw [if_pos h64] at HMAN
        clear h64 HBF HMX
        go_wp2_with fail
        clear hw1 hw2 h63 e64 c1 f1 p0
        go_loopw [6] (fun _ wr => ∃ (p : Nat) (zs : List Int), RmSt w0 w wr g pb k ch (.slice none 0 0) [] p zs false ∧ p + 254 * zs.length ≤ 254 * ys.length ∧ padM ys = (p + (padM zs).1, (padM zs).2)) (fun _ wr => lenAt wr g)
        case atStart => exact ⟨0, ys, H1.out, by omega, by simp⟩
        case round =>
          obtain ⟨p, zs, HZ, hle, hpad⟩ := hrel
          have HZ := Lib.hid HZ
          have HLE := Lib.hid hle
          have HPD := Lib.hid hpad
          have hla : lenAt wr g = zs.length := by
            obtain ⟨_, _, h, _⟩ := HZ.out.rdr.c0
            unfold lenAt
            rw [h]
          have HLA := Lib.hid hla
          have HYB : Hid (ys.length ≤ 140737488355328) := Lib.hid (by
            obtain ⟨_, _, _, _, _, _, _, h⟩ := H1.out.rdr.c0
            exact h)
          clear hle hpad hla
          go_wp2_with fail
          refine (one_calls w0 _ g zs false HZ.out.rdr).mono ?_
          rintro e w2 ⟨rfl, e1, e2⟩
          have HP2 := Lib.hid (HZ.out.took e1 e2)
          clear e1 e2
          have hp3 : w2.cell? ⟨pb, 3, none⟩ = some (.int .i64 p) := HP2.out.bx.cell 3
          have hf3 := HP2.out.bx.free 3
          cases zs with
          | nil =>
            dsimp only [byteM] at HP2 ⊢
            have hw3 : wrap64 (p : Int) = (p : Int) := pad_wrap (show p ≤ 254 * ys.length by have := HLE.out; simp only [List.length_nil] at this; omega) (Nat.le_trans HYB.out (by decide))
            have hw4 : IntKind.i64.wrap (p : Int) = (p : Int) := by rw [wrapEq']; exact hw3
            have hM : manyM ms xs = (([], 0), [], true) := by
              rw [HMAN.out, HPD.out]
              rfl
            have HM := Lib.hid hM
            have HP3 := Lib.hid (HP2.out.setPad p)
            have g1 : (w2.setCell ⟨pb, 3, none⟩ (.int .i64 p)).cell? ⟨g, 1, none⟩ = some (.bool true) := by
              obtain ⟨_, _, _, h, _⟩ := HP3.out.rdr.c0
              exact h
            have g2 : (w2.setCell ⟨pb, 3, none⟩ (.int .i64 p)).frozen? ⟨g, 1, none⟩ = false := by
              obtain ⟨_, _, _, _, _, h, _⟩ := HP3.out.rdr.c0
              exact h
            clear hM
            go_wp2_with fail
            generalize w2.setCell ⟨pb, 3, none⟩ (.int .i64 p) = w3 at *
            go_quiet (fail)
            go_wp2_with fail
            go_end0
            refine ⟨rfl, _, _, _, _, _, (HP3.out.keep0 (Keep.drewN _ _ _)).spoil, ?_, fun h => by cases h⟩
            rw [← HMS.out, HM.out]
          | cons y zs =>
            have hyr := byteM_rng HZ.out.rdr
            dsimp only [byteM] at hyr HP2 ⊢
            obtain ⟨hy0, hy1⟩ := hyr
            by_cases hy : y = 255
            · subst hy
              have HAR : Hid (p + 254 + 254 * zs.length ≤ 254 * ys.length) := Lib.hid (by have := HLE.out; simp only [List.length_cons] at this; omega)
              have hw3 : wrap64 ((p : Int) + 254) = ((p + 254 : Nat) : Int) := by
                rw [show (p : Int) + 254 = ((p + 254 : Nat) : Int) by omega]
                exact pad_wrap (Nat.le_trans (Nat.le_add_right _ _) HAR.out) (Nat.le_trans HYB.out (by decide))
              have hw4 : IntKind.i64.wrap ((p : Int) + 254) = ((p + 254 : Nat) : Int) := by rw [wrapEq']; exact hw3
              have g1 : w2.cell? ⟨g, 1, none⟩ = some (.bool false) := by
                obtain ⟨_, _, _, h, _⟩ := HP2.out.rdr.c0
                exact h
              have HP3 := Lib.hid (HP2.out.setPad ((p + 254 : Nat) : Int))
              have HPM : Hid (padM ys = (p + 254 + (padM zs).1, (padM zs).2)) := Lib.hid (by
                have e1 : padM (255 :: zs) = (254 + (padM zs).1, (padM zs).2) := by simp [padM]
                rw [HPD.out, e1]
                simp only [Prod.mk.injEq, and_true]
                omega)
              go_wp2_with fail
              go_roundw
              case rel => exact ⟨p + 254, zs, HP3.out, HAR.out, HPM.out⟩
              case measure =>
                have e1 : lenAt (w2.setCell ⟨pb, 3, none⟩ (.int .i64 ((p + 254 : Nat) : Int))) g = zs.length := by
                  obtain ⟨_, _, h, _⟩ := HP3.out.rdr.c0
                  unfold lenAt
                  rw [h]
                have e2 := HLA.out
                simp only [List.length_cons] at e2
                have e3 : ((p + 254 : Nat) : Int) = (p : Int) + 254 := by omega
                rw [e3] at e1
                omega
            · obtain ⟨yn, rfl⟩ := Int.eq_ofNat_of_zero_le hy0
              have hy2 : (yn : Int) < 255 := by omega
              obtain ⟨P, hP⟩ : ∃ P, P = p + yn := ⟨_, rfl⟩
              have HAR : Hid (p + yn + 254 * zs.length ≤ 254 * ys.length + 254) := Lib.hid (pad_ar HLE.out hy1)
              have HPM : Hid (padM ys = (P, zs, false)) := Lib.hid (by rw [HPD.out]; simp only [padM, if_neg hy, Int.toNat_natCast]; rw [hP])
              have hw3 : wrap64 ((p : Int) + (yn : Int)) = (P : Int) := by
                rw [show (p : Int) + (yn : Int) = (P : Int) by omega]
                exact pad_wrap (n := ys.length + 1) (by have := HAR.out; omega) (by have h1 := HLE.out; have h2 := HYB.out; simp only [List.length_cons] at h1; omega)
              have hw4 : IntKind.i64.wrap ((p : Int) + (yn : Int)) = (P : Int) := by rw [wrapEq']; exact hw3
              have HP3 := Lib.hid (HP2.out.setPad (P : Int))
              have HMM : Hid (manyM ms xs = restM x m (P, zs, false)) := Lib.hid (by rw [HMAN.out, HPM.out])
              obtain ⟨n2, hn2⟩ : ∃ n2, n2 = zs.length := ⟨_, rfl⟩
              obtain ⟨Z, zn, zc, hzb, hza⟩ := HP3.out.rdr.at_
              have g0 : (w2.setCell ⟨pb, 3, none⟩ (.int .i64 P)).cell? ⟨g, 0, none⟩ = some (.slice Z zn zc) := hzb.cell 0
              have g1 : (w2.setCell ⟨pb, 3, none⟩ (.int .i64 P)).cell? ⟨g, 1, none⟩ = some (.bool false) := hzb.cell 1
              have g2 := hzb.free 0
              have g3 := hzb.free 1
              have g4 : (w2.setCell ⟨pb, 3, none⟩ (.int .i64 P)).cell? ⟨pb, 3, none⟩ = some (.int .i64 P) := HP3.out.bx.cell 3
              have hzn : zs.length = zn := hza.ln
              have HZN := Lib.hid hzn
              have HZA := Lib.hid hza
              have HZB := Lib.hid hzb
              have hzc := hza.cp
              have hzl := hza.big
              clear hzb hza hzn hn2 hP hy HPM HAR
              go_wp2_with fail
              generalize w2.setCell ⟨pb, 3, none⟩ (.int .i64 P) = w3 at *
              by_cases hpn : zn < P
              · have hd : decide ((zn : Int) < (P : Int)) = true := decide_eq_true (by omega)
                have hd2 : decide (zn < P) = true := decide_eq_true hpn
                have hM : manyM ms xs = (([], 0), zs, true) := by
                  rw [HMM.out]
                  unfold restM
                  rw [if_pos (.inr (by rw [HZN.out]; exact hpn))]
                have HM := Lib.hid hM
                clear hM hpn
                go_quiet (fail)
                go_wp2_with fail
                go_end0
                refine ⟨rfl, _, _, _, _, _, (HP3.out.keep0 (Keep.drewN _ _ _)).spoil, ?_, fun h => by cases h⟩
                rw [← HMS.out, HM.out]
              · have hd : decide ((zn : Int) < (P : Int)) = false := decide_eq_false (by omega)
                have hd2 : decide (zn < P) = false := decide_eq_false hpn
                obtain ⟨N2, hN2⟩ : ∃ N2, N2 = zn - P := ⟨_, rfl⟩
                have hN : N2 ≤ zn := by omega
                have HMC : Hid (manyM ms xs = if x < 128 then (((equalM m (zs.take N2) false).1, P), (equalM m (zs.take N2) false).2) else (((unlikeM (zs.take N2) m).1, P), (unlikeM (zs.take N2) m).2)) := Lib.hid (by
                  rw [HMM.out]
                  unfold restM
                  dsimp only
                  rw [HZN.out, if_neg (by simp; omega), ← hN2])
                have hct := cut_to_v slB Z zn zc N2 hN hzc
                have hs1 : wrap64 ((zn : Int) - (P : Int)) = (N2 : Int) := by
                  rw [show (zn : Int) - (P : Int) = (N2 : Int) by omega]
                  exact pad_wrap (n := N2) (by omega) (Nat.le_trans hN (Nat.le_trans hzl (by decide)))
                have hs2 : IntKind.i64.wrap ((zn : Int) - (P : Int)) = (N2 : Int) := by rw [wrapEq']; exact hs1
                clear hN2 hpn
                go_quiet (fail)
                obtain ⟨wy, hwy⟩ : ∃ wy, wy = w3.drewN nq := ⟨_, rfl⟩
                have HP4 : Hid (RmSt w0 w wy g pb k ch (.slice none 0 0) [] P zs false) := Lib.hid (by rw [hwy]; exact HP3.out.keep0 (Keep.drewN _ _ _))
                have HZB4 : Hid (Blk wy g #[.slice Z zn zc, .bool false] 64) := Lib.hid (by rw [hwy]; exact HZB.out.drewN _)
                rw [← hwy]
                clear hwy g0 g1 g2 g3 g4
                have g0 : wy.cell? ⟨g, 0, none⟩ = some (.slice Z zn zc) := HZB4.out.cell 0
                have g2 := HZB4.out.free 0
                have g4 : wy.cell? ⟨pb, 3, none⟩ = some (.int .i64 P) := HP4.out.bx.cell 3
                have HTQ : Hid (RmSt w0 w (wy.setCell ⟨g, 0, none⟩ (.slice Z N2 zc)).drew g pb k ch (.slice none 0 0) [] P (zs.take N2) false) := Lib.hid ((HP4.out.took (Rdr.store HP4.out.rdr.kept HP4.out.rdr.og HZB4.out (A' := Z) (n' := N2) (c' := zc) (bad' := false) rfl (HZA.out.to_ hN)) (Keep.setb _ _ _ _)).keep0 (Keep.drew _ _))
                go_wp2_with fail
                go_still_tail 18, (by kernel_rfl)
                change wpList _ _ _ _ _ wy.drew
                obtain ⟨ts, hts⟩ : ∃ ts, ts = zs.take N2 := ⟨_, rfl⟩
                rw [← hts] at HTQ HMC
                clear hts
                obtain ⟨T, tc, t0, t1, tf0, tf1, htc, htb⟩ := HTQ.out.rdr.c0
                obtain ⟨n3, hn3⟩ : ∃ n3, n3 = ts.length := ⟨_, rfl⟩
                rw [← hn3] at t0 htc htb
                have HN3 := Lib.hid hn3
                have hm0' : (m : Int) ≠ 0 := by omega
                clear hn3
                by_cases hx : x < 128
                · have h128 : bits .and .i64 x 128 = 0 := by rw [and128 hb0 hb1, if_pos hx]
                  rw [if_pos hx] at HMC
                  clear hx
                  by_cases hdv : n3 % m = 0
                  · obtain ⟨kk, hkk⟩ : ∃ kk, kk = n3 / m := ⟨_, rfl⟩
                    have hnk : n3 = m * kk := by
                      have := Nat.div_add_mod n3 m
                      rw [hdv, ← hkk] at this
                      omega
                    have hr1 : (n3 : Int) % (m : Int) = 0 := by exact_mod_cast hdv
                    have hqv : (n3 : Int) / (m : Int) = (kk : Int) := by rw [hkk]; rfl
                    have hq2' : wrap64 ((n3 : Int) / (m : Int)) = (kk : Int) := by
                      have : kk ≤ n3 := by rw [hkk]; exact Nat.div_le_self n3 m
                      rw [hqv]
                      exact pad_wrap (n := kk) (by omega) (Nat.le_trans this (Nat.le_trans htb (by decide)))
                    have HQV := Lib.hid hq2'
                    have HEQ : Hid (equalM m ts false = (chunkL ts kk m, ts.drop (m * kk), false)) := Lib.hid (by
                      unfold equalM
                      rw [← HN3.out, if_neg (by simpa using hdv), ← hkk])
                    have HNK := Lib.hid hnk
                    clear hkk hdv hnk hqv hq2'
                    go_wp2_with fail
                    generalize (wy.setCell ⟨g, 0, none⟩ (.slice Z N2 zc)).drew = wq at *
                    have HL0 : Hid (RmSt w0 w wq g pb k ch (.slice none 0 0) (chunkL ts kk 0) P (ts.drop (0 * kk)) false) := Lib.hid (by rw [Nat.zero_mul]; exact HTQ.out)
                    clear HTQ t0 t1 tf0 tf1 hr1
                    go_loopw [8] (fun i wr => ∃ (j : Nat) (v : Value), j ≤ m ∧ i = .int .i64 j ∧ RmSt w0 w wr g pb k ch v (chunkL ts kk j) P (ts.drop (j * kk)) false) (fun i _ => m - (intOf i).toNat)
                    case atStart => exact ⟨0, _, by omega, rfl, HL0.out⟩
                    case round =>
                      clear HL0
                      obtain ⟨j, v, hj, rfl, HS⟩ := hrel
                      have HS := Lib.hid HS
                      by_cases hlt : j < m
                      · have hfr : frameM kk (ts.drop (j * kk)) false = ((ts.drop (j * kk)).take kk, ts.drop ((j + 1) * kk), false) := by
                          unfold frameM
                          have hle : (j + 1) * kk ≤ m * kk := Nat.mul_le_mul_right kk hlt
                          rw [Nat.add_mul, Nat.one_mul] at hle
                          rw [if_neg (by rw [List.length_drop, ← HN3.out, HNK.out]; omega), List.drop_drop, Nat.add_mul, Nat.one_mul]
                        have HF := Lib.hid hfr
                        have hqw := HQV.out
                        have hqw2 : IntKind.i64.wrap ((n3 : Int) / (m : Int)) = (kk : Int) := by rw [wrapEq']; exact hqw
                        have hqw3 : IntKind.i64.wrap (Int.tdiv (n3 : Int) (m : Int)) = (kk : Int) := by rw [Int.tdiv_eq_ediv_of_nonneg (by omega)]; exact hqw2
                        obtain ⟨VA, vn, vc, rfl⟩ := HS.out.frs.shape
                        have d2 : wr.cell? ⟨pb, 2, none⟩ = some (.slice VA vn vc) := HS.out.bx.cell 2
                        have HLN : Hid ((chunkL ts kk j).length ≤ 1000) := Lib.hid (by rw [chunkL_length]; omega)
                        clear hfr
                        go_wp2_with fail
                        go_region_law (first
                          | (refine step_frame rfl _ _ rfl rfl rfl HT.out.frs HXM.out HXO.out HXB.out HLN.out ?_; intro v' w8 m1 m2; have HAP := Lib.hid (HT.out.app m2); obtain ⟨FA, fn, fc, rfl⟩ := m1.shape; have HF8 := Lib.hid m1; clear m1 m2; have hz0 : w8.cell? ⟨pb, 2, none⟩ = some (.slice VA vn vc) := HAP.out.2.1.cell 2; have hz1 := HAP.out.2.1.free 2)
                          | (go_simp; go_at_call 34; refine (some_calls w0 _ g kk (ts.drop (j * kk)) false (HS.out.rdr.keep0 (Keep.drew [] _))).mono ?_; rintro e w7 ⟨xv, rfl, e1, e2, e3, e4⟩; rw [HF.out] at e1 e2; obtain ⟨XA, xn, xc, rfl⟩ := e1.shape; have HXM := Lib.hid e1; have HT := Lib.hid ((HS.out.keep0 (Keep.drew [] _)).took e2 e3); have HXO : Hid (∀ b, (Value.slice XA xn xc).ownBlock = some b → w.heap.size ≤ b) := Lib.hid (fun b hb => Nat.le_trans HS.out.kept.size (e4 b hb)); have HXB : Hid (w.heap.size ≤ w7.heap.size) := Lib.hid HT.out.kept.size; clear e1 e2 e3 e4; have hy2 : w7.cell? ⟨pb, 2, none⟩ = some (.slice VA vn vc) := HT.out.bx.cell 2; have hy3 : (w7.alloc (.cells #[.slice XA xn xc] 29)).cell? ⟨pb, 2, none⟩ = some (.slice VA vn vc) := (HT.out.keep0 (Keep.alloc [] _ _)).bx.cell 2))
                        all_goals (
                          have HU := Lib.hid (RmSt.fin HAP.out HS.out.op HS.out.ow HF8.out)
                          clear HAP HF8 HT HXM HXO HXB hz0 hz1 hy2 hy3
                          go_wp2_with fail
                          go_roundw
                          case rel => exact ⟨j + 1, _, by omega, by go_num, by rw [chunkL_succ]; exact HU.out⟩
                          case measure => simp [intOf]; omega)
                      · obtain rfl : j = m := by omega
                        go_wp2_with fail
                        go_end0
                        refine ⟨rfl, _, _, _, _, _, HS.out, ?_, fun _ => ?_⟩
                        · rw [← HMS.out, HMC.out, HEQ.out]
                        · rw [← HMS.out, HMC.out, HEQ.out]
                          exact ⟨rfl, rfl⟩
                  · have hr1 : ((n3 : Int) % (m : Int) != 0) = true := by
                      have : ¬ ((n3 : Int) % (m : Int) = 0) := by
                        intro e
                        exact hdv (by exact_mod_cast e)
                      simpa using this
                    have HEQ : Hid (equalM m ts false = ([], ts, true)) := Lib.hid (by
                      unfold equalM
                      rw [← HN3.out, if_pos hdv])
                    have HSP : Hid (RmSt w0 w (((wy.setCell ⟨g, 0, none⟩ (.slice Z N2 zc)).setCell ⟨g, 1, none⟩ (.bool true)).drew) g pb k ch (.slice none 0 0) [] P ts true) := Lib.hid HTQ.out.spoil
                    clear hdv
                    go_wp2_with fail
                    go_end0
                    refine ⟨rfl, _, _, _, _, _, HSP.out, ?_, fun h => by cases h⟩
                    rw [← HMS.out, HMC.out, HEQ.out]
                · have h128 : bits .and .i64 x 128 = 128 := by rw [and128 hb0 hb1, if_neg hx]
                  rw [if_neg hx] at HMC
                  obtain ⟨M, hM⟩ : ∃ M, M = m - 1 := ⟨_, rfl⟩
                  have hk1 : wrap64 ((m : Int) - 1) = (M : Int) := by
                    rw [show (m : Int) - 1 = (M : Int) by omega]
                    exact small64 (by omega)
                  have hk2 : IntKind.i64.wrap ((m : Int) - 1) = (M : Int) := by rw [wrapEq']; exact hk1
                  have HMM1 := Lib.hid hM
                  have hM62 : M ≤ 62 := by omega
                  have HK12 := Lib.hid (And.intro hk1 hk2)
                  clear hx hM
                  go_wp2_with fail
                  generalize (wy.setCell ⟨g, 0, none⟩ (.slice Z N2 zc)).drew = wq at *
                  have HL0 : Hid (RlSt w0 w wq g pb k ch P (lensM ts false 0).2.1 false (.slice none 0 0) (lensM ts false 0).1) := Lib.hid ⟨HTQ.out, MadeV.nil _ _, (fun b hb => by cases hb), by simp [lensM]⟩
                  clear HTQ t0 t1 tf0 tf1 h128 hk1 hk2
                  go_loopw [9, 10, 11] (fun lv sv i wr => ∃ j : Nat, j ≤ M ∧ i = .int .i64 j ∧ sv = .int .i64 (sumN (lensM ts false j).1 j) ∧ (lensM ts false j).2.2 = false ∧ RlSt w0 w wr g pb k ch P (lensM ts false j).2.1 false lv (lensM ts false j).1) (fun _ _ i _ => M - (intOf i).toNat)
                  case atStart => exact ⟨0, by omega, rfl, rfl, rfl, HL0.out⟩
                  case round =>
                    clear HL0
                    obtain ⟨j, hj, rfl, rfl, hbj, HS⟩ := hrel
                    have HS := Lib.hid HS
                    have HBJ := Lib.hid hbj
                    have hk1 := HK12.out.1
                    have hk2 := HK12.out.2
                    clear hbj
                    by_cases hlt : j < M
                    · obtain ⟨r, hr⟩ : ∃ r, r = lensM ts false j := ⟨_, rfl⟩
                      have hlen : r.1.length = j := by rw [hr]; exact lensM_length _ _ _
                      have hsu : lensM ts false (j + 1) = (r.1 ++ [(lenM r.2.1 r.2.2).1], (lenM r.2.1 r.2.2).2) := by rw [hr]; rfl
                      have hear : (rlenM r.2.1 r.2.2).2.2 = true → (unlikeM ts m).2.2 = true := fun h => unlike_early (j := j) (by rw [← HMM1.out]; exact hlt) (by rw [← hr]; exact h)
                      rw [← hr] at HS HBJ ⊢
                      have hsl := sumN_le HS.out.rng j
                      obtain ⟨s1, hs1⟩ : ∃ s1, s1 = sumN r.1 j := ⟨_, rfl⟩
                      rw [← hs1] at hsl ⊢
                      obtain ⟨ls, us, bu⟩ := r
                      dsimp only at HS HBJ hlen hsu hear hs1
                      have hbu := HBJ.out
                      subst hbu
                      have HLE := Lib.hid hlen
                      have HSU := Lib.hid hsu
                      have HEA := Lib.hid hear
                      have HS1 := Lib.hid hs1
                      clear hr hlen hsu hear hs1 HBJ
                      go_wp2_with fail
                      refine (rlength_calls w0 _ g us false HS.out.st.rdr).mono ?_
                      rintro e w2 ⟨rfl, e1, e2⟩
                      obtain ⟨hr0, hr1'⟩ := len_rng HS.out.st.rdr
                      have HT := Lib.hid (HS.out.took e1 e2)
                      obtain ⟨y, hy⟩ := Int.eq_ofNat_of_zero_le hr0
                      have hy2 : y ≤ 1275 := by omega
                      have hry : (rlenM us false).1 = (y : Int) := hy
                      rw [hry]
                      have HY := Lib.hid hy
                      have HYR : Hid (0 ≤ (y : Int) ∧ (y : Int) ≤ 2000) := Lib.hid ⟨by omega, by omega⟩
                      clear e1 e2 HS hr0 hr1' hry hy
                      have HTA : Hid (MadeV (w2.alloc (.cells #[.int .i64 y] 3)) 3 _ _) := Lib.hid (HT.out.made.keep0 (Keep.alloc [] _ _))
                      have HRD : Hid (RdV (w2.alloc (.cells #[.int .i64 y] 3)) (some ⟨w2.heap.size, 0, none⟩) [.int .i64 y]) := Lib.hid (rdV_lit w2 3 [.int .i64 y])
                      go_wp2_with (at_builtin; refine append_v slI (by first | rfl | kernel_rfl) _ _ rfl _ (ls.map (Value.int .i64)) rfl HTA.out _ _ _ [.int .i64 y] rfl rfl HRD.out (by intro u hu; simp only [List.mem_singleton] at hu; subst hu; rfl) (by have := HLE.out; simp; omega) (by have := HLE.out; simp; omega) (fun hA => by cases hA) ?_)
                      intro v' w3 m1 m2 m3
                      have HU := Lib.hid (HT.out.app m1 m2 (by simpa using m3) HYR.out)
                      obtain ⟨LA, lc, hlv, _, _, hlr, _, _⟩ := m1.reads
                      rw [List.length_append, List.length_map, HLE.out, List.length_singleton] at hlv
                      subst hlv
                      obtain ⟨a, rfl, hca⟩ := hlr j (.int .i64 y) (by
                        rw [List.getElem?_append_right (by rw [List.length_map, HLE.out]; exact Nat.le_refl _), List.length_map, HLE.out]
                        simp)
                      clear m1 m2 m3 HT HTA HRD hlr
                      have e1 : wrap64 ((s1 : Int) + (y : Int)) = ((s1 + y : Nat) : Int) := by
                        rw [show (s1 : Int) + (y : Int) = ((s1 + y : Nat) : Int) by omega]
                        exact small64 (by omega)
                      have e2 : IntKind.i64.wrap ((s1 : Int) + (y : Int)) = ((s1 + y : Nat) : Int) := by rw [wrapEq']; exact e1
                      have hj0 : (0 : Int) ≤ (j : Int) := by omega
                      have hj1 : (j : Int) < (j : Int) + 1 := by omega
                      have hj2 : (j : Int) < ((j + 1 : Nat) : Int) := by omega
                      obtain ⟨bz, hbz⟩ : ∃ bz, bz = (rlenM us false).2.2 := ⟨_, rfl⟩
                      rw [← hbz] at HU
                      have g1 : w3.cell? ⟨g, 1, none⟩ = some (.bool bz) := by
                        obtain ⟨_, _, _, h, _⟩ := HU.out.st.rdr.c0
                        exact h
                      have HBZ := Lib.hid hbz
                      clear hbz
                      cases bz with
                      | true =>
                        go_wp2_with fail
                        go_end0
                        refine ⟨rfl, _, _, _, _, _, HU.out.st, ?_, fun h => by cases h⟩
                        rw [← HMS.out, HMC.out]
                        exact (HEA.out HBZ.out.symm).symm
                      | false =>
                        have hsame := rlen_same HBZ.out.symm
                        have HSM := Lib.hid hsame
                        clear hsame
                        go_wp2_with fail
                        go_roundw
                        case rel =>
                          refine ⟨j + 1, by omega, by go_num, ?_, ?_, ?_⟩
                          · rw [HSU.out, sumN_snoc _ _ HLE.out, ← HS1.out, HY.out, Int.toNat_natCast]
                            go_num
                          · rw [HSU.out, ← HSM.out]
                            exact HBZ.out.symm
                          · rw [HSU.out, HY.out, ← HSM.out]
                            exact HU.out
                        case measure => simp [intOf]; omega
                    · obtain rfl : j = M := by omega
                      obtain ⟨Q, qc, u0, u1, uf0, uf1, _, _⟩ := HS.out.st.rdr.c0
                      obtain ⟨n4, hn4⟩ : ∃ n4, n4 = (lensM ts false j).2.1.length := ⟨_, rfl⟩
                      obtain ⟨s1, hs1⟩ : ∃ s1, s1 = sumN (lensM ts false j).1 j := ⟨_, rfl⟩
                      rw [← hn4] at u0
                      rw [← hs1]
                      have HN4 := Lib.hid hn4
                      have HS1 := Lib.hid hs1
                      clear hn4 hs1
                      by_cases hsm : n4 < s1
                      · have hun : (unlikeM ts m).2.2 = true := unlike_sum (by rw [← HMM1.out, ← HN4.out, ← HS1.out]; exact hsm)
                        have HUN := Lib.hid hun
                        have HSP := Lib.hid HS.out.st.spoil
                        clear hun
                        go_wp2_with fail
                        go_end0
                        refine ⟨rfl, _, _, _, _, _, HSP.out, ?_, fun h => by cases h⟩
                        rw [← HMS.out, HMC.out]
                        exact HUN.out.symm
                      · have hll : (lensM ts false j).1.length = j := lensM_length ts false j
                        obtain ⟨LA, lc, hlv, _, _, _, _, _⟩ := HS.out.made.reads
                        rw [List.length_map, hll] at hlv
                        subst hlv
                        obtain ⟨q3, hq3⟩ : ∃ q3, q3 = lensM ts false j := ⟨_, rfl⟩
                        rw [← hq3] at HS HBJ hll
                        have HQ3 := Lib.hid hq3
                        obtain ⟨ls, us, bu⟩ := q3
                        dsimp only at HS HBJ hll
                        have hbu := HBJ.out
                        subst hbu
                        have HLL := Lib.hid hll
                        clear hq3 hll HN4 HS1 HBJ
                        go_wp2_with fail
                        clear u0 u1 uf0 uf1 hsm
                        have HF0 : Hid (RfSt w0 w wr g pb k ch (.slice none 0 0) (frsM us false ls 0).1 P (frsM us false ls 0).2.1 (frsM us false ls 0).2.2 (.slice LA j lc) ls) := Lib.hid ⟨HS.out.st, HS.out.made, HS.out.rng⟩
                        clear HS
                        go_loopw [12] (fun i wr => ∃ (z : Nat) (v : Value), z ≤ j ∧ i = .int .i64 z ∧ RfSt w0 w wr g pb k ch v (frsM us false ls z).1 P (frsM us false ls z).2.1 (frsM us false ls z).2.2 (.slice LA j lc) ls) (fun i _ => j - (intOf i).toNat)
                        case atStart => exact ⟨0, _, by omega, rfl, HF0.out⟩
                        case round =>
                          clear HF0
                          obtain ⟨z, v, hz, rfl, HS⟩ := hrel
                          have HS := Lib.hid HS
                          by_cases hlt : z < j
                          · obtain ⟨r, hr⟩ : ∃ r, r = frsM us false ls z := ⟨_, rfl⟩
                            have hlen : r.1.length = z := by rw [hr]; exact frsM_length _ _ _ _
                            have hsu : frsM us false ls (z + 1) = (r.1 ++ [(frameM (ls.getD z 0).toNat r.2.1 r.2.2).1], (frameM (ls.getD z 0).toNat r.2.1 r.2.2).2) := by rw [hr]; rfl
                            rw [← hr] at HS
                            obtain ⟨L, ps, bp⟩ := r
                            dsimp only at HS hlen hsu
                            obtain ⟨_, _, hzz, _, _, hrd, _, _⟩ := HS.out.made.reads
                            simp only [Value.slice.injEq] at hzz
                            obtain ⟨rfl, hq1, rfl⟩ := hzz
                            clear hq1
                            obtain ⟨a, rfl, hca⟩ := hrd z (.int .i64 (ls.getD z 0)) (by
                              have : z < ls.length := by rw [HLL.out]; exact hlt
                              simp [this])
                            have hyr := HS.out.rng (ls.getD z 0) (by
                              have : z < ls.length := by rw [HLL.out]; exact hlt
                              simp [this])
                            obtain ⟨y, hy⟩ : ∃ y : Nat, ls.getD z 0 = (y : Int) := Int.eq_ofNat_of_zero_le hyr.1
                            rw [hy] at hca hsu
                            rw [Int.toNat_natCast] at hsu
                            have HLN : Hid (L.length ≤ 1000) := Lib.hid (by rw [hlen]; omega)
                            have HSU := Lib.hid hsu
                            obtain ⟨VA, vn, vc, rfl⟩ := HS.out.st.frs.shape
                            have d2 : wr.cell? ⟨pb, 2, none⟩ = some (.slice VA vn vc) := HS.out.st.bx.cell 2
                            have hz0 : (0 : Int) ≤ (z : Int) := by omega
                            have hz1 : (z : Int) < (j : Int) := by omega
                            clear hr hlen hsu hy hyr hrd
                            go_wp2_with fail
                            go_region_law (first
                              | (refine step_frame rfl _ _ rfl rfl rfl HT.out.st.frs HXM.out HXO.out HXB.out HLN.out ?_; intro v' w8 m1 m2; have HAP := Lib.hid (HT.out.app m2); obtain ⟨FA, fn, fc, rfl⟩ := m1.shape; have HF8 := Lib.hid m1; clear m1 m2; have hx0 : w8.cell? ⟨pb, 2, none⟩ = some (.slice VA vn vc) := HAP.out.1.2.1.cell 2; have hx1 := HAP.out.1.2.1.free 2)
                              | (go_simp; go_at_call 34; refine (some_calls w0 _ g y ps bp (HS.out.st.rdr.keep0 (Keep.drew [] _))).mono ?_; rintro e w7 ⟨xv, rfl, e1, e2, e3, e4⟩; obtain ⟨XA, xn, xc, rfl⟩ := e1.shape; have HXM := Lib.hid e1; have HT := Lib.hid ((HS.out.keep0 (Keep.drew [] _)).took e2 e3); have HXO : Hid (∀ b, (Value.slice XA xn xc).ownBlock = some b → w.heap.size ≤ b) := Lib.hid (fun b hb => Nat.le_trans HS.out.st.kept.size (e4 b hb)); have HXB : Hid (w.heap.size ≤ w7.heap.size) := Lib.hid HT.out.st.kept.size; clear e1 e2 e3 e4; have hy2 : w7.cell? ⟨pb, 2, none⟩ = some (.slice VA vn vc) := HT.out.st.bx.cell 2; have hy3 : (w7.alloc (.cells #[.slice XA xn xc] 29)).cell? ⟨pb, 2, none⟩ = some (.slice VA vn vc) := (HT.out.st.keep0 (Keep.alloc [] _ _)).bx.cell 2))
                            all_goals (
                              have HU := Lib.hid (RfSt.fin HAP.out HS.out.st.op HS.out.st.ow HF8.out HS.out.rng)
                              clear HAP HF8 HT HXM HXO HXB hx0 hx1 hy2 hy3
                              go_wp2_with fail
                              go_roundw
                              case rel => exact ⟨z + 1, _, by omega, by go_num, by rw [HSU.out]; exact HU.out⟩
                              case measure => simp [intOf]; omega)
                          · obtain rfl : z = j := by omega
                            obtain ⟨r, hr⟩ : ∃ r, r = frsM us false ls z := ⟨_, rfl⟩
                            have hlen : r.1.length = z := by rw [hr]; exact frsM_length _ _ _ _
                            have hun : unlikeM ts m = (r.1 ++ [r.2.1], [], r.2.2) := by
                              unfold unlikeM
                              rw [← HMM1.out, ← HQ3.out]
                              dsimp only
                              rw [← hr]
                            rw [← hr] at HS
                            obtain ⟨L, ps, bp⟩ := r
                            dsimp only at HS hlen hun
                            have HUN := Lib.hid hun
                            obtain ⟨PA, pc2, p0, _, _, _, _, _⟩ := HS.out.st.rdr.c0
                            obtain ⟨pn, hpn⟩ : ∃ pn, pn = ps.length := ⟨_, rfl⟩
                            rw [← hpn] at p0
                            have HFM : Hid (frameM pn ps bp = (ps, [], bp)) := Lib.hid (by
                              unfold frameM
                              rw [hpn, if_neg (by omega), List.take_length, List.drop_length])
                            have HLN : Hid (L.length ≤ 1000) := Lib.hid (by rw [hlen]; omega)
                            obtain ⟨VA, vn, vc, rfl⟩ := HS.out.st.frs.shape
                            have d2 : wr.cell? ⟨pb, 2, none⟩ = some (.slice VA vn vc) := HS.out.st.bx.cell 2
                            clear hr hlen hun hpn hlt
                            go_wp2_with fail
                            go_region_law (first
                              | (refine step_frame rfl _ _ rfl rfl rfl HT.out.frs HXM.out HXO.out HXB.out HLN.out ?_; intro v' w8 m1 m2; have HAP := Lib.hid (HT.out.app m2); obtain ⟨FA, fn, fc, rfl⟩ := m1.shape; have HF8 := Lib.hid m1; clear m1 m2; have hx0 : w8.cell? ⟨pb, 2, none⟩ = some (.slice VA vn vc) := HAP.out.2.1.cell 2; have hx1 := HAP.out.2.1.free 2)
                              | (go_simp; go_at_call 34; refine (some_calls w0 _ g pn ps bp (HS.out.st.rdr.keep0 (Keep.drew [] _))).mono ?_; rintro e w7 ⟨xv, rfl, e1, e2, e3, e4⟩; rw [HFM.out] at e1 e2; obtain ⟨XA, xn, xc, rfl⟩ := e1.shape; have HXM := Lib.hid e1; have HT := Lib.hid ((HS.out.st.keep0 (Keep.drew [] _)).took e2 e3); have HXO : Hid (∀ b, (Value.slice XA xn xc).ownBlock = some b → w.heap.size ≤ b) := Lib.hid (fun b hb => Nat.le_trans HS.out.st.kept.size (e4 b hb)); have HXB : Hid (w.heap.size ≤ w7.heap.size) := Lib.hid HT.out.kept.size; clear e1 e2 e3 e4; have hy2 : w7.cell? ⟨pb, 2, none⟩ = some (.slice VA vn vc) := HT.out.bx.cell 2; have hy3 : (w7.alloc (.cells #[.slice XA xn xc] 29)).cell? ⟨pb, 2, none⟩ = some (.slice VA vn vc) := (HT.out.keep0 (Keep.alloc [] _ _)).bx.cell 2))
                            all_goals (
                              have HU := Lib.hid (RmSt.fin HAP.out HS.out.st.op HS.out.st.ow HF8.out)
                              clear HAP HF8 HT HXM HXO HXB hx0 hx1 hy2 hy3
                              go_wp2_with fail
                              go_end0
                              refine ⟨rfl, _, _, _, _, _, HU.out, ?_, fun _ => ?_⟩
                              · rw [← HMS.out, HMC.out, HUN.out]
                              · rw [← HMS.out, HMC.out, HUN.out]
                                exact ⟨rfl, rfl⟩)
      · have e64 : bits .and .i64 x 64 = 0 := by rw [and64 hb0 hb1, if_neg h64]
        rw [if_neg h64] at HMAN
        clear h64 HBF HMX
        have HTQ := H1
        have HMC : Hid (manyM ms xs = if x < 128 then (((equalM m ys false).1, 0), (equalM m ys false).2) else (((unlikeM ys m).1, 0), (unlikeM ys m).2)) := Lib.hid (by
          rw [HMAN.out]
          unfold restM
          dsimp only
          rw [if_neg (by simp), Nat.sub_zero, List.take_length])
        obtain ⟨ts, hts⟩ : ∃ ts, ts = ys := ⟨_, rfl⟩
        rw [← hts] at HTQ HMC
        clear hts
        obtain ⟨T, tc, t0, t1, tf0, tf1, htc, htb⟩ := HTQ.out.rdr.c0
        obtain ⟨n3, hn3⟩ : ∃ n3, n3 = ts.length := ⟨_, rfl⟩
        rw [← hn3] at t0 htc htb
        have HN3 := Lib.hid hn3
        have hm0' : (m : Int) ≠ 0 := by omega
        clear hn3
        by_cases hx : x < 128
        · have h128 : bits .and .i64 x 128 = 0 := by rw [and128 hb0 hb1, if_pos hx]
          rw [if_pos hx] at HMC
          clear hx
          by_cases hdv : n3 % m = 0
          · obtain ⟨kk, hkk⟩ : ∃ kk, kk = n3 / m := ⟨_, rfl⟩
            have hnk : n3 = m * kk := by
              have := Nat.div_add_mod n3 m
              rw [hdv, ← hkk] at this
              omega
            have hr1 : (n3 : Int) % (m : Int) = 0 := by exact_mod_cast hdv
            have hqv : (n3 : Int) / (m : Int) = (kk : Int) := by rw [hkk]; rfl
            have hq2' : wrap64 ((n3 : Int) / (m : Int)) = (kk : Int) := by
              have : kk ≤ n3 := by rw [hkk]; exact Nat.div_le_self n3 m
              rw [hqv]
              exact pad_wrap (n := kk) (by omega) (Nat.le_trans this (Nat.le_trans htb (by decide)))
            have HQV := Lib.hid hq2'
            have HEQ : Hid (equalM m ts false = (chunkL ts kk m, ts.drop (m * kk), false)) := Lib.hid (by
              unfold equalM
              rw [← HN3.out, if_neg (by simpa using hdv), ← hkk])
            have HNK := Lib.hid hnk
            clear hkk hdv hnk hqv hq2'
            go_wp2_with fail
            obtain ⟨wq, hwq⟩ : ∃ wq, wq = w1 := ⟨_, rfl⟩
            subst hwq
            have HL0 : Hid (RmSt w0 w wq g pb k ch (.slice none 0 0) (chunkL ts kk 0) 0 (ts.drop (0 * kk)) false) := Lib.hid (by rw [Nat.zero_mul]; exact HTQ.out)
            clear HTQ t0 t1 tf0 tf1 hr1
            go_loopw [8] (fun i wr => ∃ (j : Nat) (v : Value), j ≤ m ∧ i = .int .i64 j ∧ RmSt w0 w wr g pb k ch v (chunkL ts kk j) 0 (ts.drop (j * kk)) false) (fun i _ => m - (intOf i).toNat)
            case atStart => exact ⟨0, _, by omega, rfl, HL0.out⟩
            case round =>
              clear HL0
              obtain ⟨j, v, hj, rfl, HS⟩ := hrel
              have HS := Lib.hid HS
              by_cases hlt : j < m
              · have hfr : frameM kk (ts.drop (j * kk)) false = ((ts.drop (j * kk)).take kk, ts.drop ((j + 1) * kk), false) := by
                  unfold frameM
                  have hle : (j + 1) * kk ≤ m * kk := Nat.mul_le_mul_right kk hlt
                  rw [Nat.add_mul, Nat.one_mul] at hle
                  rw [if_neg (by rw [List.length_drop, ← HN3.out, HNK.out]; omega), List.drop_drop, Nat.add_mul, Nat.one_mul]
                have HF := Lib.hid hfr
                have hqw := HQV.out
                have hqw2 : IntKind.i64.wrap ((n3 : Int) / (m : Int)) = (kk : Int) := by rw [wrapEq']; exact hqw
                have hqw3 : IntKind.i64.wrap (Int.tdiv (n3 : Int) (m : Int)) = (kk : Int) := by rw [Int.tdiv_eq_ediv_of_nonneg (by omega)]; exact hqw2
                obtain ⟨VA, vn, vc, rfl⟩ := HS.out.frs.shape
                have d2 : wr.cell? ⟨pb, 2, none⟩ = some (.slice VA vn vc) := HS.out.bx.cell 2
                have HLN : Hid ((chunkL ts kk j).length ≤ 1000) := Lib.hid (by rw [chunkL_length]; omega)
                clear hfr
                go_wp2_with fail
                go_region_law (first
                  | (refine step_frame rfl _ _ rfl rfl rfl HT.out.frs HXM.out HXO.out HXB.out HLN.out ?_; intro v' w8 m1 m2; have HAP := Lib.hid (HT.out.app m2); obtain ⟨FA, fn, fc, rfl⟩ := m1.shape; have HF8 := Lib.hid m1; clear m1 m2; have hz0 : w8.cell? ⟨pb, 2, none⟩ = some (.slice VA vn vc) := HAP.out.2.1.cell 2; have hz1 := HAP.out.2.1.free 2)
                  | (go_simp; go_at_call 34; refine (some_calls w0 _ g kk (ts.drop (j * kk)) false (HS.out.rdr.keep0 (Keep.drew [] _))).mono ?_; rintro e w7 ⟨xv, rfl, e1, e2, e3, e4⟩; rw [HF.out] at e1 e2; obtain ⟨XA, xn, xc, rfl⟩ := e1.shape; have HXM := Lib.hid e1; have HT := Lib.hid ((HS.out.keep0 (Keep.drew [] _)).took e2 e3); have HXO : Hid (∀ b, (Value.slice XA xn xc).ownBlock = some b → w.heap.size ≤ b) := Lib.hid (fun b hb => Nat.le_trans HS.out.kept.size (e4 b hb)); have HXB : Hid (w.heap.size ≤ w7.heap.size) := Lib.hid HT.out.kept.size; clear e1 e2 e3 e4; have hy2 : w7.cell? ⟨pb, 2, none⟩ = some (.slice VA vn vc) := HT.out.bx.cell 2; have hy3 : (w7.alloc (.cells #[.slice XA xn xc] 29)).cell? ⟨pb, 2, none⟩ = some (.slice VA vn vc) := (HT.out.keep0 (Keep.alloc [] _ _)).bx.cell 2))
                all_goals (
                  have HU := Lib.hid (RmSt.fin HAP.out HS.out.op HS.out.ow HF8.out)
                  clear HAP HF8 HT HXM HXO HXB hz0 hz1 hy2 hy3
                  go_wp2_with fail
                  go_roundw
                  case rel => exact ⟨j + 1, _, by omega, by go_num, by rw [chunkL_succ]; exact HU.out⟩
                  case measure => simp [intOf]; omega)
              · obtain rfl : j = m := by omega
                go_wp2_with fail
                go_end0
                refine ⟨rfl, _, _, _, _, _, HS.out, ?_, fun _ => ?_⟩
                · rw [← HMS.out, HMC.out, HEQ.out]
                · rw [← HMS.out, HMC.out, HEQ.out]
                  exact ⟨rfl, rfl⟩
          · have hr1 : ((n3 : Int) % (m : Int) != 0) = true := by
              have : ¬ ((n3 : Int) % (m : Int) = 0) := by
                intro e
                exact hdv (by exact_mod_cast e)
              simpa using this
            have HEQ : Hid (equalM m ts false = ([], ts, true)) := Lib.hid (by
              unfold equalM
              rw [← HN3.out, if_pos hdv])
            have HSP : Hid (RmSt w0 w (w1.setCell ⟨g, 1, none⟩ (.bool true)) g pb k ch (.slice none 0 0) [] 0 ts true) := Lib.hid HTQ.out.spoil
            clear hdv
            go_wp2_with fail
            go_end0
            refine ⟨rfl, _, _, _, _, _, HSP.out, ?_, fun h => by cases h⟩
            rw [← HMS.out, HMC.out, HEQ.out]
        · have h128 : bits .and .i64 x 128 = 128 := by rw [and128 hb0 hb1, if_neg hx]
          rw [if_neg hx] at HMC
          obtain ⟨M, hM⟩ : ∃ M, M = m - 1 := ⟨_, rfl⟩
          have hk1 : wrap64 ((m : Int) - 1) = (M : Int) := by
            rw [show (m : Int) - 1 = (M : Int) by omega]
            exact small64 (by omega)
          have hk2 : IntKind.i64.wrap ((m : Int) - 1) = (M : Int) := by rw [wrapEq']; exact hk1
          have HMM1 := Lib.hid hM
          have hM62 : M ≤ 62 := by omega
          have HK12 := Lib.hid (And.intro hk1 hk2)
          clear hx hM
          go_wp2_with fail
          obtain ⟨wq, hwq⟩ : ∃ wq, wq = w1 := ⟨_, rfl⟩
          subst hwq
          have HL0 : Hid (RlSt w0 w wq g pb k ch 0 (lensM ts false 0).2.1 false (.slice none 0 0) (lensM ts false 0).1) := Lib.hid ⟨HTQ.out, MadeV.nil _ _, (fun b hb => by cases hb), by simp [lensM]⟩
          clear HTQ t0 t1 tf0 tf1 h128 hk1 hk2
          go_loopw [9, 10, 11] (fun lv sv i wr => ∃ j : Nat, j ≤ M ∧ i = .int .i64 j ∧ sv = .int .i64 (sumN (lensM ts false j).1 j) ∧ (lensM ts false j).2.2 = false ∧ RlSt w0 w wr g pb k ch 0 (lensM ts false j).2.1 false lv (lensM ts false j).1) (fun _ _ i _ => M - (intOf i).toNat)
          case atStart => exact ⟨0, by omega, rfl, rfl, rfl, HL0.out⟩
          case round =>
            clear HL0
            obtain ⟨j, hj, rfl, rfl, hbj, HS⟩ := hrel
            have HS := Lib.hid HS
            have HBJ := Lib.hid hbj
            have hk1 := HK12.out.1
            have hk2 := HK12.out.2
            clear hbj
            by_cases hlt : j < M
            · obtain ⟨r, hr⟩ : ∃ r, r = lensM ts false j := ⟨_, rfl⟩
              have hlen : r.1.length = j := by rw [hr]; exact lensM_length _ _ _
              have hsu : lensM ts false (j + 1) = (r.1 ++ [(lenM r.2.1 r.2.2).1], (lenM r.2.1 r.2.2).2) := by rw [hr]; rfl
              have hear : (rlenM r.2.1 r.2.2).2.2 = true → (unlikeM ts m).2.2 = true := fun h => unlike_early (j := j) (by rw [← HMM1.out]; exact hlt) (by rw [← hr]; exact h)
              rw [← hr] at HS HBJ ⊢
              have hsl := sumN_le HS.out.rng j
              obtain ⟨s1, hs1⟩ : ∃ s1, s1 = sumN r.1 j := ⟨_, rfl⟩
              rw [← hs1] at hsl ⊢
              obtain ⟨ls, us, bu⟩ := r
              dsimp only at HS HBJ hlen hsu hear hs1
              have hbu := HBJ.out
              subst hbu
              have HLE := Lib.hid hlen
              have HSU := Lib.hid hsu
              have HEA := Lib.hid hear
              have HS1 := Lib.hid hs1
              clear hr hlen hsu hear hs1 HBJ
              go_wp2_with fail
              refine (rlength_calls w0 _ g us false HS.out.st.rdr).mono ?_
              rintro e w2 ⟨rfl, e1, e2⟩
              obtain ⟨hr0, hr1'⟩ := len_rng HS.out.st.rdr
              have HT := Lib.hid (HS.out.took e1 e2)
              obtain ⟨y, hy⟩ := Int.eq_ofNat_of_zero_le hr0
              have hy2 : y ≤ 1275 := by omega
              have hry : (rlenM us false).1 = (y : Int) := hy
              rw [hry]
              have HY := Lib.hid hy
              have HYR : Hid (0 ≤ (y : Int) ∧ (y : Int) ≤ 2000) := Lib.hid ⟨by omega, by omega⟩
              clear e1 e2 HS hr0 hr1' hry hy
              have HTA : Hid (MadeV (w2.alloc (.cells #[.int .i64 y] 3)) 3 _ _) := Lib.hid (HT.out.made.keep0 (Keep.alloc [] _ _))
              have HRD : Hid (RdV (w2.alloc (.cells #[.int .i64 y] 3)) (some ⟨w2.heap.size, 0, none⟩) [.int .i64 y]) := Lib.hid (rdV_lit w2 3 [.int .i64 y])
              go_wp2_with (at_builtin; refine append_v slI (by first | rfl | kernel_rfl) _ _ rfl _ (ls.map (Value.int .i64)) rfl HTA.out _ _ _ [.int .i64 y] rfl rfl HRD.out (by intro u hu; simp only [List.mem_singleton] at hu; subst hu; rfl) (by have := HLE.out; simp; omega) (by have := HLE.out; simp; omega) (fun hA => by cases hA) ?_)
              intro v' w3 m1 m2 m3
              have HU := Lib.hid (HT.out.app m1 m2 (by simpa using m3) HYR.out)
              obtain ⟨LA, lc, hlv, _, _, hlr, _, _⟩ := m1.reads
              rw [List.length_append, List.length_map, HLE.out, List.length_singleton] at hlv
              subst hlv
              obtain ⟨a, rfl, hca⟩ := hlr j (.int .i64 y) (by
                rw [List.getElem?_append_right (by rw [List.length_map, HLE.out]; exact Nat.le_refl _), List.length_map, HLE.out]
                simp)
              clear m1 m2 m3 HT HTA HRD hlr
              have e1 : wrap64 ((s1 : Int) + (y : Int)) = ((s1 + y : Nat) : Int) := by
                rw [show (s1 : Int) + (y : Int) = ((s1 + y : Nat) : Int) by omega]
                exact small64 (by omega)
              have e2 : IntKind.i64.wrap ((s1 : Int) + (y : Int)) = ((s1 + y : Nat) : Int) := by rw [wrapEq']; exact e1
              have hj0 : (0 : Int) ≤ (j : Int) := by omega
              have hj1 : (j : Int) < (j : Int) + 1 := by omega
              have hj2 : (j : Int) < ((j + 1 : Nat) : Int) := by omega
              obtain ⟨bz, hbz⟩ : ∃ bz, bz = (rlenM us false).2.2 := ⟨_, rfl⟩
              rw [← hbz] at HU
              have g1 : w3.cell? ⟨g, 1, none⟩ = some (.bool bz) := by
                obtain ⟨_, _, _, h, _⟩ := HU.out.st.rdr.c0
                exact h
              have HBZ := Lib.hid hbz
              clear hbz
              cases bz with
              | true =>
                go_wp2_with fail
                go_end0
                refine ⟨rfl, _, _, _, _, _, HU.out.st, ?_, fun h => by cases h⟩
                rw [← HMS.out, HMC.out]
                exact (HEA.out HBZ.out.symm).symm
              | false =>
                have hsame := rlen_same HBZ.out.symm
                have HSM := Lib.hid hsame
                clear hsame
                go_wp2_with fail
                go_roundw
                case rel =>
                  refine ⟨j + 1, by omega, by go_num, ?_, ?_, ?_⟩
                  · rw [HSU.out, sumN_snoc _ _ HLE.out, ← HS1.out, HY.out, Int.toNat_natCast]
                    go_num
                  · rw [HSU.out, ← HSM.out]
                    exact HBZ.out.symm
                  · rw [HSU.out, HY.out, ← HSM.out]
                    exact HU.out
                case measure => simp [intOf]; omega
            · obtain rfl : j = M := by omega
              obtain ⟨Q, qc, u0, u1, uf0, uf1, _, _⟩ := HS.out.st.rdr.c0
              obtain ⟨n4, hn4⟩ : ∃ n4, n4 = (lensM ts false j).2.1.length := ⟨_, rfl⟩
              obtain ⟨s1, hs1⟩ : ∃ s1, s1 = sumN (lensM ts false j).1 j := ⟨_, rfl⟩
              rw [← hn4] at u0
              rw [← hs1]
              have HN4 := Lib.hid hn4
              have HS1 := Lib.hid hs1
              clear hn4 hs1
              by_cases hsm : n4 < s1
              · have hun : (unlikeM ts m).2.2 = true := unlike_sum (by rw [← HMM1.out, ← HN4.out, ← HS1.out]; exact hsm)
                have HUN := Lib.hid hun
                have HSP := Lib.hid HS.out.st.spoil
                clear hun
                go_wp2_with fail
                go_end0
                refine ⟨rfl, _, _, _, _, _, HSP.out, ?_, fun h => by cases h⟩
                rw [← HMS.out, HMC.out]
                exact HUN.out.symm
              · have hll : (lensM ts false j).1.length = j := lensM_length ts false j
                obtain ⟨LA, lc, hlv, _, _, _, _, _⟩ := HS.out.made.reads
                rw [List.length_map, hll] at hlv
                subst hlv
                obtain ⟨q3, hq3⟩ : ∃ q3, q3 = lensM ts false j := ⟨_, rfl⟩
                rw [← hq3] at HS HBJ hll
                have HQ3 := Lib.hid hq3
                obtain ⟨ls, us, bu⟩ := q3
                dsimp only at HS HBJ hll
                have hbu := HBJ.out
                subst hbu
                have HLL := Lib.hid hll
                clear hq3 hll HN4 HS1 HBJ
                go_wp2_with fail
                clear u0 u1 uf0 uf1 hsm
                have HF0 : Hid (RfSt w0 w wr g pb k ch (.slice none 0 0) (frsM us false ls 0).1 0 (frsM us false ls 0).2.1 (frsM us false ls 0).2.2 (.slice LA j lc) ls) := Lib.hid ⟨HS.out.st, HS.out.made, HS.out.rng⟩
                clear HS
                go_loopw [12] (fun i wr => ∃ (z : Nat) (v : Value), z ≤ j ∧ i = .int .i64 z ∧ RfSt w0 w wr g pb k ch v (frsM us false ls z).1 0 (frsM us false ls z).2.1 (frsM us false ls z).2.2 (.slice LA j lc) ls) (fun i _ => j - (intOf i).toNat)
                case atStart => exact ⟨0, _, by omega, rfl, HF0.out⟩
                case round =>
                  clear HF0
                  obtain ⟨z, v, hz, rfl, HS⟩ := hrel
                  have HS := Lib.hid HS
                  by_cases hlt : z < j
                  · obtain ⟨r, hr⟩ : ∃ r, r = frsM us false ls z := ⟨_, rfl⟩
                    have hlen : r.1.length = z := by rw [hr]; exact frsM_length _ _ _ _
                    have hsu : frsM us false ls (z + 1) = (r.1 ++ [(frameM (ls.getD z 0).toNat r.2.1 r.2.2).1], (frameM (ls.getD z 0).toNat r.2.1 r.2.2).2) := by rw [hr]; rfl
                    rw [← hr] at HS
                    obtain ⟨L, ps, bp⟩ := r
                    dsimp only at HS hlen hsu
                    obtain ⟨_, _, hzz, _, _, hrd, _, _⟩ := HS.out.made.reads
                    simp only [Value.slice.injEq] at hzz
                    obtain ⟨rfl, hq1, rfl⟩ := hzz
                    clear hq1
                    obtain ⟨a, rfl, hca⟩ := hrd z (.int .i64 (ls.getD z 0)) (by
                      have : z < ls.length := by rw [HLL.out]; exact hlt
                      simp [this])
                    have hyr := HS.out.rng (ls.getD z 0) (by
                      have : z < ls.length := by rw [HLL.out]; exact hlt
                      simp [this])
                    obtain ⟨y, hy⟩ : ∃ y : Nat, ls.getD z 0 = (y : Int) := Int.eq_ofNat_of_zero_le hyr.1
                    rw [hy] at hca hsu
                    rw [Int.toNat_natCast] at hsu
                    have HLN : Hid (L.length ≤ 1000) := Lib.hid (by rw [hlen]; omega)
                    have HSU := Lib.hid hsu
                    obtain ⟨VA, vn, vc, rfl⟩ := HS.out.st.frs.shape
                    have d2 : wr.cell? ⟨pb, 2, none⟩ = some (.slice VA vn vc) := HS.out.st.bx.cell 2
                    have hz0 : (0 : Int) ≤ (z : Int) := by omega
                    have hz1 : (z : Int) < (j : Int) := by omega
                    clear hr hlen hsu hy hyr hrd
                    go_wp2_with fail
                    go_region_law (first
                      | (refine step_frame rfl _ _ rfl rfl rfl HT.out.st.frs HXM.out HXO.out HXB.out HLN.out ?_; intro v' w8 m1 m2; have HAP := Lib.hid (HT.out.app m2); obtain ⟨FA, fn, fc, rfl⟩ := m1.shape; have HF8 := Lib.hid m1; clear m1 m2; have hx0 : w8.cell? ⟨pb, 2, none⟩ = some (.slice VA vn vc) := HAP.out.1.2.1.cell 2; have hx1 := HAP.out.1.2.1.free 2)
                      | (go_simp; go_at_call 34; refine (some_calls w0 _ g y ps bp (HS.out.st.rdr.keep0 (Keep.drew [] _))).mono ?_; rintro e w7 ⟨xv, rfl, e1, e2, e3, e4⟩; obtain ⟨XA, xn, xc, rfl⟩ := e1.shape; have HXM := Lib.hid e1; have HT := Lib.hid ((HS.out.keep0 (Keep.drew [] _)).took e2 e3); have HXO : Hid (∀ b, (Value.slice XA xn xc).ownBlock = some b → w.heap.size ≤ b) := Lib.hid (fun b hb => Nat.le_trans HS.out.st.kept.size (e4 b hb)); have HXB : Hid (w.heap.size ≤ w7.heap.size) := Lib.hid HT.out.st.kept.size; clear e1 e2 e3 e4; have hy2 : w7.cell? ⟨pb, 2, none⟩ = some (.slice VA vn vc) := HT.out.st.bx.cell 2; have hy3 : (w7.alloc (.cells #[.slice XA xn xc] 29)).cell? ⟨pb, 2, none⟩ = some (.slice VA vn vc) := (HT.out.st.keep0 (Keep.alloc [] _ _)).bx.cell 2))
                    all_goals (
                      have HU := Lib.hid (RfSt.fin HAP.out HS.out.st.op HS.out.st.ow HF8.out HS.out.rng)
                      clear HAP HF8 HT HXM HXO HXB hx0 hx1 hy2 hy3
                      go_wp2_with fail
                      go_roundw
                      case rel => exact ⟨z + 1, _, by omega, by go_num, by rw [HSU.out]; exact HU.out⟩
                      case measure => simp [intOf]; omega)
                  · obtain rfl : z = j := by omega
                    obtain ⟨r, hr⟩ : ∃ r, r = frsM us false ls z := ⟨_, rfl⟩
                    have hlen : r.1.length = z := by rw [hr]; exact frsM_length _ _ _ _
                    have hun : unlikeM ts m = (r.1 ++ [r.2.1], [], r.2.2) := by
                      unfold unlikeM
                      rw [← HMM1.out, ← HQ3.out]
                      dsimp only
                      rw [← hr]
                    rw [← hr] at HS
                    obtain ⟨L, ps, bp⟩ := r
                    dsimp only at HS hlen hun
                    have HUN := Lib.hid hun
                    obtain ⟨PA, pc2, p0, _, _, _, _, _⟩ := HS.out.st.rdr.c0
                    obtain ⟨pn, hpn⟩ : ∃ pn, pn = ps.length := ⟨_, rfl⟩
                    rw [← hpn] at p0
                    have HFM : Hid (frameM pn ps bp = (ps, [], bp)) := Lib.hid (by
                      unfold frameM
                      rw [hpn, if_neg (by omega), List.take_length, List.drop_length])
                    have HLN : Hid (L.length ≤ 1000) := Lib.hid (by rw [hlen]; omega)
                    obtain ⟨VA, vn, vc, rfl⟩ := HS.out.st.frs.shape
                    have d2 : wr.cell? ⟨pb, 2, none⟩ = some (.slice VA vn vc) := HS.out.st.bx.cell 2
                    clear hr hlen hun hpn hlt
                    go_wp2_with fail
                    go_region_law (first
                      | (refine step_frame rfl _ _ rfl rfl rfl HT.out.frs HXM.out HXO.out HXB.out HLN.out ?_; intro v' w8 m1 m2; have HAP := Lib.hid (HT.out.app m2); obtain ⟨FA, fn, fc, rfl⟩ := m1.shape; have HF8 := Lib.hid m1; clear m1 m2; have hx0 : w8.cell? ⟨pb, 2, none⟩ = some (.slice VA vn vc) := HAP.out.2.1.cell 2; have hx1 := HAP.out.2.1.free 2)
                      | (go_simp; go_at_call 34; refine (some_calls w0 _ g pn ps bp (HS.out.st.rdr.keep0 (Keep.drew [] _))).mono ?_; rintro e w7 ⟨xv, rfl, e1, e2, e3, e4⟩; rw [HFM.out] at e1 e2; obtain ⟨XA, xn, xc, rfl⟩ := e1.shape; have HXM := Lib.hid e1; have HT := Lib.hid ((HS.out.st.keep0 (Keep.drew [] _)).took e2 e3); have HXO : Hid (∀ b, (Value.slice XA xn xc).ownBlock = some b → w.heap.size ≤ b) := Lib.hid (fun b hb => Nat.le_trans HS.out.st.kept.size (e4 b hb)); have HXB : Hid (w.heap.size ≤ w7.heap.size) := Lib.hid HT.out.kept.size; clear e1 e2 e3 e4; have hy2 : w7.cell? ⟨pb, 2, none⟩ = some (.slice VA vn vc) := HT.out.bx.cell 2; have hy3 : (w7.alloc (.cells #[.slice XA xn xc] 29)).cell? ⟨pb, 2, none⟩ = some (.slice VA vn vc) := (HT.out.keep0 (Keep.alloc [] _ _)).bx.cell 2))
                    all_goals (
                      have HU := Lib.hid (RmSt.fin HAP.out HS.out.st.op HS.out.st.ow HF8.out)
                      clear HAP HF8 HT HXM HXO HXB hx0 hx1 hy2 hy3
                      go_wp2_with fail
                      go_end0
                      refine ⟨rfl, _, _, _, _, _, HU.out, ?_, fun _ => ?_⟩
                      · rw [← HMS.out, HMC.out, HUN.out]
                      · rw [← HMS.out, HMC.out, HUN.out]
                        exact ⟨rfl, rfl⟩)
end Go.Proofs.Ytmnknegbbmjcbaa
