/- toc.Parse: the walk. -/
import Derived.Test.YtmnknegbbmjcbaaT7
import Derived.Deep.RegionLaw
import Derived.Laws.Tables
namespace Go.Proofs.Ytmnknegbbmjcbaa
open Go.RowKit

theorem and3 {x : Int} (h0 : 0 ≤ x) (h1 : x ≤ 255) : bits .and .i64 x 3 = x % 4 := by
  have : ∀ y : Fin 256, bits .and .i64 ((y.1 : Nat) : Int) 3 = ((y.1 : Nat) : Int) % 4 := by decide +kernel
  have h := this ⟨x.toNat, by omega⟩
  simpa [Int.toNat_of_nonneg h0] using h
theorem and1 {x : Int} (h0 : 0 ≤ x) (h1 : x ≤ 255) : bits .and .i64 x 1 = x % 2 := by
  have : ∀ y : Fin 256, bits .and .i64 ((y.1 : Nat) : Int) 1 = ((y.1 : Nat) : Int) % 2 := by decide +kernel
  have h := this ⟨x.toNat, by omega⟩
  simpa [Int.toNat_of_nonneg h0] using h
theorem parseM_cons (h : Int) (r : List Int) : parseM (h :: r) = if 12 ≤ h / 8 then none else if (foundM r h).2.2 = true ∨ longL (foundM r h).1.1 = true then none else some ⟨(h / 8).toNat, 1 + (h / 4) % 2, (foundM r h).1.1, (foundM r h).1.2⟩ := rfl
theorem pk_one (k ch p : Int) (A : Option Addr) (n d : Nat) : (#[Value.int .i64 k, .int .i64 ch, .slice A n d, .int .i64 p] : Array Value).all (·.oneCell') = true := by simp [Value.oneCell']
theorem pk_size (k ch p : Int) (A : Option Addr) (n d : Nat) : (Try.prog.info? 25).map (·.size) = some (#[Value.int .i64 k, .int .i64 ch, .slice A n d, .int .i64 p] : Array Value).size := by kernel_rfl
theorem Frs.shape {B : Nat} {w : World} {v : Value} {L : List (List Int)} (h : Frs B w v L) : ∃ A n c, v = .slice A n c := by
  obtain ⟨⟨vs, h1, _⟩, _⟩ := h
  exact h1.shape
theorem PaSt.app {w wr w' : World} {pb : Nat} {pc : Array Value} {ys : List Int} {bad : Bool} {v x : Value} {L : List (List Int)} (h : PaSt w wr pb pc ys bad) (hf : Frs w.heap.size wr v L) (k : Keep v.ownBlock.toList (wr.alloc (.cells #[x] 29)) w') : PaSt w w' pb pc ys bad := by
  have k0 := Keep.alloc [] wr (.cells #[x] 29)
  have h' := h.keep0 k0
  obtain ⟨⟨vs, m1, _⟩, ho⟩ := hf.keep0 k0
  obtain ⟨cs, hb⟩ := h'.rdr.blk
  have no : ∀ (b : Nat) (t : TypeId) (cs : Array Value), Blk (wr.alloc (.cells #[x] 29)) b cs t → 29 ≠ t → b ∉ v.ownBlock.toList := fun b t cs hb' ht hm => by
    simp only [Option.mem_toList] at hm
    exact m1.ne hb' ht b hm rfl
  exact ⟨h'.rdr.keep k (no _ _ _ hb (by decide)) (fun b hb' => by simp only [Option.mem_toList] at hb'; exact ho b hb'), h'.res.keep k (no _ _ _ h'.res (by decide)), h'.pk.keep k (no _ _ _ h'.pk (by decide)), h'.op⟩
theorem PaSt.frs {w wr w' : World} {pb : Nat} {pc : Array Value} {ys : List Int} {bad : Bool} {v : Value} {L : List (List Int)} (h : PaSt w wr pb pc ys bad) (hf : Frs w.heap.size wr v L) (k : Keep [w.heap.size + 1] wr w') : Frs w.heap.size w' v L := by
  obtain ⟨cs, hb⟩ := h.rdr.blk
  exact hf.keep k (Odd.one hb (by decide) (by decide))
/-- 'append(out, frame)' at a step of a region that draws. -/
theorem step_frame {B : Nat} {w : World} {v x : Value} {L : List (List Int)} {l : List Int} {o : Oper} {a : Act} {ops : Array Oper} {K : Act → World → Prop} {Q : Exit → Act → World → Prop} {E : Prop} (hgd : o.guard = none) (so xo : Operand)
    (ho : o.op = .call { callee := .builtin .append, args := #[so, xo], argTypes := #[23, 23] }) (hv : a.eval so = v) (hx : a.eval xo = .slice (some ⟨w.heap.size, 0, none⟩) 1 1)
    (hf : Frs B w v L) (hm : MadeV w 5 x (bytes l)) (hxo : ∀ b, x.ownBlock = some b → B ≤ b) (hB : B ≤ w.heap.size) (hlen : L.length ≤ 1000)
    (h : ∀ v' w', Frs B w' v' (L ++ [l]) → Keep v.ownBlock.toList (w.alloc (.cells #[x] 29)) w' → K (a.put o.dst v') w') :
    if Region.wanted o (yielded ops a.tmps) = true then Oper.wp Try.prog o a (w.alloc (.cells #[x] 29)) K Q else E := by
  obtain ⟨⟨vs, h1, h2, h3⟩, h4⟩ := hf
  have k0 := Keep.alloc [] w (.cells #[x] 29)
  refine step_append_v slF hgd so xo ho v vs hv (h1.keep0 k0) (some ⟨w.heap.size, 0, none⟩) 1 1 [x] hx rfl (rdV_lit w 29 [x]) (by intro u hu; simp only [List.mem_singleton] at hu; subst hu; exact hm.sl) (by omega) (by omega) (fun hA => by cases hA) ?_
  intro v' w' m1 m2 m3
  rw [World.size_alloc] at m3
  exact h v' w' (Frs.app h1 h2 h3 h4 hm hxo m1 m2 m3 hB) m2
theorem msM_rng (k : Nat) : 10 ≤ msM k ∧ msM k ≤ 20 := by unfold msM; omega
set_option maxHeartbeats 4000000
theorem parse_calls (A : Option Addr) (n c : Nat) (xs : List Int) (w : World) (h : ArgB w A n c xs) :
    Calls Try.prog 11 #[.slice A n c] w (RetP w (parseM xs)) := by
  have H := Lib.hid h
  clear h
  have HR0 : Hid (Rdr 51 w ((w.alloc (.cells #[.int .i64 0, .int .i64 0, .slice none 0 0, .int .i64 0] 25)).alloc (.cells #[.slice A n c, .bool false] 51)) (w.heap.size + 1) xs false) := by
    have hb := Blk.new (w.alloc (.cells #[.int .i64 0, .int .i64 0, .slice none 0 0, .int .i64 0] 25)) #[.slice A n c, .bool false] 51
    rw [World.size_alloc] at hb
    exact Lib.hid ⟨(Keep.alloc [] _ _).trans (Keep.alloc [] _ _), by omega, A, n, c, hb, H.out⟩
  have HE0 : Hid (Blk ((w.alloc (.cells #[.int .i64 0, .int .i64 0, .slice none 0 0, .int .i64 0] 25)).alloc (.cells #[.slice A n c, .bool false] 51)) w.heap.size #[.int .i64 0, .int .i64 0, .slice none 0 0, .int .i64 0] 25) := Lib.hid ((Blk.new w _ _).alloc _)
  go_enter Try.func11, Try.ntmps11
  go_wp2_with fail
  refine (byte_calls w _ (w.heap.size + 1) xs false HR0.out).mono ?_
  rintro e w1 ⟨rfl, h1, k1⟩
  have HE1 := Lib.hid (HE0.out.keep k1 (by simp))
  have HR1 := Lib.hid h1
  clear h1 k1 HE0 HR0
  cases xs with
  | nil =>
    dsimp only [byteM] at HR1 ⊢
    go_wp2_with fail
    refine (of_ok _ 0 (by omega)).mono ?_
    rintro e w2 ⟨rfl, k2⟩
    have hcb : (w2.alloc (.cells #[.int .i64 (modeM 0), .int .i64 (rateM 0), .int .i64 (msM 0)] 31)).cell? ⟨w.heap.size + 1, 1, none⟩ = some (.bool true) := by
      obtain ⟨_, _, _, h1, _⟩ := (HR1.out.keep0 (k2.trans (Keep.alloc [] _ _))).c0
      exact h1
    have HE2 : Hid (Blk (w2.alloc (.cells #[.int .i64 (modeM 0), .int .i64 (rateM 0), .int .i64 (msM 0)] 31)) w.heap.size #[.int .i64 0, .int .i64 0, .slice none 0 0, .int .i64 0] 25) := Lib.hid (HE1.out.keep (k2.trans (Keep.alloc [] _ _)) (by simp))
    have HK2 : Hid (Keep [] w (w2.alloc (.cells #[.int .i64 (modeM 0), .int .i64 (rateM 0), .int .i64 (msM 0)] 31))) := Lib.hid (HR1.out.kept.trans (k2.trans (Keep.alloc [] _ _)))
    clear k2 HE1 HR1
    unfold ofV cfgV
    go_wp2_with (refine wpList_store_row rfl 25 _ _ rfl w.heap.size #[.int .i64 0, .int .i64 0, .slice none 0 0, .int .i64 0] rfl rfl 25 _ HE2.out (pk_size _ _ _ _ _ _) rfl (pk_one _ _ _ _ _ _) ?_)
    refine bodyPost_ret (results_row2 rfl _ _ w.heap.size 25 _ _ rfl (HE2.out.row _) Try.underlying25 (pk_size _ _ _ _ _ _) _ rfl) rfl ?_
    exact ⟨HK2.out.trans' (Keep.row _ _ _) (by simp) (by simp), rfl⟩
  | cons x ys =>
    obtain ⟨hb0, hb1⟩ := rng_of H.out
    dsimp only [byteM] at HR1 ⊢
    by_cases hbig : 12 ≤ x / 8
    · have HM : Hid (parseM (x :: ys) = none) := Lib.hid (by rw [parseM_cons, if_pos hbig])
      have HBG := Lib.hid hbig
      clear hbig
      go_wp2_with fail
      refine (of_bad _ (x / 8) (.inr HBG.out)).mono ?_
      rintro e w2 ⟨rfl, k2⟩
      have hcb : (w2.alloc (.cells #[.int .i64 0, .int .i64 0, .int .i64 0] 31)).cell? ⟨w.heap.size + 1, 1, none⟩ = some (.bool false) := by
        obtain ⟨_, _, _, h1, _⟩ := (HR1.out.keep0 (k2.trans (Keep.alloc [] _ _))).c0
        exact h1
      have HE2 : Hid (Blk (w2.alloc (.cells #[.int .i64 0, .int .i64 0, .int .i64 0] 31)) w.heap.size #[.int .i64 0, .int .i64 0, .slice none 0 0, .int .i64 0] 25) := Lib.hid (HE1.out.keep (k2.trans (Keep.alloc [] _ _)) (by simp))
      have HK2 : Hid (Keep [] w (w2.alloc (.cells #[.int .i64 0, .int .i64 0, .int .i64 0] 31))) := Lib.hid (HR1.out.kept.trans (k2.trans (Keep.alloc [] _ _)))
      clear k2 HE1 HR1
      unfold ofBad cfgV
      go_wp2_with (refine wpList_store_row rfl 25 _ _ rfl w.heap.size #[.int .i64 0, .int .i64 0, .slice none 0 0, .int .i64 0] rfl rfl 25 _ HE2.out (pk_size _ _ _ _ _ _) rfl (pk_one _ _ _ _ _ _) ?_)
      refine bodyPost_ret (results_row2 rfl _ _ w.heap.size 25 _ _ rfl (HE2.out.row _) Try.underlying25 (pk_size _ _ _ _ _ _) _ rfl) rfl ?_
      rw [HM.out]
      exact ⟨HK2.out.trans' (Keep.row _ _ _) (by simp) (by simp), rfl⟩
    · obtain ⟨k, hk⟩ : ∃ k : Nat, x / 8 = (k : Int) := Int.eq_ofNat_of_zero_le (by omega)
      have hk12 : k < 12 := by omega
      obtain ⟨ch, hch⟩ : ∃ ch, ch = 1 + (x / 4) % 2 := ⟨_, rfl⟩
      have hch1 : 1 ≤ ch := by omega
      have hch2 : ch ≤ 2 := by omega
      have e1 : bits .and .i64 (x / 4) 1 = ch - 1 := by rw [and1 (by omega) (by omega)]; omega
      have e2 : wrap64 (1 + (ch - 1)) = ch := by unfold wrap64; omega
      have e3 : wrap64 ch = ch := by unfold wrap64; omega
      have e4 : IntKind.i64.wrap (1 + (ch - 1)) = ch := by rw [wrapEq']; exact e2
      have e5 : IntKind.i64.wrap ch = ch := by rw [wrapEq']; exact e3
      have HMOD : Hid (parseM (x :: ys) = if (foundM ys x).2.2 = true ∨ longL (foundM ys x).1.1 = true then none else some ⟨k, ch, (foundM ys x).1.1, (foundM ys x).1.2⟩) := Lib.hid (by
        rw [parseM_cons, if_neg hbig, hk, Int.toNat_natCast, ← hch])
      have HXK := Lib.hid hk
      have HRY : Hid ((∀ y ∈ ys, 0 ≤ y ∧ y ≤ 255) ∧ ys.length ≤ 140737488355328) := Lib.hid ⟨fun y hy => H.out.rng y (by simp [hy]), by have h1 := H.out.ln; have h2 := H.out.big; simp only [List.length_cons] at h1; omega⟩
      clear hbig hch
      go_wp2_with fail
      refine (of_ok _ k hk12).mono ?_
      rintro e w2 ⟨rfl, k2⟩
      unfold ofV cfgV
      have hms := msM_rng k
      obtain ⟨hms1, hms2⟩ := hms
      have HMSK : Hid (msM (x / 8).toNat = msM k) := Lib.hid (by rw [HXK.out, Int.toNat_natCast])
      generalize modeM k = mo at *
      generalize rateM k = ra at *
      generalize msM k = ms at *
      have kk : Keep [] w1 ((w2.alloc (.cells #[.int .i64 mo, .int .i64 ra, .int .i64 ms] 31)).alloc (.cells #[.int .i64 k, .int .i64 ch, .slice none 0 0, .int .i64 0] 25)) := (k2.trans (Keep.alloc [] _ _)).trans (Keep.alloc [] _ _)
      have HQ : Hid (PaSt w ((w2.alloc (.cells #[.int .i64 mo, .int .i64 ra, .int .i64 ms] 31)).alloc (.cells #[.int .i64 k, .int .i64 ch, .slice none 0 0, .int .i64 0] 25)) (w2.heap.size + 1) #[.int .i64 k, .int .i64 ch, .slice none 0 0, .int .i64 0] ys false) := by
        have hb := Blk.new (w2.alloc (.cells #[.int .i64 mo, .int .i64 ra, .int .i64 ms] 31)) #[.int .i64 k, .int .i64 ch, .slice none 0 0, .int .i64 0] 25
        rw [World.size_alloc] at hb
        exact Lib.hid ⟨HR1.out.keep0 kk, HE1.out.keep kk (by simp), hb, by have := HE1.out.lt; have := k2.size; omega⟩
      have HCB : Hid (Blk ((w2.alloc (.cells #[.int .i64 mo, .int .i64 ra, .int .i64 ms] 31)).alloc (.cells #[.int .i64 k, .int .i64 ch, .slice none 0 0, .int .i64 0] 25)) w2.heap.size #[.int .i64 mo, .int .i64 ra, .int .i64 ms] 31) := Lib.hid ((Blk.new w2 _ _).alloc _)
      have hcb0 : (w2.alloc (.cells #[.int .i64 mo, .int .i64 ra, .int .i64 ms] 31)).cell? ⟨w.heap.size + 1, 1, none⟩ = some (.bool false) := by
        obtain ⟨_, _, _, h1, _⟩ := (HR1.out.keep0 (k2.trans (Keep.alloc [] _ _))).c0
        exact h1
      clear k2 kk HR1 HE1
      have hx4 : x % 4 = 0 ∨ x % 4 = 1 ∨ x % 4 = 2 ∨ x % 4 = 3 := by omega
      rcases hx4 with hx4 | hx4 | hx4 | hx4
      · have h3 : bits .and .i64 x 3 = 0 := by rw [and3 hb0 hb1]; exact hx4
        have hfo : foundM ys x = (((equalM 1 ys false).1, 0), (equalM 1 ys false).2) := by unfold foundM; rw [if_pos hx4]
        clear hx4
        rw [hfo] at HMOD
        go_wp2_with fail
        refine (equal_calls w _ (w.heap.size + 1) 1 ys false HQ.out.rdr (by omega) (by omega)).mono ?_
        rintro e w3 ⟨fv, rfl, e1, e2, e3⟩
        obtain ⟨q, hq⟩ : ∃ q, q = equalM 1 ys false := ⟨_, rfl⟩
        have hfit := (sub_equal 1 ys false).fit HRY.out.1 HRY.out.2
        rw [← hq] at e1 e2 HMOD hfit
        obtain ⟨L, rest, bad⟩ := q
        dsimp only at e1 e2 HMOD hfit
        obtain ⟨FA, fc, rfl, hrf⟩ := e1.reads hfit
        have HP3 := Lib.hid (HQ.out.took e3 e2)
        have HF3 := Lib.hid (e1.weak HQ.out.rdr.kept.size)
        have HFT := Lib.hid hfit
        clear e1 e2 e3 hq hfit hrf HQ
        have hs2 := HP3.out.pk.free 2
        have hs0 : w3.cell? ⟨(w2.heap.size + 1), 2, none⟩ = some (.slice none 0 0) := HP3.out.pk.cell 2
        have HP : Hid (PaSt w (w3.setCell ⟨(w2.heap.size + 1), 2, none⟩ (.slice FA L.length fc)) (w2.heap.size + 1) #[.int .i64 k, .int .i64 ch, .slice FA L.length fc, .int .i64 0] rest bad) := Lib.hid (HP3.out.set 2 _)
        have HFR := Lib.hid (HF3.out.setP HP3.out.pk 2 (.slice FA L.length fc))
        have HRF : Hid (FrR (w3.setCell ⟨(w2.heap.size + 1), 2, none⟩ (.slice FA L.length fc)) FA L.length fc L) := Lib.hid (by
          obtain ⟨_, _, e1, e2⟩ := HFR.out.reads HFT.out
          simp only [Value.slice.injEq] at e1
          obtain ⟨rfl, _, rfl⟩ := e1
          exact e2)
        clear HP3 HF3
        have hcb : (w3.setCell ⟨(w2.heap.size + 1), 2, none⟩ (.slice FA L.length fc)).cell? ⟨w.heap.size + 1, 1, none⟩ = some (.bool bad) := by
          obtain ⟨_, _, _, h1, _⟩ := HP.out.rdr.c0
          exact h1
        have hcf : (w3.setCell ⟨(w2.heap.size + 1), 2, none⟩ (.slice FA L.length fc)).cell? ⟨(w2.heap.size + 1), 2, none⟩ = some (.slice FA L.length fc) := HP.out.pk.cell 2
        cases bad with
        | true =>
          rw [if_pos (.inl rfl)] at HMOD
          go_wp2_with (refine wpList_store_row rfl 25 _ _ rfl w.heap.size #[.int .i64 0, .int .i64 0, .slice none 0 0, .int .i64 0] rfl rfl 25 _ HP.out.res (pk_size _ _ _ _ _ _) rfl (pk_one _ _ _ _ _ _) ?_)
          refine bodyPost_ret (results_row2 rfl _ _ w.heap.size 25 _ _ rfl (HP.out.res.row _) Try.underlying25 (pk_size _ _ _ _ _ _) _ rfl) rfl ?_
          rw [HMOD.out]
          exact ⟨HP.out.rdr.kept.trans' (Keep.row _ _ _) (by simp) (by simp), rfl⟩
        | false =>
          go_wp2_with fail
          refine (containsLong FA L.length fc L _ HRF.out).mono ?_
          rintro e w' ⟨rfl, rfl⟩
          cases hl : anyL (fun n => decide (1275 < n)) L with
          | true =>
            rw [if_pos (.inr hl)] at HMOD
            clear hl
            go_wp2_with (refine wpList_store_row rfl 25 _ _ rfl w.heap.size #[.int .i64 0, .int .i64 0, .slice none 0 0, .int .i64 0] rfl rfl 25 _ HP.out.res (pk_size _ _ _ _ _ _) rfl (pk_one _ _ _ _ _ _) ?_)
            refine bodyPost_ret (results_row2 rfl _ _ w.heap.size 25 _ _ rfl (HP.out.res.row _) Try.underlying25 (pk_size _ _ _ _ _ _) _ rfl) rfl ?_
            rw [HMOD.out]
            exact ⟨HP.out.rdr.kept.trans' (Keep.row _ _ _) (by simp) (by simp), rfl⟩
          | false =>
            rw [if_neg (by rw [show longL L = false from hl]; simp)] at HMOD
            clear hl
            go_wp2_with (first
              | (refine wpList_load_row rfl 25 _ rfl (w2.heap.size + 1) rfl 25 _ (0, 0) _ HP.out.pk Try.underlying25 rfl (by kernel_rfl) ?_)
              | (refine wpList_store_row rfl 25 _ _ rfl w.heap.size #[.int .i64 k, .int .i64 ch, .slice FA L.length fc, .int .i64 0] rfl rfl 25 _ HP.out.res (pk_size _ _ _ _ _ _) rfl (pk_one _ _ _ _ _ _) ?_))
            refine bodyPost_ret (results_row2 rfl _ _ w.heap.size 25 _ _ rfl (HP.out.res.row _) Try.underlying25 (pk_size _ _ _ _ _ _) _ rfl) rfl ?_
            rw [HMOD.out]
            exact ⟨HP.out.rdr.kept.trans' (Keep.row _ _ _) (by simp) (by simp), _, rfl, HFR.out.keep (Keep.row _ _ _) (Odd.one HP.out.res (by decide) (by decide))⟩

      · have h3 : bits .and .i64 x 3 = 1 := by rw [and3 hb0 hb1]; exact hx4
        have hfo : foundM ys x = (((equalM 2 ys false).1, 0), (equalM 2 ys false).2) := by unfold foundM; rw [if_neg (by omega), if_pos hx4]
        clear hx4
        rw [hfo] at HMOD
        go_wp2_with fail
        refine (equal_calls w _ (w.heap.size + 1) 2 ys false HQ.out.rdr (by omega) (by omega)).mono ?_
        rintro e w3 ⟨fv, rfl, e1, e2, e3⟩
        obtain ⟨q, hq⟩ : ∃ q, q = equalM 2 ys false := ⟨_, rfl⟩
        have hfit := (sub_equal 2 ys false).fit HRY.out.1 HRY.out.2
        rw [← hq] at e1 e2 HMOD hfit
        obtain ⟨L, rest, bad⟩ := q
        dsimp only at e1 e2 HMOD hfit
        obtain ⟨FA, fc, rfl, hrf⟩ := e1.reads hfit
        have HP3 := Lib.hid (HQ.out.took e3 e2)
        have HF3 := Lib.hid (e1.weak HQ.out.rdr.kept.size)
        have HFT := Lib.hid hfit
        clear e1 e2 e3 hq hfit hrf HQ
        have hs2 := HP3.out.pk.free 2
        have hs0 : w3.cell? ⟨(w2.heap.size + 1), 2, none⟩ = some (.slice none 0 0) := HP3.out.pk.cell 2
        have HP : Hid (PaSt w (w3.setCell ⟨(w2.heap.size + 1), 2, none⟩ (.slice FA L.length fc)) (w2.heap.size + 1) #[.int .i64 k, .int .i64 ch, .slice FA L.length fc, .int .i64 0] rest bad) := Lib.hid (HP3.out.set 2 _)
        have HFR := Lib.hid (HF3.out.setP HP3.out.pk 2 (.slice FA L.length fc))
        have HRF : Hid (FrR (w3.setCell ⟨(w2.heap.size + 1), 2, none⟩ (.slice FA L.length fc)) FA L.length fc L) := Lib.hid (by
          obtain ⟨_, _, e1, e2⟩ := HFR.out.reads HFT.out
          simp only [Value.slice.injEq] at e1
          obtain ⟨rfl, _, rfl⟩ := e1
          exact e2)
        clear HP3 HF3
        have hcb : (w3.setCell ⟨(w2.heap.size + 1), 2, none⟩ (.slice FA L.length fc)).cell? ⟨w.heap.size + 1, 1, none⟩ = some (.bool bad) := by
          obtain ⟨_, _, _, h1, _⟩ := HP.out.rdr.c0
          exact h1
        have hcf : (w3.setCell ⟨(w2.heap.size + 1), 2, none⟩ (.slice FA L.length fc)).cell? ⟨(w2.heap.size + 1), 2, none⟩ = some (.slice FA L.length fc) := HP.out.pk.cell 2
        cases bad with
        | true =>
          rw [if_pos (.inl rfl)] at HMOD
          go_wp2_with (refine wpList_store_row rfl 25 _ _ rfl w.heap.size #[.int .i64 0, .int .i64 0, .slice none 0 0, .int .i64 0] rfl rfl 25 _ HP.out.res (pk_size _ _ _ _ _ _) rfl (pk_one _ _ _ _ _ _) ?_)
          refine bodyPost_ret (results_row2 rfl _ _ w.heap.size 25 _ _ rfl (HP.out.res.row _) Try.underlying25 (pk_size _ _ _ _ _ _) _ rfl) rfl ?_
          rw [HMOD.out]
          exact ⟨HP.out.rdr.kept.trans' (Keep.row _ _ _) (by simp) (by simp), rfl⟩
        | false =>
          go_wp2_with fail
          refine (containsLong FA L.length fc L _ HRF.out).mono ?_
          rintro e w' ⟨rfl, rfl⟩
          cases hl : anyL (fun n => decide (1275 < n)) L with
          | true =>
            rw [if_pos (.inr hl)] at HMOD
            clear hl
            go_wp2_with (refine wpList_store_row rfl 25 _ _ rfl w.heap.size #[.int .i64 0, .int .i64 0, .slice none 0 0, .int .i64 0] rfl rfl 25 _ HP.out.res (pk_size _ _ _ _ _ _) rfl (pk_one _ _ _ _ _ _) ?_)
            refine bodyPost_ret (results_row2 rfl _ _ w.heap.size 25 _ _ rfl (HP.out.res.row _) Try.underlying25 (pk_size _ _ _ _ _ _) _ rfl) rfl ?_
            rw [HMOD.out]
            exact ⟨HP.out.rdr.kept.trans' (Keep.row _ _ _) (by simp) (by simp), rfl⟩
          | false =>
            rw [if_neg (by rw [show longL L = false from hl]; simp)] at HMOD
            clear hl
            go_wp2_with (first
              | (refine wpList_load_row rfl 25 _ rfl (w2.heap.size + 1) rfl 25 _ (0, 0) _ HP.out.pk Try.underlying25 rfl (by kernel_rfl) ?_)
              | (refine wpList_store_row rfl 25 _ _ rfl w.heap.size #[.int .i64 k, .int .i64 ch, .slice FA L.length fc, .int .i64 0] rfl rfl 25 _ HP.out.res (pk_size _ _ _ _ _ _) rfl (pk_one _ _ _ _ _ _) ?_))
            refine bodyPost_ret (results_row2 rfl _ _ w.heap.size 25 _ _ rfl (HP.out.res.row _) Try.underlying25 (pk_size _ _ _ _ _ _) _ rfl) rfl ?_
            rw [HMOD.out]
            exact ⟨HP.out.rdr.kept.trans' (Keep.row _ _ _) (by simp) (by simp), _, rfl, HFR.out.keep (Keep.row _ _ _) (Odd.one HP.out.res (by decide) (by decide))⟩

      · have h3 : bits .and .i64 x 3 = 2 := by rw [and3 hb0 hb1]; exact hx4
        have hfo : foundM ys x = (([(frameM (lenM ys false).1.toNat (lenM ys false).2.1 (lenM ys false).2.2).1, (frameM (lenM ys false).1.toNat (lenM ys false).2.1 (lenM ys false).2.2).2.1], 0), [], (frameM (lenM ys false).1.toNat (lenM ys false).2.1 (lenM ys false).2.2).2.2) := by unfold foundM; rw [if_neg (by omega), if_neg (by omega), if_pos hx4]
        clear hx4
        have hsu := sub_found ys x
        rw [hfo] at HMOD hsu
        go_wp2_with fail
        refine (length_calls' w _ (w.heap.size + 1) ys false HQ.out.rdr).mono ?_
        rintro e w3 ⟨⟨rfl, e1, e2⟩, hr0, hr1⟩
        obtain ⟨q, hq⟩ : ∃ q, q = lenM ys false := ⟨_, rfl⟩
        rw [← hq] at e1 HMOD hsu hr0 hr1 ⊢
        obtain ⟨y, us, bu⟩ := q
        dsimp only at e1 HMOD hsu hr0 hr1 ⊢
        obtain ⟨y, rfl⟩ := Int.eq_ofNat_of_zero_le hr0
        rw [Int.toNat_natCast] at HMOD hsu
        have HP3 := Lib.hid (HQ.out.took e2 e1)
        clear e1 e2 hq hr0 hr1 HQ
        obtain ⟨q, hq⟩ : ∃ q, q = frameM y us bu := ⟨_, rfl⟩
        rw [← hq] at HMOD hsu
        have HQQ := Lib.hid hq
        have HFT : Hid (Fit [q.1, q.2.1]) := Lib.hid (hsu.fit HRY.out.1 HRY.out.2)
        clear hq hsu
        obtain ⟨f1, ps, bp⟩ := q
        dsimp only at HMOD HFT
        have hp2 : w3.cell? ⟨(w2.heap.size + 1), 2, none⟩ = some (.slice none 0 0) := HP3.out.pk.cell 2
        go_wp2_with fail
        go_region_law (first
          | (refine step_frame rfl _ _ rfl rfl rfl (Frs.nil _ _) HXM.out HXO.out HXB.out (by simp) ?_; intro v' w5 m1 m2; rw [List.nil_append] at m1; obtain ⟨VA, vn, vc, rfl⟩ := m1.shape; have HF5 := Lib.hid m1; have HP5 := Lib.hid (HT.out.app (Frs.nil _ _) m2); clear m1 m2; have hz0 : w5.cell? ⟨(w2.heap.size + 1), 2, none⟩ = some (.slice none 0 0) := HP5.out.pk.cell 2; have hz1 := HP5.out.pk.free 2)
          | (go_simp; go_at_call 26; refine (frame_calls w _ (w.heap.size + 1) y us bu (HP3.out.rdr.keep0 (Keep.drew [] _))).mono ?_; rintro e w4 ⟨xv, rfl, e1, e2, e3, e4⟩; rw [← HQQ.out] at e1 e2; obtain ⟨XA, xn, xc, rfl⟩ := e1.shape; have HXM := Lib.hid e1; have HT := Lib.hid ((HP3.out.keep0 (Keep.drew [] _)).took e3 e2); have HXO : Hid (∀ b, (Value.slice XA xn xc).ownBlock = some b → w.heap.size ≤ b) := Lib.hid (fun b hb => Nat.le_trans HP3.out.rdr.kept.size (e4 b hb)); have HXB : Hid (w.heap.size ≤ w4.heap.size) := Lib.hid HT.out.rdr.kept.size; clear e1 e2 e3 e4; have hy2 : w4.cell? ⟨(w2.heap.size + 1), 2, none⟩ = some (.slice none 0 0) := HT.out.pk.cell 2; have hy3 : (w4.alloc (.cells #[.slice XA xn xc] 29)).cell? ⟨(w2.heap.size + 1), 2, none⟩ = some (.slice none 0 0) := (HT.out.keep0 (Keep.alloc [] _ _)).pk.cell 2))
        all_goals (
          have HP6 := Lib.hid (HP5.out.set 2 (.slice VA vn vc))
          have HF6 := Lib.hid (HF5.out.setP HP5.out.pk 2 (.slice VA vn vc))
          have hq2 : (w5.setCell ⟨(w2.heap.size + 1), 2, none⟩ (.slice VA vn vc)).cell? ⟨(w2.heap.size + 1), 2, none⟩ = some (.slice VA vn vc) := HP6.out.pk.cell 2
          have HBK : Hid (Blk (w5.setCell ⟨(w2.heap.size + 1), 2, none⟩ (.slice VA vn vc)) (w2.heap.size + 1) #[.int .i64 k, .int .i64 ch, .slice VA vn vc, .int .i64 0] 25) := Lib.hid HP6.out.pk
          clear HP5 HF5 hz0 hz1 hy2 hy3 HT HXM HXO HXB hp2 HP3
          generalize w5.setCell ⟨(w2.heap.size + 1), 2, none⟩ (.slice VA vn vc) = w6 at *
          obtain ⟨PA, pcap, p0, p1, _, _, _, _⟩ := HP6.out.rdr.c0
          obtain ⟨pn, hpn⟩ : ∃ pn, pn = ps.length := ⟨_, rfl⟩
          rw [← hpn] at p0
          have HLP : Hid (frameM pn ps bp = (ps, [], bp)) := Lib.hid (by
            unfold frameM
            rw [hpn, if_neg (by omega), List.take_length, List.drop_length])
          clear hpn
          obtain ⟨L, hL⟩ : ∃ L, L = [f1, ps] := ⟨_, rfl⟩
          rw [← hL] at HMOD HFT
          have HLL := Lib.hid hL
          clear hL
          go_wp2_with fail
          go_region_law (first
            | (refine step_frame rfl _ _ rfl rfl rfl HF7.out HXM.out HXO.out HXB.out (by simp) ?_; intro v' w8 m1 m2; have HP8 := Lib.hid (HT.out.app HF7.out m2); rw [show [f1] ++ [ps] = L from HLL.out.symm] at m1; obtain ⟨FA, fc, rfl, _⟩ := m1.reads HFT.out; have HF8 := Lib.hid m1; clear m1 m2; have hz0 : w8.cell? ⟨(w2.heap.size + 1), 2, none⟩ = some (.slice VA vn vc) := HP8.out.pk.cell 2; have hz1 := HP8.out.pk.free 2)
            | (go_simp; go_at_call 26; refine (frame_calls w _ (w.heap.size + 1) pn ps bp (HP6.out.rdr.keep0 (Keep.drew [] _))).mono ?_; rintro e w7 ⟨xv, rfl, e1, e2, e3, e4⟩; rw [HLP.out] at e1 e2; obtain ⟨XA, xn, xc, rfl⟩ := e1.shape; have HXM := Lib.hid e1; have HT := Lib.hid ((HP6.out.keep0 (Keep.drew [] _)).took e3 e2); have HXO : Hid (∀ b, (Value.slice XA xn xc).ownBlock = some b → w.heap.size ≤ b) := Lib.hid (fun b hb => Nat.le_trans HP6.out.rdr.kept.size (e4 b hb)); have HXB : Hid (w.heap.size ≤ w7.heap.size) := Lib.hid HT.out.rdr.kept.size; have HF7 := Lib.hid (PaSt.frs (HP6.out.keep0 (Keep.drew [] _)) (HF6.out.keep0 (Keep.drew [] _)) e3); clear e1 e2 e3 e4; have hy2 : w7.cell? ⟨(w2.heap.size + 1), 2, none⟩ = some (.slice VA vn vc) := HT.out.pk.cell 2; have hy3 : (w7.alloc (.cells #[.slice XA xn xc] 29)).cell? ⟨(w2.heap.size + 1), 2, none⟩ = some (.slice VA vn vc) := (HT.out.keep0 (Keep.alloc [] _ _)).pk.cell 2))
          all_goals (
            have HP : Hid (PaSt w (w8.setCell ⟨(w2.heap.size + 1), 2, none⟩ (.slice FA L.length fc)) (w2.heap.size + 1) #[.int .i64 k, .int .i64 ch, .slice FA L.length fc, .int .i64 0] [] bp) := Lib.hid (HP8.out.set 2 _)
            have HFR := Lib.hid (HF8.out.setP HP8.out.pk 2 (.slice FA L.length fc))
            have HRF : Hid (FrR (w8.setCell ⟨(w2.heap.size + 1), 2, none⟩ (.slice FA L.length fc)) FA L.length fc L) := Lib.hid (by
              obtain ⟨_, _, e1, e2⟩ := HFR.out.reads HFT.out
              simp only [Value.slice.injEq] at e1
              obtain ⟨rfl, _, rfl⟩ := e1
              exact e2)
            clear HP8 HF8 HF7 HT HXM HXO HXB hz0 hz1 hy2 hy3 HP6 HF6 hq2 p0 p1 HBK
            obtain ⟨bad, hbad⟩ : ∃ bad, bad = bp := ⟨_, rfl⟩
            rw [← hbad] at HP HMOD
            clear hbad
            have hcb : (w8.setCell ⟨(w2.heap.size + 1), 2, none⟩ (.slice FA L.length fc)).cell? ⟨w.heap.size + 1, 1, none⟩ = some (.bool bad) := by
              obtain ⟨_, _, _, h1, _⟩ := HP.out.rdr.c0
              exact h1
            have hcf : (w8.setCell ⟨(w2.heap.size + 1), 2, none⟩ (.slice FA L.length fc)).cell? ⟨(w2.heap.size + 1), 2, none⟩ = some (.slice FA L.length fc) := HP.out.pk.cell 2
            cases bad with
            | true =>
              rw [if_pos (.inl rfl)] at HMOD
              go_wp2_with (refine wpList_store_row rfl 25 _ _ rfl w.heap.size #[.int .i64 0, .int .i64 0, .slice none 0 0, .int .i64 0] rfl rfl 25 _ HP.out.res (pk_size _ _ _ _ _ _) rfl (pk_one _ _ _ _ _ _) ?_)
              refine bodyPost_ret (results_row2 rfl _ _ w.heap.size 25 _ _ rfl (HP.out.res.row _) Try.underlying25 (pk_size _ _ _ _ _ _) _ rfl) rfl ?_
              rw [HMOD.out]
              exact ⟨HP.out.rdr.kept.trans' (Keep.row _ _ _) (by simp) (by simp), rfl⟩
            | false =>
              go_wp2_with fail
              refine (containsLong FA L.length fc L _ HRF.out).mono ?_
              rintro e w' ⟨rfl, rfl⟩
              cases hl : anyL (fun n => decide (1275 < n)) L with
              | true =>
                rw [if_pos (.inr hl)] at HMOD
                clear hl
                go_wp2_with (refine wpList_store_row rfl 25 _ _ rfl w.heap.size #[.int .i64 0, .int .i64 0, .slice none 0 0, .int .i64 0] rfl rfl 25 _ HP.out.res (pk_size _ _ _ _ _ _) rfl (pk_one _ _ _ _ _ _) ?_)
                refine bodyPost_ret (results_row2 rfl _ _ w.heap.size 25 _ _ rfl (HP.out.res.row _) Try.underlying25 (pk_size _ _ _ _ _ _) _ rfl) rfl ?_
                rw [HMOD.out]
                exact ⟨HP.out.rdr.kept.trans' (Keep.row _ _ _) (by simp) (by simp), rfl⟩
              | false =>
                rw [if_neg (by rw [show longL L = false from hl]; simp)] at HMOD
                clear hl
                go_wp2_with (first
                  | (refine wpList_load_row rfl 25 _ rfl (w2.heap.size + 1) rfl 25 _ (0, 0) _ HP.out.pk Try.underlying25 rfl (by kernel_rfl) ?_)
                  | (refine wpList_store_row rfl 25 _ _ rfl w.heap.size #[.int .i64 k, .int .i64 ch, .slice FA L.length fc, .int .i64 0] rfl rfl 25 _ HP.out.res (pk_size _ _ _ _ _ _) rfl (pk_one _ _ _ _ _ _) ?_))
                refine bodyPost_ret (results_row2 rfl _ _ w.heap.size 25 _ _ rfl (HP.out.res.row _) Try.underlying25 (pk_size _ _ _ _ _ _) _ rfl) rfl ?_
                rw [HMOD.out]
                exact ⟨HP.out.rdr.kept.trans' (Keep.row _ _ _) (by simp) (by simp), _, rfl, HFR.out.keep (Keep.row _ _ _) (Odd.one HP.out.res (by decide) (by decide))⟩))
      · have h3 : bits .and .i64 x 3 = 3 := by rw [and3 hb0 hb1]; exact hx4
        have hfo : foundM ys x = manyM ms ys := by unfold foundM; rw [if_neg (by omega), if_neg (by omega), if_neg (by omega), HMSK.out]
        clear hx4
        have hcm : ((w2.alloc (.cells #[.int .i64 mo, .int .i64 ra, .int .i64 ms] 31)).alloc (.cells #[.int .i64 k, .int .i64 ch, .slice none 0 0, .int .i64 0] 25)).cell? ⟨w2.heap.size, 2, none⟩ = some (.int .i64 ms) := HCB.out.cell 2
        rw [hfo] at HMOD
        go_wp2_with fail
        refine (many_calls w _ (w.heap.size + 1) ms ys HQ.out.rdr hms1 hms2).mono ?_
        rintro e w3 ⟨fv, rfl, e1, e2, e3⟩
        obtain ⟨q, hq⟩ : ∃ q, q = manyM ms ys := ⟨_, rfl⟩
        have hfit := (sub_many ms ys).fit HRY.out.1 HRY.out.2
        rw [← hq] at e1 e2 HMOD hfit ⊢
        obtain ⟨⟨L, pad⟩, rest, bad⟩ := q
        dsimp only at e1 e2 HMOD hfit ⊢
        obtain ⟨FA, fc, rfl, hrf⟩ := e1.reads hfit
        have HP3 := Lib.hid (HQ.out.took e3 e2)
        have HF3 := Lib.hid (e1.weak HQ.out.rdr.kept.size)
        have HFT := Lib.hid hfit
        clear e1 e2 e3 hq hfit hrf HQ hcm
        have hs2 := HP3.out.pk.free 2
        have hs3 := (HP3.out.pk.set 2 (.slice FA L.length fc)).free 3
        have hs0 : w3.cell? ⟨(w2.heap.size + 1), 2, none⟩ = some (.slice none 0 0) := HP3.out.pk.cell 2
        have hs1 : (w3.setCell ⟨(w2.heap.size + 1), 2, none⟩ (.slice FA L.length fc)).cell? ⟨(w2.heap.size + 1), 3, none⟩ = some (.int .i64 0) := (HP3.out.pk.set 2 (.slice FA L.length fc)).cell 3
        have HP : Hid (PaSt w ((w3.setCell ⟨(w2.heap.size + 1), 2, none⟩ (.slice FA L.length fc)).setCell ⟨(w2.heap.size + 1), 3, none⟩ (.int .i64 pad)) (w2.heap.size + 1) #[.int .i64 k, .int .i64 ch, .slice FA L.length fc, .int .i64 pad] rest bad) := Lib.hid ((HP3.out.set 2 _).set 3 _)
        have HFR := Lib.hid ((HF3.out.setP HP3.out.pk 2 (.slice FA L.length fc)).setP (HP3.out.pk.set 2 (.slice FA L.length fc)) 3 (.int .i64 pad))
        have HRF : Hid (FrR ((w3.setCell ⟨(w2.heap.size + 1), 2, none⟩ (.slice FA L.length fc)).setCell ⟨(w2.heap.size + 1), 3, none⟩ (.int .i64 pad)) FA L.length fc L) := Lib.hid (by
          obtain ⟨_, _, e1, e2⟩ := HFR.out.reads HFT.out
          simp only [Value.slice.injEq] at e1
          obtain ⟨rfl, _, rfl⟩ := e1
          exact e2)
        clear HP3 HF3
        have hcb : ((w3.setCell ⟨(w2.heap.size + 1), 2, none⟩ (.slice FA L.length fc)).setCell ⟨(w2.heap.size + 1), 3, none⟩ (.int .i64 pad)).cell? ⟨w.heap.size + 1, 1, none⟩ = some (.bool bad) := by
          obtain ⟨_, _, _, h1, _⟩ := HP.out.rdr.c0
          exact h1
        have hcf : ((w3.setCell ⟨(w2.heap.size + 1), 2, none⟩ (.slice FA L.length fc)).setCell ⟨(w2.heap.size + 1), 3, none⟩ (.int .i64 pad)).cell? ⟨(w2.heap.size + 1), 2, none⟩ = some (.slice FA L.length fc) := HP.out.pk.cell 2
        cases bad with
        | true =>
          rw [if_pos (.inl rfl)] at HMOD
          go_wp2_with (refine wpList_store_row rfl 25 _ _ rfl w.heap.size #[.int .i64 0, .int .i64 0, .slice none 0 0, .int .i64 0] rfl rfl 25 _ HP.out.res (pk_size _ _ _ _ _ _) rfl (pk_one _ _ _ _ _ _) ?_)
          refine bodyPost_ret (results_row2 rfl _ _ w.heap.size 25 _ _ rfl (HP.out.res.row _) Try.underlying25 (pk_size _ _ _ _ _ _) _ rfl) rfl ?_
          rw [HMOD.out]
          exact ⟨HP.out.rdr.kept.trans' (Keep.row _ _ _) (by simp) (by simp), rfl⟩
        | false =>
          go_wp2_with fail
          refine (containsLong FA L.length fc L _ HRF.out).mono ?_
          rintro e w' ⟨rfl, rfl⟩
          cases hl : anyL (fun n => decide (1275 < n)) L with
          | true =>
            rw [if_pos (.inr hl)] at HMOD
            clear hl
            go_wp2_with (refine wpList_store_row rfl 25 _ _ rfl w.heap.size #[.int .i64 0, .int .i64 0, .slice none 0 0, .int .i64 0] rfl rfl 25 _ HP.out.res (pk_size _ _ _ _ _ _) rfl (pk_one _ _ _ _ _ _) ?_)
            refine bodyPost_ret (results_row2 rfl _ _ w.heap.size 25 _ _ rfl (HP.out.res.row _) Try.underlying25 (pk_size _ _ _ _ _ _) _ rfl) rfl ?_
            rw [HMOD.out]
            exact ⟨HP.out.rdr.kept.trans' (Keep.row _ _ _) (by simp) (by simp), rfl⟩
          | false =>
            rw [if_neg (by rw [show longL L = false from hl]; simp)] at HMOD
            clear hl
            go_wp2_with (first
              | (refine wpList_load_row rfl 25 _ rfl (w2.heap.size + 1) rfl 25 _ (0, 0) _ HP.out.pk Try.underlying25 rfl (by kernel_rfl) ?_)
              | (refine wpList_store_row rfl 25 _ _ rfl w.heap.size #[.int .i64 k, .int .i64 ch, .slice FA L.length fc, .int .i64 pad] rfl rfl 25 _ HP.out.res (pk_size _ _ _ _ _ _) rfl (pk_one _ _ _ _ _ _) ?_))
            refine bodyPost_ret (results_row2 rfl _ _ w.heap.size 25 _ _ rfl (HP.out.res.row _) Try.underlying25 (pk_size _ _ _ _ _ _) _ rfl) rfl ?_
            rw [HMOD.out]
            exact ⟨HP.out.rdr.kept.trans' (Keep.row _ _ _) (by simp) (by simp), _, rfl, HFR.out.keep (Keep.row _ _ _) (Odd.one HP.out.res (by decide) (by decide))⟩

end Go.Proofs.Ytmnknegbbmjcbaa
