/- The reference's (*Voice).Run. -/
import Derived.Test.YtjhgbcgpkpahjaaS14
namespace Go.Proofs.Ytjhgbcgpkpahjaa
open Go.RowKit

theorem ahead_of (n : Int) (A : Option Addr) (l : List Int) (m c : Nat) (w : World) (r : Int) (hl : l.length = m) (hm : m ≤ 1000000) (ha : Rd w A l) (hr : aheadL l n = r) :
    Calls Try.prog 26 #[.slice A m c, .int .i64 n] w fun e w' => e = .returned (.int .i64 r) ∧ w = w' := by
  subst hr
  exact ahead_calls A l m c n w hl hm ha
theorem Made.cap_le {w : World} {A : Option Addr} {n c : Nat} {xs : List Int} (h : Made w (.slice A n c) xs) : c ≤ 9223372036854775807 := by
  obtain ⟨_, h2⟩ := h
  rcases h2 with ⟨hv, h0⟩ | ⟨g, cap, cur, hv, _, _, _, hc, _⟩
  · simp only [Value.slice.injEq] at hv; omega
  · simp only [Value.slice.injEq] at hv; unfold maxLen at hc; omega
theorem made_none {w : World} {C : Option Addr} {n d : Nat} {xs : List Int} (h : Made w (.slice C n d) xs) (hC : C = none) : n = 0 := by
  obtain ⟨_, h2⟩ := h
  subst hC
  rcases h2 with ⟨hv, h0⟩ | ⟨g, cap, cur, hv, _⟩
  · simp only [Value.slice.injEq] at hv; omega
  · simp at hv
theorem Made.rd {w : World} {A : Option Addr} {n c : Nat} {xs : List Int} (h : Made w (.slice A n c) xs) : Rd w A xs := by
  obtain ⟨A', c', e, _, hr, _⟩ := h.reads
  simp only [Value.slice.injEq] at e
  rw [e.1]
  exact hr
theorem tap_cell {w : World} {b : Nat} {t0 t1 t2 t3 t4 : Int} (h : Blk w b #[.int .i64 t0, .int .i64 t1, .int .i64 t2, .int .i64 t3, .int .i64 t4] 29) (j : Nat) (hj : j < 5) : w.cell? ⟨b, j, none⟩ = some (.int .i64 ([t0, t1, t2, t3, t4].getD j 0)) := by
  rw [h.cell]
  exact match j, hj with
  | 0, _ => rfl
  | 1, _ => rfl
  | 2, _ => rfl
  | 3, _ => rfl
  | 4, _ => rfl
theorem Own3.put {w w2 : World} {a a' b c : Value} {xs xs' ys zs : List Int} (h : Own3 w a b c xs ys zs) (k : Keep [] w w2) (m1 : Made w2 a' xs') (m3 : ∀ g, a'.ownBlock = some g → w.heap.size ≤ g) : Own3 w2 a' b c xs' ys zs :=
  ⟨m1, h.m2.keep k (by simp), h.m3.keep k (by simp), fun g hg e => by have := m3 g hg; have := h.m2.lt _ e; omega, fun g hg e => by have := m3 g hg; have := h.m3.lt _ e; omega, h.d23⟩
theorem RSt.put1 {w wr w2 : World} {L : List Nat} {b bt : Nat} {ts : Array Value} {rv ov out v' : Value} {R R' O ys : List Int} (h : RSt w wr L b bt ts rv ov out R O ys) (k : Keep [] wr w2) (m1 : Made w2 v' R') (m3 : ∀ g, v'.ownBlock = some g → wr.heap.size ≤ g) :
    RSt w (w2.setCell ⟨b, 0, none⟩ v') L b bt ts v' ov out R' O ys ∧ w2.cell? ⟨b, 0, none⟩ = some rv ∧ w2.frozen? ⟨b, 0, none⟩ = false := by
  have q2 : RV w2 b rv ov := Blk.keep h.fil k (by simp)
  have q3 := h.tap.keep k (by simp)
  have o2 := h.own.put k m1 m3
  have ks := Keep.setb w2 b 0 v'
  refine ⟨⟨(h.kept.trans (k.of0 _)).trans' ks (fun g hg => .inl hg) (by simpa using .inl h.inb), Blk.set q2 0 v', q3.keep ks (by simpa using q3.ne q2 (by decide)), o2.keep ks (fun g hg => by simpa using o2.m1.ne_t q2 (by decide) g hg) (fun g hg => by simpa using o2.m2.ne_t q2 (by decide) g hg) (fun g hg => by simpa using o2.m3.ne_t q2 (by decide) g hg), ?_, h.inb⟩, q2.c0, Blk.free q2 0⟩
  intro g hg
  rcases hg with hg | hg
  · exact .inr (by have := m3 g hg; have := h.kept.size; omega)
  · exact h.old g (.inr hg)
theorem RSt.put2 {w wr w2 : World} {L : List Nat} {b bt : Nat} {ts : Array Value} {rv ov out v' : Value} {R O O' ys : List Int} (h : RSt w wr L b bt ts rv ov out R O ys) (k : Keep [] wr w2) (m1 : Made w2 v' O') (m3 : ∀ g, v'.ownBlock = some g → wr.heap.size ≤ g) :
    RSt w (w2.setCell ⟨b, 1, none⟩ v') L b bt ts rv v' out R O' ys ∧ w2.cell? ⟨b, 1, none⟩ = some ov ∧ w2.frozen? ⟨b, 1, none⟩ = false := by
  have q2 : RV w2 b rv ov := Blk.keep h.fil k (by simp)
  have q3 := h.tap.keep k (by simp)
  have o2 := (h.own.rot.put k m1 m3).rot.rot
  have ks := Keep.setb w2 b 1 v'
  refine ⟨⟨(h.kept.trans (k.of0 _)).trans' ks (fun g hg => .inl hg) (by simpa using .inl h.inb), Blk.set q2 1 v', q3.keep ks (by simpa using q3.ne q2 (by decide)), o2.keep ks (fun g hg => by simpa using o2.m1.ne_t q2 (by decide) g hg) (fun g hg => by simpa using o2.m2.ne_t q2 (by decide) g hg) (fun g hg => by simpa using o2.m3.ne_t q2 (by decide) g hg), ?_, h.inb⟩, q2.c1, Blk.free q2 1⟩
  intro g hg
  rcases hg with hg | hg | hg
  · exact h.old g (.inl hg)
  · exact .inr (by have := m3 g hg; have := h.kept.size; omega)
  · exact h.old g (.inr (.inr hg))
def RetRR (w : World) (L : List Nat) (b : Nat) (r : List Int × RVc) (e : Ending) (w' : World) : Prop :=
  ∃ v rv ov, e = .returned v ∧ Keep L w w' ∧ RV w' b rv ov ∧ Own3 w' rv ov v (lastL r.2.R 320) (lastL r.2.O 32) r.1 ∧ ∀ g, (rv.ownBlock = some g ∨ ov.ownBlock = some g) → w.heap.size ≤ g
set_option maxRecDepth 100000 in
set_option maxHeartbeats 4000000 in
theorem rrun_calls (b : Nat) (s : RVc) (rv ov : Value) (L : List Nat) (A : Option Addr) (xs : List Int) (n c : Nat) (loud lag t0 t1 t2 t3 t4 : Int) (B : Option Addr) (fs : List Int) (m d : Nat) (w : World) (hfil : RV w b rv ov) (hr : Made w rv s.R) (ho : Made w ov s.O)
    (hd : ∀ g, rv.ownBlock = some g → ov.ownBlock ≠ some g) (hold : ∀ g, (rv.ownBlock = some g ∨ ov.ownBlock = some g) → g ∈ L) (hbL : b ∈ L) (hlr : s.R.length ≤ 320) (hlo : s.O.length ≤ 32) (hn : xs.length = n) (hn' : n ≤ 480) (hrd : Rd w A xs) (hA : ∀ a, A = some a → 0 < n → a.block ∉ L)
    (hm : fs.length = m) (hm' : m ≤ 32) (hrf : Rd w B fs) (hB : ∀ a, B = some a → 0 < m → a.block ∉ L) (hl0 : 0 ≤ lag) (hl1 : lag ≤ 318) :
    Calls Try.prog 16 #[.pointer (some ⟨b, 0, none⟩), .slice A n c, .int .i64 loud, .int .i64 lag, .agg #[.int .i64 t0, .int .i64 t1, .int .i64 t2, .int .i64 t3, .int .i64 t4], .slice B m d] w (RetRR w L b (mapS (rstep loud lag [t0, t1, t2, t3, t4] fs) s xs)) := by
  have HS0 : Hid (RSt w (w.alloc (.cells #[.int .i64 t0, .int .i64 t1, .int .i64 t2, .int .i64 t3, .int .i64 t4] 29)) L b w.heap.size #[.int .i64 t0, .int .i64 t1, .int .i64 t2, .int .i64 t3, .int .i64 t4] rv ov (.slice none 0 0) s.R s.O []) := by
    have k := Keep.alloc [] w (.cells #[.int .i64 t0, .int .i64 t1, .int .i64 t2, .int .i64 t3, .int .i64 t4] 29)
    refine Lib.hid ⟨k.of0 _, Blk.keep hfil k (by simp), Blk.new w _ _, ⟨hr.keep k (by simp), ho.keep k (by simp), (World.ownsRow_nil _ 0 _ 1), hd, fun g _ h => by simp [Value.ownBlock] at h, fun g _ h => by simp [Value.ownBlock] at h⟩, ?_, hbL⟩
    rintro g (hg | hg | hg)
    · exact .inl (hold g (.inl hg))
    · exact .inl (hold g (.inr hg))
    · cases hg
  have HN := Lib.hid hn
  have HR := Lib.hid hrd
  have HA := Lib.hid hA
  have HM := Lib.hid hm
  have HF := Lib.hid hrf
  have HB := Lib.hid hB
  have HLR := Lib.hid hlr
  have HLO := Lib.hid hlo
  clear hfil hr ho hd hold hbL hlr hlo hn hrd hA hm hrf hB
  go_enter Try.func16, Try.ntmps16
  go_wp2_with fail
  go_loopw [13, 14] (fun out i wr => ∃ (k : Nat) (rv ov : Value), k ≤ n ∧ i = .int .i64 k ∧ RSt w wr L b w.heap.size #[.int .i64 t0, .int .i64 t1, .int .i64 t2, .int .i64 t3, .int .i64 t4] rv ov out (mapS (rstep loud lag [t0, t1, t2, t3, t4] fs) s (xs.take k)).2.R (mapS (rstep loud lag [t0, t1, t2, t3, t4] fs) s (xs.take k)).2.O (mapS (rstep loud lag [t0, t1, t2, t3, t4] fs) s (xs.take k)).1) (fun _ i _ => n - (intOf i).toNat)
  case atStart => exact ⟨0, rv, ov, Nat.zero_le _, rfl, HS0.out⟩
  case round =>
    obtain ⟨k, rv, ov, hk, rfl, HS⟩ := hrel
    have HS := Lib.hid HS
    have HLEN : Hid ((mapS (rstep loud lag [t0, t1, t2, t3, t4] fs) s (xs.take k)).2.R.length ≤ 1000 ∧ (mapS (rstep loud lag [t0, t1, t2, t3, t4] fs) s (xs.take k)).2.O.length ≤ 1000 ∧ (mapS (rstep loud lag [t0, t1, t2, t3, t4] fs) s (xs.take k)).1.length ≤ 1000) := by
      obtain ⟨h1, h2⟩ := rstep_len loud lag [t0, t1, t2, t3, t4] fs (xs.take k) s
      have h3 := mapS_length (rstep loud lag [t0, t1, t2, t3, t4] fs) (xs.take k) s
      have h4 : (xs.take k).length ≤ 480 := by rw [List.length_take, HN.out]; omega
      have := HLR.out
      have := HLO.out
      exact Lib.hid ⟨by omega, by omega, by omega⟩
    by_cases hlt : k < n
    · obtain ⟨a, rfl, hca⟩ := HR.out k (by rw [HN.out]; exact hlt)
      have hcw : wr.cell? (a.add k) = some (.int .i64 (xs.getD k 0)) := HS.out.kept.cell hca (by rw [add_block]; exact HA.out a rfl (by omega))
      obtain ⟨q, hq⟩ : ∃ q, q = xs.getD k 0 := ⟨_, rfl⟩
      rw [← hq] at hcw
      have HT := mapS_take (rstep loud lag [t0, t1, t2, t3, t4] fs) s xs k (by rw [HN.out]; exact hlt)
      rw [← hq] at HT
      have HT := Lib.hid HT
      clear hq hca
      generalize (mapS (rstep loud lag [t0, t1, t2, t3, t4] fs) s (xs.take k)).1 = Y at *
      generalize (mapS (rstep loud lag [t0, t1, t2, t3, t4] fs) s (xs.take k)).2 = S at *
      obtain ⟨C, cc, hcv, hcd, hrd, _⟩ := HS.out.own.m1.reads
      subst hcv
      clear hcd hrd
      obtain ⟨D, dd, hdv, hcd, hrd, _⟩ := HS.out.own.m2.reads
      subst hdv
      clear hcd hrd
      by_cases hlag0 : 0 < lag
      · go_wp2_with fail
        clear hcw
        obtain ⟨wo, hwo⟩ : ∃ wo, wo = wr := ⟨_, rfl⟩
        subst hwo
        have hz1 : IntKind.i64.wrap (lag - 2) = lag - 2 := IntWalk.i64_in _ (by omega)
        go_loopw [15, 16] (fun rr i wi => ∃ j z : Nat, j ≤ 5 ∧ i = .int .i64 j ∧ rr = .int .i64 (rtapSum [t0, t1, t2, t3, t4] S.R lag (wrap64 (q * loud)) j) ∧ Hid (wi = wo.drewN z)) (fun _ i _ => 5 - (intOf i).toNat)
        case atStart => exact ⟨0, 0, by omega, rfl, rfl, Lib.hid rfl⟩
        case round =>
          obtain ⟨j, z, hj, rfl, rfl, HWI⟩ := hrel
          have HS1 : Hid (RSt w wr L b w.heap.size #[.int .i64 t0, .int .i64 t1, .int .i64 t2, .int .i64 t3, .int .i64 t4] (.slice C S.R.length cc) (.slice D S.O.length dd) u13 S.R S.O Y) := by
            have h := HS.out.drewN z
            rw [← HWI.out] at h
            exact Lib.hid h
          by_cases hj5 : j < 5
          · have c0 := HS1.out.fil.c0
            have hct := tap_cell HS1.out.tap j hj5
            have hj0 : (0 : Int) ≤ (j : Int) := by omega
            have hj1 : (j : Int) < 5 := by omega
            have hz2 : IntKind.i64.wrap (lag - 2 + (j : Int)) = lag - 2 + (j : Int) := IntWalk.i64_in _ (by omega)
            obtain ⟨tp, ht⟩ : ∃ tp, tp = [t0, t1, t2, t3, t4].getD j 0 := ⟨_, rfl⟩
            rw [← ht] at hct
            have HTP := Lib.hid ht
            obtain ⟨ah, hah⟩ : ∃ ah, aheadL S.R (lag - 2 + (j : Int)) = ah := ⟨_, rfl⟩
            have HAH := Lib.hid hah
            obtain ⟨R, hR⟩ : ∃ R, R = rtapSum [t0, t1, t2, t3, t4] S.R lag (wrap64 (q * loud)) j := ⟨_, rfl⟩
            rw [← hR]
            have HRR := Lib.hid hR
            have HRD := Lib.hid HS1.out.own.m1.rd
            have HL1 : Hid (S.R.length ≤ 1000000) := Lib.hid (by have := HLEN.out.1; omega)
            clear ht hah hR
            go_wp2_with fail
            go_quiet ((first | exact qq (ahead_of (lag - 2 + (j : Int)) C S.R S.R.length cc _ ah rfl HL1.out (HRD.out.keep (Keep.drewN [] wr _) (by simp)) HAH.out) | exact qq (rmul_calls _ _ 7 (by omega) (by omega) _)))
            go_wp2_with fail
            go_roundw
            case rel => exact ⟨j + 1, _, by omega, by go_num, by rw [rtapSum_succ, rtapF, ← HRR.out, ← HTP.out, HAH.out], Lib.hid (by rw [HWI.out]; exact World.drewN_drewN _ _ _)⟩
            case measure => simp [intOf]; omega
          · obtain rfl : j = 5 := by omega
            obtain ⟨w2, hw2⟩ : ∃ w2, w2 = wr := ⟨_, rfl⟩
            subst hw2
            clear hz1
            go_wp2_with fail
            obtain ⟨E, hE⟩ : ∃ E, E = rexR loud lag [t0, t1, t2, t3, t4] S.R q := ⟨_, rfl⟩
            have hE2 : keptI (rtapSum [t0, t1, t2, t3, t4] S.R lag (wrap64 (q * loud)) 5) = E := by
              rw [hE, rexR, if_pos hlag0]
            have HE := Lib.hid hE
            clear hE
            refine (keep_calls _ _).mono ?_
            rintro e w' ⟨rfl, rfl⟩
            rw [hE2]
            clear hE2
            go_wp2_with fail
            go_loopw [17, 18] (fun rr i wi => ∃ j z : Nat, j ≤ m ∧ i = .int .i64 j ∧ rr = .int .i64 (rfilSum fs S.O E j) ∧ Hid (wi = w2.drewN z)) (fun _ i _ => m - (intOf i).toNat)
            case atStart => exact ⟨0, 0, by omega, rfl, rfl, Lib.hid rfl⟩
            case round =>
              obtain ⟨j, z, hj, rfl, rfl, HWI⟩ := hrel
              have HS2 : Hid (RSt w wr L b w.heap.size #[.int .i64 t0, .int .i64 t1, .int .i64 t2, .int .i64 t3, .int .i64 t4] (.slice C S.R.length cc) (.slice D S.O.length dd) u13 S.R S.O Y) := by
                have h := HS1.out.drewN z
                rw [← HWI.out] at h
                exact Lib.hid h
              by_cases hjm : j < m
              · obtain ⟨bb, rfl, hcb⟩ := HF.out j (by rw [HM.out]; exact hjm)
                have hcv : wr.cell? (bb.add j) = some (.int .i64 (fs.getD j 0)) := HS2.out.kept.cell hcb (by rw [add_block]; exact HB.out bb rfl (by omega))
                have c1 := HS2.out.fil.c1
                have hj0 : (0 : Int) ≤ (j : Int) := by omega
                have hj1 : (j : Int) < (m : Int) := by omega
                have hz2 : IntKind.i64.wrap ((j : Int) + 1) = (j : Int) + 1 := IntWalk.i64_in _ (by omega)
                obtain ⟨y, hy⟩ : ∃ y, y = fs.getD j 0 := ⟨_, rfl⟩
                rw [← hy] at hcv
                have HY := Lib.hid hy
                obtain ⟨ah, hah⟩ : ∃ ah, aheadL S.O ((j : Int) + 1) = ah := ⟨_, rfl⟩
                have HAH := Lib.hid hah
                obtain ⟨R, hR⟩ : ∃ R, R = rfilSum fs S.O E j := ⟨_, rfl⟩
                rw [← hR]
                have HRR := Lib.hid hR
                have HRD := Lib.hid HS2.out.own.m2.rd
                have HL1 : Hid (S.O.length ≤ 1000000) := Lib.hid (by have := HLEN.out.2.1; omega)
                clear hy hah hR hcb
                go_wp2_with fail
                go_quiet ((first | exact qq (ahead_of ((j : Int) + 1) D S.O S.O.length dd _ ah rfl HL1.out (HRD.out.keep (Keep.drewN [] wr _) (by simp)) HAH.out) | exact qq (rmul_calls _ _ 12 (by omega) (by omega) _)))
                go_wp2_with fail
                go_roundw
                case rel => exact ⟨j + 1, _, by omega, by go_num, by rw [rfilSum_succ, rfilF, ← HRR.out, ← HY.out, HAH.out], Lib.hid (by rw [HWI.out]; exact World.drewN_drewN _ _ _)⟩
                case measure => simp [intOf]; omega
              · obtain rfl : m = j := by omega
                go_wp2_with fail
                refine (keep_calls _ _).mono ?_
                rintro e w' ⟨rfl, rfl⟩
                obtain ⟨O, hO⟩ : ∃ O, O = keptI (rfilSum fs S.O E m) := ⟨_, rfl⟩
                rw [← hO]
                have HO := Lib.hid hO
                clear hO
                have c0 := HS2.out.fil.c0
                have HMR : Hid (Made (wr.alloc (.cells #[.int .i64 E] 2)) (.slice C S.R.length cc) S.R) := Lib.hid (HS2.out.own.m1.keep (Keep.alloc [] _ _) (by simp))
                have HY1 : Hid (Rd (wr.alloc (.cells #[.int .i64 E] 2)) (some ⟨wr.heap.size, 0, none⟩) [E]) := Lib.hid (rd_lit _ [E])
                have HBG : Hid (S.R.length + 1 ≤ 1000000000) := Lib.hid (by have := HLEN.out.1; omega)
                go_wp2_with (at_builtin; refine append_made rfl _ _ rfl _ S.R rfl HMR.out _ _ _ [E] rfl rfl HY1.out HBG.out (by simp) ?_)
                intro v3 w3 h1 h2 h3
                obtain ⟨V, vc, hv3, _, _, _⟩ := h1.reads
                subst hv3
                have H3 := Lib.hid (HS2.out.app1 (Keep.alloc [] _ _) h1 h2 (by simpa using h3))
                clear h1 h2 h3 HMR HY1 HBG c0
                have c2 := H3.out.2.1
                have f2 := H3.out.2.2
                generalize (S.R ++ [E]).length = vl at *
                have c3 := H3.out.1.fil.c1
                have HMO : Hid (Made ((w3.setCell ⟨b, 0, none⟩ (.slice V vl vc)).alloc (.cells #[.int .i64 O] 2)) (.slice D S.O.length dd) S.O) := Lib.hid (H3.out.1.own.m2.keep (Keep.alloc [] _ _) (by simp))
                have HY1 : Hid (Rd ((w3.setCell ⟨b, 0, none⟩ (.slice V vl vc)).alloc (.cells #[.int .i64 O] 2)) (some ⟨w3.heap.size, 0, none⟩) [O]) := Lib.hid (by
                  have := rd_lit (w3.setCell ⟨b, 0, none⟩ (.slice V vl vc)) [O]
                  rw [World.size_setCell] at this
                  exact this)
                have HBG : Hid (S.O.length + 1 ≤ 1000000000) := Lib.hid (by have := HLEN.out.2.1; omega)
                go_wp2_with (at_builtin; refine append_made rfl _ _ rfl _ S.O rfl HMO.out _ _ _ [O] rfl rfl HY1.out HBG.out (by simp) ?_)
                intro v4 w4 h1 h2 h3
                obtain ⟨V2, vc2, hv4, _, _, _⟩ := h1.reads
                subst hv4
                have H4 := Lib.hid (H3.out.1.app2 (Keep.alloc [] _ _) h1 h2 (by simpa using h3))
                clear h1 h2 h3 HMO HY1 HBG c2 f2 c3
                have c2 := H4.out.2.1
                have f2 := H4.out.2.2
                generalize (S.O ++ [O]).length = vl2 at *
                have HMY : Hid (Made ((w4.setCell ⟨b, 1, none⟩ (.slice V2 vl2 vc2)).alloc (.cells #[.int .i64 O] 2)) u13 Y) := Lib.hid (H4.out.1.own.m3.keep (Keep.alloc [] _ _) (by simp))
                have HY1 : Hid (Rd ((w4.setCell ⟨b, 1, none⟩ (.slice V2 vl2 vc2)).alloc (.cells #[.int .i64 O] 2)) (some ⟨w4.heap.size, 0, none⟩) [O]) := Lib.hid (by
                  have := rd_lit (w4.setCell ⟨b, 1, none⟩ (.slice V2 vl2 vc2)) [O]
                  rw [World.size_setCell] at this
                  exact this)
                have HBG : Hid (Y.length + 1 ≤ 1000000000) := Lib.hid (by have := HLEN.out.2.2; omega)
                go_wp2_with (at_builtin; refine append_made rfl _ _ rfl _ Y rfl HMY.out _ _ _ [O] rfl rfl HY1.out HBG.out (by simp) ?_)
                intro v5 w5 h1 h2 h3
                have H5 := Lib.hid (H4.out.1.app3 (Keep.alloc [] _ _) h1 h2 (by simpa using h3))
                clear h1 h2 h3 HMY HY1 HBG c2 f2
                go_wp2_with fail
                go_roundw
                case rel =>
                  have e : rstep loud lag [t0, t1, t2, t3, t4] fs S q = (O, ⟨S.R ++ [E], S.O ++ [O]⟩) := by
                    unfold rstep
                    rw [← HE.out, HM.out, ← HO.out]
                  exact ⟨k + 1, _, _, by omega, by go_num, by rw [HT.out, e]; exact H5.out⟩
                case measure => simp [intOf]; omega
      · have HS1 : Hid (RSt w wr L b w.heap.size #[.int .i64 t0, .int .i64 t1, .int .i64 t2, .int .i64 t3, .int .i64 t4] (.slice C S.R.length cc) (.slice D S.O.length dd) u13 S.R S.O Y) := Lib.hid HS.out
        obtain ⟨w2, hw2⟩ : ∃ w2, w2 = wr := ⟨_, rfl⟩
        subst hw2
        go_wp2_with fail
        clear hcw
        obtain ⟨E, hE⟩ : ∃ E, E = rexR loud lag [t0, t1, t2, t3, t4] S.R q := ⟨_, rfl⟩
        have hE2 : keptI (wrap64 (q * loud)) = E := by
          rw [hE, rexR, if_neg (by omega)]
        have HE := Lib.hid hE
        clear hE
        refine (keep_calls _ _).mono ?_
        rintro e w' ⟨rfl, rfl⟩
        rw [hE2]
        clear hE2
        go_wp2_with fail
        go_loopw [17, 18] (fun rr i wi => ∃ j z : Nat, j ≤ m ∧ i = .int .i64 j ∧ rr = .int .i64 (rfilSum fs S.O E j) ∧ Hid (wi = w2.drewN z)) (fun _ i _ => m - (intOf i).toNat)
        case atStart => exact ⟨0, 0, by omega, rfl, rfl, Lib.hid rfl⟩
        case round =>
          obtain ⟨j, z, hj, rfl, rfl, HWI⟩ := hrel
          have HS2 : Hid (RSt w wr L b w.heap.size #[.int .i64 t0, .int .i64 t1, .int .i64 t2, .int .i64 t3, .int .i64 t4] (.slice C S.R.length cc) (.slice D S.O.length dd) u13 S.R S.O Y) := by
            have h := HS1.out.drewN z
            rw [← HWI.out] at h
            exact Lib.hid h
          by_cases hjm : j < m
          · obtain ⟨bb, rfl, hcb⟩ := HF.out j (by rw [HM.out]; exact hjm)
            have hcv : wr.cell? (bb.add j) = some (.int .i64 (fs.getD j 0)) := HS2.out.kept.cell hcb (by rw [add_block]; exact HB.out bb rfl (by omega))
            have c1 := HS2.out.fil.c1
            have hj0 : (0 : Int) ≤ (j : Int) := by omega
            have hj1 : (j : Int) < (m : Int) := by omega
            have hz2 : IntKind.i64.wrap ((j : Int) + 1) = (j : Int) + 1 := IntWalk.i64_in _ (by omega)
            obtain ⟨y, hy⟩ : ∃ y, y = fs.getD j 0 := ⟨_, rfl⟩
            rw [← hy] at hcv
            have HY := Lib.hid hy
            obtain ⟨ah, hah⟩ : ∃ ah, aheadL S.O ((j : Int) + 1) = ah := ⟨_, rfl⟩
            have HAH := Lib.hid hah
            obtain ⟨R, hR⟩ : ∃ R, R = rfilSum fs S.O E j := ⟨_, rfl⟩
            rw [← hR]
            have HRR := Lib.hid hR
            have HRD := Lib.hid HS2.out.own.m2.rd
            have HL1 : Hid (S.O.length ≤ 1000000) := Lib.hid (by have := HLEN.out.2.1; omega)
            clear hy hah hR hcb
            go_wp2_with fail
            go_quiet ((first | exact qq (ahead_of ((j : Int) + 1) D S.O S.O.length dd _ ah rfl HL1.out (HRD.out.keep (Keep.drewN [] wr _) (by simp)) HAH.out) | exact qq (rmul_calls _ _ 12 (by omega) (by omega) _)))
            go_wp2_with fail
            go_roundw
            case rel => exact ⟨j + 1, _, by omega, by go_num, by rw [rfilSum_succ, rfilF, ← HRR.out, ← HY.out, HAH.out], Lib.hid (by rw [HWI.out]; exact World.drewN_drewN _ _ _)⟩
            case measure => simp [intOf]; omega
          · obtain rfl : m = j := by omega
            go_wp2_with fail
            refine (keep_calls _ _).mono ?_
            rintro e w' ⟨rfl, rfl⟩
            obtain ⟨O, hO⟩ : ∃ O, O = keptI (rfilSum fs S.O E m) := ⟨_, rfl⟩
            rw [← hO]
            have HO := Lib.hid hO
            clear hO
            have c0 := HS2.out.fil.c0
            have HMR : Hid (Made (wr.alloc (.cells #[.int .i64 E] 2)) (.slice C S.R.length cc) S.R) := Lib.hid (HS2.out.own.m1.keep (Keep.alloc [] _ _) (by simp))
            have HY1 : Hid (Rd (wr.alloc (.cells #[.int .i64 E] 2)) (some ⟨wr.heap.size, 0, none⟩) [E]) := Lib.hid (rd_lit _ [E])
            have HBG : Hid (S.R.length + 1 ≤ 1000000000) := Lib.hid (by have := HLEN.out.1; omega)
            go_wp2_with (at_builtin; refine append_made rfl _ _ rfl _ S.R rfl HMR.out _ _ _ [E] rfl rfl HY1.out HBG.out (by simp) ?_)
            intro v3 w3 h1 h2 h3
            obtain ⟨V, vc, hv3, _, _, _⟩ := h1.reads
            subst hv3
            have H3 := Lib.hid (HS2.out.app1 (Keep.alloc [] _ _) h1 h2 (by simpa using h3))
            clear h1 h2 h3 HMR HY1 HBG c0
            have c2 := H3.out.2.1
            have f2 := H3.out.2.2
            generalize (S.R ++ [E]).length = vl at *
            have c3 := H3.out.1.fil.c1
            have HMO : Hid (Made ((w3.setCell ⟨b, 0, none⟩ (.slice V vl vc)).alloc (.cells #[.int .i64 O] 2)) (.slice D S.O.length dd) S.O) := Lib.hid (H3.out.1.own.m2.keep (Keep.alloc [] _ _) (by simp))
            have HY1 : Hid (Rd ((w3.setCell ⟨b, 0, none⟩ (.slice V vl vc)).alloc (.cells #[.int .i64 O] 2)) (some ⟨w3.heap.size, 0, none⟩) [O]) := Lib.hid (by
              have := rd_lit (w3.setCell ⟨b, 0, none⟩ (.slice V vl vc)) [O]
              rw [World.size_setCell] at this
              exact this)
            have HBG : Hid (S.O.length + 1 ≤ 1000000000) := Lib.hid (by have := HLEN.out.2.1; omega)
            go_wp2_with (at_builtin; refine append_made rfl _ _ rfl _ S.O rfl HMO.out _ _ _ [O] rfl rfl HY1.out HBG.out (by simp) ?_)
            intro v4 w4 h1 h2 h3
            obtain ⟨V2, vc2, hv4, _, _, _⟩ := h1.reads
            subst hv4
            have H4 := Lib.hid (H3.out.1.app2 (Keep.alloc [] _ _) h1 h2 (by simpa using h3))
            clear h1 h2 h3 HMO HY1 HBG c2 f2 c3
            have c2 := H4.out.2.1
            have f2 := H4.out.2.2
            generalize (S.O ++ [O]).length = vl2 at *
            have HMY : Hid (Made ((w4.setCell ⟨b, 1, none⟩ (.slice V2 vl2 vc2)).alloc (.cells #[.int .i64 O] 2)) u13 Y) := Lib.hid (H4.out.1.own.m3.keep (Keep.alloc [] _ _) (by simp))
            have HY1 : Hid (Rd ((w4.setCell ⟨b, 1, none⟩ (.slice V2 vl2 vc2)).alloc (.cells #[.int .i64 O] 2)) (some ⟨w4.heap.size, 0, none⟩) [O]) := Lib.hid (by
              have := rd_lit (w4.setCell ⟨b, 1, none⟩ (.slice V2 vl2 vc2)) [O]
              rw [World.size_setCell] at this
              exact this)
            have HBG : Hid (Y.length + 1 ≤ 1000000000) := Lib.hid (by have := HLEN.out.2.2; omega)
            go_wp2_with (at_builtin; refine append_made rfl _ _ rfl _ Y rfl HMY.out _ _ _ [O] rfl rfl HY1.out HBG.out (by simp) ?_)
            intro v5 w5 h1 h2 h3
            have H5 := Lib.hid (H4.out.1.app3 (Keep.alloc [] _ _) h1 h2 (by simpa using h3))
            clear h1 h2 h3 HMY HY1 HBG c2 f2
            go_wp2_with fail
            go_roundw
            case rel =>
              have e : rstep loud lag [t0, t1, t2, t3, t4] fs S q = (O, ⟨S.R ++ [E], S.O ++ [O]⟩) := by
                unfold rstep
                rw [← HE.out, HM.out, ← HO.out]
              exact ⟨k + 1, _, _, by omega, by go_num, by rw [HT.out, e]; exact H5.out⟩
            case measure => simp [intOf]; omega
    · obtain rfl : n = k := by omega
      have hk' : xs.take n = xs := List.take_of_length_le (by rw [HN.out]; exact Nat.le_refl _)
      rw [hk'] at HS HLEN
      obtain ⟨Y, hY⟩ : ∃ Y, Y = (mapS (rstep loud lag [t0, t1, t2, t3, t4] fs) s xs).1 := ⟨_, rfl⟩
      obtain ⟨S, hS⟩ : ∃ S, S = (mapS (rstep loud lag [t0, t1, t2, t3, t4] fs) s xs).2 := ⟨_, rfl⟩
      rw [← hY, ← hS] at HS HLEN
      have HYY := Lib.hid hY
      have HSS := Lib.hid hS
      clear hY hS
      clear hk'
      obtain ⟨C, cc, hcv, hcd, hrd, _⟩ := HS.out.own.m1.reads
      subst hcv
      obtain ⟨D, dd, hdv, hdd, hrd2, _⟩ := HS.out.own.m2.reads
      subst hdv
      have c0 := HS.out.fil.c0
      have HRD := Lib.hid hrd
      have HRD2 := Lib.hid hrd2
      have HL1 : Hid (S.R.length ≤ 1000000) := Lib.hid (by have := HLEN.out.1; omega)
      have HL2 : Hid (S.O.length ≤ 1000000) := Lib.hid (by have := HLEN.out.2.1; omega)
      clear hrd hrd2
      go_wp2_with fail
      refine (last_calls C S.R S.R.length cc 320 wr rfl hcd HS.out.own.m1.cap_le HL1.out (by omega) (by omega) HRD.out (fun hC => made_none HS.out.own.m1 hC)).mono ?_
      rintro e w2 ⟨v2, rfl, m1, m2, m3⟩
      obtain ⟨V, vc, hv2, _, _, _⟩ := m1.reads
      subst hv2
      have H2 := Lib.hid (HS.out.put1 m2 m1 m3)
      have HZ : Hid (∀ g, (Value.slice V (lastL S.R 320).length vc).ownBlock = some g → w.heap.size ≤ g) := Lib.hid (fun g hg => by have := m3 g hg; have := HS.out.kept.size; omega)
      clear m1 m2 m3 c0 HRD HRD2
      have c0 := H2.out.2.1
      have f0 := H2.out.2.2
      have c1 := H2.out.1.fil.c1
      have HRD2 := Lib.hid H2.out.1.own.m2.rd
      go_wp2_with fail
      clear c0 f0 c1
      refine (last_calls D S.O S.O.length dd 32 _ rfl hdd H2.out.1.own.m2.cap_le HL2.out (by omega) (by omega) HRD2.out (fun hC => made_none H2.out.1.own.m2 hC)).mono ?_
      rintro e w3 ⟨v3, rfl, m1, m2, m3⟩
      obtain ⟨V2, vc2, hv3, _, _, _⟩ := m1.reads
      subst hv3
      have H3 := Lib.hid (H2.out.1.put2 m2 m1 m3)
      have HZ2 : Hid (∀ g, (Value.slice V2 (lastL S.O 32).length vc2).ownBlock = some g → w.heap.size ≤ g) := Lib.hid (fun g hg => by have := m3 g hg; have := H2.out.1.kept.size; omega)
      clear m1 m2 m3 HRD2
      have c1 := H3.out.2.1
      have f1 := H3.out.2.2
      go_wp2_with fail
      go_ret
      have h := H3.out.1
      unfold RetRR
      rw [← HYY.out, ← HSS.out]
      exact ⟨_, _, _, rfl, h.kept, h.fil, h.own, fun g hg => by
        rcases hg with hg | hg
        · exact HZ.out g hg
        · exact HZ2.out g hg⟩
end Go.Proofs.Ytjhgbcgpkpahjaa
