/- The walk of TocTimes. -/
import Derived.Test.YtmnknegbbmjcbaaT17
namespace Go.Proofs.Ytmnknegbbmjcbaa
open Go.RowKit

/-- A slice of n bytes that may be written: its own block, not below B. -/
def Lie (B : Nat) (w : World) (x : Value) (n : Nat) : Prop := (n = 0 ∧ ∃ A d, x = .slice A 0 d) ∨ (∃ g d cs, x = .slice (some ⟨g, 0, none⟩) n d ∧ Blk w g cs 5 ∧ n ≤ cs.size ∧ B ≤ g)
theorem Lie.shape {B : Nat} {w : World} {x : Value} {n : Nat} (h : Lie B w x n) : ∃ A d, x = .slice A n d := by
  rcases h with ⟨rfl, A, d, rfl⟩ | ⟨g, d, cs, rfl, _⟩
  · exact ⟨A, d, rfl⟩
  · exact ⟨_, d, rfl⟩
theorem Lie.ofMade {B : Nat} {w : World} {x : Value} {l : List Int} (h : MadeV w 5 x (bytes l)) (ho : ∀ b, x.ownBlock = some b → B ≤ b) : Lie B w x l.length := by
  obtain ⟨h1, h2⟩ := h
  rw [bytes_length] at h2
  rcases h2 with ⟨rfl, h0⟩ | ⟨g, cap, cur, rfl, hb0, hg, hnc, hcm, hcs, ht⟩
  · exact .inl ⟨h0, none, 0, rfl⟩
  · exact .inr ⟨g, cap, cur, rfl, hg, by omega, ho g rfl⟩
theorem Lie.keep {B : Nat} {w w' : World} {x : Value} {n : Nat} {l : List Nat} (h : Lie B w x n) (k : Keep l w w') (ho : Odd w l) : Lie B w' x n := by
  rcases h with h | ⟨g, d, cs, rfl, hb, hn, hB⟩
  · exact .inl h
  · refine .inr ⟨g, d, cs, rfl, hb.keep k (fun hm => ?_), hn, hB⟩
    obtain ⟨cs', t, hb', _, h2⟩ := ho g hm
    exact hb.ne hb' h2.symm rfl
theorem Lie.set {B : Nat} {w : World} {x : Value} {n : Nat} {g i : Nat} {cs : Array Value} {u : Value} (h : Lie B w x n) (hb : Blk w g cs 5) : Lie B (w.setCell ⟨g, i, none⟩ u) x n := by
  rcases h with h | ⟨g', d, cs', rfl, hb', hn, hB⟩
  · exact .inl h
  · by_cases e : g' = g
    · subst e
      have e2 : cs' = cs := by
        have := (show w.heap[g']? = _ from hb').symm.trans (show w.heap[g']? = _ from hb)
        simpa using this
      subst e2
      exact .inr ⟨g', d, _, rfl, hb'.set i u, by simpa using hn, hB⟩
    · exact .inr ⟨g', d, cs', rfl, hb'.keep (Keep.setb w g i u) (by simpa using e), hn, hB⟩
/-- While the frames are written over: their headers, the boxes; no block below B is touched. -/
structure TmSt (w0 wr : World) (pb cb : Nat) (pc cc : Array Value) (v : Value) (vs : List Value) (L : List (List Int)) : Prop where
  kept : Keep [] w0 wr
  hd : MadeV wr 29 v vs
  px : Blk wr pb pc 25
  cx : Blk wr cb cc 31
  ln : vs.length = L.length
  lies : ∀ (i : Nat) (x : Value) (l : List Int), vs[i]? = some x → L[i]? = some l → Lie w0.heap.size wr x l.length
theorem TmSt.set {w0 wr : World} {pb cb : Nat} {pc cc : Array Value} {v : Value} {vs : List Value} {L : List (List Int)} {g i : Nat} {cs : Array Value} {u : Value} (h : TmSt w0 wr pb cb pc cc v vs L) (hb : Blk wr g cs 5) (hB : w0.heap.size ≤ g) : TmSt w0 (wr.setCell ⟨g, i, none⟩ u) pb cb pc cc v vs L :=
  ⟨h.kept.trans' (Keep.setb wr g i u) (by simp) (by simpa using hB), h.hd.keep (Keep.setb wr g i u) (fun b hb' => by simpa using h.hd.ne hb (by decide) b hb'), h.px.keep (Keep.setb wr g i u) (by simpa using h.px.ne hb (by decide)), h.cx.keep (Keep.setb wr g i u) (by simpa using h.cx.ne hb (by decide)), h.ln,
    fun j x l hx hl => (h.lies j x l hx hl).set hb⟩
theorem sum_take_succ {L : List (List Int)} {k : Nat} {l : List Int} (h : L[k]? = some l) : sumL (L.take (k + 1)) = sumL (L.take k) + l.length := by
  unfold sumL
  rw [flat_take_succ h, List.length_append]
theorem sum_take_le (L : List (List Int)) (k : Nat) : sumL (L.take k) ≤ sumL L := by
  unfold sumL
  have h : L.flatten.length = (L.take k).flatten.length + (L.drop k).flatten.length := by rw [← List.length_append, ← List.flatten_append, List.take_append_drop]
  omega
set_option maxHeartbeats 4000000
theorem times_walk (A : Option Addr) (n c : Nat) (xs : List Int) (w : World) (h : ArgB w A n c xs) :
    Calls Try.prog 9 #[.slice A n c] w (RetK w (.bool true)) := by
  have H := Lib.hid h
  have hn := h.ln
  have hcp := h.cp
  have hmo := h.most
  have HN := Lib.hid hn
  clear h hn
  go_enter Try.func9, Try.ntmps9
  go_wp2_with fail
  refine (awake_calls _).mono ?_
  rintro e w1 ⟨rfl, k1⟩
  have K1 := Lib.hid k1
  clear k1
  by_cases hbig : 20000 < n
  · go_wp2_with fail
    go_ret
    exact ⟨rfl, K1.out⟩
  · have hnb : ¬ (20000 < (n : Int)) := by omega
    have HBG : Hid (n ≤ 20000) := Lib.hid (by omega)
    have HA1 := Lib.hid (H.out.keep0 K1.out)
    have HML : Hid (MadeV (w1.alloc (.cells #[] 5)) 5 (.slice (some ⟨w1.heap.size, 0, none⟩) 0 0) []) := Lib.hid (MadeV.lit w1 5 [] (by simp))
    have HR1 : Hid (RdV (w1.alloc (.cells #[] 5)) A (bytes xs)) := Lib.hid (HA1.out.reads.keep0 (Keep.alloc [] _ _))
    have HLB : Hid ((bytes xs).length = n) := Lib.hid (by rw [bytes_length]; exact HN.out)
    clear hbig
    go_wp2_with (at_builtin; refine append_v slB (by first | rfl | kernel_rfl) _ _ rfl _ [] rfl HML.out _ _ _ (bytes xs) rfl HLB.out HR1.out (bytes_one _) (by have := HBG.out; simp; omega) (by have := HBG.out; simp; omega) (fun hA => H.out.nil hA) ?_)
    intro v' w2 m1 m2 m3
    change MadeV w2 _ v' (bytes xs) at m1
    obtain ⟨MA, mc, hv', hma⟩ := m1.argB H.out.rng (by rw [HN.out]; have := HBG.out; omega)
    rw [HN.out] at hv' hma
    subst hv'
    have k2 : Keep [] w1 w2 := (Keep.alloc [] w1 _).trans' m2 (by simp) (by simp [Value.ownBlock])
    have HMA := Lib.hid hma
    have K2 := Lib.hid (K1.out.trans k2)
    have HA2 := Lib.hid (HA1.out.keep0 k2)
    clear m1 m2 m3 k2 hma HML HR1 HLB HA1 K1
    go_wp2_with fail
    refine (parse_calls MA n mc xs _ HMA.out).mono ?_
    rintro e w3 ⟨k3, h3⟩
    cases hp : parseM xs with
    | none =>
      rw [hp] at h3
      have h3' : e = .returned (.tuple #[pkV 0 0 (.slice none 0 0) 0, .int .i64 3]) := h3
      subst h3'
      unfold pkV
      have K3 := Lib.hid ((K2.out.trans k3).trans (Keep.alloc [] w3 (.cells #[.int .i64 0, .int .i64 0, .slice none 0 0, .int .i64 0] 25)))
      clear k3 h3 hp
      go_wp2_with fail
      go_ret
      exact ⟨rfl, K3.out⟩
    | some p =>
      rw [hp] at h3
      obtain ⟨fv, rfl, hf⟩ := h3
      obtain ⟨hcfg, hf1, hf2, hf3⟩ := parse_ok hp
      obtain ⟨pcfg, ch, L, pad⟩ := p
      dsimp only at hcfg hf1 hf2 hf3 hf ⊢
      obtain ⟨⟨vs, q1, q2, q3⟩, _⟩ := hf
      obtain ⟨VA, vc, hfv, hvc, _, _, _, _⟩ := q1.reads
      obtain ⟨m, hm⟩ : ∃ m, m = L.length := ⟨_, rfl⟩
      rw [q2, ← hm] at hfv
      rw [q2, ← hm] at hvc
      rw [← hm] at hf1 hf2
      subst hfv
      have HM := Lib.hid hm
      have HF3 : Hid (sumL L < n) := Lib.hid (by rw [← HN.out]; exact hf3)
      have HQ3 := Lib.hid q3
      have HQ2 := Lib.hid q2
      have HQ1 := Lib.hid q1
      have K3 := Lib.hid k3
      clear k3 hp hm q1 q2 q3 hf3
      unfold pkV
      go_wp2_with fail
      refine (of_ok _ pcfg hcfg).mono ?_
      rintro e w4 ⟨rfl, k4⟩
      unfold ofV cfgV
      obtain ⟨ms, hms⟩ : ∃ ms, ms = msM pcfg := ⟨_, rfl⟩
      have hmr := msM_rng pcfg
      rw [← hms] at hf2 hmr ⊢
      clear hms
      generalize modeM pcfg = mo at *
      generalize rateM pcfg = ra at *
      obtain ⟨q, hq⟩ : ∃ q, q = (m : Int) * ms := ⟨_, rfl⟩
      have hq0 : 0 ≤ q := by rw [hq]; exact Int.mul_nonneg (by omega) (by omega)
      rw [← hq] at hf2
      have hw1 : wrap64 ((m : Int) * ms) = q := by rw [← hq]; unfold wrap64; omega
      have hw2 : IntKind.i64.wrap ((m : Int) * ms) = q := by rw [wrapEq']; exact hw1
      have hm12 : m ≤ 12 := by
        rcases Nat.lt_or_ge 12 m with h | h
        · exfalso
          have h1 : (13 : Int) * 10 ≤ (m : Int) * ms := Int.mul_le_mul (by omega) hmr.1 (by omega) (by omega)
          omega
        · exact h
      have HW : Hid (wrap64 ((m : Int) * ms) = q ∧ IntKind.i64.wrap ((m : Int) * ms) = q) := Lib.hid ⟨hw1, hw2⟩
      clear hq
      have ka := (Keep.alloc [] w3 (.cells #[.int .i64 pcfg, .int .i64 ch, .slice VA m vc, .int .i64 pad] 25)).trans k4
      have kb := ka.trans (Keep.alloc [] w4 (.cells #[.int .i64 mo, .int .i64 ra, .int .i64 ms] 31))
      have HT : Hid (TmSt w2 (w4.alloc (.cells #[.int .i64 mo, .int .i64 ra, .int .i64 ms] 31)) w3.heap.size w4.heap.size #[.int .i64 pcfg, .int .i64 ch, .slice VA m vc, .int .i64 pad] #[.int .i64 mo, .int .i64 ra, .int .i64 ms] (.slice VA m vc) vs L) :=
        Lib.hid ⟨K3.out.trans kb, HQ1.out.keep0 kb, ((Blk.new w3 _ _).keep k4 (by simp)).keep (Keep.alloc [] _ _) (by simp), Blk.new w4 _ _, HQ2.out, fun i x l hx hl => by
          obtain ⟨a, b⟩ := HQ3.out i x l hx hl
          exact (Lie.ofMade a b).keep kb (Odd.nil _)⟩
      clear ka kb k4 HQ1 HQ3 K3
      go_wp2_with fail
      clear hw1 hw2
      obtain ⟨pb, hpb⟩ : ∃ pb, pb = w3.heap.size := ⟨_, rfl⟩
      obtain ⟨cb, hcb⟩ : ∃ cb, cb = w4.heap.size := ⟨_, rfl⟩
      rw [← hpb, ← hcb] at HT ⊢
      clear hpb hcb
      go_loopw [8, 9] (fun sv i wr => ∃ k : Nat, k ≤ m ∧ i = .int .i64 k ∧ sv = .int .i64 (sumL (L.take k)) ∧ TmSt w2 wr pb cb #[.int .i64 pcfg, .int .i64 ch, .slice VA m vc, .int .i64 pad] #[.int .i64 mo, .int .i64 ra, .int .i64 ms] (.slice VA m vc) vs L) (fun _ i _ => m - (intOf i).toNat)
      case atStart => exact ⟨0, by omega, rfl, by simp [sumL], HT.out⟩
      case round =>
        clear HT
        obtain ⟨k, hk, rfl, rfl, HT⟩ := hrel
        have HT := Lib.hid HT
        have d2 : wr.cell? ⟨pb, 2, none⟩ = some (.slice VA m vc) := HT.out.px.cell 2
        by_cases hlt : k < m
        · obtain ⟨l, hl⟩ : ∃ l, L[k]? = some l := ⟨_, List.getElem?_eq_getElem (by rw [← HM.out]; exact hlt)⟩
          obtain ⟨x, hx⟩ : ∃ x, vs[k]? = some x := ⟨_, List.getElem?_eq_getElem (by rw [HT.out.ln, ← HM.out]; exact hlt)⟩
          obtain ⟨X, d, rfl⟩ := (HT.out.lies k x l hx hl).shape
          obtain ⟨_, _, hz, _, _, hrd, _, _⟩ := HT.out.hd.reads
          simp only [Value.slice.injEq] at hz
          obtain ⟨rfl, hz1, rfl⟩ := hz
          clear hz1
          obtain ⟨a, rfl, hca⟩ := hrd k _ hx
          have hss := sum_take_succ hl
          obtain ⟨q2, hq2⟩ : ∃ q2, q2 = l.length := ⟨_, rfl⟩
          have hsl := Nat.le_trans (sum_take_le L (k + 1)) (Nat.le_of_lt HF3.out)
          rw [← hq2] at hca hx hss
          have HL := Lib.hid hl
          have HX := Lib.hid hx
          have HQQ := Lib.hid hq2
          obtain ⟨s1, hs1⟩ : ∃ s1, s1 = sumL (L.take k) := ⟨_, rfl⟩
          rw [← hs1] at hss ⊢
          have hs2 : s1 + q2 ≤ 20000 := by have := HBG.out; omega
          have HSS := Lib.hid hss
          clear hrd hl hx hq2 hss hsl hs1
          have hk0 : (0 : Int) ≤ (k : Int) := by omega
          have hk1 : (k : Int) < (m : Int) := by omega
          have e1 : wrap64 ((s1 : Int) + (q2 : Int)) = ((s1 + q2 : Nat) : Int) := by rw [show (s1 : Int) + (q2 : Int) = ((s1 + q2 : Nat) : Int) by omega]; exact small64 (Nat.le_trans hs2 (by decide))
          have e2 : IntKind.i64.wrap ((s1 : Int) + (q2 : Int)) = ((s1 + q2 : Nat) : Int) := by rw [wrapEq']; exact e1
          obtain ⟨wo, hwo⟩ : ∃ wo, wo = wr := ⟨_, rfl⟩
          subst hwo
          go_wp2_with fail
          clear d2 hca e1 e2
          go_loopw [10] (fun i wi => ∃ j : Nat, j ≤ q2 ∧ i = .int .i64 j ∧ TmSt w2 wi pb cb #[.int .i64 pcfg, .int .i64 ch, .slice (some a) m vc, .int .i64 pad] #[.int .i64 mo, .int .i64 ra, .int .i64 ms] (.slice (some a) m vc) vs L) (fun i _ => q2 - (intOf i).toNat)
          case atStart => exact ⟨0, by omega, rfl, HT.out⟩
          case round =>
            clear HT
            obtain ⟨j, hj, rfl, HT⟩ := hrel
            have HT := Lib.hid HT
            have d2 : wr.cell? ⟨pb, 2, none⟩ = some (.slice (some a) m vc) := HT.out.px.cell 2
            obtain ⟨_, _, hz, _, _, hrd, _, _⟩ := HT.out.hd.reads
            simp only [Value.slice.injEq] at hz
            obtain ⟨rfl, hz1, rfl⟩ := hz
            obtain ⟨a', ha', hca⟩ := hrd k _ HX.out
            simp only [Option.some.injEq] at ha'
            subst ha'
            clear hz1 hrd
            by_cases hjl : j < q2
            · have hli := HT.out.lies k _ l HX.out HL.out
              rw [← HQQ.out] at hli
              rcases hli with ⟨h0, _⟩ | ⟨g, d', cs, hgx, hgb, hgn, hgB⟩
              · omega
              · simp only [Value.slice.injEq] at hgx
                obtain ⟨rfl, hz1, rfl⟩ := hgx
                clear hz1
                obtain ⟨u, hu⟩ : ∃ u, cs[j]? = some u := ⟨_, Array.getElem?_eq_getElem (by omega)⟩
                have c1 : wr.cell? ⟨g, j, none⟩ = some u := by rw [hgb.cell]; exact hu
                have c2 : wr.frozen? ⟨g, j, none⟩ = false := hgb.free j
                have HT2 := Lib.hid (HT.out.set (i := j) (u := .int .u8 77) hgb hgB)
                have hj0 : (0 : Int) ≤ (j : Int) := by omega
                have hj1 : (j : Int) < (q2 : Int) := by omega
                clear hu hgn hgB hgb
                go_wp2_with fail
                go_roundw
                case rel => exact ⟨j + 1, by omega, by go_num, HT2.out⟩
                case measure => simp [intOf]; omega
            · go_wp2_with fail
              go_roundw
              case rel => exact ⟨k + 1, by omega, by go_num, by rw [HSS.out]; go_num, HT.out⟩
              case measure => simp [intOf]; omega
        · obtain rfl : k = m := by omega
          have htk : L.take k = L := List.take_of_length_le (by rw [HM.out]; exact Nat.le_refl _)
          rw [htk]
          obtain ⟨s1, hs1⟩ : ∃ s1, s1 = sumL L := ⟨_, rfl⟩
          rw [← hs1] at HF3 ⊢
          have hs2 : s1 < n := HF3.out
          obtain ⟨S, hS⟩ : ∃ S, S = strOfNums xs := ⟨_, rfl⟩
          have hr1 := run_str wr MA n mc xs (HMA.out.keep0 HT.out.kept).reads HN.out HMA.out.nil
          have hr2 := run_str wr A n c xs (HA2.out.keep0 HT.out.kept).reads HN.out H.out.nil
          rw [← hS] at hr1 hr2
          have d3 : wr.cell? ⟨cb, 2, none⟩ = some (.int .i64 ms) := HT.out.cx.cell 2
          have hw1 : wrap64 ((k : Int) * ms) = q := HW.out.1
          have hw2 : IntKind.i64.wrap ((k : Int) * ms) = q := HW.out.2
          clear htk hs1 hS
          go_wp2_with fail
          all_goals first
            | (exfalso; omega)
            | (go_ret; exact ⟨rfl, K2.out.trans HT.out.kept⟩)
theorem times_row (A : Option Addr) (n c : Nat) (xs : List Int) (w : World) (h : ArgB w A n c xs) :
    Calls Try.prog 9 #[.slice A n c] w fun e w' => e = .returned (.bool true) ∧ Below w.heap.size w w' :=
  (times_walk A n c xs w h).mono fun _ _ ⟨he, k⟩ => ⟨he, k.toBelow⟩
end Go.Proofs.Ytmnknegbbmjcbaa
