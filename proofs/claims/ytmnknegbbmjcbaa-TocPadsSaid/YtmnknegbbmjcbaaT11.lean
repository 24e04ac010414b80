/- toc.Pack: whether the frames are unlike; the frames laid behind each other; the bad; two alike. -/
import Derived.Test.YtmnknegbbmjcbaaT10
namespace Go.Proofs.Ytmnknegbbmjcbaa
open Go.RowKit

set_option maxHeartbeats 1000000
theorem unlike_calls (pb n0 : Nat) (cfg ch pad : Int) (A : Option Addr) (n c : Nat) (L : List (List Int)) (l0 : List Int) (X : Option Addr) (q d : Nat) (w : World) (h : FrR w A n c L) (hb : Blk w pb #[.int .i64 cfg, .int .i64 ch, .slice A n c, .int .i64 pad] 25) (hl0 : L[0]? = some l0) (hn0 : l0.length = n0) :
    Calls Try.prog 30 #[.slice X q d, .pointer (some ⟨pb, 0, none⟩)] w fun e w' => e = .returned (.bool (!decide (q = n0))) ∧ w = w' := by
  obtain ⟨a, Y, e0, rfl, hca, _⟩ := h.at_ 0 l0 hl0
  rw [Addr.add_zero', hn0] at hca
  have hn : 0 < n := by
    have := (List.getElem?_eq_some_iff.1 hl0).1
    have := h.ln
    omega
  have hni : (0 : Int) < (n : Int) := by omega
  have hc2 : w.cell? ⟨pb, 2, none⟩ = some (.slice (some a) n c) := hb.cell 2
  clear h hb hl0 hn0
  go_enter Try.func30, Try.ntmps30
  go_wp2_with fail
  go_ret
  refine ⟨?_, rfl⟩
  by_cases hq : q = n0
  · subst hq
    simp
  · simp [hq]
    omega
theorem indexUnlike (pb n0 : Nat) (cfg ch pad : Int) (l0 : List Int) (A : Option Addr) (n c : Nat) (L : List (List Int)) (w : World) (h : FrR w A n c L) (hb : Blk w pb #[.int .i64 cfg, .int .i64 ch, .slice A n c, .int .i64 pad] 25) (hl0 : L[0]? = some l0) (hn0 : l0.length = n0) :
    Calls Try.prog 39 #[.slice A n c, .func (.func 30) #[] #[.pointer (some ⟨pb, 0, none⟩)]] w fun e w' => (∃ i : Int, e = .returned (.int .i64 i) ∧ anyL (fun q => !decide (q = n0)) L = decide (0 ≤ i)) ∧ w = w' := by
  have H := Lib.hid h
  have hn := h.ln
  have hcp := h.cp
  have hmo := h.most
  have HB := Lib.hid hb
  have HL0 := Lib.hid hl0
  have HN0 := Lib.hid hn0
  clear hb hl0 hn0 h
  have HN := Lib.hid hn
  clear hn
  go_enter Try.func39, Try.ntmps39
  go_wp2_with fail
  go_loopw [8] (fun i wr => ∃ k : Nat, k ≤ n ∧ i = .int .i64 k ∧ wr = w ∧ Hid (∀ j l, j < k → L[j]? = some l → ((fun q => !decide (q = n0)) : Nat → Bool) l.length = false)) (fun i _ => n - (intOf i).toNat)
  case atStart => exact ⟨0, Nat.zero_le _, rfl, rfl, Lib.hid (fun j l hj => by omega)⟩
  case round =>
    obtain ⟨k, hk, rfl, rfl, HS⟩ := hrel
    by_cases hlt : k < n
    · obtain ⟨l, hl⟩ : ∃ l, L[k]? = some l := ⟨_, List.getElem?_eq_getElem (by rw [HN.out]; exact hlt)⟩
      obtain ⟨a, X, d, rfl, hca, _⟩ := H.out.at_ k l hl
      have HL := Lib.hid hl
      obtain ⟨q, hq⟩ : ∃ q, q = l.length := ⟨_, rfl⟩
      rw [← hq] at hca
      have HQ := Lib.hid hq
      clear hq hl
      go_wp2_with fail
      refine (unlike_calls pb n0 cfg ch pad _ n c L l0 X q d _ H.out HB.out HL0.out HN0.out).mono ?_
      rintro e w' ⟨rfl, rfl⟩
      cases ho : ((fun q => !decide (q = n0)) : Nat → Bool) q with
      | true =>
        have HO := Lib.hid ho
        clear ho
        have ho' : (!decide (q = n0)) = true := by have := HO.out; simpa using this
        go_wp2_with fail
        go_ret
        exact ⟨⟨_, rfl, by rw [anyL_true HL.out (by rw [← HQ.out]; exact HO.out)]; simp⟩, by trivial⟩
      | false =>
        have HO := Lib.hid ho
        clear ho
        have ho' : (!decide (q = n0)) = false := by have := HO.out; simpa using this
        go_wp2_with fail
        go_roundw
        case rel => exact ⟨k + 1, by omega, by go_num, by trivial, Lib.hid (fun j l' hj hl' => by
          by_cases hjk : j < k
          · exact HS.out j l' hjk hl'
          · obtain rfl : j = k := by omega
            have e := HL.out.symm.trans hl'
            simp only [Option.some.injEq] at e
            subst e
            rw [← HQ.out]; exact HO.out)⟩
        case measure => simp [intOf]; omega
    · go_wp2
      go_ret
      obtain rfl : k = n := by omega
      exact ⟨⟨_, rfl, by rw [anyL_false HN.out HS.out]; simp⟩, rfl⟩
theorem containsUnlike (pb n0 : Nat) (cfg ch pad : Int) (l0 : List Int) (A : Option Addr) (n c : Nat) (L : List (List Int)) (w : World) (h : FrR w A n c L) (hb : Blk w pb #[.int .i64 cfg, .int .i64 ch, .slice A n c, .int .i64 pad] 25) (hl0 : L[0]? = some l0) (hn0 : l0.length = n0) :
    Calls Try.prog 28 #[.slice A n c, .func (.func 30) #[] #[.pointer (some ⟨pb, 0, none⟩)]] w fun e w' => e = .returned (.bool (anyL (fun q => !decide (q = n0)) L)) ∧ w = w' := by
  have H := Lib.hid h
  have HB := Lib.hid hb
  have HL0 := Lib.hid hl0
  have HN0 := Lib.hid hn0
  clear hb hl0 hn0 h
  go_enter Try.func28, Try.ntmps28
  go_wp2_with fail
  refine (indexUnlike pb n0 cfg ch pad l0 A n c L w H.out HB.out HL0.out HN0.out).mono ?_
  rintro e w' ⟨⟨i, rfl, h1⟩, rfl⟩
  have H1 := Lib.hid h1
  clear h1
  go_wp2_with fail
  go_ret
  refine ⟨?_, rfl⟩
  rw [H1.out]
  rfl
/-- append of zeros at a list of operations. -/
theorem append_zeros_w {o : Oper} {a : Act} {ops : Array Oper} {rest : List Oper} {w : World} {Q : Exit → Act → World → Prop} (hgd : Region.wanted o (yielded ops a.tmps) = true) (s x : Operand)
    (ho : o.op = .call { callee := .builtin .append, args := #[s, x], argTypes := #[29, 3] }) (v : Value) (xs : List Int) (hv : a.eval s = v) (hm : MadeV w 5 v (bytes xs)) (hb : ∃ b, v.ownBlock = some b)
    (k : Nat) (hx : a.eval x = .int .i64 k) (hbig : xs.length + k ≤ 1000000)
    (h : ∀ v' w', MadeV w' 5 v' (bytes (xs ++ List.replicate k 0)) → Keep v.ownBlock.toList w w' → (v'.ownBlock = v.ownBlock ∨ v'.ownBlock = some w.heap.size) → wpList Try.prog ops Q rest (a.put o.dst v') w') :
    wpList Try.prog ops Q (o :: rest) a w := by
  refine wpList_step fun K hK => ?_
  rw [if_pos hgd]
  obtain ⟨v', w', hrun, h1, h2, h3⟩ := run_append_zeros w o.type v xs hm hb k hbig
  unfold Oper.wp
  simp [execOp, ho, resolve, invoke, builtin, hv, hx, hrun, Result.andThen]
  exact hK _ _ (h v' w' h1 h2 h3)
/-- While the frames are laid: the bytes so far; all old blocks are as they were; the frames can be read. -/
structure PcSt (w wr : World) (pb : Nat) (pc : Array Value) (v : Value) (xs : List Int) (FA : Option Addr) (n fc : Nat) (L : List (List Int)) : Prop where
  kept : Keep [] w wr
  bx : Blk wr pb pc 25
  made : MadeV wr 5 v (bytes xs)
  own : ∀ b, v.ownBlock = some b → w.heap.size ≤ b
  some_ : ∃ b, v.ownBlock = some b
  fr : FrR w FA n fc L
theorem PcSt.app {w wr w' : World} {pb : Nat} {pc : Array Value} {v v' : Value} {xs ys : List Int} {FA : Option Addr} {n fc : Nat} {L : List (List Int)} (h : PcSt w wr pb pc v xs FA n fc L) (h1 : MadeV w' 5 v' (bytes ys)) (h2 : Keep v.ownBlock.toList wr w')
    (h3 : v'.ownBlock = v.ownBlock ∨ v'.ownBlock = some wr.heap.size) : PcSt w w' pb pc v' ys FA n fc L := by
  have z := h.kept.size
  have no : pb ∉ v.ownBlock.toList := fun hm => by
    simp only [Option.mem_toList] at hm
    exact h.made.ne h.bx (by decide) pb hm rfl
  refine ⟨h.kept.trans' h2 (by simp) (fun b hb => by simp only [Option.mem_toList] at hb; exact .inr (h.own b hb)), h.bx.keep h2 no, h1, fun b hb => ?_, ?_, h.fr⟩
  · rcases h3 with e | e
    · exact h.own b (by rw [← e]; exact hb)
    · rw [hb] at e
      simp only [Option.some.injEq] at e
      omega
  · rcases h3 with e | e
    · rw [e]; exact h.some_
    · exact ⟨_, e⟩
theorem sum_le {L : List (List Int)} (h : ∀ l ∈ L, l.length ≤ 1275) : L.flatten.length ≤ 1275 * L.length := by
  induction L with
  | nil => simp
  | cons l L ih =>
    have h1 := h l (by simp)
    have h2 := ih (fun q hq => h q (by simp [hq]))
    simp only [List.flatten_cons, List.length_append, List.length_cons]
    omega
theorem take_sum_le {L : List (List Int)} (k : Nat) (h : ∀ l ∈ L, l.length ≤ 1275) (hk : L.length ≤ 12) : (L.take k).flatten.length ≤ 15300 := by
  have h1 := sum_le (L := L.take k) (fun l hl => h l (List.mem_of_mem_take hl))
  have h2 : (L.take k).length ≤ 12 := by simp; omega
  omega
theorem flat_take_succ {L : List (List Int)} {k : Nat} {l : List Int} (h : L[k]? = some l) : (L.take (k + 1)).flatten = (L.take k).flatten ++ l := by
  rw [List.take_add_one, h, List.flatten_append]
  simp
theorem pack_bad (cfg ch pad : Int) (FA : Option Addr) (n fc : Nat) (L : List (List Int)) (w : World) (h : FrR w FA n fc L) (hg : goodM cfg ch L pad = false) :
    Calls Try.prog 14 #[.agg #[.int .i64 cfg, .int .i64 ch, .slice FA n fc, .int .i64 pad]] w (RetK w (.tuple #[.slice none 0 0, .int .i64 1])) := by
  have HF := Lib.hid (h.keep0 (Keep.alloc [] w (.cells #[.int .i64 cfg, .int .i64 ch, .slice FA n fc, .int .i64 pad] 25)))
  have HG := Lib.hid hg
  have HB : Hid (Blk (w.alloc (.cells #[.int .i64 cfg, .int .i64 ch, .slice FA n fc, .int .i64 pad] 25)) w.heap.size #[.int .i64 cfg, .int .i64 ch, .slice FA n fc, .int .i64 pad] 25) := Lib.hid (Blk.new w _ _)
  clear h hg
  go_enter Try.func14, Try.ntmps14
  go_wp2_with (refine wpList_load_row rfl 25 _ rfl w.heap.size rfl 25 _ (0, 0) _ HB.out Try.underlying25 rfl (pk_size _ _ _ _ _ _) ?_)
  refine (good_calls cfg ch pad FA n fc L _ HF.out).mono ?_
  rintro e w2 ⟨rfl, k2⟩
  rw [HG.out]
  have K2 := Lib.hid ((Keep.alloc [] w (.cells #[.int .i64 cfg, .int .i64 ch, .slice FA n fc, .int .i64 pad] 25)).trans k2)
  clear k2 HF HB
  go_wp2_with fail
  go_ret2
  exact ⟨rfl, K2.out⟩
set_option maxHeartbeats 4000000
/-- Two frames alike, without padding. -/
theorem pack_two (FA : Option Addr) (fc : Nat) (l1 l2 : List Int) (w : World) (h : FrR w FA 2 fc [l1, l2]) (hg : goodM 0 1 [l1, l2] 0 = true) (he : l1.length = l2.length) (h1 : l1.length ≤ 1275) :
    Calls Try.prog 14 #[.agg #[.int .i64 0, .int .i64 1, .slice FA 2 fc, .int .i64 0]] w fun e w' => ∃ v, e = .returned (.tuple #[v, .int .i64 0]) ∧ MadeV w' 5 v (bytes ([1] ++ l1 ++ l2)) ∧ Keep [] w w' ∧ (∀ b, v.ownBlock = some b → w.heap.size ≤ b) := by
  have HF0 := Lib.hid h
  have HF := Lib.hid (h.keep0 (Keep.alloc [] w (.cells #[.int .i64 0, .int .i64 1, .slice FA 2 fc, .int .i64 0] 25)))
  have HG := Lib.hid hg
  have HSH : Hid (∀ l ∈ [l1, l2], l.length ≤ 1275) := Lib.hid (by intro l hl; simp only [List.mem_cons, List.not_mem_nil, or_false] at hl; rcases hl with rfl | rfl <;> omega)
  have HUN : Hid (anyL (fun q => !decide (q = l1.length)) [l1, l2] = false) := Lib.hid (by simp [anyL, he])
  have HB : Hid (Blk (w.alloc (.cells #[.int .i64 0, .int .i64 1, .slice FA 2 fc, .int .i64 0] 25)) w.heap.size #[.int .i64 0, .int .i64 1, .slice FA 2 fc, .int .i64 0] 25) := Lib.hid (Blk.new w _ _)
  have hcp := h.cp
  have hmo := h.most
  clear h hg he h1
  go_enter Try.func14, Try.ntmps14
  go_wp2_with (refine wpList_load_row rfl 25 _ rfl w.heap.size rfl 25 _ (0, 0) _ HB.out Try.underlying25 rfl (pk_size _ _ _ _ _ _) ?_)
  refine (good_calls 0 1 0 FA 2 fc [l1, l2] _ HF.out).mono ?_
  rintro e w2 ⟨rfl, k2⟩
  rw [HG.out]
  have K2 := Lib.hid ((Keep.alloc [] w (.cells #[.int .i64 0, .int .i64 1, .slice FA 2 fc, .int .i64 0] 25)).trans k2)
  have HB2 := Lib.hid (HB.out.keep k2 (by simp))
  have HF2 := Lib.hid (HF.out.keep0 k2)
  clear k2 HF HB
  have b0 : w2.cell? ⟨w.heap.size, 0, none⟩ = some (.int .i64 0) := HB2.out.cell 0
  have b1 : w2.cell? ⟨w.heap.size, 1, none⟩ = some (.int .i64 1) := HB2.out.cell 1
  have b2 : w2.cell? ⟨w.heap.size, 2, none⟩ = some (.slice FA 2 fc) := HB2.out.cell 2
  have b3 : w2.cell? ⟨w.heap.size, 3, none⟩ = some (.int .i64 0) := HB2.out.cell 3
  go_wp2_with fail
  refine (containsUnlike w.heap.size l1.length 0 1 0 l1 FA 2 fc [l1, l2] _ HF2.out HB2.out rfl rfl).mono ?_
  rintro e w' ⟨rfl, rfl⟩
  rw [HUN.out]
  have HP : Hid (PcSt w (w2.alloc (.cells #[.int .u8 1] 5)) w.heap.size #[.int .i64 0, .int .i64 1, .slice FA 2 fc, .int .i64 0] (.slice (some ⟨w2.heap.size, 0, none⟩) 1 1) ([1] ++ ([l1, l2].take 0).flatten) FA 2 fc [l1, l2]) := by
    have k := Keep.alloc [] w2 (.cells #[.int .u8 1] 5)
    exact Lib.hid ⟨K2.out.trans k, HB2.out.keep k (by simp), MadeV.lit w2 5 (bytes [1]) (by rw [bytes_length]; decide), (fun b hb => by have h2 := K2.out.size; have hb2 : w2.heap.size = b := Option.some.inj hb; omega), ⟨_, rfl⟩, HF0.out⟩
  have d2 : (w2.alloc (.cells #[.int .u8 1] 5)).cell? ⟨w.heap.size, 2, none⟩ = some (.slice FA 2 fc) := HP.out.bx.cell 2
  clear HF2
  go_wp2_with fail
  clear b0 b1 b2 b3 d2 HB2
  go_loopw [7, 79] (fun v i wr => ∃ k : Nat, k ≤ 2 ∧ i = .int .i64 k ∧ PcSt w wr w.heap.size #[.int .i64 0, .int .i64 1, .slice FA 2 fc, .int .i64 0] v ([1] ++ ([l1, l2].take k).flatten) FA 2 fc [l1, l2]) (fun _ i _ => 2 - (intOf i).toNat)
  case atStart => exact ⟨0, by omega, rfl, HP.out⟩
  case round =>
    clear HP
    obtain ⟨k, hk, rfl, HS⟩ := hrel
    have HS := Lib.hid HS
    by_cases hlt : k < 2
    · obtain ⟨l, hl⟩ : ∃ l, [l1, l2][k]? = some l := ⟨_, List.getElem?_eq_getElem (by simpa using hlt)⟩
      obtain ⟨a, X, d, rfl, hca, hax⟩ := HF0.out.at_ k l hl
      have hcw := HS.out.kept.cell hca (by simp)
      have HX := Lib.hid (hax.keep0 HS.out.kept)
      have HFL := Lib.hid (flat_take_succ hl)
      have HLL : Hid (l.length ≤ 1275) := Lib.hid (HSH.out l (List.mem_of_getElem? hl))
      have HSL : Hid (([l1, l2].take k).flatten.length ≤ 15300) := Lib.hid (take_sum_le k HSH.out (by simp))
      obtain ⟨q, hq⟩ : ∃ q, q = l.length := ⟨_, rfl⟩
      rw [← hq] at hcw HX HLL
      have HQ := Lib.hid hq
      clear hca hax hl hq
      have hk0 : (0 : Int) ≤ (k : Int) := by omega
      have hk1 : (k : Int) < 2 := by omega
      go_wp2_with (at_builtin; refine append_v slB (by first | rfl | kernel_rfl) _ _ rfl _ (bytes ([1] ++ ([l1, l2].take k).flatten)) rfl HS.out.made _ _ _ (bytes l) rfl (by rw [bytes_length]; exact HQ.out.symm) HX.out.reads (bytes_one _) (by have := HSL.out; have := HLL.out; rw [bytes_length, List.length_append, List.length_singleton]; omega) (by have := HSL.out; have := HLL.out; rw [bytes_length, List.length_append, List.length_singleton]; omega) (fun hA => HX.out.nil hA) ?_)
      intro v' w3 m1 m2 m3
      rw [← bytes_append] at m1
      have HU := Lib.hid (HS.out.app m1 m2 m3)
      clear m1 m2 m3 HX HS
      go_wp2_with fail
      go_roundw
      case rel => exact ⟨k + 1, by omega, by go_num, by rw [HFL.out, ← List.append_assoc]; exact HU.out⟩
      case measure => simp [intOf]; omega
    · obtain rfl : k = 2 := by omega
      have d3 : wr.cell? ⟨w.heap.size, 3, none⟩ = some (.int .i64 0) := HS.out.bx.cell 3
      have HSL : Hid (([l1, l2].take 2).flatten.length ≤ 15300) := Lib.hid (take_sum_le 2 HSH.out (by simp))
      go_wp2_with (at_builtin; refine append_zeros_w (by first | rfl | kernel_rfl) _ _ rfl _ ([1] ++ ([l1, l2].take 2).flatten) rfl HS.out.made HS.out.some_ 0 rfl (by have := HSL.out; rw [List.length_append, List.length_singleton]; omega) ?_)
      intro v' w3 m1 m2 m3
      have m1' : MadeV w3 5 v' (bytes ([1] ++ ([l1, l2].take 2).flatten)) := by simpa using m1
      have HU := Lib.hid (HS.out.app m1' m2 m3)
      clear m1 m1' m2 m3 HS
      go_wp2_with fail
      go_ret2
      refine ⟨v', rfl, ?_, HU.out.kept, HU.out.own⟩
      have h := HU.out.made
      simpa using h
end Go.Proofs.Ytmnknegbbmjcbaa
