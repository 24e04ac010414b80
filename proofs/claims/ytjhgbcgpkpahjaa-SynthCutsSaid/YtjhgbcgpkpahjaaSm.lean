/- 'same' of two lists; the reference's 'ahead' and 'last'. -/
import Derived.Test.YtjhgbcgpkpahjaaK1
import Derived.Maps.AppendAt
namespace Go.Proofs.Ytjhgbcgpkpahjaa
open Go.RowKit

theorem getD_ne {xs ys : List Int} {k : Nat} (h : xs.getD k 0 ≠ ys.getD k 0) : xs ≠ ys := fun e => h (by rw [e])
theorem same_done {xs ys : List Int} {n : Nat} (hx : xs.length = n) (hy : ys.length = n) (h : ∀ j, j < n → xs.getD j 0 = ys.getD j 0) : xs = ys := by
  apply List.ext_getElem (by omega)
  intro i h1 h2
  have := h i (by omega)
  simpa [h1, h2] using this
def RetDrawn (w : World) (v : Value) (e : Ending) (w' : World) : Prop := e = .returned v ∧ ∃ q, w' = w.drewN q
set_option maxHeartbeats 1000000 in
theorem lsame_calls (A B : Option Addr) (xs ys : List Int) (n m c d : Nat) (w : World) (hx : xs.length = n) (hy : ys.length = m) (hn : n ≤ 1000000) (hm : m ≤ 1000000) (ha : Rd w A xs) (hb : Rd w B ys) :
    Calls Try.prog 17 #[.slice A n c, .slice B m d] w (RetDrawn w (.bool (decide (xs = ys)))) := by
  by_cases hnm : n = m
  · subst hnm
    have HX := Lib.hid hx
    have HY := Lib.hid hy
    have HA := Lib.hid ha
    have HB := Lib.hid hb
    clear hx hy ha hb
    go_enter Try.func17, Try.ntmps17
    go_wp2_with fail
    go_loopw [5] (fun i wr => ∃ k q : Nat, k ≤ n ∧ i = .int .i64 k ∧ wr = w.drewN q ∧ Hid (∀ j, j < k → xs.getD j 0 = ys.getD j 0)) (fun i _ => n - (intOf i).toNat)
    case atStart => exact ⟨0, 0, Nat.zero_le _, rfl, rfl, Lib.hid (fun j hj => by omega)⟩
    case round =>
      obtain ⟨k, q, hk, rfl, rfl, HS⟩ := hrel
      by_cases hlt : k < n
      · obtain ⟨a, rfl, hca⟩ := HA.out k (by rw [HX.out]; exact hlt)
        obtain ⟨b, rfl, hcb⟩ := HB.out k (by rw [HY.out]; exact hlt)
        have hk0 : (0 : Int) ≤ (k : Int) := by omega
        have hk1 : (k : Int) < (n : Int) := by omega
        obtain ⟨x, hxe⟩ : ∃ x, x = xs.getD k 0 := ⟨_, rfl⟩
        obtain ⟨y, hye⟩ : ∃ y, y = ys.getD k 0 := ⟨_, rfl⟩
        rw [← hxe] at hca
        rw [← hye] at hcb
        have HXE := Lib.hid hxe
        have HYE := Lib.hid hye
        clear hxe hye
        by_cases hxy : x = y
        · have hne : (x != y) = false := by simp [hxy]
          have HXY := Lib.hid hxy
          clear hxy
          go_wp2_with fail
          go_quiet (fail)
          go_wp2_with fail
          go_roundw
          case rel => exact ⟨k + 1, _, by omega, by go_num, rfl, Lib.hid (fun j hj => by
            by_cases hjk : j < k
            · exact HS.out j hjk
            · obtain rfl : j = k := by omega
              rw [← HXE.out, ← HYE.out]; exact HXY.out)⟩
          case measure => simp [intOf]; omega
        · have hne : (x != y) = true := by simp [hxy]
          have HXY := Lib.hid hxy
          clear hxy
          go_wp2_with fail
          go_quiet (fail)
          go_wp2_with fail
          go_ret
          refine ⟨?_, _, World.drewN_drewN _ _ _⟩
          have : xs ≠ ys := getD_ne (k := k) (by rw [← HXE.out, ← HYE.out]; exact HXY.out)
          simp [this]
      · go_wp2
        go_ret
        refine ⟨?_, _, rfl⟩
        obtain rfl : k = n := by omega
        have := same_done HX.out HY.out HS.out
        simp [this]
  · have hne : ((n : Int) != (m : Int)) = true := by simp; omega
    have h : decide (xs = ys) = false := by
      rw [decide_eq_false_iff_not]
      intro e
      rw [e] at hx
      omega
    rw [h]
    clear hx hy ha hb
    go_enter Try.func17, Try.ntmps17
    go_wp2_with fail
    go_ret
    exact ⟨rfl, 0, rfl⟩

/-! ### ahead -/
/-- The number so many from a list's end. -/
def aheadL (l : List Int) (n : Int) : Int := if n < 1 ∨ (l.length : Int) < n then 0 else l.getD (l.length - n.toNat) 0
set_option maxHeartbeats 1000000 in
theorem ahead_calls (A : Option Addr) (l : List Int) (m c : Nat) (n : Int) (w : World) (hl : l.length = m) (hm : m ≤ 1000000) (ha : Rd w A l) :
    Calls Try.prog 26 #[.slice A m c, .int .i64 n] w fun e w' => e = .returned (.int .i64 (aheadL l n)) ∧ w = w' := by
  by_cases h1 : n < 1
  · have e : aheadL l n = 0 := by simp [aheadL, h1]
    rw [e]; clear e hl ha
    go_enter Try.func26, Try.ntmps26
    go_wp2
    go_ret
    exact ⟨rfl, rfl⟩
  · by_cases h2 : (m : Int) < n
    · have e : aheadL l n = 0 := by simp [aheadL, hl, h2]
      rw [e]; clear e hl ha
      go_enter Try.func26, Try.ntmps26
      go_wp2
      go_ret
      exact ⟨rfl, rfl⟩
    · obtain ⟨k, rfl⟩ := Int.eq_ofNat_of_zero_le (show 0 ≤ n by omega)
      obtain ⟨a, rfl, hca⟩ := ha (m - k) (by omega)
      have e : aheadL l (k : Int) = l.getD (m - k) 0 := by
        unfold aheadL
        rw [if_neg (by omega), hl]; rfl
      rw [e]
      generalize l.getD (m - k) 0 = q at *
      clear e hl ha
      go_enter Try.func26, Try.ntmps26
      go_wp2
      go_ret
      exact ⟨rfl, rfl⟩

/-! ### last -/
/-- A slice that a call made: a list at the head of a block. -/
def Made (w : World) (v : Value) (xs : List Int) : Prop := w.ownsRow 0 2 1 v xs.length (ints xs)
theorem Made.reads {w : World} {v : Value} {xs : List Int} (h : Made w v xs) : ∃ A c, v = .slice A xs.length c ∧ xs.length ≤ c ∧ Rd w A xs ∧ (∀ a, A = some a → ∃ cs, Blk w a.block cs 2) := by
  obtain ⟨h1, h2⟩ := h
  rcases h2 with ⟨rfl, h0⟩ | ⟨g, cap, cur, rfl, _, hg, hn, _, hs, ht⟩
  · have : xs = [] := List.eq_nil_of_length_eq_zero h0
    subst this
    exact ⟨none, 0, rfl, Nat.le_refl _, Rd.nil _ _, fun a h => by cases h⟩
  · refine ⟨_, cap, rfl, hn, ?_, fun a h => by cases h; exact ⟨cur, hg⟩⟩
    rw [Nat.mul_one] at ht
    have e : cur = (ints xs ++ cur.toList.drop xs.length).toArray := by
      apply Array.ext'
      rw [List.toList_toArray, ← ht]
      simp
    have hg' : Blk w g cur 2 := hg
    rw [e] at hg'
    exact Rd.ofBlk hg'
theorem Made.ofBlk {w : World} {g : Nat} {xs : List Int} (h : Blk w g (ints xs).toArray 2) (hx : xs.length ≤ 1000000) : Made w (.slice (some ⟨g, 0, none⟩) xs.length xs.length) xs :=
  ⟨by simp [ints], .inr ⟨g, xs.length, _, rfl, Nat.zero_le _, h, Nat.le_refl _, by unfold maxLen; omega, by simp [ints], by rw [Nat.mul_one, List.toList_toArray]; exact List.take_of_length_le (by simp [ints])⟩⟩
theorem Made.keep {w w' : World} {l : List Nat} {v : Value} {xs : List Int} (h : Made w v xs) (k : Keep l w w') (hl : ∀ g, v.ownBlock = some g → g ∉ l) : Made w' v xs := by
  obtain ⟨h1, h2⟩ := h
  refine ⟨h1, ?_⟩
  rcases h2 with h2 | ⟨g, cap, cur, rfl, hb, hg, rest⟩
  · exact .inl h2
  · exact .inr ⟨g, cap, cur, rfl, hb, Blk.keep (show Blk w g cur _ from hg) k (hl g rfl), rest⟩
theorem Made.lt {w : World} {v : Value} {xs : List Int} (h : Made w v xs) : ∀ g, v.ownBlock = some g → g < w.heap.size := fun g hg => (World.ownsRow.lt h g hg).2

/-- 'append(dst, src...)', dst one of the call's own. -/
theorem run_append_made (w : World) (ty : TypeId) (v : Value) (xs : List Int) (hm : Made w v xs) (A : Option Addr) (n c : Nat) (ys : List Int) (hn : ys.length = n) (hr : Rd w A ys) (hbig : xs.length + n ≤ 1000000000) (hnn : A = none → n = 0) :
    ∃ v' w', (Builtin.append_ #[25, 25] ty #[v, .slice A n c]).run Try.prog w = .ok v' w' ∧ Made w' v' (xs ++ ys) ∧ Keep v.ownBlock.toList w w' ∧ (v'.ownBlock = v.ownBlock ∨ v'.ownBlock = some w.heap.size) := by
  obtain ⟨i, hi, hz, hs, hb⟩ := info_parts infoInt64
  cases A with
  | some a =>
    obtain ⟨v', w', h1, h2, h3, _, h5⟩ := run_append_own_at (P := Try.prog) w 0 25 ty 2 i (.int .i64 0) 1 8 Try.underlying25 hi hz hs hb rfl (by omega) v xs.length (ints xs) hm a n c (ints ys) (by simp [ints, hn])
      (fun j u hu => by
        have hj : j < ys.length := by
          have := (List.getElem?_eq_some_iff.1 hu).1
          simpa [ints] using this
        obtain ⟨a', e, hc⟩ := hr j hj
        cases e
        rw [hc, ← hu, ints_get ys j hj]) (ints_one _) (by unfold maxLen; omega) (by omega) (Nat.zero_le _)
    refine ⟨v', w', h1, ?_, Keep.grown h3, h5⟩
    unfold Made
    rw [List.length_append, ints_append, hn]
    exact h2
  | none =>
    have h0 := hnn rfl
    subst h0
    have hy : ys = [] := List.eq_nil_of_length_eq_zero hn
    subst hy
    rw [List.append_nil]
    obtain ⟨h1, h2⟩ := hm
    rcases h2 with ⟨rfl, h0⟩ | ⟨g, cap, cur, rfl, hb0, hg, hnc, hcm, hcs, ht⟩
    · refine ⟨.slice none 0 0, w, ?_, ⟨h1, .inl ⟨rfl, h0⟩⟩, Keep.refl _ _, .inl rfl⟩
      simp [Builtin.append_, run_underlying Try.underlying25, sizeOf, typeInfo, hi, Builtin.lenOf, Builtin.firstCells]
    · have hrun := run_append_room_src (P := Try.prog) w 25 25 ty 2 i Try.underlying25 hi g 0 xs.length cap (.slice none 0 c) 0 [] (Src.ofNil w Try.underlying25 c) (by omega) (by simp) (by simp)
      refine ⟨_, _, hrun, ?_, ?_, .inl rfl⟩
      · simp only [World.setCells]
        exact ⟨h1, .inr ⟨g, cap, cur, by rw [Nat.add_zero], hb0, hg, hnc, hcm, hcs, ht⟩⟩
      · simp only [World.setCells]
        exact Keep.refl _ _
theorem append_made {o : Oper} {a : Act} {ops : Array Oper} {rest : List Oper} {w : World} {Q : Exit → Act → World → Prop} (hgd : o.guard = none) (s x : Operand)
    (ho : o.op = .call { callee := .builtin .append, args := #[s, x], argTypes := #[25, 25] }) (v : Value) (xs : List Int) (hv : a.eval s = v) (hm : Made w v xs)
    (A : Option Addr) (n c : Nat) (ys : List Int) (hx : a.eval x = .slice A n c) (hn : ys.length = n) (hr : Rd w A ys) (hbig : xs.length + n ≤ 1000000000) (hnn : A = none → n = 0)
    (h : ∀ v' w', Made w' v' (xs ++ ys) → Keep v.ownBlock.toList w w' → (v'.ownBlock = v.ownBlock ∨ v'.ownBlock = some w.heap.size) → wpList Try.prog ops Q rest (a.put o.dst v') w') :
    wpList Try.prog ops Q (o :: rest) a w := by
  refine wpList_plain hgd fun K hK => ?_
  obtain ⟨v', w', hrun, h1, h2, h3⟩ := run_append_made w o.type v xs hm A n c ys hn hr hbig hnn
  unfold Oper.wp
  simp [execOp, ho, resolve, invoke, builtin, hv, hx, hrun, Result.andThen]
  exact hK _ _ (h v' w' h1 h2 h3)

/-- The last ones of a list. -/
def lastL (l : List Int) (n : Nat) : List Int := l.drop (l.length - n)
def RetMade (w : World) (xs : List Int) (e : Ending) (w' : World) : Prop := ∃ v, e = .returned v ∧ Made w' v xs ∧ Keep [] w w' ∧ ∀ g, v.ownBlock = some g → w.heap.size ≤ g
theorem Made.empty (w : World) : Made (w.alloc (.cells #[] 2)) (.slice (some ⟨w.heap.size, 0, none⟩) 0 0) [] := Made.ofBlk (xs := []) (Blk.new w _ _) (by simp)
theorem made_append {w w' : World} {v' : Value} {ys : List Int} (h1 : Made w' v' ([] ++ ys)) (h2 : Keep (Value.slice (some ⟨w.heap.size, 0, none⟩) 0 0).ownBlock.toList (w.alloc (.cells #[] 2)) w')
    (h3 : v'.ownBlock = (Value.slice (some ⟨w.heap.size, 0, none⟩) 0 0).ownBlock ∨ v'.ownBlock = some (w.heap.size + 1)) : Made w' v' ys ∧ Keep [] w w' ∧ ∀ g, v'.ownBlock = some g → w.heap.size ≤ g := by
  refine ⟨by simpa using h1, (Keep.alloc [] w _).trans' h2 (by simp) (by simp [Value.ownBlock]), fun g hg => ?_⟩
  rcases h3 with h3 | h3 <;> (rw [hg] at h3; simp [Value.ownBlock] at h3; omega)
set_option maxHeartbeats 1000000 in
theorem last_calls (A : Option Addr) (l : List Int) (m c n : Nat) (w : World) (hl : l.length = m) (hmc : m ≤ c) (hc : c ≤ 9223372036854775807) (hm : m ≤ 1000000) (hn1 : 1 ≤ n) (hn : n ≤ 1000000) (ha : Rd w A l) (hnn : A = none → m = 0) :
    Calls Try.prog 28 #[.slice A m c, .int .i64 n] w (RetMade w (lastL l n)) := by
  have HE := Lib.hid (Made.empty w)
  by_cases h : n < m
  · obtain ⟨a, rfl, _⟩ := ha 0 (by omega)
    have hne : ¬ (c = m - n) := by omega
    have hr : Hid (Rd (w.alloc (.cells #[] 2)) (some (a.add (m - n))) (l.drop (m - n))) := Lib.hid ((ha.drop (m - n)).keep (Keep.alloc [] _ _) (by simp))
    have hd : Hid ((l.drop (m - n)).length = m - (m - n)) := Lib.hid (by rw [List.length_drop]; omega)
    have he : Hid (lastL l n = l.drop (m - n)) := Lib.hid (by unfold lastL; rw [hl])
    rw [he.out]
    clear ha hl hnn he
    go_enter Try.func28, Try.ntmps28
    go_wp2_with (at_builtin; refine append_made rfl _ _ rfl _ [] rfl HE.out _ _ _ _ rfl hd.out hr.out (by simp; omega) (by simp) ?_)
    intro v' w' h1 h2 h3
    have H : Hid (Made w' v' (l.drop (m - n)) ∧ Keep [] w w' ∧ ∀ g, v'.ownBlock = some g → w.heap.size ≤ g) := made_append h1 h2 h3
    clear h1 h2 h3
    go_wp2_with fail
    go_ret
    exact ⟨_, rfl, H.out⟩
  · have hr : Hid (Rd (w.alloc (.cells #[] 2)) A l) := Lib.hid (ha.keep (Keep.alloc [] _ _) (by simp))
    have hd := Lib.hid hl
    have he : Hid (lastL l n = l) := Lib.hid (by unfold lastL; rw [hl, show m - n = 0 by omega]; rfl)
    have hnn' := Lib.hid hnn
    rw [he.out]
    clear ha hl hnn he
    go_enter Try.func28, Try.ntmps28
    go_wp2_with (at_builtin; refine append_made rfl _ _ rfl _ [] rfl HE.out _ _ _ _ rfl hd.out hr.out (by simp; omega) hnn'.out ?_)
    intro v' w' h1 h2 h3
    have H : Hid (Made w' v' l ∧ Keep [] w w' ∧ ∀ g, v'.ownBlock = some g → w.heap.size ≤ g) := made_append h1 h2 h3
    clear h1 h2 h3
    go_wp2_with fail
    go_ret
    exact ⟨_, rfl, H.out⟩
end Go.Proofs.Ytjhgbcgpkpahjaa
