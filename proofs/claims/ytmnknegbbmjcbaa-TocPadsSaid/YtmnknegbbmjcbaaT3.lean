/- A list of frames; toc's equal. -/
import Derived.Test.YtmnknegbbmjcbaaT2
namespace Go.Proofs.Ytmnknegbbmjcbaa
open Go.RowKit

/-- A list of frames that was made: the row of the frames, each frame; their own blocks are not below B. -/
structure Frs (B : Nat) (w : World) (v : Value) (L : List (List Int)) : Prop where
  made : ∃ vs : List Value, MadeV w 29 v vs ∧ vs.length = L.length ∧ ∀ (i : Nat) (x : Value) (l : List Int), vs[i]? = some x → L[i]? = some l → MadeV w 5 x (bytes l) ∧ (∀ b, x.ownBlock = some b → B ≤ b)
  own : ∀ b, v.ownBlock = some b → B ≤ b
def Odd (w : World) (l : List Nat) : Prop := ∀ b ∈ l, ∃ cs t, Blk w b cs t ∧ t ≠ 29 ∧ t ≠ 5
theorem Odd.nil (w : World) : Odd w [] := fun b hb => by cases hb
theorem Odd.one {w : World} {b : Nat} {cs : Array Value} {t : TypeId} (h : Blk w b cs t) (h1 : t ≠ 29) (h2 : t ≠ 5) : Odd w [b] := fun b' hb => by
  simp only [List.mem_singleton] at hb
  subst hb
  exact ⟨cs, t, h, h1, h2⟩
theorem MadeV.odd {w w' : World} {l : List Nat} {e : TypeId} {v : Value} {vs : List Value} (h : MadeV w e v vs) (k : Keep l w w') (ho : Odd w l) (he : e = 29 ∨ e = 5) : MadeV w' e v vs := h.keep k (fun g hg hm => by
  obtain ⟨cs, t, hb, h1, h2⟩ := ho g hm
  refine h.ne hb ?_ g hg rfl
  rcases he with rfl | rfl
  · exact h1.symm
  · exact h2.symm)
theorem Frs.nil (B : Nat) (w : World) : Frs B w (.slice none 0 0) [] := ⟨⟨[], MadeV.nil _ _, rfl, fun i x l hx => by simp at hx⟩, fun b hb => by cases hb⟩
theorem Frs.keep {B : Nat} {w w' : World} {v : Value} {L : List (List Int)} {l : List Nat} (h : Frs B w v L) (k : Keep l w w') (ho : Odd w l) : Frs B w' v L := by
  obtain ⟨⟨vs, h1, h2, h3⟩, h4⟩ := h
  refine ⟨⟨vs, h1.odd k ho (.inl rfl), h2, fun i x q hx hq => ?_⟩, h4⟩
  obtain ⟨a, b⟩ := h3 i x q hx hq
  exact ⟨a.odd k ho (.inr rfl), b⟩
theorem Frs.keep0 {B : Nat} {w w' : World} {v : Value} {L : List (List Int)} (h : Frs B w v L) (k : Keep [] w w') : Frs B w' v L := h.keep k (Odd.nil w)
theorem Frs.weak {B B' : Nat} {w : World} {v : Value} {L : List (List Int)} (h : Frs B w v L) (hb : B' ≤ B) : Frs B' w v L := by
  obtain ⟨⟨vs, h1, h2, h3⟩, h4⟩ := h
  exact ⟨⟨vs, h1, h2, fun i x q hx hq => ⟨(h3 i x q hx hq).1, fun b hb' => Nat.le_trans hb ((h3 i x q hx hq).2 b hb')⟩⟩, fun b hb' => Nat.le_trans hb (h4 b hb')⟩
theorem MadeV.sl {w : World} {e : TypeId} {v : Value} {vs : List Value} (h : MadeV w e v vs) : v.oneCell' = true := by
  obtain ⟨A, c, rfl, _⟩ := h.reads
  rfl
/-- One more frame: w1 is w with the literal laid down. -/
theorem Frs.app {B : Nat} {w w' : World} {v v' x : Value} {vs : List Value} {L : List (List Int)} {l : List Int} (hm : MadeV w 29 v vs) (hl : vs.length = L.length)
    (he : ∀ (i : Nat) (x : Value) (l : List Int), vs[i]? = some x → L[i]? = some l → MadeV w 5 x (bytes l) ∧ (∀ b, x.ownBlock = some b → B ≤ b)) (ho : ∀ b, v.ownBlock = some b → B ≤ b)
    (hx : MadeV w 5 x (bytes l)) (hxo : ∀ b, x.ownBlock = some b → B ≤ b) (h1 : MadeV w' 29 v' (vs ++ [x])) (h2 : Keep v.ownBlock.toList (w.alloc (.cells #[x] 29)) w')
    (h3 : v'.ownBlock = v.ownBlock ∨ v'.ownBlock = some (w.heap.size + 1)) (hB : B ≤ w.heap.size) : Frs B w' v' (L ++ [l]) := by
  have k0 := Keep.alloc [] w (.cells #[x] 29)
  have each : ∀ y q, MadeV w 5 y (bytes q) → MadeV w' 5 y (bytes q) := fun y q hy => (hy.keep0 k0).keep h2 (fun g hg hmem => by
    simp only [Option.mem_toList] at hmem
    obtain ⟨cs, hb⟩ := (hm.keep0 k0).typ g hmem
    exact (hy.keep0 k0).ne hb (by decide) g hg rfl)
  refine ⟨⟨vs ++ [x], h1, by simp [hl], fun i y q hy hq => ?_⟩, fun b hb => ?_⟩
  · by_cases hi : i < vs.length
    · rw [List.getElem?_append_left hi] at hy
      rw [List.getElem?_append_left (by omega)] at hq
      obtain ⟨a, b⟩ := he i y q hy hq
      exact ⟨each y q a, b⟩
    · rw [List.getElem?_append_right (by omega)] at hy
      rw [List.getElem?_append_right (by omega), ← hl] at hq
      have hi2 : i - vs.length = 0 := by
        have := (List.getElem?_eq_some_iff.1 hy).1
        simp only [List.length_singleton] at this
        omega
      rw [hi2] at hy hq
      simp only [List.getElem?_cons_zero, Option.some.injEq] at hy hq
      subst hy hq
      exact ⟨each _ _ hx, hxo⟩
  · rcases h3 with e | e
    · exact ho b (by rw [← e]; exact hb)
    · rw [hb] at e
      simp only [Option.some.injEq] at e
      omega
/-- 'append(out, frame)' at a list of operations. -/
theorem append_frame {B : Nat} {w : World} {v x : Value} {L : List (List Int)} {l : List Int} {o : Oper} {a : Act} {ops : Array Oper} {rest : List Oper} {Q : Exit → Act → World → Prop} (hgd : Region.wanted o (yielded ops a.tmps) = true) (so xo : Operand)
    (ho : o.op = .call { callee := .builtin .append, args := #[so, xo], argTypes := #[23, 23] }) (hv : a.eval so = v) (hx : a.eval xo = .slice (some ⟨w.heap.size, 0, none⟩) 1 1)
    (hf : Frs B w v L) (hm : MadeV w 5 x (bytes l)) (hxo : ∀ b, x.ownBlock = some b → B ≤ b) (hB : B ≤ w.heap.size) (hlen : L.length ≤ 1000)
    (h : ∀ v' w', Frs B w' v' (L ++ [l]) → Keep v.ownBlock.toList (w.alloc (.cells #[x] 29)) w' → wpList Try.prog ops Q rest (a.put o.dst v') w') :
    wpList Try.prog ops Q (o :: rest) a (w.alloc (.cells #[x] 29)) := by
  obtain ⟨⟨vs, h1, h2, h3⟩, h4⟩ := hf
  have k0 := Keep.alloc [] w (.cells #[x] 29)
  refine append_v slF hgd so xo ho v vs hv (h1.keep0 k0) (some ⟨w.heap.size, 0, none⟩) 1 1 [x] hx rfl (rdV_lit w 29 [x]) (by intro u hu; simp only [List.mem_singleton] at hu; subst hu; exact hm.sl) (by omega) (by omega) (fun hA => by cases hA) ?_
  intro v' w' m1 m2 m3
  rw [World.size_alloc] at m3
  exact h v' w' (Frs.app h1 h2 h3 h4 hm hxo m1 m2 m3 hB) m2
theorem MadeV.shape {w : World} {e : TypeId} {v : Value} {vs : List Value} (h : MadeV w e v vs) : ∃ A n c, v = .slice A n c := by
  obtain ⟨A, c, hv, _⟩ := h.reads
  exact ⟨A, _, c, hv⟩
def chunkL (xs : List Int) (k i : Nat) : List (List Int) := (List.range i).map fun j => (xs.drop (j * k)).take k
theorem chunkL_succ (xs : List Int) (k i : Nat) : chunkL xs k (i + 1) = chunkL xs k i ++ [(xs.drop (i * k)).take k] := by simp [chunkL, List.range_succ]
theorem chunkL_length (xs : List Int) (k i : Nat) : (chunkL xs k i).length = i := by simp [chunkL]
def equalM (m : Nat) (xs : List Int) (bad : Bool) : List (List Int) × List Int × Bool :=
  if xs.length % m ≠ 0 then ([], xs, true) else (chunkL xs (xs.length / m) m, xs.drop (m * (xs.length / m)), bad)
def RetE (t : TypeId) (w0 w : World) (g : Nat) (r : List (List Int) × List Int × Bool) (e : Ending) (w' : World) : Prop :=
  ∃ v, e = .returned v ∧ Frs w.heap.size w' v r.1 ∧ Rdr t w0 w' g r.2.1 r.2.2 ∧ Keep [g] w w'
structure EqSt (t : TypeId) (w0 w wr : World) (g : Nat) (v : Value) (L : List (List Int)) (xs : List Int) (bad : Bool) : Prop where
  frs : Frs w.heap.size wr v L
  rdr : Rdr t w0 wr g xs bad
  kept : Keep [g] w wr
theorem Rdr.blk {t : TypeId} {w0 w : World} {g : Nat} {xs : List Int} {bad : Bool} (h : Rdr t w0 w g xs bad) : ∃ cs, Blk w g cs t := by
  obtain ⟨A, n, c, h1, _⟩ := h.at_
  exact ⟨_, h1⟩
theorem Rdr.c0 {t : TypeId} {w0 w : World} {g : Nat} {xs : List Int} {bad : Bool} (h : Rdr t w0 w g xs bad) : ∃ A c, w.cell? ⟨g, 0, none⟩ = some (.slice A xs.length c) ∧ w.cell? ⟨g, 1, none⟩ = some (.bool bad) ∧ w.frozen? ⟨g, 0, none⟩ = false ∧ w.frozen? ⟨g, 1, none⟩ = false ∧ xs.length ≤ c ∧ xs.length ≤ 140737488355328 := by
  obtain ⟨A, n, c, h1, h2⟩ := h.at_
  have e := h2.ln
  subst e
  exact ⟨A, c, h1.cell 0, h1.cell 1, h1.free 0, h1.free 1, h2.cp, h2.big⟩
/-- A frame was taken. -/
theorem EqSt.took {t : TypeId} {w0 w wr w' : World} {g : Nat} {v : Value} {L : List (List Int)} {xs xs' : List Int} {bad bad' : Bool} (h : EqSt t w0 w wr g v L xs bad) (h1 : t ≠ 29) (h2 : t ≠ 5) (hr : Rdr t w0 w' g xs' bad') (k : Keep [g] wr w') : EqSt t w0 w w' g v L xs' bad' := by
  obtain ⟨cs, hb⟩ := h.rdr.blk
  exact ⟨h.frs.keep k (Odd.one hb h1 h2), hr, h.kept.trans k⟩
/-- And appended. -/
theorem EqSt.app {t : TypeId} {w0 w wr w' : World} {g : Nat} {v v' x : Value} {L : List (List Int)} {l xs : List Int} {bad : Bool} (h : EqSt t w0 w wr g v L xs bad) (h1 : t ≠ 29) (hf : Frs w.heap.size w' v' (L ++ [l])) (k : Keep v.ownBlock.toList (wr.alloc (.cells #[x] 29)) w') (hg : w0.heap.size ≤ w.heap.size) : EqSt t w0 w w' g v' (L ++ [l]) xs bad := by
  have k0 := Keep.alloc [] wr (.cells #[x] 29)
  have hno : g ∉ v.ownBlock.toList := fun hm => by
    simp only [Option.mem_toList] at hm
    obtain ⟨⟨vs, m1, _⟩, _⟩ := h.frs
    obtain ⟨cs, hb⟩ := h.rdr.blk
    exact m1.ne hb h1.symm g hm rfl
  have hge : ∀ b ∈ v.ownBlock.toList, w.heap.size ≤ b := fun b hb => by
    simp only [Option.mem_toList] at hb
    exact h.frs.own b hb
  exact ⟨hf, (h.rdr.keep0 k0).keep k hno (fun b hb => Nat.le_trans hg (hge b hb)), (h.kept.trans (k0.of0 _)).trans' k (by simp) (fun b hb => .inr (hge b hb))⟩
set_option maxHeartbeats 1000000
theorem equal_calls (w0 w : World) (g m : Nat) (xs : List Int) (bad : Bool) (h : Rdr 51 w0 w g xs bad) (hm1 : 1 ≤ m) (hm2 : m ≤ 63) :
    Calls Try.prog 24 #[.pointer (some ⟨g, 0, none⟩), .int .i64 m] w (RetE 51 w0 w g (equalM m xs bad)) := by
  have H := Lib.hid h
  obtain ⟨A, c, c0, c1, f0, f1, hc, hbig⟩ := h.c0
  obtain ⟨n, hn⟩ : ∃ n, n = xs.length := ⟨_, rfl⟩
  rw [← hn] at c0 hc hbig
  have HN := Lib.hid hn
  clear h hn
  have hm0 : (m : Int) ≠ 0 := by omega
  by_cases hd : n % m = 0
  · obtain ⟨k, hk⟩ : ∃ k, k = n / m := ⟨_, rfl⟩
    have hnk : n = m * k := by
      have := Nat.div_add_mod n m
      rw [hd, ← hk] at this
      omega
    have hr : (n : Int) % (m : Int) = 0 := by exact_mod_cast hd
    have hq : wrap64 ((n : Int) / (m : Int)) = (k : Int) := by
      have e : (n : Int) / (m : Int) = (k : Int) := by rw [hk]; rfl
      have : k ≤ n := by rw [hk]; exact Nat.div_le_self n m
      rw [e]
      unfold wrap64
      omega
    have hM : equalM m xs bad = (chunkL xs k m, xs.drop (m * k), bad) := by
      unfold equalM
      rw [← HN.out, if_neg (by simpa using hd), ← hk]
    have HM := Lib.hid hM
    have HK := Lib.hid hnk
    clear hM hk hd hnk
    go_enter Try.func24, Try.ntmps24
    go_wp2_with fail
    rw [hq]
    clear hr hq c0 c1 f0 f1 hc
    have HS0 : Hid (EqSt 51 w0 w w g (.slice none 0 0) (chunkL xs k 0) (xs.drop (0 * k)) bad) := Lib.hid ⟨Frs.nil _ _, by rw [Nat.zero_mul]; exact H.out, Keep.refl _ _⟩
    go_loopw [5, 26] (fun v i wr => ∃ j : Nat, j ≤ m ∧ i = .int .i64 j ∧ EqSt 51 w0 w wr g v (chunkL xs k j) (xs.drop (j * k)) bad) (fun _ i _ => m - (intOf i).toNat)
    case atStart => exact ⟨0, by omega, rfl, HS0.out⟩
    case round =>
      clear HS0
      obtain ⟨j, hj, rfl, HS⟩ := hrel
      have HS := Lib.hid HS
      by_cases hlt : j < m
      · have hfr : frameM k (xs.drop (j * k)) bad = ((xs.drop (j * k)).take k, xs.drop ((j + 1) * k), bad) := by
          unfold frameM
          have hle : (j + 1) * k ≤ m * k := Nat.mul_le_mul_right k hlt
          rw [Nat.add_mul, Nat.one_mul] at hle
          rw [if_neg (by rw [List.length_drop, ← HN.out, HK.out]; omega), List.drop_drop, Nat.add_mul, Nat.one_mul]
        have HF := Lib.hid hfr
        clear hfr
        go_wp2_with fail
        refine (frame_calls w0 _ g k (xs.drop (j * k)) bad HS.out.rdr).mono ?_
        rintro e w1 ⟨x, rfl, h1, h2, h3, h4⟩
        rw [HF.out] at h1 h2
        obtain ⟨XA, xn, xc, rfl⟩ := h1.shape
        have HX := Lib.hid h1
        have HT := Lib.hid (HS.out.took (by decide) (by decide) h2 h3)
        have HO : Hid (∀ b, (Value.slice XA xn xc).ownBlock = some b → w.heap.size ≤ b) := Lib.hid (fun b hb => Nat.le_trans HS.out.kept.size (h4 b hb))
        have HB : Hid (w.heap.size ≤ w1.heap.size) := Lib.hid HT.out.kept.size
        have HLN : Hid ((chunkL xs k j).length ≤ 1000) := Lib.hid (by rw [chunkL_length]; omega)
        clear h1 h2 h3 h4 HS
        go_wp2_with (at_builtin; refine append_frame (by first | rfl | kernel_rfl) _ _ rfl rfl rfl HT.out.frs HX.out HO.out HB.out HLN.out ?_)
        intro v' w2 m1 m2
        have HU := Lib.hid (HT.out.app (by decide) m1 m2 H.out.kept.size)
        clear m1 m2 HT HX HO HB HLN
        go_wp2_with fail
        go_roundw
        case rel => exact ⟨j + 1, by omega, by go_num, by rw [chunkL_succ]; exact HU.out⟩
        case measure => simp [intOf]; omega
      · obtain rfl : j = m := by omega
        go_wp2_with fail
        go_ret
        rw [HM.out]
        exact ⟨_, rfl, HS.out.frs, HS.out.rdr, HS.out.kept⟩
  · have hr : ((n : Int) % (m : Int) != 0) = true := by
      have : ¬ ((n : Int) % (m : Int) = 0) := by
        intro e
        exact hd (by exact_mod_cast e)
      simpa using this
    have hM : equalM m xs bad = ([], xs, true) := by
      unfold equalM
      rw [← HN.out, if_pos hd]
    have HM := Lib.hid hM
    clear hM hd
    obtain ⟨A2, n2, c2, hb2, ha2⟩ := H.out.at_
    have HB2 := Lib.hid hb2
    have HA2 := Lib.hid ha2
    clear hb2 ha2
    go_enter Try.func24, Try.ntmps24
    go_wp2_with fail
    go_ret
    rw [HM.out]
    exact ⟨_, rfl, Frs.nil _ _, Rdr.store H.out.kept H.out.og HB2.out (A' := A2) (n' := n2) (c' := c2) (bad' := true) rfl HA2.out, Keep.setb _ _ _ _⟩
end Go.Proofs.Ytmnknegbbmjcbaa
