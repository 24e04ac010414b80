/- The walk of SynthCuts. -/
import Derived.Test.YtjhgbcgpkpahjaaS18
import Derived.Test.YtjhgbcgpkpahjaaSz
namespace Go.Proofs.Ytjhgbcgpkpahjaa
open Go.RowKit

/-- 'xs[:m]' of a slice of int64. -/
theorem cut_to (A : Option Addr) (n c m : Nat) (hm : m ≤ n) (hnc : n ≤ c) :
    ∀ W : World, (Instr.slice 25 (.slice A n c) none (some (.int .i64 (m : Int))) none).run Try.prog W = .ok (.slice A m c) W := by
  intro W
  have hsz : (Try.prog.info? 2).map (·.size) = some 1 := by kernel_rfl
  obtain ⟨i, hi, hs⟩ := Option.map_eq_some_iff.1 hsz
  have hel : Try.prog.elem 25 = 2 := by simp [Program.elem, Try.underlying25]
  have hu : Try.prog.underlying 25 = some (.slice (Try.prog.elem 25)) := by rw [hel]; exact Try.underlying25
  rw [run_slice_h W 25 A n c hu .i64 (m : Int) (Int.natCast_nonneg _) (by omega), hel]
  have h0 : ∀ a : Addr, a.add 0 = a := fun a => by unfold Addr.add; split <;> simp_all
  have h1 : A.map (fun a => a.add 0) = A := by cases A <;> simp [h0]
  simp [sizeOf, typeInfo, hi, hs, sliced, Result.andThen, h1]
def headP (b : PartA) (m : Nat) : PartA := ⟨b.A, m, b.c, b.xs.take m, b.loud, b.lag, b.t0, b.t1, b.t2, b.t3, b.t4, b.B, b.m, b.d, b.fs⟩
def tailP (b : PartA) (A : Option Addr) (m : Nat) : PartA := ⟨A, b.n - m, b.c - m, b.xs.drop m, b.loud, b.lag, b.t0, b.t1, b.t2, b.t3, b.t4, b.B, b.m, b.d, b.fs⟩
theorem okL_take {m : Int} {xs : List Int} (k : Nat) (h : okL m xs = true) : okL m (xs.take k) = true := by
  unfold okL at *
  rw [List.all_eq_true] at *
  exact fun x hx => h x (List.mem_of_mem_take hx)
theorem okL_drop {m : Int} {xs : List Int} (k : Nat) (h : okL m xs = true) : okL m (xs.drop k) = true := by
  unfold okL at *
  rw [List.all_eq_true] at *
  exact fun x hx => h x (List.mem_of_mem_drop hx)
theorem good_head {b : PartA} {m : Nat} (h : goodB b = true) (h1 : 1 ≤ m) (h2 : m < b.n) : goodB (headP b m) = true := by
  simp only [goodB, headP, PartA.taps, Bool.and_eq_true] at h ⊢
  have h3 := of_decide_eq_true h.2.1
  exact ⟨decide_eq_true h1, decide_eq_true (by omega), okL_take _ h.2.2.1, h.2.2.2⟩
theorem good_tail {b : PartA} {A : Option Addr} {m : Nat} (h : goodB b = true) (h2 : m < b.n) : goodB (tailP b A m) = true := by
  simp only [goodB, tailP, PartA.taps, Bool.and_eq_true] at h ⊢
  have h3 := of_decide_eq_true h.2.1
  exact ⟨decide_eq_true (by omega), decide_eq_true (by omega), okL_drop _ h.2.2.1, h.2.2.2⟩
theorem head_is {w : World} {b : PartA} {m : Nat} (h : IsPart w b) (h1 : m < b.n) : IsPart w (headP b m) := by
  refine ⟨⟨?_, ?_, h.pul.most, ?_, fun hA => ?_, fun x hx h0 => h.pul.old x hx ?_⟩, h.fil⟩
  · have := h.pul.ln
    show (b.xs.take m).length = m
    simp
    omega
  · have := h.pul.cp
    show m ≤ b.c
    omega
  · exact h.pul.reads.take m
  · have := h.pul.nil hA
    omega
  · show 0 < b.n
    omega
/-- A part cut in two. -/
theorem cut_law {loud lag : Int} {taps fs xs : List Int} (m : Nat) (s : Vc) :
    (mapS (stepV loud lag taps fs) s xs).1 = (mapS (stepV loud lag taps fs) s (xs.take m)).1 ++ (mapS (stepV loud lag taps fs) (mapS (stepV loud lag taps fs) s (xs.take m)).2 (xs.drop m)).1 ∧
      (mapS (stepV loud lag taps fs) s xs).2 = (mapS (stepV loud lag taps fs) (mapS (stepV loud lag taps fs) s (xs.take m)).2 (xs.drop m)).2 := by
  have h := mapS_append (stepV loud lag taps fs) (xs.take m) (xs.drop m) s
  rw [List.take_append_drop] at h
  rw [h]
  exact ⟨rfl, rfl⟩
/-- What stands from the copy on: both voices, the two boxes, the samples of the whole part. -/
structure CtSt (w wr : World) (f g bp bq : Nat) (s1 s2 : Vc) (pp qq : PartA) (v1 : Value) (o1 : List Int) : Prop where
  kept : Keep [] w wr
  of : w.heap.size ≤ f
  og : w.heap.size ≤ g
  fg : f ≠ g
  vf : IsV wr f s1
  vg : IsV wr g s2
  out : Made wr v1 o1
  xp : Blk wr bp pp.cells 31
  xq : Blk wr bq qq.cells 31
section
variable {w wr w' : World} {f g bp bq : Nat} {s1 s2 s3 : Vc} {pp qq : PartA} {v1 v2 v3 v4 : Value} {o1 o2 o3 : List Int}
theorem CtSt.keep (h : CtSt w wr f g bp bq s1 s2 pp qq v1 o1) (k : Keep [] wr w') : CtSt w w' f g bp bq s1 s2 pp qq v1 o1 :=
  ⟨h.kept.trans k, h.of, h.og, h.fg, h.vf.keep k (by simp), h.vg.keep k (by simp), h.out.keep k (by simp), h.xp.keep k (by simp), h.xq.keep k (by simp)⟩
theorem CtSt.ran (h : CtSt w wr f g bp bq s1 s2 pp qq v1 o1) (k : Keep [g] wr w') (hv : IsV w' g s3) : CtSt w w' f g bp bq s1 s3 pp qq v1 o1 :=
  ⟨h.kept.trans' k (by simp) (by simpa using h.og), h.of, h.og, h.fg, h.vf.keep k (by simpa using h.fg), hv, h.out.keep k (fun x hx => by simpa using h.out.ne_v h.vg x hx), h.xp.keep k (by simpa using h.xp.ne h.vg.blk (by decide)), h.xq.keep k (by simpa using h.xq.ne h.vg.blk (by decide))⟩
/-- Behind both runs of the copy: the two answers besides. -/
structure CtTwo (w wr : World) (f g : Nat) (s1 s2 : Vc) (v1 v2 v3 : Value) (o1 o2 o3 : List Int) : Prop where
  kept : Keep [] w wr
  vf : IsV wr f s1
  vg : IsV wr g s2
  m1 : Made wr v1 o1
  m2 : Made wr v2 o2
  m3 : Made wr v3 o3
  d12 : ∀ x, v1.ownBlock = some x → v2.ownBlock ≠ some x
  old : ∀ x, v2.ownBlock = some x → w.heap.size ≤ x
/-- The first of the copy's runs: what is known of its answer. -/
structure CtOne (w wr : World) (f g bp bq : Nat) (s1 s2 : Vc) (pp qq : PartA) (v1 v2 : Value) (o1 o2 : List Int) : Prop where
  st : CtSt w wr f g bp bq s1 s2 pp qq v1 o1
  m2 : Made wr v2 o2
  d12 : ∀ x, v1.ownBlock = some x → v2.ownBlock ≠ some x
  old : ∀ x, v2.ownBlock = some x → w.heap.size ≤ x
theorem CtSt.one (h : CtSt w wr f g bp bq s1 s2 pp qq v1 o1) (k : Keep [g] wr w') (hv : IsV w' g s3) (hm : Made w' v2 o2) (hf : ∀ x, v2.ownBlock = some x → wr.heap.size ≤ x) : CtOne w w' f g bp bq s1 s3 pp qq v1 v2 o1 o2 :=
  ⟨h.ran k hv, hm, fun x hx e => by have := h.out.lt x hx; have := hf x e; omega, fun x hx => by have := hf x hx; have := h.kept.size; omega⟩
theorem CtOne.two (h : CtOne w wr f g bp bq s1 s2 pp qq v1 v2 o1 o2) (k : Keep [g] wr w') (hv : IsV w' g s3) (hm : Made w' v3 o3) : CtTwo w w' f g s1 s3 v1 v2 v3 o1 o2 o3 :=
  have h' := h.st.ran k hv
  ⟨h'.kept, h'.vf, hv, h'.out, h.m2.keep k (fun x hx => by simpa using h.m2.ne_v h.st.vg x hx), hm, h.d12, h.old⟩
structure CtEnd (w wr : World) (f g : Nat) (s : Vc) (v1 v2 : Value) (o1 : List Int) : Prop where
  kept : Keep [] w wr
  vf : IsV wr f s
  vg : IsV wr g s
  m1 : Made wr v1 o1
  m2 : Made wr v2 o1
theorem CtEnd.keep {s : Vc} (h : CtEnd w wr f g s v1 v2 o1) (k : Keep [] wr w') : CtEnd w w' f g s v1 v2 o1 := ⟨h.kept.trans k, h.vf.keep k (by simp), h.vg.keep k (by simp), h.m1.keep k (by simp), h.m2.keep k (by simp)⟩
theorem CtTwo.app (h : CtTwo w wr f g s1 s2 v1 v2 v3 o1 o2 o3) (h1 : Made w' v4 (o2 ++ o3)) (h2 : Keep v2.ownBlock.toList wr w') (es : s1 = s2) (eo : o1 = o2 ++ o3) : CtEnd w w' f g s1 v1 v4 o1 := by
  subst es eo
  exact ⟨h.kept.trans' h2 (by simp) (fun x hx => by simp only [Option.mem_toList] at hx; exact .inr (h.old x hx)), h.vf.keep h2 (fun hx => by simp only [Option.mem_toList] at hx; exact h.m2.ne_v h.vf _ hx rfl),
    h.vg.keep h2 (fun hx => by simp only [Option.mem_toList] at hx; exact h.m2.ne_v h.vg _ hx rfl), h.m1.keep h2 (fun x hx hy => by simp only [Option.mem_toList] at hy; exact h.d12 x hx hy), h1⟩
end
/-- append, guarded or not, where it is wanted. -/
theorem append_made_w {o : Oper} {a : Act} {ops : Array Oper} {rest : List Oper} {w : World} {Q : Exit → Act → World → Prop} (hgd : Region.wanted o (yielded ops a.tmps) = true) (s x : Operand)
    (ho : o.op = .call { callee := .builtin .append, args := #[s, x], argTypes := #[25, 25] }) (v : Value) (xs : List Int) (hv : a.eval s = v) (hm : Made w v xs)
    (A : Option Addr) (n c : Nat) (ys : List Int) (hx : a.eval x = .slice A n c) (hn : ys.length = n) (hr : Rd w A ys) (hbig : xs.length + n ≤ 1000000000) (hnn : A = none → n = 0)
    (h : ∀ v' w', Made w' v' (xs ++ ys) → Keep v.ownBlock.toList w w' → (v'.ownBlock = v.ownBlock ∨ v'.ownBlock = some w.heap.size) → wpList Try.prog ops Q rest (a.put o.dst v') w') :
    wpList Try.prog ops Q (o :: rest) a w := by
  refine wpList_step fun K hK => ?_
  rw [if_pos hgd]
  obtain ⟨v', w', hrun, h1, h2, h3⟩ := run_append_made w o.type v xs hm A n c ys hn hr hbig hnn
  unfold Oper.wp
  simp [execOp, ho, resolve, invoke, builtin, hv, hx, hrun, Result.andThen]
  exact hK _ _ (h v' w' h1 h2 h3)
theorem Keep.of2 {w w1 w2 : World} {x y : Nat} (h : Keep [x] w w1) (k : Keep [y] w1 w2) : Keep [x, y] w w2 := h.trans' k (by simp) (by simp)
theorem tail_is {w wr : World} {b : PartA} {A : Option Addr} {m : Nat} (h : IsPart w b) (k : Keep [] w wr) (h1 : m < b.n)
    (hr : ∀ (w : World) (xs : List Int), xs.length = b.n → Rd w b.A xs → Rd w A (xs.drop m)) (hb : ∀ a', A = some a' → ∃ a, b.A = some a ∧ a'.block = a.block) (hn : A = none → b.A = none) : IsPart wr (tailP b A m) := by
  have h' := h.keep0 k
  refine ⟨⟨?_, ?_, ?_, hr wr b.xs h.pul.ln h'.pul.reads, fun hA => ?_, fun x hx h0 => ?_⟩, h'.fil⟩
  · have := h.pul.ln
    show (b.xs.drop m).length = b.n - m
    simp
    omega
  · have := h.pul.cp
    show b.n - m ≤ b.c - m
    omega
  · have := h.pul.most
    show b.c - m ≤ _
    omega
  · have := h.pul.nil (hn hA)
    omega
  · obtain ⟨a, ha, e⟩ := hb x hx
    rw [e]
    exact h'.pul.old a ha (by omega)
attribute [local go_sem ↓] Go.wp_at_zero Go.wp_at_succ
set_option maxRecDepth 100000 in
set_option maxHeartbeats 4000000 in
theorem cuts_walk (a b : PartA) (cut : Int) (w : World) (ha : IsPart w a) (hb : IsPart w b) : Calls Try.prog 5 #[.agg a.cells, .agg b.cells, .int .i64 cut] w (RetKept w (.bool true)) := by
  have HA := Lib.hid ha
  have HB := Lib.hid hb
  clear ha hb
  obtain ⟨bA, bn, bc, xs, loud, lag, t0, t1, t2, t3, t4, bB, bm, bd, fs⟩ := b
  have HK0 : Hid (Keep [] w ((w.alloc (.cells a.cells 31)).alloc (.cells #[.slice bA bn bc, .int .i64 loud, .int .i64 lag, .int .i64 t0, .int .i64 t1, .int .i64 t2, .int .i64 t3, .int .i64 t4, .slice bB bm bd] 31))) := Lib.hid ((Keep.alloc [] _ _).trans (Keep.alloc [] _ _))
  have HBA0 : Hid (Blk ((w.alloc (.cells a.cells 31)).alloc (.cells #[.slice bA bn bc, .int .i64 loud, .int .i64 lag, .int .i64 t0, .int .i64 t1, .int .i64 t2, .int .i64 t3, .int .i64 t4, .slice bB bm bd] 31)) w.heap.size a.cells 31) := Lib.hid ((Blk.new w _ _).alloc _)
  have HBB0 : Hid (Blk ((w.alloc (.cells a.cells 31)).alloc (.cells #[.slice bA bn bc, .int .i64 loud, .int .i64 lag, .int .i64 t0, .int .i64 t1, .int .i64 t2, .int .i64 t3, .int .i64 t4, .slice bB bm bd] 31)) (w.heap.size + 1) (PartA.cells ⟨bA, bn, bc, xs, loud, lag, t0, t1, t2, t3, t4, bB, bm, bd, fs⟩) 31) := Lib.hid (by
    have h := Blk.new (w.alloc (.cells a.cells 31)) (PartA.cells ⟨bA, bn, bc, xs, loud, lag, t0, t1, t2, t3, t4, bB, bm, bd, fs⟩) 31
    rw [World.size_alloc] at h
    exact h)
  go_enter Try.func5, Try.ntmps5
  go_wp2_with fail
  refine (awake_calls _).mono ?_
  rintro e w0 ⟨rfl, k0⟩
  have HK := Lib.hid (HK0.out.trans k0)
  have HBA := Lib.hid (HBA0.out.keep k0 (by simp))
  have HBB := Lib.hid (HBB0.out.keep k0 (by simp))
  clear k0 HK0 HBA0 HBB0
  go_wp2_with (refine wpList_load_row rfl 31 _ rfl w.heap.size rfl 31 _ (0, 0) _ HBA.out Try.underlying31 rfl (by kernel_rfl) ?_)
  refine (lgood_calls a _ (HA.out.keep0 HK.out)).mono ?_
  rintro e w1 ⟨rfl, k1⟩
  have HK1 := Lib.hid (HK.out.trans k1)
  have HBA1 := Lib.hid (HBA.out.keep k1 (by simp))
  have HBB1 := Lib.hid (HBB.out.keep k1 (by simp))
  clear k1 HK HBA HBB
  cases hga : goodB a with
  | false =>
    clear hga
    go_wp2_with fail
    go_ret
    exact ⟨rfl, HK1.out⟩
  | true =>
    have HGA := Lib.hid hga
    clear hga
    obtain ⟨c0, c1, c2, c3, c4, c5, c6, c7, c8⟩ := nine_of HBB1.out
    dsimp only at c0 c1 c2 c3 c4 c5 c6 c7 c8
    go_wp2_with fail
    clear c0 c1 c2 c3 c4 c5 c6 c7 c8
    refine (lgood_calls ⟨bA, bn, bc, xs, loud, lag, t0, t1, t2, t3, t4, bB, bm, bd, fs⟩ _ (HB.out.keep0 HK1.out)).mono ?_
    rintro e w2 ⟨rfl, k2⟩
    have HK2 := Lib.hid (HK1.out.trans k2)
    have HBA2 := Lib.hid (HBA1.out.keep k2 (by simp))
    have HBB2 := Lib.hid (HBB1.out.keep k2 (by simp))
    clear k2 HK1 HBA1 HBB1
    have d0 : w2.cell? ⟨w.heap.size + 1, 0, none⟩ = some (.slice bA bn bc) := HBB2.out.cell 0
    cases hgb : goodB ⟨bA, bn, bc, xs, loud, lag, t0, t1, t2, t3, t4, bB, bm, bd, fs⟩ with
    | false =>
      clear hgb
      go_wp2_with fail
      go_ret
      exact ⟨rfl, HK2.out⟩
    | true =>
      have HGB := Lib.hid hgb
      clear hgb
      by_cases hc : 1 ≤ cut ∧ cut < bn
      · obtain ⟨hc1, hc2⟩ := hc
        obtain ⟨z, rfl⟩ := Int.eq_ofNat_of_zero_le (show 0 ≤ cut by omega)
        have hz1 : 1 ≤ z := by omega
        have hz2 : z < bn := by omega
        have hbc : bn ≤ bc := HB.out.pul.cp
        have hct := cut_to bA bn bc z (by omega) hbc
        obtain ⟨bA', hcf, hrf, hbf, hnf⟩ := cut_from bA bn bc z (by omega) hbc
        go_wp2_with fail
        clear d0
        refine (new_calls _).mono ?_
        rintro e w3 ⟨f, f1, rfl, f2, f3⟩
        have HF : Hid (w.heap.size ≤ f) := Lib.hid (by have := HK2.out.size; omega)
        have HK3 := Lib.hid (HK2.out.trans f2)
        have HBA3 := Lib.hid (HBA2.out.keep f2 (by simp))
        have HBB3 := Lib.hid (HBB2.out.keep f2 (by simp))
        have HV3 := Lib.hid f3
        clear f1 f2 f3 HK2 HBA2 HBB2
        go_wp2_with (refine wpList_load_row rfl 31 _ rfl w.heap.size rfl 31 _ (0, 0) _ HBA3.out Try.underlying31 rfl (by kernel_rfl) ?_)
        refine (run_calls f newV a _ (HA.out.keep0 HK3.out) HGA.out HV3.out (fun x hx h0 => by have := HA.out.pul.old x hx h0; have := HF.out; omega) (fun x hx h0 => by have := HA.out.fil.old x hx h0; have := HF.out; omega)).mono ?_
        rintro e w4 ⟨va, rfl, h1, h2, h3, h4⟩
        obtain ⟨S, hS⟩ : ∃ S, S = (mapS (stepV a.loud a.lag a.taps a.fs) newV a.xs).2 := ⟨_, rfl⟩
        rw [← hS] at h2
        have HK4 : Hid (Keep [] w w4) := Lib.hid (HK3.out.trans' h1 (by simp) (by simpa using HF.out))
        have HBB4 := Lib.hid (HBB3.out.keep h1 (by simpa using HBB3.out.ne HV3.out.blk (by decide)))
        have HV4 := Lib.hid h2
        clear h1 h2 h3 h4 hS HK3 HBA3 HBB3 HV3 HA HGA
        go_wp2_with fail
        refine (copy_calls f S _ HV4.out).mono ?_
        rintro e w5 ⟨g, g1, rfl, g2, g3⟩
        have HFG : Hid (f ≠ g) := Lib.hid (by have := HV4.out.lt; omega)
        have HG : Hid (w.heap.size ≤ g) := Lib.hid (by have := HK4.out.size; omega)
        have HK5 := Lib.hid (HK4.out.trans g2)
        have HBB5 := Lib.hid (HBB4.out.keep g2 (by simp))
        have HV5 := Lib.hid (HV4.out.keep g2 (by simp))
        have HW5 := Lib.hid g3
        clear g1 g2 g3 HK4 HBB4 HV4
        obtain ⟨c0, c1, c2, c3, c4, c5, c6, c7, c8⟩ := nine_of HBB5.out
        dsimp only at c0 c1 c2 c3 c4 c5 c6 c7 c8
        go_wp2_with fail
        clear c0 c1 c2 c3 c4 c5 c6 c7 c8
        refine (run_calls f S ⟨bA, bn, bc, xs, loud, lag, t0, t1, t2, t3, t4, bB, bm, bd, fs⟩ _ (HB.out.keep0 HK5.out) HGB.out HV5.out (fun x hx h0 => by have := HB.out.pul.old x hx h0; have := HF.out; omega) (fun x hx h0 => by have := HB.out.fil.old x hx h0; have := HF.out; omega)).mono ?_
        rintro e w6 ⟨v1, rfl, h1, h2, h3, h4⟩
        have HK6 : Hid (Keep [] w w6) := Lib.hid (HK5.out.trans' h1 (by simp) (by simpa using HF.out))
        have HBB6 := Lib.hid (HBB5.out.keep h1 (by simpa using HBB5.out.ne HV5.out.blk (by decide)))
        have HW6 := Lib.hid (HW5.out.keep h1 (by simpa using (Ne.symm HFG.out)))
        have HV6 := Lib.hid h2
        have HM6 := Lib.hid h3
        clear h1 h2 h3 h4 HK5 HBB5 HV5 HW5
        go_wp2_with fail
        obtain ⟨c0, c1, c2, c3, c4, c5, c6, c7, c8⟩ := nine_of HBB6.out
        dsimp only at c0 c1 c2 c3 c4 c5 c6 c7 c8
        have hlt6 := HBB6.out.lt
        have k7 : Keep [] w6 ((w6.alloc (.cells #[.slice bA bn bc, .int .i64 loud, .int .i64 lag, .int .i64 t0, .int .i64 t1, .int .i64 t2, .int .i64 t3, .int .i64 t4, .slice bB bm bd] 31)).alloc (.cells #[.slice bA bn bc, .int .i64 loud, .int .i64 lag, .int .i64 t0, .int .i64 t1, .int .i64 t2, .int .i64 t3, .int .i64 t4, .slice bB bm bd] 31)).drew := ((Keep.alloc [] w6 _).trans (Keep.alloc [] _ _)).trans (Keep.drew [] _)
        have HN : Hid (w6.heap.size ≠ w.heap.size + 1 ∧ w6.heap.size + 1 ≠ w.heap.size + 1) := Lib.hid (by have := HBB6.out.lt; omega)
        have HO : Hid (w.heap.size ≤ w6.heap.size) := Lib.hid HK6.out.size
        have HQ1 : Hid (Blk ((w6.alloc (.cells #[.slice bA bn bc, .int .i64 loud, .int .i64 lag, .int .i64 t0, .int .i64 t1, .int .i64 t2, .int .i64 t3, .int .i64 t4, .slice bB bm bd] 31)).alloc (.cells #[.slice bA bn bc, .int .i64 loud, .int .i64 lag, .int .i64 t0, .int .i64 t1, .int .i64 t2, .int .i64 t3, .int .i64 t4, .slice bB bm bd] 31)).drew w6.heap.size (PartA.cells ⟨bA, bn, bc, xs, loud, lag, t0, t1, t2, t3, t4, bB, bm, bd, fs⟩) 31) := Lib.hid (((Blk.new w6 _ _).alloc _).drew)
        have HQ2 : Hid (Blk ((w6.alloc (.cells #[.slice bA bn bc, .int .i64 loud, .int .i64 lag, .int .i64 t0, .int .i64 t1, .int .i64 t2, .int .i64 t3, .int .i64 t4, .slice bB bm bd] 31)).alloc (.cells #[.slice bA bn bc, .int .i64 loud, .int .i64 lag, .int .i64 t0, .int .i64 t1, .int .i64 t2, .int .i64 t3, .int .i64 t4, .slice bB bm bd] 31)).drew (w6.heap.size + 1) (PartA.cells ⟨bA, bn, bc, xs, loud, lag, t0, t1, t2, t3, t4, bB, bm, bd, fs⟩) 31) := Lib.hid (by
          have h := Blk.new (w6.alloc (.cells (PartA.cells ⟨bA, bn, bc, xs, loud, lag, t0, t1, t2, t3, t4, bB, bm, bd, fs⟩) 31)) (PartA.cells ⟨bA, bn, bc, xs, loud, lag, t0, t1, t2, t3, t4, bB, bm, bd, fs⟩) 31
          rw [World.size_alloc] at h
          exact h)
        have HK7 := Lib.hid (HK6.out.trans k7)
        have HV7 := Lib.hid (HV6.out.keep k7 (by simp))
        have HW7 := Lib.hid (HW6.out.keep k7 (by simp))
        have HM7 := Lib.hid (HM6.out.keep k7 (by simp))
        have HBB7 := Lib.hid (HBB6.out.keep k7 (by simp))
        clear k7 HK6 HV6 HW6 HM6
        go_region_held3 (fun w' => w'.cell? ⟨w.heap.size + 1, 0, none⟩ = some (.slice bA bn bc) ∧ w'.cell? ⟨w.heap.size + 1, 1, none⟩ = some (.int .i64 loud) ∧ w'.cell? ⟨w.heap.size + 1, 2, none⟩ = some (.int .i64 lag) ∧ w'.cell? ⟨w.heap.size + 1, 3, none⟩ = some (.int .i64 t0) ∧ w'.cell? ⟨w.heap.size + 1, 4, none⟩ = some (.int .i64 t1) ∧ w'.cell? ⟨w.heap.size + 1, 5, none⟩ = some (.int .i64 t2) ∧ w'.cell? ⟨w.heap.size + 1, 6, none⟩ = some (.int .i64 t3) ∧ w'.cell? ⟨w.heap.size + 1, 7, none⟩ = some (.int .i64 t4) ∧ w'.cell? ⟨w.heap.size + 1, 8, none⟩ = some (.slice bB bm bd)) (go_keep) (fail)
        clear c0 c1 c2 c3 c4 c5 c6 c7 c8 hlt6
        all_goals (
          generalize ((w6.alloc (.cells #[.slice bA bn bc, .int .i64 loud, .int .i64 lag, .int .i64 t0, .int .i64 t1, .int .i64 t2, .int .i64 t3, .int .i64 t4, .slice bB bm bd] 31)).alloc (.cells #[.slice bA bn bc, .int .i64 loud, .int .i64 lag, .int .i64 t0, .int .i64 t1, .int .i64 t2, .int .i64 t3, .int .i64 t4, .slice bB bm bd] 31)).drew = w7 at *
          generalize w6.heap.size = n6 at *)
        · have d0 : w7.cell? ⟨w.heap.size + 1, 0, none⟩ = some (.slice bA bn bc) := HBB7.out.cell 0
          have d1 : w7.cell? ⟨n6, 0, none⟩ = some (.slice bA bn bc) := HQ1.out.cell 0
          have d2 : w7.frozen? ⟨n6, 0, none⟩ = false := HQ1.out.free 0
          have d3 : (w7.setCell ⟨n6, 0, none⟩ (.slice bA z bc)).cell? ⟨w.heap.size + 1, 0, none⟩ = some (.slice bA bn bc) := (HBB7.out.keep (Keep.setb w7 (n6) 0 (.slice bA z bc)) (by have := HN.out; simp; omega)).cell 0
          have HQ3 := Lib.hid (HQ2.out.keep (Keep.setb w7 (n6) 0 (.slice bA z bc)) (by simp))
          have HQ4 := Lib.hid (HQ1.out.set 0 (.slice bA z bc))
          have d4 : (w7.setCell ⟨n6, 0, none⟩ (.slice bA z bc)).cell? ⟨n6 + 1, 0, none⟩ = some (.slice bA bn bc) := HQ3.out.cell 0
          have d5 : (w7.setCell ⟨n6, 0, none⟩ (.slice bA z bc)).frozen? ⟨n6 + 1, 0, none⟩ = false := HQ3.out.free 0
          have HCT : Hid (CtSt w ((w7.setCell ⟨n6, 0, none⟩ (.slice bA z bc)).setCell ⟨n6 + 1, 0, none⟩ (.slice bA' (bn - z) (bc - z))) f g (n6) (n6 + 1) (mapS (stepV loud lag [t0, t1, t2, t3, t4] fs) S xs).2 S (headP ⟨bA, bn, bc, xs, loud, lag, t0, t1, t2, t3, t4, bB, bm, bd, fs⟩ z) (tailP ⟨bA, bn, bc, xs, loud, lag, t0, t1, t2, t3, t4, bB, bm, bd, fs⟩ bA' z) v1 (mapS (stepV loud lag [t0, t1, t2, t3, t4] fs) S xs).1) := by
            have k := ((Keep.setb w7 (n6) 0 (.slice bA z bc)).of2 (Keep.setb (w7.setCell ⟨n6, 0, none⟩ (.slice bA z bc)) (n6 + 1) 0 (.slice bA' (bn - z) (bc - z))))
            have o := HO.out
            have nv : ∀ {b : Nat} {s : Vc}, IsV w7 b s → b ∉ [n6, n6 + 1] := fun hv => by
              have e1 := HQ1.out.ne hv.blk (by decide)
              have e2 := HQ2.out.ne hv.blk (by decide)
              simp only [List.mem_cons, List.not_mem_nil, or_false, not_or]
              exact ⟨fun e => e1 e.symm, fun e => e2 e.symm⟩
            have nm : ∀ x, v1.ownBlock = some x → x ∉ [n6, n6 + 1] := fun x hx => by
              have e1 := HM7.out.ne_t HQ1.out (by decide) x hx
              have e2 := HM7.out.ne_t HQ2.out (by decide) x hx
              simp only [List.mem_cons, List.not_mem_nil, or_false, not_or]
              exact ⟨e1, e2⟩
            exact Lib.hid ⟨HK7.out.trans' k (by simp) (by intro x hx; simp only [List.mem_cons, List.not_mem_nil, or_false] at hx; right; omega), HF.out, HG.out, HFG.out, HV7.out.keep k (nv HV7.out), HW7.out.keep k (nv HW7.out), HM7.out.keep k nm,
              HQ4.out.keep (Keep.setb _ _ _ _) (by simp), HQ3.out.set 0 _⟩
          clear HQ1 HQ2 HQ3 HQ4 HBB7 HV7 HW7 HM7 HK7 HBB6
          go_wp2_with (refine wpList_load_row rfl 31 _ rfl (n6) rfl 31 _ (0, 0) _ HCT.out.xp Try.underlying31 rfl (by kernel_rfl) ?_)
          clear d0 d1 d2 d3 d4 d5
          refine (run_calls g S (headP ⟨bA, bn, bc, xs, loud, lag, t0, t1, t2, t3, t4, bB, bm, bd, fs⟩ z) _ (head_is (HB.out.keep0 HCT.out.kept) hz2) (good_head HGB.out hz1 hz2) HCT.out.vg (fun x hx h0 => by have := HB.out.pul.old x hx (by show 0 < bn; omega); have := HG.out; omega) (fun x hx h0 => by have := HB.out.fil.old x hx h0; have := HG.out; omega)).mono ?_
          rintro e w8 ⟨v2, rfl, h1, h2, h3, h4⟩
          have HONE := Lib.hid (HCT.out.one h1 h2 h3 h4)
          clear h1 h2 h3 h4 HCT
          go_wp2_with (refine wpList_load_row rfl 31 _ rfl (n6 + 1) rfl 31 _ (0, 0) _ HONE.out.st.xq Try.underlying31 rfl (by kernel_rfl) ?_)
          refine (run_calls g _ (tailP ⟨bA, bn, bc, xs, loud, lag, t0, t1, t2, t3, t4, bB, bm, bd, fs⟩ bA' z) _ (tail_is HB.out HONE.out.st.kept hz2 hrf hbf hnf) (good_tail HGB.out hz2) HONE.out.st.vg (fun x hx h0 => by
            obtain ⟨a', ha', e'⟩ := hbf x hx
            have := HB.out.pul.old a' ha' (by show 0 < bn; omega)
            have := HG.out
            omega) (fun x hx h0 => by have := HB.out.fil.old x hx h0; have := HG.out; omega)).mono ?_
          rintro e w9 ⟨v3, rfl, h1, h2, h3, h4⟩
          have HTWO := Lib.hid (HONE.out.two h1 h2 h3)
          clear h1 h2 h3 h4 HONE
          have hlaw := cut_law (loud := loud) (lag := lag) (taps := [t0, t1, t2, t3, t4]) (fs := fs) (xs := xs) z S
          have hl1 : (mapS (stepV loud lag [t0, t1, t2, t3, t4] fs) S xs).1.length = bn := by rw [mapS_length]; exact HB.out.pul.ln
          dsimp only [headP, tailP, PartA.taps] at HTWO
          obtain ⟨o1, ho1⟩ : ∃ o1, o1 = (mapS (stepV loud lag [t0, t1, t2, t3, t4] fs) S xs).1 := ⟨_, rfl⟩
          obtain ⟨s1, hs1⟩ : ∃ s1, s1 = (mapS (stepV loud lag [t0, t1, t2, t3, t4] fs) S xs).2 := ⟨_, rfl⟩
          obtain ⟨o2, ho2⟩ : ∃ o2, o2 = (mapS (stepV loud lag [t0, t1, t2, t3, t4] fs) S (xs.take z)).1 := ⟨_, rfl⟩
          obtain ⟨s2, hs2⟩ : ∃ s2, s2 = (mapS (stepV loud lag [t0, t1, t2, t3, t4] fs) S (xs.take z)).2 := ⟨_, rfl⟩
          rw [← ho1, ← ho2, ← hs2, ← hs1] at hlaw
          rw [← ho1] at hl1
          rw [← ho1, ← ho2, ← hs2, ← hs1] at HTWO
          obtain ⟨o3, ho3⟩ : ∃ o3, o3 = (mapS (stepV loud lag [t0, t1, t2, t3, t4] fs) s2 (xs.drop z)).1 := ⟨_, rfl⟩
          obtain ⟨s3, hs3⟩ : ∃ s3, s3 = (mapS (stepV loud lag [t0, t1, t2, t3, t4] fs) s2 (xs.drop z)).2 := ⟨_, rfl⟩
          rw [← ho3, ← hs3] at HTWO hlaw
          have hll : o2.length + o3.length = bn := by rw [← hl1, hlaw.1, List.length_append]
          have HLW := Lib.hid hlaw
          have HL1 := Lib.hid hl1
          have HLL := Lib.hid hll
          have HN2 : Hid (bn ≤ 480) := Lib.hid (goodP_of HGB.out).n2
          clear ho1 hs1 ho2 hs2 ho3 hs3 hlaw hl1 hll hct hcf hrf hbf hnf HB HGB HF HG HFG HN HO
          obtain ⟨A3, d3, hv3, _, hr3, _⟩ := HTWO.out.m3.reads
          subst hv3
          obtain ⟨n3, hn3⟩ : ∃ n3, n3 = o3.length := ⟨_, rfl⟩
          rw [← hn3] at HTWO ⊢
          have HN3 := Lib.hid hn3
          have HR3 := Lib.hid hr3
          clear hn3 hr3
          go_wp2_with (at_builtin; refine append_made_w (by first | rfl | kernel_rfl | decide) _ _ rfl _ o2 rfl HTWO.out.m2 _ _ _ o3 rfl HN3.out.symm HR3.out (by have := HLL.out; have := HN2.out; have := HN3.out; omega) (fun e => HTWO.out.m3.arg.nil e) ?_)
          intro v4 w10 h1 h2 h3
          have HEND := Lib.hid (HTWO.out.app h1 h2 HLW.out.2 HLW.out.1)
          clear h1 h2 h3 HTWO HR3 HLL HN3
          go_wp2_with fail
          refine (lsame_mm _ _ o1 o1 _ true (by have := HL1.out; have := HN2.out; omega) (by have := HL1.out; have := HN2.out; omega) HEND.out.m1 HEND.out.m2 (by simp)).mono ?_
          rintro e w11 ⟨rfl, k11⟩
          have HE1 := Lib.hid (HEND.out.keep k11)
          clear k11 HEND HL1
          go_wp2_with fail
          refine (same_calls f g s1 s1 _ HE1.out.vf HE1.out.vg).mono ?_
          rintro e w12 ⟨rfl, k12⟩
          rw [decide_eq_true (rfl : s1 = s1)]
          have HE2 := Lib.hid (HE1.out.keep k12)
          clear k12 HE1
          go_wp2_with fail
          refine (same_calls g f s1 s1 _ HE2.out.vg HE2.out.vf).mono ?_
          rintro e w13 ⟨rfl, k13⟩
          rw [decide_eq_true (rfl : s1 = s1)]
          have HE3 := Lib.hid (HE2.out.keep k13)
          clear k13 HE2
          go_wp2_with fail
          go_ret
          exact ⟨rfl, HE3.out.kept⟩
        · have d0 : w7.cell? ⟨w.heap.size + 1, 0, none⟩ = some (.slice bA bn bc) := HBB7.out.cell 0
          have d1 : w7.cell? ⟨n6 + 1, 0, none⟩ = some (.slice bA bn bc) := HQ2.out.cell 0
          have d2 : w7.frozen? ⟨n6 + 1, 0, none⟩ = false := HQ2.out.free 0
          have d3 : (w7.setCell ⟨n6 + 1, 0, none⟩ (.slice bA z bc)).cell? ⟨w.heap.size + 1, 0, none⟩ = some (.slice bA bn bc) := (HBB7.out.keep (Keep.setb w7 (n6 + 1) 0 (.slice bA z bc)) (by have := HN.out; simp; omega)).cell 0
          have HQ3 := Lib.hid (HQ1.out.keep (Keep.setb w7 (n6 + 1) 0 (.slice bA z bc)) (by simp))
          have HQ4 := Lib.hid (HQ2.out.set 0 (.slice bA z bc))
          have d4 : (w7.setCell ⟨n6 + 1, 0, none⟩ (.slice bA z bc)).cell? ⟨n6, 0, none⟩ = some (.slice bA bn bc) := HQ3.out.cell 0
          have d5 : (w7.setCell ⟨n6 + 1, 0, none⟩ (.slice bA z bc)).frozen? ⟨n6, 0, none⟩ = false := HQ3.out.free 0
          have HCT : Hid (CtSt w ((w7.setCell ⟨n6 + 1, 0, none⟩ (.slice bA z bc)).setCell ⟨n6, 0, none⟩ (.slice bA' (bn - z) (bc - z))) f g (n6 + 1) (n6) (mapS (stepV loud lag [t0, t1, t2, t3, t4] fs) S xs).2 S (headP ⟨bA, bn, bc, xs, loud, lag, t0, t1, t2, t3, t4, bB, bm, bd, fs⟩ z) (tailP ⟨bA, bn, bc, xs, loud, lag, t0, t1, t2, t3, t4, bB, bm, bd, fs⟩ bA' z) v1 (mapS (stepV loud lag [t0, t1, t2, t3, t4] fs) S xs).1) := by
            have k := ((Keep.setb w7 (n6 + 1) 0 (.slice bA z bc)).of2 (Keep.setb (w7.setCell ⟨n6 + 1, 0, none⟩ (.slice bA z bc)) (n6) 0 (.slice bA' (bn - z) (bc - z))))
            have o := HO.out
            have nv : ∀ {b : Nat} {s : Vc}, IsV w7 b s → b ∉ [n6 + 1, n6] := fun hv => by
              have e1 := HQ2.out.ne hv.blk (by decide)
              have e2 := HQ1.out.ne hv.blk (by decide)
              simp only [List.mem_cons, List.not_mem_nil, or_false, not_or]
              exact ⟨fun e => e1 e.symm, fun e => e2 e.symm⟩
            have nm : ∀ x, v1.ownBlock = some x → x ∉ [n6 + 1, n6] := fun x hx => by
              have e1 := HM7.out.ne_t HQ2.out (by decide) x hx
              have e2 := HM7.out.ne_t HQ1.out (by decide) x hx
              simp only [List.mem_cons, List.not_mem_nil, or_false, not_or]
              exact ⟨e1, e2⟩
            exact Lib.hid ⟨HK7.out.trans' k (by simp) (by intro x hx; simp only [List.mem_cons, List.not_mem_nil, or_false] at hx; right; omega), HF.out, HG.out, HFG.out, HV7.out.keep k (nv HV7.out), HW7.out.keep k (nv HW7.out), HM7.out.keep k nm,
              HQ4.out.keep (Keep.setb _ _ _ _) (by simp), HQ3.out.set 0 _⟩
          clear HQ1 HQ2 HQ3 HQ4 HBB7 HV7 HW7 HM7 HK7 HBB6
          go_wp2_with (refine wpList_load_row rfl 31 _ rfl (n6 + 1) rfl 31 _ (0, 0) _ HCT.out.xp Try.underlying31 rfl (by kernel_rfl) ?_)
          clear d0 d1 d2 d3 d4 d5
          refine (run_calls g S (headP ⟨bA, bn, bc, xs, loud, lag, t0, t1, t2, t3, t4, bB, bm, bd, fs⟩ z) _ (head_is (HB.out.keep0 HCT.out.kept) hz2) (good_head HGB.out hz1 hz2) HCT.out.vg (fun x hx h0 => by have := HB.out.pul.old x hx (by show 0 < bn; omega); have := HG.out; omega) (fun x hx h0 => by have := HB.out.fil.old x hx h0; have := HG.out; omega)).mono ?_
          rintro e w8 ⟨v2, rfl, h1, h2, h3, h4⟩
          have HONE := Lib.hid (HCT.out.one h1 h2 h3 h4)
          clear h1 h2 h3 h4 HCT
          go_wp2_with (refine wpList_load_row rfl 31 _ rfl (n6) rfl 31 _ (0, 0) _ HONE.out.st.xq Try.underlying31 rfl (by kernel_rfl) ?_)
          refine (run_calls g _ (tailP ⟨bA, bn, bc, xs, loud, lag, t0, t1, t2, t3, t4, bB, bm, bd, fs⟩ bA' z) _ (tail_is HB.out HONE.out.st.kept hz2 hrf hbf hnf) (good_tail HGB.out hz2) HONE.out.st.vg (fun x hx h0 => by
            obtain ⟨a', ha', e'⟩ := hbf x hx
            have := HB.out.pul.old a' ha' (by show 0 < bn; omega)
            have := HG.out
            omega) (fun x hx h0 => by have := HB.out.fil.old x hx h0; have := HG.out; omega)).mono ?_
          rintro e w9 ⟨v3, rfl, h1, h2, h3, h4⟩
          have HTWO := Lib.hid (HONE.out.two h1 h2 h3)
          clear h1 h2 h3 h4 HONE
          have hlaw := cut_law (loud := loud) (lag := lag) (taps := [t0, t1, t2, t3, t4]) (fs := fs) (xs := xs) z S
          have hl1 : (mapS (stepV loud lag [t0, t1, t2, t3, t4] fs) S xs).1.length = bn := by rw [mapS_length]; exact HB.out.pul.ln
          dsimp only [headP, tailP, PartA.taps] at HTWO
          obtain ⟨o1, ho1⟩ : ∃ o1, o1 = (mapS (stepV loud lag [t0, t1, t2, t3, t4] fs) S xs).1 := ⟨_, rfl⟩
          obtain ⟨s1, hs1⟩ : ∃ s1, s1 = (mapS (stepV loud lag [t0, t1, t2, t3, t4] fs) S xs).2 := ⟨_, rfl⟩
          obtain ⟨o2, ho2⟩ : ∃ o2, o2 = (mapS (stepV loud lag [t0, t1, t2, t3, t4] fs) S (xs.take z)).1 := ⟨_, rfl⟩
          obtain ⟨s2, hs2⟩ : ∃ s2, s2 = (mapS (stepV loud lag [t0, t1, t2, t3, t4] fs) S (xs.take z)).2 := ⟨_, rfl⟩
          rw [← ho1, ← ho2, ← hs2, ← hs1] at hlaw
          rw [← ho1] at hl1
          rw [← ho1, ← ho2, ← hs2, ← hs1] at HTWO
          obtain ⟨o3, ho3⟩ : ∃ o3, o3 = (mapS (stepV loud lag [t0, t1, t2, t3, t4] fs) s2 (xs.drop z)).1 := ⟨_, rfl⟩
          obtain ⟨s3, hs3⟩ : ∃ s3, s3 = (mapS (stepV loud lag [t0, t1, t2, t3, t4] fs) s2 (xs.drop z)).2 := ⟨_, rfl⟩
          rw [← ho3, ← hs3] at HTWO hlaw
          have hll : o2.length + o3.length = bn := by rw [← hl1, hlaw.1, List.length_append]
          have HLW := Lib.hid hlaw
          have HL1 := Lib.hid hl1
          have HLL := Lib.hid hll
          have HN2 : Hid (bn ≤ 480) := Lib.hid (goodP_of HGB.out).n2
          clear ho1 hs1 ho2 hs2 ho3 hs3 hlaw hl1 hll hct hcf hrf hbf hnf HB HGB HF HG HFG HN HO
          obtain ⟨A3, d3, hv3, _, hr3, _⟩ := HTWO.out.m3.reads
          subst hv3
          obtain ⟨n3, hn3⟩ : ∃ n3, n3 = o3.length := ⟨_, rfl⟩
          rw [← hn3] at HTWO ⊢
          have HN3 := Lib.hid hn3
          have HR3 := Lib.hid hr3
          clear hn3 hr3
          go_wp2_with (at_builtin; refine append_made_w (by first | rfl | kernel_rfl | decide) _ _ rfl _ o2 rfl HTWO.out.m2 _ _ _ o3 rfl HN3.out.symm HR3.out (by have := HLL.out; have := HN2.out; have := HN3.out; omega) (fun e => HTWO.out.m3.arg.nil e) ?_)
          intro v4 w10 h1 h2 h3
          have HEND := Lib.hid (HTWO.out.app h1 h2 HLW.out.2 HLW.out.1)
          clear h1 h2 h3 HTWO HR3 HLL HN3
          go_wp2_with fail
          refine (lsame_mm _ _ o1 o1 _ true (by have := HL1.out; have := HN2.out; omega) (by have := HL1.out; have := HN2.out; omega) HEND.out.m1 HEND.out.m2 (by simp)).mono ?_
          rintro e w11 ⟨rfl, k11⟩
          have HE1 := Lib.hid (HEND.out.keep k11)
          clear k11 HEND HL1
          go_wp2_with fail
          refine (same_calls f g s1 s1 _ HE1.out.vf HE1.out.vg).mono ?_
          rintro e w12 ⟨rfl, k12⟩
          rw [decide_eq_true (rfl : s1 = s1)]
          have HE2 := Lib.hid (HE1.out.keep k12)
          clear k12 HE1
          go_wp2_with fail
          refine (same_calls g f s1 s1 _ HE2.out.vg HE2.out.vf).mono ?_
          rintro e w13 ⟨rfl, k13⟩
          rw [decide_eq_true (rfl : s1 = s1)]
          have HE3 := Lib.hid (HE2.out.keep k13)
          clear k13 HE2
          go_wp2_with fail
          go_ret
          exact ⟨rfl, HE3.out.kept⟩
      · clear HBA2 HBB2 HGA HGB HA HB
        go_wp2_with fail
        all_goals first
          | (exfalso; omega)
          | (go_ret; exact ⟨rfl, HK2.out⟩)
theorem cuts_row (v : Value) (a : PartA) (v' : Value) (b : PartA) (cut : Int) (w : World) (h : v = .agg a.cells ∧ IsPart w a) (h' : v' = .agg b.cells ∧ IsPart w b) (_ : (Lit.int .i64 cut).wf = true) :
    Calls Try.prog 5 #[v, v', .int .i64 cut] w fun e w' => e = .returned (.bool true) ∧ Below w.heap.size w w' := by
  obtain ⟨rfl, ha⟩ := h
  obtain ⟨rfl, hb⟩ := h'
  exact (cuts_walk a b cut w ha hb).mono fun _ _ ⟨he, k⟩ => ⟨he, k.toBelow⟩
end Go.Proofs.Ytjhgbcgpkpahjaa
