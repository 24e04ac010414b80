/- SynthSigns: the plain law, the walk; a part that comes in by value, opened. -/
import Derived.Test.YtjhgbcgpkpahjaaS17
import Derived.Test.YtjhgbcgpkpahjaaS11
namespace Go.Proofs.Ytjhgbcgpkpahjaa
open Go.RowKit Go.ChangeShapes Go.WideShapes Go.Deep Go.Joins

theorem open_pv {H : Type} {enc : TypeId × Value → H} {W : World} {base : Nat} {v : Value} {d : DataW H} {ps : List MemPlace} (hv : Value.okWide Try.prog W .any base 31 v) (h : DataW.Trod enc Try.prog W 0 (fun _ => true) true 31 v d ps) :
    ∃ p : PartA, v = .agg p.cells ∧ IsPart W p := by
  obtain ⟨cs, rfl, _⟩ := okWide_struct Try.underlying31 hv
  obtain ⟨fuel, hf⟩ := h
  obtain ⟨p, hp, hx⟩ := open_part1 hf
  refine ⟨p, ?_, hx⟩
  have h2 : cs.toList = p.list := hp
  have h3 : cs = p.list.toArray := by rw [← h2]
  rw [h3]
  rfl

/-! ### the plain law -/
def negL (xs : List Int) : List Int := xs.map fun x => -x
theorem okI_bd {m x : Int} (h : okI m x = true) : -m ≤ x ∧ x ≤ m := by
  unfold okI at h
  simpa using h
theorem okI_of {m x : Int} (h : -m ≤ x ∧ x ≤ m) : okI m x = true := by
  unfold okI
  simpa using h
theorem okL_neg {m : Int} {xs : List Int} (h : okL m xs = true) : okL m (negL xs) = true := by
  unfold okL negL
  rw [List.all_map]
  unfold okL at h
  rw [List.all_eq_true] at h ⊢
  intro x hx
  obtain ⟨h1, h2⟩ := okI_bd (h x hx)
  exact okI_of (x := -x) ⟨by omega, by omega⟩
theorem loud_bd {x loud : Int} (h1 : -16 ≤ x) (h2 : x ≤ 16) (h3 : 0 ≤ loud) (h4 : loud ≤ 262144) : -4194304 ≤ x * loud ∧ x * loud ≤ 4194304 := by
  have a := Int.mul_le_mul_of_nonneg_right h2 h3
  have b := Int.mul_le_mul_of_nonneg_right h1 h3
  omega
theorem plain_step {loud x : Int} (taps : List Int) (s : Vc) (hx : okI 16 x = true) (h3 : 0 ≤ loud) (h4 : loud ≤ 262144) : (stepV loud 0 taps [] s x).1 = x * loud := by
  obtain ⟨h1, h2⟩ := okI_bd hx
  obtain ⟨b1, b2⟩ := loud_bd h1 h2 h3 h4
  have hw : wrap64 (x * loud) = x * loud := by unfold wrap64; omega
  have he : exR loud 0 taps s.r x = x * loud := by
    unfold exR
    rw [if_neg (by omega), hw]
    exact keptI_id (by omega) (by omega)
  unfold stepV
  rw [he]
  exact keptI_id (v := x * loud) (by omega) (by omega)
theorem plain_run {loud : Int} (taps : List Int) (h3 : 0 ≤ loud) (h4 : loud ≤ 262144) (xs : List Int) : ∀ s, okL 16 xs = true → (mapS (stepV loud 0 taps []) s xs).1 = xs.map (· * loud) := by
  induction xs with
  | nil => intro s _; rfl
  | cons x xs ih =>
    intro s h
    unfold okL at h
    rw [List.all_cons, Bool.and_eq_true] at h
    simp only [mapS, List.map_cons]
    rw [plain_step taps s h.1 h3 h4, ih _ h.2]
theorem negL_take_succ {xs : List Int} {k : Nat} (h : k < xs.length) : negL (xs.take (k + 1)) = negL (xs.take k) ++ [-(xs.getD k 0)] := by
  unfold negL
  rw [List.take_add_one, List.getElem?_eq_getElem h, List.map_append]
  simp [h]
/-- The part without a lag, without a filter. -/
def sgP (p : PartA) : PartA := ⟨p.A, p.n, p.c, p.xs, p.loud, 0, p.t0, p.t1, p.t2, p.t3, p.t4, none, 0, 0, []⟩
def sgQ (p : PartA) (A : Option Addr) (k c : Nat) (ys : List Int) : PartA := ⟨A, k, c, ys, p.loud, 0, p.t0, p.t1, p.t2, p.t3, p.t4, none, 0, 0, []⟩
structure GoodS (p : PartA) : Prop where
  xs : okL 16 p.xs = true
  l0 : 0 ≤ p.loud
  l1 : p.loud ≤ 262144
  n2 : p.n ≤ 480
theorem goodS_of {p : PartA} (h : goodB (sgP p) = true) : GoodS p := by
  simp only [goodB, sgP, Bool.and_eq_true] at h
  exact ⟨h.2.2.1, of_decide_eq_true h.2.2.2.1, of_decide_eq_true h.2.2.2.2.1, of_decide_eq_true h.2.1⟩
theorem goodQ_of {p : PartA} {A : Option Addr} {c : Nat} (h : goodB (sgP p) = true) : goodB (sgQ p A p.n c (negL p.xs)) = true := by
  simp only [goodB, sgP, sgQ, PartA.taps, Bool.and_eq_true] at h ⊢
  exact ⟨h.1, h.2.1, okL_neg h.2.2.1, h.2.2.2⟩
/-- What stands while the second part is made: the box of the first, the box of the second with its pulses so far. -/
structure SgSt (w wr : World) (bp bq : Nat) (p : PartA) (A : Option Addr) (c : Nat) (ys : List Int) : Prop where
  kept : Keep [] w wr
  obp : w.heap.size ≤ bp
  obq : w.heap.size ≤ bq
  ne : bp ≠ bq
  bx : Blk wr bp (sgP p).cells 31
  bq : Blk wr bq (sgQ p A ys.length c ys).cells 31
  part : IsPart w p
  made : Made wr (.slice A ys.length c) ys
  old : ∀ g, (Value.slice A ys.length c).ownBlock = some g → w.heap.size ≤ g
theorem SgSt.keep {w wr w' : World} {bp bq : Nat} {p : PartA} {A : Option Addr} {c : Nat} {ys : List Int} (h : SgSt w wr bp bq p A c ys) (k : Keep [] wr w') : SgSt w w' bp bq p A c ys :=
  ⟨h.kept.trans k, h.obp, h.obq, h.ne, h.bx.keep k (by simp), h.bq.keep k (by simp), h.part, h.made.keep k (by simp), h.old⟩
/-- A pulse is appended and stored. -/
theorem sg_append {w wr : World} {bp bq : Nat} {p : PartA} {A : Option Addr} {c k : Nat} {ys : List Int} {x : Int} {ops : Array Oper} {o : Oper} {a : Act} {K : Act → World → Prop} {Q : Exit → Act → World → Prop} {E : Prop} (hgd : o.guard = none) (so xo : Operand)
    (ho : o.op = .call { callee := .builtin .append, args := #[so, xo], argTypes := #[25, 25] }) (h : SgSt w wr bp bq p A c ys) (hl : ys.length = k) (hv : a.eval so = .slice A k c) (hx : a.eval xo = .slice (some ⟨wr.heap.size, 0, none⟩) 1 1) (hk' : k ≤ 1000)
    (hk : ∀ A' c' w', w'.cell? ⟨bq, 0, none⟩ = some (.slice A k c) → w'.frozen? ⟨bq, 0, none⟩ = false → SgSt w (w'.setCell ⟨bq, 0, none⟩ (.slice A' (k + 1) c')) bp bq p A' c' (ys ++ [x]) → K (a.put o.dst (.slice A' (k + 1) c')) w') :
    if Region.wanted o (yielded ops a.tmps) = true then Oper.wp Try.prog o a (wr.alloc (.cells #[.int .i64 x] 2)).drew K Q else E := by
  have hw : Region.wanted o (yielded ops a.tmps) = true := by simp [Region.wanted, hgd]
  rw [if_pos hw]
  subst hl
  have k1 := (Keep.alloc [] wr (.cells #[.int .i64 x] 2)).trans (Keep.drew [] _)
  have h1 := h.keep k1
  obtain ⟨v', w', hrun, m1, m2, m3⟩ := run_append_made (wr.alloc (.cells #[.int .i64 x] 2)).drew o.type _ ys h1.made (some ⟨wr.heap.size, 0, none⟩) 1 1 [x] rfl ((rd_lit wr [x]).keep (Keep.drew [] _) (by simp)) (by simp; omega) (by simp)
  unfold Oper.wp
  simp [execOp, ho, resolve, invoke, builtin, hv, hx, hrun, Result.andThen]
  obtain ⟨A', c', rfl, hc', hr', _⟩ := m1.reads
  have hle : (ys ++ [x]).length = ys.length + 1 := by simp
  rw [hle] at m1 m3 ⊢
  have z := h.kept.size
  have no : ∀ (b : Nat) cs, Blk wr b cs 31 → b ∉ (Value.slice A ys.length c).ownBlock.toList := fun b cs hb hg => by
    simp only [Option.mem_toList] at hg
    exact h.made.ne_t hb (by decide) _ hg rfl
  have b1 := h1.bx.keep m2 (no _ _ h.bx)
  have b2 := h1.bq.keep m2 (no _ _ h.bq)
  have kk := h1.kept.trans' m2 (l := []) (by simp) (fun g hg => by simp only [Option.mem_toList] at hg; exact .inr (h.old g hg))
  have b3 := b2.set 0 (.slice A' (ys.length + 1) c')
  refine hk A' c' w' (b2.cell 0) (b2.free 0) ⟨kk.trans' (Keep.setb _ _ _ _) (by simp) (by simpa using h.obq), h.obp, h.obq, h.ne, b1.keep (Keep.setb _ _ _ _) (by simpa using h.ne), ?_, h.part, ?_, ?_⟩
  · rw [hle]
    exact b3
  · rw [hle]
    exact m1.keep (Keep.setb _ _ _ _) (fun g hg => by simpa using m1.ne_t b2 (by decide) g hg)
  · rw [hle]
    intro g hg
    rcases m3 with m3 | m3
    · exact h.old g (by rw [← m3]; exact hg)
    · rw [hg] at m3
      simp only [Option.some.injEq] at m3
      have zd : (wr.alloc (.cells #[.int .i64 x] 2)).drew.heap.size = wr.heap.size + 1 := World.size_alloc ..
      omega
theorem Made.arg {w : World} {A : Option Addr} {n c : Nat} {xs : List Int} (h : Made w (.slice A n c) xs) : ArgI w A n c xs := by
  obtain ⟨A', c', hv, hc, hrd, hb⟩ := Made.reads h
  simp only [Value.slice.injEq] at hv
  obtain ⟨rfl, rfl, rfl⟩ := hv
  obtain ⟨h1, h2⟩ := h
  refine ⟨rfl, hc, ?_, hrd, fun hA => ?_, fun x hx h0 => ?_⟩
  · rcases h2 with ⟨hv, h0⟩ | ⟨g, cap, cur, hv, hb, hg, hn, hc, hs, ht⟩
    · simp only [Value.slice.injEq] at hv
      omega
    · simp only [Value.slice.injEq] at hv
      unfold maxLen at hc
      omega
  · rcases h2 with ⟨_, h0⟩ | ⟨g, cap, cur, hv, _⟩
    · exact h0
    · simp only [Value.slice.injEq] at hv
      rw [hA] at hv
      simp at hv
  · obtain ⟨cs, hbk⟩ := hb x hx
    exact hbk.lt
/-- What stands when the parts are run: both parts, what was answered. -/
structure SgR (w wr : World) (bp bq : Nat) (p : PartA) (A : Option Addr) (c : Nat) (ys : List Int) (v1 v2 : Value) (o1 o2 : List Int) : Prop where
  st : SgSt w wr bp bq p A c ys
  m1 : Made wr v1 o1
  m2 : Made wr v2 o2
/-- The same, and a new voice. -/
structure SgN (w wr : World) (bp bq : Nat) (p : PartA) (A : Option Addr) (c : Nat) (ys : List Int) (v1 v2 : Value) (o1 o2 : List Int) (f : Nat) : Prop where
  r : SgR w wr bp bq p A c ys v1 v2 o1 o2
  vc : IsV wr f newV
  of : w.heap.size ≤ f
  nq : ∀ a, A = some a → 0 < ys.length → a.block ≠ f
section
variable {w wr w' : World} {bp bq f k : Nat} {p : PartA} {A : Option Addr} {c : Nat} {ys : List Int} {v1 v2 v : Value} {o1 o2 os : List Int}
theorem SgR.keep (h : SgR w wr bp bq p A c ys v1 v2 o1 o2) (k : Keep [] wr w') : SgR w w' bp bq p A c ys v1 v2 o1 o2 := ⟨h.st.keep k, h.m1.keep k (by simp), h.m2.keep k (by simp)⟩
theorem SgR.drew (h : SgR w wr bp bq p A c ys v1 v2 o1 o2) : SgR w wr.drew bp bq p A c ys v1 v2 o1 o2 := h.keep (Keep.drew _ _)
theorem SgN.drew (h : SgN w wr bp bq p A c ys v1 v2 o1 o2 f) : SgN w wr.drew bp bq p A c ys v1 v2 o1 o2 f := ⟨h.r.drew, h.vc.keep (Keep.drew [] _) (by simp), h.of, h.nq⟩
theorem SgR.new (h : SgR w wr bp bq p A c ys v1 v2 o1 o2) (h1 : wr.heap.size ≤ f) (h2 : Keep [] wr w') (h3 : IsV w' f newV) : SgN w w' bp bq p A c ys v1 v2 o1 o2 f :=
  ⟨h.keep h2, h3, by have := h.st.kept.size; omega, fun a ha h0 => by have := h.st.made.arg.old a ha h0; omega⟩
theorem SgN.part (h : SgN w wr bp bq p A c ys v1 v2 o1 o2 f) : IsPart wr (sgP p) := ⟨h.r.st.part.pul.keep0 h.r.st.kept, ArgI.empty _⟩
theorem SgN.part2 (h : SgN w wr bp bq p A c ys v1 v2 o1 o2 f) : ys.length = k → IsPart wr (sgQ p A k c ys) := fun e => by subst e; exact ⟨h.r.st.made.arg, ArgI.empty _⟩
theorem SgN.ran (h : SgN w wr bp bq p A c ys v1 v2 o1 o2 f) (k : Keep [f] wr w') : SgR w w' bp bq p A c ys v1 v2 o1 o2 := by
  have kk : Keep [] w w' := h.r.st.kept.trans' k (by simp) (by simpa using h.of)
  refine ⟨⟨kk, h.r.st.obp, h.r.st.obq, h.r.st.ne, h.r.st.bx.keep k (by simpa using h.r.st.bx.ne h.vc.blk (by decide)), h.r.st.bq.keep k (by simpa using h.r.st.bq.ne h.vc.blk (by decide)), h.r.st.part, h.r.st.made.keep k (fun g hg => by simpa using h.r.st.made.ne_v h.vc g hg), h.r.st.old⟩,
    h.r.m1.keep k (fun g hg => by simpa using h.r.m1.ne_v h.vc g hg), h.r.m2.keep k (fun g hg => by simpa using h.r.m2.ne_v h.vc g hg)⟩
theorem SgR.set1 (h : SgR w wr bp bq p A c ys v1 v2 o1 o2) (hm : Made wr v os) : SgR w wr bp bq p A c ys v v2 os o2 := ⟨h.st, hm, h.m2⟩
theorem SgR.set2 (h : SgR w wr bp bq p A c ys v1 v2 o1 o2) (hm : Made wr v os) : SgR w wr bp bq p A c ys v1 v o1 os := ⟨h.st, h.m1, hm⟩
theorem SgR.nine1 (h : SgR w wr bp bq p A c ys v1 v2 o1 o2) : Nine wr bp (sgP p) := nine_of h.st.bx
theorem SgN.nine1 (h : SgN w wr bp bq p A c ys v1 v2 o1 o2 f) : Nine wr bp (sgP p) := nine_of h.r.st.bx
theorem SgR.nine2 (h : SgR w wr bp bq p A c ys v1 v2 o1 o2) : ys.length = k → Nine wr bq (sgQ p A k c ys) := fun e => by subst e; exact nine_of h.st.bq
theorem SgN.nine2 (h : SgN w wr bp bq p A c ys v1 v2 o1 o2 f) : ys.length = k → Nine wr bq (sgQ p A k c ys) := fun e => by subst e; exact nine_of h.r.st.bq
end
theorem negL_length (xs : List Int) : (negL xs).length = xs.length := by simp [negL]
end Go.Proofs.Ytjhgbcgpkpahjaa
