/- The walk of EmphPlays: any calls, one after the other, answer as the reference does. -/
import Derived.Test.YtddlkglpgkdgkaaE12
import Derived.Deep.RegionHeld3
namespace Go.Proofs.Ytddlkglpgkdgkaa
open Go.RowKit

/-! ### the plain law: what is kept of the comb, here the last one first, there the last one last -/
def CombR (comb lst : List Int) : Prop := comb.length = 512 ∧ ∀ j, j < 512 → comb.getD j 0 = lst.reverse.getD j 0
theorem combR_ahead {comb lst : List Int} (h : CombR comb lst) (lag : Nat) (h0 : 1 ≤ lag) (h1 : lag ≤ 512) : aheadL lst lag = comb.getD (lag - 1) 0 := by
  rw [h.2 (lag - 1) (by omega)]
  unfold aheadL
  by_cases hl : (lst.length : Int) < lag
  · rw [if_pos (.inr hl)]
    rw [List.getD_eq_getElem?_getD, List.getElem?_eq_none (by simp; omega)]
    rfl
  · rw [if_neg (by omega)]
    have e : (lst.reverse).getD (lag - 1) 0 = lst.getD (lst.length - 1 - (lag - 1)) 0 := by
      simp only [List.getD_eq_getElem?_getD]
      rw [List.getElem?_reverse (by omega)]
    rw [e]
    congr 1
    omega
theorem combR_step {comb lst : List Int} (h : CombR comb lst) (y : Int) : CombR (y :: comb.take 511) (lst ++ [y]) := by
  refine ⟨by simp [h.1], fun j hj => ?_⟩
  rw [List.reverse_append, List.reverse_singleton, List.singleton_append]
  cases j with
  | zero => simp
  | succ j =>
    have := h.2 j (by omega)
    simp only [List.getD_cons_succ]
    rw [← this]
    simp only [List.getD_eq_getElem?_getD, List.getElem?_take, show j < 511 by omega, if_true]
theorem combR_last {comb lst : List Int} (h : CombR comb lst) : CombR comb (lastL lst 512) := by
  refine ⟨h.1, fun j hj => ?_⟩
  rw [h.2 j hj]
  unfold lastL
  simp only [List.getD_eq_getElem?_getD]
  by_cases hl : j < lst.length
  · rw [List.getElem?_reverse (by omega), List.getElem?_reverse (by simp; omega)]
    simp only [List.length_drop, List.getElem?_drop]
    congr 2
    omega
  · rw [List.getElem?_eq_none (by simp; omega), List.getElem?_eq_none (by simp; omega)]
theorem combR_new : CombR zeros [] := ⟨zeros_length, fun j _ => by rw [zeros_get]; rfl⟩
theorem comb_ref (lag : Nat) (g : Int) (h0 : 1 ≤ lag) (h1 : lag ≤ 512) (xs : List Int) : ∀ (s : Flt) (lst : List Int), CombR s.comb lst →
    (mapS (stepK (combF lag g)) s xs).1 = (mapS (rcF lag g) lst xs).1 ∧ CombR (mapS (stepK (combF lag g)) s xs).2.comb (mapS (rcF lag g) lst xs).2 ∧ (mapS (stepK (combF lag g)) s xs).2.up = s.up ∧ (mapS (stepK (combF lag g)) s xs).2.low = s.low := by
  induction xs with
  | nil => intro s lst h; exact ⟨rfl, h, rfl, rfl⟩
  | cons x xs ih =>
    intro s lst h
    have e := combR_ahead h lag h0 h1
    have e2 : rcF lag g lst x = ((stepK (combF lag g) s x).1, lst ++ [(stepK (combF lag g) s x).1]) := by
      simp only [rcF, stepK, combF, e]
    have hs : CombR (stepK (combF lag g) s x).2.comb (lst ++ [(stepK (combF lag g) s x).1]) := combR_step h _
    obtain ⟨i1, i2, i3, i4⟩ := ih _ _ hs
    simp only [mapS, e2, i1]
    exact ⟨trivial, i2, i3, i4⟩
theorem lastL_le (l : List Int) (n : Nat) : (lastL l n).length ≤ n := by unfold lastL; simp; omega

/-! ### the calls that came in -/
structure ActA where
  op : Int
  lag : Int
  g : Int
  X : Option Addr
  len : Nat
  cap : Nat
  xs : List Int
def ActA.cells (a : ActA) : List Value := [.int .i64 a.op, .int .i64 a.lag, .int .i64 a.g, .slice a.X a.len a.cap]
structure Acts (W : World) (A : Option Addr) (n c : Nat) (l : List ActA) : Prop where
  ln : l.length = n
  cp : n ≤ c
  most : c ≤ 9223372036854775807
  at_ : ∀ i p, l[i]? = some p → ∃ a, A = some a ∧ (∀ j v, p.cells[j]? = some v → W.cell? ((a.add (i * 4)).add j) = some v) ∧ ArgI W p.X p.len p.cap p.xs

theorem wpList_load_agg {P : Program} {ops : Array Oper} {rest : List Oper} {o : Oper} {a : Act} {w : World} {Q : Exit → Act → World → Prop} (hgd : o.guard = none) (ty : TypeId) (x : Operand) (ho : o.op = .load ty x)
    (ad : Addr) (hx : a.eval x = .pointer (some ad)) (cs : List Value) (hc : ∀ j v, cs[j]? = some v → w.cell? (ad.add j) = some v) (d : TypeDesc)
    (hu : P.underlying ty = some d) (hd : (match d with | .struct _ | .array _ _ => true | _ => false) = true) (hi : (P.info? ty).map (·.size) = some cs.length)
    (h : wpList P ops Q rest (a.put o.dst (.agg cs.toArray)) w) : wpList P ops Q (o :: rest) a w := by
  refine wpList_plain hgd fun K hK => ?_
  have hl : (loadCells ad cs.length).run P w = .ok cs.toArray w := run_loadCells_list (P := P) w ad cs hc
  cases hq : P.info? ty with
  | none => simp [hq] at hi
  | some i =>
    have hs : i.size = cs.length := by simpa [hq] using hi
    have hagg : (isAgg ty).run P w = .ok true w := by
      unfold isAgg
      rw [Sem.run_bind, run_underlying hu w]
      cases d <;> simp_all
    unfold Oper.wp execOp
    simp only [ho, hx, Instr.loadAt, Instr.sureAddr, Sem.run_bind, Sem.run_pure, Result.andThen_ok, loadVar, hagg, sizeOf, typeInfo, run_program, hq, hs, hl, if_true]
    exact hK _ _ h

/-- What holds between two calls. -/
structure PlSt (w wr : World) (f r : Nat) (s : Flt) (u l : Int) (cv : Value) (lst : List Int) : Prop where
  kept : Keep [] w wr
  of : w.heap.size ≤ f
  or : w.heap.size ≤ r
  ff : IsFil wr f s
  fr : RFil wr r u l cv
  list : Made wr cv lst
  oc : ∀ g, cv.ownBlock = some g → w.heap.size ≤ g
  ll : lst.length ≤ 512
  up : s.up = u
  low : s.low = l
  comb : CombR s.comb lst
/-- In the midst of one call: the box of the act, the filters, what the law's own side has made (p), what the reference's side has made (q). -/
structure Mid (w wr : World) (f r b : Nat) (op lag g : Int) (X : Option Addr) (n c : Nat) (s : Flt) (u l : Int) (cv : Value) (lst : List Int) (p q : Option (Value × List Int)) : Prop where
  kept : Keep [] w wr
  of : w.heap.size ≤ f
  or : w.heap.size ≤ r
  ob : w.heap.size ≤ b
  ff : IsFil wr f s
  fr : RFil wr r u l cv
  list : Made wr cv lst
  oc : ∀ g, cv.ownBlock = some g → w.heap.size ≤ g
  box : Blk wr b #[.int .i64 op, .int .i64 lag, .int .i64 g, .slice X n c] 38
  own : ∀ v ys, p = some (v, ys) → Made wr v ys ∧ (∀ g, v.ownBlock = some g → w.heap.size ≤ g ∧ cv.ownBlock ≠ some g)
  oth : ∀ v ys, q = some (v, ys) → Made wr v ys
  apart : ∀ v ys v' ys', p = some (v, ys) → q = some (v', ys') → ∀ g, v.ownBlock = some g → v'.ownBlock ≠ some g
section
variable {w wr w' : World} {f r b : Nat} {op lag g : Int} {X : Option Addr} {n c : Nat} {s : Flt} {u l : Int} {cv : Value} {lst : List Int} {p q : Option (Value × List Int)}
theorem Mid.keep (h : Mid w wr f r b op lag g X n c s u l cv lst p q) (k : Keep [] wr w') : Mid w w' f r b op lag g X n c s u l cv lst p q :=
  ⟨h.kept.trans k, h.of, h.or, h.ob, h.ff.keep k (by simp), h.fr.keep k (by simp), h.list.keep k (by simp), h.oc, h.box.keep k (by simp), fun v ys e => ⟨(h.own v ys e).1.keep k (by simp), (h.own v ys e).2⟩, fun v ys e => (h.oth v ys e).keep k (by simp), h.apart⟩
theorem Mid.drew (h : Mid w wr f r b op lag g X n c s u l cv lst p q) : Mid w wr.drew f r b op lag g X n c s u l cv lst p q := h.keep (Keep.drew _ _)
theorem Mid.lit (h : Mid w wr f r b op lag g X n c s u l cv lst none q) : Mid w (wr.alloc (.cells #[] 2)) f r b op lag g X n c s u l cv lst (some (.slice (some ⟨wr.heap.size, 0, none⟩) 0 0, [])) q := by
  have h' := h.keep (Keep.alloc [] wr (.cells #[] 2))
  have z := h.kept.size
  refine ⟨h'.kept, h.of, h.or, h.ob, h'.ff, h'.fr, h'.list, h.oc, h'.box, ?_, h'.oth, ?_⟩
  · rintro v ys ⟨⟩
    refine ⟨Made.empty wr, ?_⟩
    rintro g ⟨⟩
    exact ⟨z, fun e => absurd (h.list.lt _ e) (Nat.lt_irrefl _)⟩
  · rintro v ys v' ys' ⟨⟩ e g ⟨⟩ e'
    exact absurd ((h.oth v' ys' e).lt _ e') (Nat.lt_irrefl _)
theorem Mid.lit2 {B : Nat} (h : Mid w wr f r b op lag g X n c s u l cv lst none q) (hB : wr.heap.size = B) : Mid w (wr.alloc (.cells #[] 2)).drew f r b op lag g X n c s u l cv lst (some (.slice (some ⟨B, 0, none⟩) 0 0, [])) q := hB ▸ h.lit.drew
theorem Mid.c0 (h : Mid w wr f r b op lag g X n c s u l cv lst p q) : wr.cell? ⟨b, 0, none⟩ = some (.int .i64 op) := h.box.cell 0
theorem Mid.c1 (h : Mid w wr f r b op lag g X n c s u l cv lst p q) : wr.cell? ⟨b, 1, none⟩ = some (.int .i64 lag) := h.box.cell 1
theorem Mid.c2 (h : Mid w wr f r b op lag g X n c s u l cv lst p q) : wr.cell? ⟨b, 2, none⟩ = some (.int .i64 g) := h.box.cell 2
theorem Mid.c3 (h : Mid w wr f r b op lag g X n c s u l cv lst p q) : wr.cell? ⟨b, 3, none⟩ = some (.slice X n c) := h.box.cell 3
/-- f alone was written, and a new block made for the own side. -/
theorem Mid.ownNew (h : Mid w wr f r b op lag g X n c s u l cv lst p q) (k : Keep [f] wr w') {s' : Flt} (hf : IsFil w' f s') {v' : Value} {ys' : List Int} (hv : Made w' v' ys') (hw : ∀ g, v'.ownBlock = some g → wr.heap.size ≤ g) : Mid w w' f r b op lag g X n c s' u l cv lst (some (v', ys')) q := by
  have z := h.kept.size
  refine ⟨h.kept.trans' k (by simp) (by simpa using h.of), h.of, h.or, h.ob, hf, h.fr.keep k (by simpa using fun e => (h.ff.blk.ne h.fr (by decide)) e.symm), h.list.keep k (fun g hg => by simpa using h.list.ne_fil h.ff g hg), h.oc, h.box.keep k (by simpa using fun e => (h.ff.blk.ne h.box (by decide)) e.symm), ?_, fun v ys e => (h.oth v ys e).keep k (fun g hg => by simpa using (h.oth v ys e).ne_fil h.ff g hg), ?_⟩
  · rintro v ys ⟨⟩
    exact ⟨hv, fun g hg => ⟨by have := hw g hg; omega, fun e => by have := h.list.lt _ e; have := hw g hg; omega⟩⟩
  · rintro v ys v2 ys2 ⟨⟩ e g hg e'
    have := (h.oth v2 ys2 e).lt _ e'
    have := hw g hg
    omega
/-- r alone was written, and a new block made for the other side. -/
theorem Mid.othNew (h : Mid w wr f r b op lag g X n c s u l cv lst p q) (k : Keep [r] wr w') {u' l' : Int} (hf : RFil w' r u' l' cv) {v' : Value} {ys' : List Int} (hv : Made w' v' ys') (hw : ∀ g, v'.ownBlock = some g → wr.heap.size ≤ g) : Mid w w' f r b op lag g X n c s u' l' cv lst p (some (v', ys')) := by
  have z := h.kept.size
  refine ⟨h.kept.trans' k (by simp) (by simpa using h.or), h.of, h.or, h.ob, h.ff.keep k (by simpa using h.ff.blk.ne h.fr (by decide)), hf, h.list.keep k (fun g hg => by simpa using h.list.ne_rfil h.fr g hg), h.oc, h.box.keep k (by simpa using fun e => (Blk.ne h.fr h.box (by decide)) e.symm),
    fun v ys e => ⟨(h.own v ys e).1.keep k (fun g hg => by simpa using (h.own v ys e).1.ne_rfil h.fr g hg), (h.own v ys e).2⟩, ?_, ?_⟩
  · rintro v ys ⟨⟩
    exact hv
  · rintro v ys v2 ys2 e ⟨⟩ g hg e'
    have := (h.own v ys e).1.lt _ hg
    have := hw g e'
    omega
theorem mid_raise {v : Value} {ys : List Int} (h : Mid w wr f r b op lag g X n c s u l cv lst (some (v, ys)) q) (hl : ys.length ≤ 500) :
    Calls Try.prog 13 #[.pointer (some ⟨f, 0, none⟩), v] wr fun e w' => ∃ v', e = .returned v' ∧ Mid w w' f r b op lag g X n c (mapS (stepK raiseF) s ys).2 u l cv lst (some (v', (mapS (stepK raiseF) s ys).1)) q := by
  obtain ⟨hv, _⟩ := h.own v ys rfl
  have hne := hv.ne_fil h.ff
  obtain ⟨A, d, rfl, hd, hr, _⟩ := hv.reads
  refine (raise_n f s A ys ys.length d wr h.ff rfl hd (by omega) hr (fun a ha _ => by subst ha; exact hne _ rfl)).mono ?_
  rintro e w' ⟨g', h1, rfl, h2, h3, h4, h5⟩
  refine ⟨_, rfl, h.ownNew h2 h4 (by rw [← h5]; exact Made.ofBlk h3 (by omega)) ?_⟩
  rintro g ⟨⟩
  exact h1
theorem mid_lower {v : Value} {ys : List Int} (h : Mid w wr f r b op lag g X n c s u l cv lst (some (v, ys)) q) (hl : ys.length ≤ 500) :
    Calls Try.prog 14 #[.pointer (some ⟨f, 0, none⟩), v] wr fun e w' => ∃ v', e = .returned v' ∧ Mid w w' f r b op lag g X n c (mapS (stepK lowerF) s ys).2 u l cv lst (some (v', (mapS (stepK lowerF) s ys).1)) q := by
  obtain ⟨hv, _⟩ := h.own v ys rfl
  have hne := hv.ne_fil h.ff
  obtain ⟨A, d, rfl, hd, hr, _⟩ := hv.reads
  refine (lower_n f s A ys ys.length d wr h.ff rfl hd (by omega) hr (fun a ha _ => by subst ha; exact hne _ rfl)).mono ?_
  rintro e w' ⟨g', h1, rfl, h2, h3, h4, h5⟩
  refine ⟨_, rfl, h.ownNew h2 h4 (by rw [← h5]; exact Made.ofBlk h3 (by omega)) ?_⟩
  rintro g ⟨⟩
  exact h1
theorem mid_same {v v2 : Value} {ys ys2 : List Int} (h : Mid w wr f r b op lag g X n c s u l cv lst (some (v, ys)) (some (v2, ys2))) (hl : ys.length ≤ 500) (hl2 : ys2.length ≤ 500) (he : ys = ys2) :
    Calls Try.prog 16 #[v, v2] wr fun e w' => e = .returned (.bool true) ∧ Mid w w' f r b op lag g X n c s u l cv lst none none := by
  obtain ⟨hv, _⟩ := h.own v ys rfl
  have hv2 := h.oth v2 ys2 rfl
  obtain ⟨A, d, rfl, hd, hr, _⟩ := hv.reads
  refine (lsame_rm A ys ys2 ys.length d v2 wr true rfl (by omega) (by omega) hr hv2 (by simp [he])).mono ?_
  rintro e w' ⟨rfl, k⟩
  have h' := h.keep k
  exact ⟨rfl, h'.kept, h.of, h.or, h.ob, h'.ff, h'.fr, h'.list, h.oc, h'.box, fun v ys e => (by cases e), fun v ys e => (by cases e), fun v ys v' ys' e => (by cases e)⟩
theorem ArgI.at_ {xs : List Int} (ha : ArgI w X n c xs) (k : Keep [] w wr) : Rd wr X xs := ha.reads.keep k (by simp)
theorem mid_rraise {xs : List Int} (h : Mid w wr f r b op lag g X n c s u l cv lst p q) (ha : ArgI w X n c xs) (hl : n ≤ 500) :
    Calls Try.prog 17 #[.pointer (some ⟨r, 0, none⟩), .slice X n c] wr fun e w' => ∃ v', e = .returned v' ∧ Mid w w' f r b op lag g X n c s (mapS rO u xs).2 l cv lst p (some (v', (mapS rO u xs).1)) := by
  have ho := h.or
  refine (rraise_calls r u l cv X xs n c wr h.fr ha.ln ha.cp (by omega) (ha.at_ h.kept) (fun a e h0 => by have := ha.old a e h0; omega)).mono ?_
  rintro e w' ⟨v', rfl, h1⟩
  exact ⟨_, rfl, h.othNew h1.kept h1.fil h1.out h1.fresh⟩
theorem mid_rlower {xs : List Int} (h : Mid w wr f r b op lag g X n c s u l cv lst p q) (ha : ArgI w X n c xs) (hl : n ≤ 500) :
    Calls Try.prog 18 #[.pointer (some ⟨r, 0, none⟩), .slice X n c] wr fun e w' => ∃ v', e = .returned v' ∧ Mid w w' f r b op lag g X n c s u (mapS lO l xs).2 cv lst p (some (v', (mapS lO l xs).1)) := by
  have ho := h.or
  refine (rlower_calls r u l cv X xs n c wr h.fr ha.ln ha.cp (by omega) (ha.at_ h.kept) (fun a e h0 => by have := ha.old a e h0; omega)).mono ?_
  rintro e w' ⟨v', rfl, h1⟩
  exact ⟨_, rfl, h.othNew h1.kept h1.fil h1.out h1.fresh⟩
theorem mid_comb {m : Nat} {v : Value} {ys : List Int} (h : Mid w wr f r b op lag g X n c s u l cv lst (some (v, ys)) q) (hl : ys.length ≤ 500) (h0 : 1 ≤ m) (h1 : m ≤ 512) (hg0 : 0 ≤ g) (hg1 : g ≤ 24576) :
    Calls Try.prog 11 #[.pointer (some ⟨f, 0, none⟩), v, .int .i64 m, .int .i64 g] wr fun e w' => ∃ v', e = .returned (.tuple #[v', .int .i64 0]) ∧ Mid w w' f r b op lag g X n c (mapS (stepK (combF m g)) s ys).2 u l cv lst (some (v', (mapS (stepK (combF m g)) s ys).1)) q := by
  obtain ⟨hv, _⟩ := h.own v ys rfl
  have hne := hv.ne_fil h.ff
  obtain ⟨A, d, rfl, hd, hr, _⟩ := hv.reads
  refine (comb_n f s m g A ys ys.length d wr h0 h1 hg0 hg1 h.ff rfl hd (by omega) hr (fun a ha _ => by subst ha; exact hne _ rfl)).mono ?_
  rintro e w' ⟨g', h1, rfl, h2, h3, h4, h5⟩
  refine ⟨_, rfl, h.ownNew h2 h4 (by rw [← h5]; exact Made.ofBlk h3 (by omega)) ?_⟩
  rintro g ⟨⟩
  exact h1
theorem mid_comb_bad {v : Value} {ys : List Int} (h : Mid w wr f r b op lag g X n c s u l cv lst (some (v, ys)) q) (hb : lag < 1 ∨ 512 < lag ∨ g < 0 ∨ 24576 < g) :
    Calls Try.prog 11 #[.pointer (some ⟨f, 0, none⟩), v, .int .i64 lag, .int .i64 g] wr fun e w' => e = .returned (.tuple #[.slice none 0 0, .int .i64 1]) ∧ Mid w w' f r b op lag g X n c s u l cv lst (some (v, ys)) q := by
  obtain ⟨hv, _⟩ := h.own v ys rfl
  obtain ⟨A, d, rfl, hd, hr, _⟩ := hv.reads
  refine (comb_bad f lag g A _ d wr hb).mono ?_
  rintro e w' ⟨rfl, k⟩
  exact ⟨rfl, h.keep k⟩
theorem mid_rcomb {m : Nat} {xs : List Int} (h : Mid w wr f r b op lag g X n c s u l cv lst p none) (ha : ArgI w X n c xs) (hl : n ≤ 500) (hll : lst.length ≤ 512) (h0 : 1 ≤ m) (h1 : m ≤ 512) (hg0 : 0 ≤ g) (hg1 : g ≤ 24576) :
    Calls Try.prog 19 #[.pointer (some ⟨r, 0, none⟩), .slice X n c, .int .i64 m, .int .i64 g] wr fun e w' => ∃ v' cv', e = .returned v' ∧ Mid w w' f r b op lag g X n c s u l cv' (lastL (mapS (rcF m g) lst xs).2 512) p (some (v', (mapS (rcF m g) lst xs).1)) := by
  have ho := h.or
  have z := h.kept.size
  refine (rcomb_calls r u l cv lst m g X xs n c wr h0 h1 hg0 hg1 h.fr h.list hll ha.ln ha.cp (by omega) (ha.at_ h.kept) (fun a e hn => ⟨by have := ha.old a e hn; omega, fun e' => by have := ha.old a e hn; have := h.oc _ e'; omega⟩)).mono ?_
  rintro e w' ⟨v', cv', rfl, k, h1, h2, h3, h4, h5⟩
  have hcv : ∀ b' : Nat, b' ∈ (r :: cv.ownBlock.toList) → b' = r ∨ cv.ownBlock = some b' := fun b' hb => by simpa using hb
  have hk1 : ∀ b' ∈ (r :: cv.ownBlock.toList), b' ∈ ([] : List Nat) ∨ w.heap.size ≤ b' := by
    intro b' hb
    rcases hcv b' hb with e | e
    · exact .inr (by omega)
    · exact .inr (h.oc _ e)
  have hk2 : f ∉ (r :: cv.ownBlock.toList) := by
    intro hb
    rcases hcv _ hb with e | e
    · exact h.ff.blk.ne h.fr (by decide) e
    · exact h.list.ne_fil h.ff _ e rfl
  refine ⟨v', cv', rfl, h.kept.trans' k (by simp) hk1, h.of, h.or, h.ob, h.ff.keep k hk2,
    h1, h2, fun g' hg' => by have := h3 g' hg'; omega, h.box.keep k (fun hb => by
      rcases hcv _ hb with e | e
      · exact (Blk.ne h.fr h.box (by decide)) e.symm
      · obtain ⟨cs, hbk⟩ := h.list.typ _ e
        exact hbk.ne h.box (by decide) rfl), ?_, ?_, ?_⟩
  · intro v ys e
    obtain ⟨hm, hm2⟩ := h.own v ys e
    refine ⟨hm.keep k (fun g' hg' hb => ?_), fun g' hg' => ⟨(hm2 g' hg').1, fun e' => ?_⟩⟩
    · rcases hcv _ hb with e2 | e2
      · exact hm.ne_rfil h.fr _ hg' e2
      · exact (hm2 g' hg').2 e2
    · have := h3 g' e'
      have := hm.lt _ hg'
      omega
  · rintro v ys ⟨⟩
    exact h4
  · rintro v ys v2 ys2 e ⟨⟩ g' hg' e'
    have := (h.own v ys e).1.lt _ hg'
    have := h5 g' e'
    omega
/-- 'append([]int64{}, x.X...)' at a step of a region that draws. -/
theorem mid_append {xs : List Int} {ops : Array Oper} {o : Oper} {a : Act} {K : Act → World → Prop} {Q : Exit → Act → World → Prop} {E : Prop} (hgd : o.guard = none) (so xo : Operand)
    (ho : o.op = .call { callee := .builtin .append, args := #[so, xo], argTypes := #[25, 25] }) (v : Value) (hv : a.eval so = v) (hx : a.eval xo = .slice X n c)
    (h : Mid w wr f r b op lag g X n c s u l cv lst (some (v, [])) q) (ha : ArgI w X n c xs) (hl : n ≤ 500)
    (hk : ∀ v' w', Mid w w' f r b op lag g X n c s u l cv lst (some (v', xs)) q → K (a.put o.dst v') w') :
    if Region.wanted o (yielded ops a.tmps) = true then Oper.wp Try.prog o a wr K Q else E := by
  have hw : Region.wanted o (yielded ops a.tmps) = true := by simp [Region.wanted, hgd]
  rw [if_pos hw]
  obtain ⟨hm, ho1⟩ := h.own v [] rfl
  obtain ⟨v', w', hrun, h1, h2, h3⟩ := run_append_made wr o.type v [] hm X n c xs ha.ln (ha.at_ h.kept) (by simp; omega) ha.nil
  have z := h.kept.size
  unfold Oper.wp
  simp [execOp, ho, resolve, invoke, builtin, hv, hx, hrun, Result.andThen]
  refine hk _ _ ?_
  have hb : ∀ g', v.ownBlock = some g' → w.heap.size ≤ g' ∧ cv.ownBlock ≠ some g' := ho1
  refine ⟨h.kept.trans' h2 (by simp) (fun g' hg' => by simp only [Option.mem_toList] at hg'; exact .inr (hb g' hg').1), h.of, h.or, h.ob,
    h.ff.keep h2 (fun hg' => by simp only [Option.mem_toList] at hg'; exact hm.ne_fil h.ff _ hg' rfl), h.fr.keep h2 (fun hg' => by simp only [Option.mem_toList] at hg'; exact hm.ne_rfil h.fr _ hg' rfl),
    h.list.keep h2 (fun g' hg hg' => by simp only [Option.mem_toList] at hg'; exact (hb g' hg').2 hg), h.oc,
    h.box.keep h2 (fun hg' => by
      simp only [Option.mem_toList] at hg'
      obtain ⟨cs, hbk⟩ := hm.typ _ hg'
      exact hbk.ne h.box (by decide) rfl), ?_, fun v2 ys2 e => (h.oth v2 ys2 e).keep h2 (fun g' hg hg' => by simp only [Option.mem_toList] at hg'; exact h.apart v [] v2 ys2 rfl e g' hg' hg), ?_⟩
  · rintro v2 ys2 ⟨⟩
    refine ⟨by simpa using h1, fun g' hg' => ?_⟩
    rcases h3 with h3 | h3
    · exact hb g' (by rw [← h3]; exact hg')
    · rw [hg'] at h3
      simp only [Option.some.injEq] at h3
      exact ⟨by omega, fun e => by have := h.list.lt _ e; omega⟩
  · rintro v2 ys2 v3 ys3 ⟨⟩ e g' hg' e'
    rcases h3 with h3 | h3
    · exact h.apart v [] v3 ys3 rfl e g' (by rw [← h3]; exact hg') e'
    · rw [hg'] at h3
      simp only [Option.some.injEq] at h3
      have := (h.oth v3 ys3 e).lt _ e'
      omega
end
theorem PlSt.begin {w wr : World} {f r : Nat} {s : Flt} {u l : Int} {cv : Value} {lst : List Int} (h : PlSt w wr f r s u l cv lst) (op lag g : Int) (X : Option Addr) (n c : Nat) :
    Mid w (wr.alloc (.cells #[.int .i64 op, .int .i64 lag, .int .i64 g, .slice X n c] 38)) f r wr.heap.size op lag g X n c s u l cv lst none none := by
  have k := Keep.alloc [] wr (.cells #[.int .i64 op, .int .i64 lag, .int .i64 g, .slice X n c] 38)
  exact ⟨h.kept.trans k, h.of, h.or, h.kept.size, h.ff.keep k (by simp), h.fr.keep k (by simp), h.list.keep k (by simp), h.oc, Blk.new wr _ _, fun v ys e => (by cases e), fun v ys e => (by cases e), fun v ys v' ys' e => (by cases e)⟩
theorem Mid.done {w wr : World} {f r b : Nat} {op lag g : Int} {X : Option Addr} {n c : Nat} {s : Flt} {u l : Int} {cv : Value} {lst : List Int} {p q : Option (Value × List Int)}
    (h : Mid w wr f r b op lag g X n c s u l cv lst p q) (ll : lst.length ≤ 512) (up : s.up = u) (low : s.low = l) (comb : CombR s.comb lst) : PlSt w wr f r s u l cv lst :=
  ⟨h.kept, h.of, h.or, h.ff, h.fr, h.list, h.oc, ll, up, low, comb⟩
theorem raise_eq (s : Flt) (u : Int) (xs : List Int) (h : s.up = u) : (mapS (stepK raiseF) s xs).1 = (mapS rO u xs).1 := by rw [raise_O, h]
theorem lower_eq (s : Flt) (u : Int) (xs : List Int) (h : s.low = u) : (mapS (stepK lowerF) s xs).1 = (mapS lO u xs).1 := by rw [lower_O, h]
attribute [local go_sem ↓] Go.wp_at_zero Go.wp_at_succ
set_option maxRecDepth 100000 in
set_option maxHeartbeats 4000000 in
theorem plays_walk (A : Option Addr) (n c : Nat) (acts : List ActA) (w : World) (ha : Acts w A n c acts) :
    Calls Try.prog 4 #[.slice A n c] w (RetKept w (.bool true)) := by
  have HA := Lib.hid ha
  have hm := ha.most
  have hnc := ha.cp
  clear ha
  go_enter Try.func4, Try.ntmps4
  go_wp2_with fail
  refine (awake_calls _).mono ?_
  rintro e w0 ⟨rfl, k⟩
  have H0 := Lib.hid k
  clear k
  by_cases hbig : 20 < n
  · go_wp2
    go_ret
    exact ⟨rfl, H0.out⟩
  · go_wp2_with fail
    refine (new_calls _).mono ?_
    rintro e w1 ⟨f, f1, rfl, f2, f3⟩
    have H1 : Hid (PlSt w (w1.alloc (.cells #[.int .i64 0, .int .i64 0, .slice none 0 0] 36)) f w1.heap.size newFlt 0 0 (.slice none 0 0) []) := by
      have z := H0.out.size
      have z2 := f2.size
      have k := Keep.alloc [] w1 (.cells #[.int .i64 0, .int .i64 0, .slice none 0 0] 36)
      exact Lib.hid ⟨(H0.out.trans f2).trans k, by omega, by omega, f3.keep k (by simp), Blk.new w1 _ _, Made.nil _, (fun g hg => by cases hg), by simp, rfl, rfl, combR_new⟩
    clear f1 f2 f3 H0
    go_wp2_with fail
    go_loopw [5] (fun i wr => ∃ (k : Nat) (s : Flt) (u l : Int) (cv : Value) (lst : List Int), k ≤ n ∧ i = .int .i64 k ∧ PlSt w wr f w1.heap.size s u l cv lst) (fun i _ => n - (intOf i).toNat)
    case atStart => exact ⟨0, _, _, _, _, _, Nat.zero_le _, rfl, H1.out⟩
    case round =>
      obtain ⟨k, s, u, l, cv, lst, hk, rfl, HS⟩ := hrel
      have HS := Lib.hid HS
      by_cases hlt : k < n
      · obtain ⟨p, hp⟩ : ∃ p, acts[k]? = some p := ⟨_, List.getElem?_eq_getElem (by rw [HA.out.ln]; exact hlt)⟩
        obtain ⟨a, rfl, hca, hax⟩ := HA.out.at_ k p hp
        have hcw : ∀ j v, p.cells[j]? = some v → wr.cell? ((a.add (k * 4)).add j) = some v := fun j v hv => HS.out.kept.cell (hca j v hv) (by simp)
        have HCW : Hid (∀ j v, [Value.int .i64 p.op, .int .i64 p.lag, .int .i64 p.g, .slice p.X p.len p.cap][j]? = some v → wr.cell? ((a.add (k * 4)).add j) = some v) := Lib.hid hcw
        have HX := Lib.hid hax
        clear hca hax hcw hp
        obtain ⟨op, lag, g, X, xn, xc, xs⟩ := p
        have HM := Lib.hid (HS.out.begin op lag g X xn xc)
        have hxl := HX.out.ln
        by_cases hx : 500 < xn
        · go_wp2_with (refine wpList_load_agg rfl 38 _ rfl (a.add (k * 4)) rfl _ HCW.out _ Try.underlying38 rfl (by kernel_rfl) ?_)
          go_ret
          exact ⟨rfl, HM.out.kept⟩
        · have hxn : xn ≤ 500 := by omega
          by_cases hop : op = 0
          · subst hop
            go_wp2_with (refine wpList_load_agg rfl 38 _ rfl (a.add (k * 4)) rfl _ HCW.out _ Try.underlying38 rfl (by kernel_rfl) ?_)
            go_region_held3 (fun w' => w'.cell? ⟨wr.heap.size, 3, none⟩ = some (.slice X xn xc)) (exact Mid.c3 (by first | exact (Hid.out HM) | exact (Hid.out HM).drew | exact (Hid.out HM).lit.drew | exact (Hid.out HM).lit2 (by simp)))
              (first
                | (refine mid_append rfl _ _ rfl _ rfl rfl (by first | exact (Hid.out HM) | exact (Hid.out HM).drew | exact (Hid.out HM).lit.drew | exact (Hid.out HM).lit2 (by simp)) HX.out hxn ?_; intro v' w' hm; clear HM; have HM := Lib.hid hm; clear hm)
                | (go_at_call 13; refine (mid_raise (by first | exact (Hid.out HM) | exact (Hid.out HM).drew | exact (Hid.out HM).lit.drew | exact (Hid.out HM).lit2 (by simp)) (by omega)).mono ?_; rintro e w' ⟨v', rfl, hm⟩; clear HM; have HM := Lib.hid hm; clear hm)
                | (go_at_call 17; refine (mid_rraise (by first | exact (Hid.out HM) | exact (Hid.out HM).drew | exact (Hid.out HM).lit.drew | exact (Hid.out HM).lit2 (by simp)) HX.out hxn).mono ?_; rintro e w' ⟨v', rfl, hm⟩; clear HM; have HM := Lib.hid hm; clear hm)
                | (go_at_call 16; refine (mid_same (by first | exact (Hid.out HM) | exact (Hid.out HM).drew | exact (Hid.out HM).lit.drew | exact (Hid.out HM).lit2 (by simp)) (by rw [mapS_length]; omega) (by rw [mapS_length]; omega) (raise_eq _ _ _ HS.out.up)).mono ?_; rintro e w' ⟨rfl, hm⟩; clear HM; have HM := Lib.hid hm; clear hm))
            go_wp2_with fail
            go_roundw
            case rel => exact ⟨k + 1, _, _, _, _, _, by omega, by go_num, HM.out.done HS.out.ll (by rw [raise_O, HS.out.up]) (by rw [raise_O]; exact HS.out.low) (by rw [raise_O]; exact HS.out.comb)⟩
            case measure => simp [intOf]; omega
          · by_cases hop1 : op = 1
            · subst hop1
              go_wp2_with (refine wpList_load_agg rfl 38 _ rfl (a.add (k * 4)) rfl _ HCW.out _ Try.underlying38 rfl (by kernel_rfl) ?_)
              go_region_held3 (fun w' => w'.cell? ⟨wr.heap.size, 3, none⟩ = some (.slice X xn xc)) (exact Mid.c3 (by first | exact (Hid.out HM) | exact (Hid.out HM).drew | exact (Hid.out HM).lit.drew | exact (Hid.out HM).lit2 (by simp)))
                (first
                  | (refine mid_append rfl _ _ rfl _ rfl rfl (by first | exact (Hid.out HM) | exact (Hid.out HM).drew | exact (Hid.out HM).lit.drew | exact (Hid.out HM).lit2 (by simp)) HX.out hxn ?_; intro v' w' hm; clear HM; have HM := Lib.hid hm; clear hm)
                  | (go_at_call 14; refine (mid_lower (by first | exact (Hid.out HM) | exact (Hid.out HM).drew | exact (Hid.out HM).lit.drew | exact (Hid.out HM).lit2 (by simp)) (by omega)).mono ?_; rintro e w' ⟨v', rfl, hm⟩; clear HM; have HM := Lib.hid hm; clear hm)
                  | (go_at_call 18; refine (mid_rlower (by first | exact (Hid.out HM) | exact (Hid.out HM).drew | exact (Hid.out HM).lit.drew | exact (Hid.out HM).lit2 (by simp)) HX.out hxn).mono ?_; rintro e w' ⟨v', rfl, hm⟩; clear HM; have HM := Lib.hid hm; clear hm)
                  | (go_at_call 16; refine (mid_same (by first | exact (Hid.out HM) | exact (Hid.out HM).drew | exact (Hid.out HM).lit.drew | exact (Hid.out HM).lit2 (by simp)) (by rw [mapS_length]; omega) (by rw [mapS_length]; omega) (lower_eq _ _ _ HS.out.low)).mono ?_; rintro e w' ⟨rfl, hm⟩; clear HM; have HM := Lib.hid hm; clear hm))
              go_wp2_with fail
              go_roundw
              case rel => exact ⟨k + 1, _, _, _, _, _, by omega, by go_num, HM.out.done HS.out.ll (by rw [lower_O]; exact HS.out.up) (by rw [lower_O, HS.out.low]) (by rw [lower_O]; exact HS.out.comb)⟩
              case measure => simp [intOf]; omega
            · by_cases hgood : 1 ≤ lag ∧ lag ≤ 512 ∧ 0 ≤ g ∧ g ≤ 24576
              · obtain ⟨hl0, hl1, hg0, hg1⟩ := hgood
                obtain ⟨m, rfl⟩ := Int.eq_ofNat_of_zero_le (show 0 ≤ lag by omega)
                go_wp2_with (refine wpList_load_agg rfl 38 _ rfl (a.add (k * 4)) rfl _ HCW.out _ Try.underlying38 rfl (by kernel_rfl) ?_)
                go_region_held3 (fun w' => w'.cell? ⟨wr.heap.size, 1, none⟩ = some (.int .i64 m) ∧ w'.cell? ⟨wr.heap.size, 2, none⟩ = some (.int .i64 g) ∧ w'.cell? ⟨wr.heap.size, 3, none⟩ = some (.slice X xn xc)) (exact ⟨Mid.c1 (by first | exact (Hid.out HM) | exact (Hid.out HM).drew | exact (Hid.out HM).lit.drew | exact (Hid.out HM).lit2 (by simp)), Mid.c2 (by first | exact (Hid.out HM) | exact (Hid.out HM).drew | exact (Hid.out HM).lit.drew | exact (Hid.out HM).lit2 (by simp)), Mid.c3 (by first | exact (Hid.out HM) | exact (Hid.out HM).drew | exact (Hid.out HM).lit.drew | exact (Hid.out HM).lit2 (by simp))⟩)
                  (first
                    | (refine mid_append rfl _ _ rfl _ rfl rfl (by first | exact (Hid.out HM) | exact (Hid.out HM).drew | exact (Hid.out HM).lit.drew | exact (Hid.out HM).lit2 (by simp)) HX.out hxn ?_; intro v' w' hm; clear HM; have HM := Lib.hid hm; clear hm)
                    | (go_at_call 11; refine (mid_comb (by first | exact (Hid.out HM) | exact (Hid.out HM).drew | exact (Hid.out HM).lit.drew | exact (Hid.out HM).lit2 (by simp)) (by omega) (by omega) (by omega) hg0 hg1).mono ?_; rintro e w' ⟨v', rfl, hm⟩; clear HM; have HM := Lib.hid hm; clear hm))
                have hc1 := HM.out.c1
                have hc2 := HM.out.c2
                have hc3 := HM.out.c3
                have HC := Lib.hid (comb_ref m g (by omega) (by omega) xs s lst HS.out.comb)
                go_wp2_with fail
                refine (mid_rcomb HM.out HX.out hxn HS.out.ll (by omega) (by omega) hg0 hg1).mono ?_
                rintro e w' ⟨v2, cv', rfl, hm2⟩
                clear HM hc1 hc2 hc3
                have HM := Lib.hid hm2
                clear hm2
                go_wp2_with fail
                refine (mid_same HM.out (by rw [mapS_length]; omega) (by rw [mapS_length]; omega) HC.out.1).mono ?_
                rintro e w' ⟨rfl, hm⟩
                clear HM
                have HM := Lib.hid hm
                clear hm
                go_wp2_with fail
                go_roundw
                case rel => exact ⟨k + 1, _, _, _, _, _, by omega, by go_num, HM.out.done (lastL_le _ _) (by rw [HC.out.2.2.1]; exact HS.out.up) (by rw [HC.out.2.2.2]; exact HS.out.low) (combR_last HC.out.2.1)⟩
                case measure => simp [intOf]; omega
              · have hbad : lag < 1 ∨ 512 < lag ∨ g < 0 ∨ 24576 < g := by omega
                go_wp2_with (refine wpList_load_agg rfl 38 _ rfl (a.add (k * 4)) rfl _ HCW.out _ Try.underlying38 rfl (by kernel_rfl) ?_)
                go_region_held3 (fun w' => w'.cell? ⟨wr.heap.size, 1, none⟩ = some (.int .i64 lag) ∧ w'.cell? ⟨wr.heap.size, 2, none⟩ = some (.int .i64 g) ∧ w'.cell? ⟨wr.heap.size, 3, none⟩ = some (.slice X xn xc)) (exact ⟨Mid.c1 (by first | exact (Hid.out HM) | exact (Hid.out HM).drew | exact (Hid.out HM).lit.drew | exact (Hid.out HM).lit2 (by simp)), Mid.c2 (by first | exact (Hid.out HM) | exact (Hid.out HM).drew | exact (Hid.out HM).lit.drew | exact (Hid.out HM).lit2 (by simp)), Mid.c3 (by first | exact (Hid.out HM) | exact (Hid.out HM).drew | exact (Hid.out HM).lit.drew | exact (Hid.out HM).lit2 (by simp))⟩)
                  (first
                    | (refine mid_append rfl _ _ rfl _ rfl rfl (by first | exact (Hid.out HM) | exact (Hid.out HM).drew | exact (Hid.out HM).lit.drew | exact (Hid.out HM).lit2 (by simp)) HX.out hxn ?_; intro v' w' hm; clear HM; have HM := Lib.hid hm; clear hm)
                    | (go_at_call 11; refine (mid_comb_bad (by first | exact (Hid.out HM) | exact (Hid.out HM).drew | exact (Hid.out HM).lit.drew | exact (Hid.out HM).lit2 (by simp)) hbad).mono ?_; rintro e w' ⟨rfl, hm⟩; clear HM; have HM := Lib.hid hm; clear hm))
                have hc1 := HM.out.c1
                have hc2 := HM.out.c2
                have hc3 := HM.out.c3
                go_wp2_with fail
                all_goals (
                  go_roundw
                  case rel => exact ⟨k + 1, _, _, _, _, _, by omega, by go_num, HM.out.done HS.out.ll HS.out.up HS.out.low HS.out.comb⟩
                  case measure => simp [intOf]; omega)
      · go_wp2_with fail
        go_ret
        exact ⟨rfl, HS.out.kept⟩
end Go.Proofs.Ytddlkglpgkdgkaa
