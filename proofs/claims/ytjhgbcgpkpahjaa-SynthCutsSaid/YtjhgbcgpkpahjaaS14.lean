/- The reference's voice in memory. -/
import Derived.Test.YtjhgbcgpkpahjaaS13
namespace Go.Proofs.Ytjhgbcgpkpahjaa
open Go.RowKit

/-- Three slices of the call's own, no two in one block. -/
structure Own3 (w : World) (a b c : Value) (xs ys zs : List Int) : Prop where
  m1 : Made w a xs
  m2 : Made w b ys
  m3 : Made w c zs
  d12 : ∀ g, a.ownBlock = some g → b.ownBlock ≠ some g
  d13 : ∀ g, a.ownBlock = some g → c.ownBlock ≠ some g
  d23 : ∀ g, b.ownBlock = some g → c.ownBlock ≠ some g
theorem Own3.rot {w : World} {a b c : Value} {xs ys zs : List Int} (h : Own3 w a b c xs ys zs) : Own3 w b c a ys zs xs :=
  ⟨h.m2, h.m3, h.m1, h.d23, fun g hg e => h.d12 g e hg, fun g hg e => h.d13 g e hg⟩
theorem Own3.keep {w w' : World} {a b c : Value} {xs ys zs : List Int} {L : List Nat} (h : Own3 w a b c xs ys zs) (k : Keep L w w') (h1 : ∀ g, a.ownBlock = some g → g ∉ L) (h2 : ∀ g, b.ownBlock = some g → g ∉ L) (h3 : ∀ g, c.ownBlock = some g → g ∉ L) : Own3 w' a b c xs ys zs :=
  ⟨h.m1.keep k h1, h.m2.keep k h2, h.m3.keep k h3, h.d12, h.d13, h.d23⟩
theorem Own3.app {w w1 w2 : World} {a a' b c : Value} {xs xs' ys zs : List Int} (h : Own3 w a b c xs ys zs) (k0 : Keep [] w w1) (h1 : Made w2 a' xs') (h2 : Keep a.ownBlock.toList w1 w2) (h3 : a'.ownBlock = a.ownBlock ∨ a'.ownBlock = some w1.heap.size) : Own3 w2 a' b c xs' ys zs := by
  have n2 := h.m2.keep k0 (by simp)
  have n3 := h.m3.keep k0 (by simp)
  refine ⟨h1, n2.keep h2 (fun g hg hm => ?_), n3.keep h2 (fun g hg hm => ?_), ?_, ?_, h.d23⟩
  · simp only [Option.mem_toList] at hm
    exact h.d12 g hm hg
  · simp only [Option.mem_toList] at hm
    exact h.d13 g hm hg
  · intro g hg e
    rcases h3 with h3 | h3
    · exact h.d12 g (by rw [← h3]; exact hg) e
    · rw [hg] at h3
      simp only [Option.some.injEq] at h3
      have := n2.lt _ e
      omega
  · intro g hg e
    rcases h3 with h3 | h3
    · exact h.d13 g (by rw [← h3]; exact hg) e
    · rw [hg] at h3
      simp only [Option.some.injEq] at h3
      have := n3.lt _ e
      omega
/-- The reference's voice: two lists. -/
def RV (w : World) (b : Nat) (rv ov : Value) : Prop := Blk w b #[rv, ov] 36
theorem RV.c0 {w : World} {b : Nat} {rv ov : Value} (h : RV w b rv ov) : w.cell? ⟨b, 0, none⟩ = some rv := Blk.cell h 0
theorem RV.c1 {w : World} {b : Nat} {rv ov : Value} (h : RV w b rv ov) : w.cell? ⟨b, 1, none⟩ = some ov := Blk.cell h 1
theorem Made.ne_t {w : World} {v : Value} {xs : List Int} {b : Nat} {cs : Array Value} {t : TypeId} (h : Made w v xs) (hf : Blk w b cs t) (ht : 2 ≠ t) : ∀ g, v.ownBlock = some g → g ≠ b := fun g hg => by
  obtain ⟨cs, hb⟩ := h.typ g hg
  exact hb.ne hf ht
/-- In the midst of the reference's Run. L: the blocks of the voice and of its two lists, as they were. -/
structure RSt (w wr : World) (L : List Nat) (b bt : Nat) (ts : Array Value) (rv ov out : Value) (R O ys : List Int) : Prop where
  kept : Keep L w wr
  fil : RV wr b rv ov
  tap : Blk wr bt ts 29
  own : Own3 wr rv ov out R O ys
  old : ∀ g, (rv.ownBlock = some g ∨ ov.ownBlock = some g ∨ out.ownBlock = some g) → g ∈ L ∨ w.heap.size ≤ g
  inb : b ∈ L
section
variable {w wr w1 w2 : World} {L : List Nat} {b bt : Nat} {ts : Array Value} {rv ov out v' : Value} {R O ys : List Int} {y : Int}
theorem RSt.drewN (h : RSt w wr L b bt ts rv ov out R O ys) (n : Nat) : RSt w (wr.drewN n) L b bt ts rv ov out R O ys :=
  ⟨h.kept.trans (Keep.drewN _ _ _), Blk.drewN h.fil n, h.tap.drewN n, h.own.keep (Keep.drewN [] _ _) (by simp) (by simp) (by simp), h.old, h.inb⟩
theorem old_app {a a' : Value} (hz : w.heap.size ≤ w1.heap.size) (ha : ∀ g, a.ownBlock = some g → g ∈ L ∨ w.heap.size ≤ g) (h3 : a'.ownBlock = a.ownBlock ∨ a'.ownBlock = some w1.heap.size) : ∀ g, a'.ownBlock = some g → g ∈ L ∨ w.heap.size ≤ g := by
  intro g hg
  rcases h3 with h3 | h3
  · exact ha g (by rw [← h3]; exact hg)
  · rw [hg] at h3
    simp only [Option.some.injEq] at h3
    exact .inr (by omega)
/-- One of the three is appended to: what stands then, but for the voice's block. -/
theorem RSt.mid {a : Value} (h : RSt w wr L b bt ts rv ov out R O ys) (k0 : Keep [] wr w1) (hm : Made wr a R ∨ Made wr a O ∨ Made wr a ys) (ha : ∀ g, a.ownBlock = some g → g ∈ L ∨ w.heap.size ≤ g) (h2 : Keep a.ownBlock.toList w1 w2) :
    Keep L w w2 ∧ RV w2 b rv ov ∧ Blk w2 bt ts 29 := by
  have hne : (∀ g, a.ownBlock = some g → g ≠ b) ∧ ∀ g, a.ownBlock = some g → g ≠ bt := by
    rcases hm with hm | hm | hm
    · exact ⟨hm.ne_t h.fil (by decide), hm.ne_t h.tap (by decide)⟩
    · exact ⟨hm.ne_t h.fil (by decide), hm.ne_t h.tap (by decide)⟩
    · exact ⟨hm.ne_t h.fil (by decide), hm.ne_t h.tap (by decide)⟩
  refine ⟨(h.kept.trans (k0.of0 _)).trans' h2 (fun g hg => .inl hg) (fun g hg => ha g (by simpa using hg)), Blk.keep (Blk.keep h.fil k0 (by simp)) h2 ?_, (h.tap.keep k0 (by simp)).keep h2 ?_⟩
  · intro hg
    exact hne.1 b (by simpa using hg) rfl
  · intro hg
    exact hne.2 bt (by simpa using hg) rfl
/-- The first list grows, and is stored. -/
theorem RSt.app1 (h : RSt w wr L b bt ts rv ov out R O ys) (k0 : Keep [] wr w1) (h1 : Made w2 v' (R ++ [y])) (h2 : Keep rv.ownBlock.toList w1 w2) (h3 : v'.ownBlock = rv.ownBlock ∨ v'.ownBlock = some w1.heap.size) :
    RSt w (w2.setCell ⟨b, 0, none⟩ v') L b bt ts v' ov out (R ++ [y]) O ys ∧ w2.cell? ⟨b, 0, none⟩ = some rv ∧ w2.frozen? ⟨b, 0, none⟩ = false := by
  obtain ⟨q1, q2, q3⟩ := h.mid k0 (.inl h.own.m1) (fun g hg => h.old g (.inl hg)) h2
  have o2 := h.own.app k0 h1 h2 h3
  have ks := Keep.setb w2 b 0 v'
  have hz : w.heap.size ≤ w1.heap.size := Nat.le_trans h.kept.size k0.size
  refine ⟨⟨q1.trans' ks (fun g hg => .inl hg) (by simpa using .inl h.inb), Blk.set q2 0 v', q3.keep ks (by simpa using q3.ne q2 (by decide)), o2.keep ks (fun g hg => by simpa using o2.m1.ne_t q2 (by decide) g hg) (fun g hg => by simpa using o2.m2.ne_t q2 (by decide) g hg) (fun g hg => by simpa using o2.m3.ne_t q2 (by decide) g hg), ?_, h.inb⟩, q2.c0, Blk.free q2 0⟩
  intro g hg
  rcases hg with hg | hg
  · exact old_app hz (fun g hg => h.old g (.inl hg)) h3 g hg
  · exact h.old g (.inr hg)
/-- The second list grows, and is stored. -/
theorem RSt.app2 (h : RSt w wr L b bt ts rv ov out R O ys) (k0 : Keep [] wr w1) (h1 : Made w2 v' (O ++ [y])) (h2 : Keep ov.ownBlock.toList w1 w2) (h3 : v'.ownBlock = ov.ownBlock ∨ v'.ownBlock = some w1.heap.size) :
    RSt w (w2.setCell ⟨b, 1, none⟩ v') L b bt ts rv v' out R (O ++ [y]) ys ∧ w2.cell? ⟨b, 1, none⟩ = some ov ∧ w2.frozen? ⟨b, 1, none⟩ = false := by
  obtain ⟨q1, q2, q3⟩ := h.mid k0 (.inr (.inl h.own.m2)) (fun g hg => h.old g (.inr (.inl hg))) h2
  have o2 := (h.own.rot.app k0 h1 h2 h3).rot.rot
  have ks := Keep.setb w2 b 1 v'
  have hz : w.heap.size ≤ w1.heap.size := Nat.le_trans h.kept.size k0.size
  refine ⟨⟨q1.trans' ks (fun g hg => .inl hg) (by simpa using .inl h.inb), Blk.set q2 1 v', q3.keep ks (by simpa using q3.ne q2 (by decide)), o2.keep ks (fun g hg => by simpa using o2.m1.ne_t q2 (by decide) g hg) (fun g hg => by simpa using o2.m2.ne_t q2 (by decide) g hg) (fun g hg => by simpa using o2.m3.ne_t q2 (by decide) g hg), ?_, h.inb⟩, q2.c1, Blk.free q2 1⟩
  intro g hg
  rcases hg with hg | hg | hg
  · exact h.old g (.inl hg)
  · exact old_app hz (fun g hg => h.old g (.inr (.inl hg))) h3 g hg
  · exact h.old g (.inr (.inr hg))
/-- The answer grows. -/
theorem RSt.app3 (h : RSt w wr L b bt ts rv ov out R O ys) (k0 : Keep [] wr w1) (h1 : Made w2 v' (ys ++ [y])) (h2 : Keep out.ownBlock.toList w1 w2) (h3 : v'.ownBlock = out.ownBlock ∨ v'.ownBlock = some w1.heap.size) :
    RSt w w2 L b bt ts rv ov v' R O (ys ++ [y]) := by
  obtain ⟨q1, q2, q3⟩ := h.mid k0 (.inr (.inr h.own.m3)) (fun g hg => h.old g (.inr (.inr hg))) h2
  have hz : w.heap.size ≤ w1.heap.size := Nat.le_trans h.kept.size k0.size
  refine ⟨q1, q2, q3, (h.own.rot.rot.app k0 h1 h2 h3).rot, ?_, h.inb⟩
  intro g hg
  rcases hg with hg | hg | hg
  · exact h.old g (.inl hg)
  · exact h.old g (.inr (.inl hg))
  · exact old_app hz (fun g hg => h.old g (.inr (.inr hg))) h3 g hg
end
end Go.Proofs.Ytjhgbcgpkpahjaa
