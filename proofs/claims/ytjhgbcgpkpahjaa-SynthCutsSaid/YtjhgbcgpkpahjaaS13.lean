/- The reference's voice: the plain law: what is kept, here the last one first, there the last one last. -/
import Derived.Test.YtjhgbcgpkpahjaaS9
namespace Go.Proofs.Ytjhgbcgpkpahjaa
open Go.RowKit

def RevR (N : Nat) (v l : List Int) : Prop := v.length = N ∧ ∀ j, j < N → v.getD j 0 = l.reverse.getD j 0
theorem revR_ahead {N : Nat} {v l : List Int} (h : RevR N v l) (j : Nat) (hj : j < N) : aheadL l ((j : Int) + 1) = v.getD j 0 := by
  rw [h.2 j hj]
  unfold aheadL
  by_cases hl : (l.length : Int) < (j : Int) + 1
  · rw [if_pos (.inr hl)]
    rw [List.getD_eq_getElem?_getD, List.getElem?_eq_none (by simp; omega)]
    rfl
  · rw [if_neg (by omega)]
    have e : (l.reverse).getD j 0 = l.getD (l.length - 1 - j) 0 := by
      simp only [List.getD_eq_getElem?_getD]
      rw [List.getElem?_reverse (by omega)]
    rw [e]
    congr 1
    omega
theorem revR_step {N : Nat} {v l : List Int} (h : RevR (N + 1) v l) (y : Int) : RevR (N + 1) (y :: v.take N) (l ++ [y]) := by
  refine ⟨by simp [h.1], fun j hj => ?_⟩
  rw [List.reverse_append, List.reverse_singleton, List.singleton_append]
  cases j with
  | zero => simp
  | succ j =>
    have := h.2 j (by omega)
    simp only [List.getD_cons_succ]
    rw [← this]
    simp only [List.getD_eq_getElem?_getD, List.getElem?_take, show j < N by omega, if_true]
theorem revR_last {N : Nat} {v l : List Int} (h : RevR N v l) : RevR N v (lastL l N) := by
  refine ⟨h.1, fun j hj => ?_⟩
  rw [h.2 j hj]
  unfold lastL
  simp only [List.getD_eq_getElem?_getD]
  by_cases hl : j < l.length
  · rw [List.getElem?_reverse (by omega), List.getElem?_reverse (by simp; omega)]
    simp only [List.length_drop, List.getElem?_drop]
    congr 2
    omega
  · rw [List.getElem?_eq_none (by simp; omega), List.getElem?_eq_none (by simp; omega)]
theorem zeros_getD' (n j : Nat) : (List.replicate n (0 : Int)).getD j 0 = 0 := by
  simp only [List.getD_eq_getElem?_getD, List.getElem?_replicate]
  split <;> rfl
theorem revR_new (N : Nat) : RevR N (List.replicate N 0) [] := ⟨List.length_replicate, fun j _ => by rw [zeros_getD']; rfl⟩
/-- What the reference's voice keeps. -/
structure RVc where
  R : List Int
  O : List Int
def rtapF (taps R : List Int) (lag : Int) (r : Int) (j : Nat) : Int := wrap64 (r + mulS (taps.getD j 0) (aheadL R (lag - 2 + j)) 7)
def rtapSum (taps R : List Int) (lag : Int) (r : Int) (n : Nat) : Int := (List.range n).foldl (rtapF taps R lag) r
theorem rtapSum_succ (taps R : List Int) (lag : Int) (r : Int) (n : Nat) : rtapSum taps R lag r (n + 1) = rtapF taps R lag (rtapSum taps R lag r n) n := by simp [rtapSum, List.range_succ]
def rfilF (fs O : List Int) (o : Int) (k : Nat) : Int := wrap64 (o + mulS (fs.getD k 0) (aheadL O ((k : Int) + 1)) 12)
def rfilSum (fs O : List Int) (o : Int) (n : Nat) : Int := (List.range n).foldl (rfilF fs O) o
theorem rfilSum_succ (fs O : List Int) (o : Int) (n : Nat) : rfilSum fs O o (n + 1) = rfilF fs O (rfilSum fs O o n) n := by simp [rfilSum, List.range_succ]
def rexR (loud lag : Int) (taps R : List Int) (x : Int) : Int := keptI (if 0 < lag then rtapSum taps R lag (wrap64 (x * loud)) 5 else wrap64 (x * loud))
def rstep (loud lag : Int) (taps fs : List Int) (s : RVc) (x : Int) : Int × RVc :=
  (keptI (rfilSum fs s.O (rexR loud lag taps s.R x) fs.length), ⟨s.R ++ [rexR loud lag taps s.R x], s.O ++ [keptI (rfilSum fs s.O (rexR loud lag taps s.R x) fs.length)]⟩)
theorem vcR_dummy : True := trivial
structure VcR (v : Vc) (r : RVc) : Prop where
  fr : RevR 320 v.r r.R
  fo : RevR 32 v.o r.O
theorem tap_eq {v l taps : List Int} (h : RevR 320 v l) (l0 : Nat) (lag : Int) (hl : lag = (l0 : Int) + 3) (h1 : l0 ≤ 315) (r : Int) (n : Nat) (hn : n ≤ 5) : tapSum taps v l0 r n = rtapSum taps l lag r n := by
  induction n with
  | zero => rfl
  | succ n ih =>
    rw [tapSum_succ, rtapSum_succ, ih (by omega), tapF, rtapF]
    have e := revR_ahead h (l0 + n) (by omega)
    rw [← e]
    congr 4
    omega
theorem fil_eq {v l fs : List Int} (h : RevR 32 v l) (o : Int) (n : Nat) (hn : n ≤ 32) : filSum fs v o n = rfilSum fs l o n := by
  induction n with
  | zero => rfl
  | succ n ih =>
    rw [filSum_succ, rfilSum_succ, ih (by omega), filF, rfilF, revR_ahead h n (by omega)]
theorem step_eq {v : Vc} {r : RVc} (h : VcR v r) (loud lag : Int) (taps fs : List Int) (x : Int) (hlag : lag = 0 ∨ (3 ≤ lag ∧ lag ≤ 318)) (hf : fs.length ≤ 32) :
    (stepV loud lag taps fs v x).1 = (rstep loud lag taps fs r x).1 ∧ VcR (stepV loud lag taps fs v x).2 (rstep loud lag taps fs r x).2 := by
  have e1 : exR loud lag taps v.r x = rexR loud lag taps r.R x := by
    unfold exR rexR
    split
    · rw [tap_eq h.fr (lag.toNat - 3) lag (by omega) (by omega) _ 5 (by omega)]
    · rfl
  have e2 := fil_eq h.fo (rexR loud lag taps r.R x) fs.length hf (fs := fs)
  unfold stepV rstep
  rw [e1, e2]
  exact ⟨rfl, revR_step (N := 319) h.fr _, revR_step (N := 31) h.fo _⟩
theorem run_eq (loud lag : Int) (taps fs : List Int) (hlag : lag = 0 ∨ (3 ≤ lag ∧ lag ≤ 318)) (hf : fs.length ≤ 32) (xs : List Int) : ∀ (v : Vc) (r : RVc), VcR v r →
    (mapS (stepV loud lag taps fs) v xs).1 = (mapS (rstep loud lag taps fs) r xs).1 ∧ VcR (mapS (stepV loud lag taps fs) v xs).2 (mapS (rstep loud lag taps fs) r xs).2 := by
  induction xs with
  | nil => intro v r h; exact ⟨rfl, h⟩
  | cons x xs ih =>
    intro v r h
    obtain ⟨h1, h2⟩ := step_eq h loud lag taps fs x hlag hf
    obtain ⟨h3, h4⟩ := ih _ _ h2
    simp only [mapS, h1, h3]
    exact ⟨trivial, h4⟩
theorem lastR {v l : List Int} (h : RevR 320 v l) : RevR 320 v (lastL l 320) := revR_last h
theorem lastO {v l : List Int} (h : RevR 32 v l) : RevR 32 v (lastL l 32) := revR_last h
theorem VcR.mk' {v : Vc} {R O : List Int} (h : RevR 320 v.r R) (h' : RevR 32 v.o O) : VcR v ⟨R, O⟩ := VcR.mk h h'
theorem VcR.last {v : Vc} {r : RVc} (h : VcR v r) : VcR v ⟨lastL r.R 320, lastL r.O 32⟩ := VcR.mk' (lastR h.fr) (lastO h.fo)
theorem rstep_len (loud lag : Int) (taps fs : List Int) (xs : List Int) : ∀ r, (mapS (rstep loud lag taps fs) r xs).2.R.length = r.R.length + xs.length ∧ (mapS (rstep loud lag taps fs) r xs).2.O.length = r.O.length + xs.length := by
  induction xs with
  | nil => intro r; simp [mapS]
  | cons x xs ih => intro r; obtain ⟨h1, h2⟩ := ih (rstep loud lag taps fs r x).2; simp only [mapS, h1, h2]; simp [rstep]; omega
end Go.Proofs.Ytjhgbcgpkpahjaa
