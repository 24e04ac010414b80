/- 'Chain': a sound goes through steps, each a method of a filter. -/
import Derived.Test.YtddlkglpgkdgkaaE3
import Derived.Test.YtddlkglpgkdgkaaSm
namespace Go.Proofs.Ytddlkglpgkdgkaa
open Go.RowKit

/-- What a step of a chain is: a method value, and what it does to a list and to the state. -/
structure Stp (σ : Type) where
  fn : FuncId
  recv : Value
  f : σ → List Int → List Int × σ
def Stp.val {σ : Type} (p : Stp σ) : Value := .func (.func p.fn) #[p.recv] #[]
structure Stp.Good {σ : Type} (S : List Nat) (Inv : σ → World → Prop) (p : Stp σ) : Prop where
  call : ∀ (args : Array Value) (w : World), (callFunc p.fn args).run Try.prog w = .ok (.enter p.fn args) w
  len : ∀ s xs, (p.f s xs).1.length = xs.length
  step : ∀ s A xs n c w, Inv s w → xs.length = n → n ≤ c → n ≤ 4096 → Rd w A xs → (∀ a, A = some a → 0 < n → a.block ∉ S) →
    Calls Try.prog p.fn (#[p.recv, .slice A n c]) w fun e w' => ∃ g, w.heap.size ≤ g ∧ e = .returned (.slice (some ⟨g, 0, none⟩) n n) ∧ Keep S w w' ∧ Blk w' g (ints (p.f s xs).1).toArray 2 ∧ Inv (p.f s xs).2 w'
def chainL {σ : Type} (l : List (Stp σ)) (s : σ) (xs : List Int) : List Int × σ := l.foldl (fun r p => p.f r.2 r.1) (xs, s)
theorem chainL_take {σ : Type} (l : List (Stp σ)) (s : σ) (xs : List Int) (k : Nat) (p : Stp σ) (h : l[k]? = some p) : chainL (l.take (k + 1)) s xs = p.f (chainL (l.take k) s xs).2 (chainL (l.take k) s xs).1 := by
  obtain ⟨hk, rfl⟩ := List.getElem?_eq_some_iff.1 h
  rw [List.take_succ_eq_append_getElem hk]
  simp only [chainL, List.foldl_append, List.foldl_cons, List.foldl_nil]
structure ChainRel {σ : Type} (S : List Nat) (Inv : σ → World → Prop) (l : List (Stp σ)) (s : σ) (xs : List Int) (w : World) (k : Nat) (v : Value) (wr : World) : Prop where
  kept : Keep S w wr
  made : Made wr v (chainL (l.take k) s xs).1
  len : (chainL (l.take k) s xs).1.length = xs.length
  fresh : ∀ g, v.ownBlock = some g → w.heap.size ≤ g
  inv : Inv (chainL (l.take k) s xs).2 wr
def RetChain {σ : Type} (S : List Nat) (Inv : σ → World → Prop) (w : World) (r : List Int × σ) (e : Ending) (w' : World) : Prop :=
  ∃ v, e = .returned v ∧ Made w' v r.1 ∧ Keep S w w' ∧ (∀ g, v.ownBlock = some g → w.heap.size ≤ g) ∧ Inv r.2 w'
set_option maxHeartbeats 1000000 in
theorem chain_calls {σ : Type} (S : List Nat) (Inv : σ → World → Prop) (l : List (Stp σ)) (s : σ) (w : World) (hg : ∀ p ∈ l, p.Good S Inv) (hS : ∀ b ∈ S, b < w.heap.size) (hI : ∀ s w w', Inv s w → Keep [] w w' → Inv s w') (hi : Inv s w)
    (A : Option Addr) (xs : List Int) (n c : Nat) (hn : xs.length = n) (_hnc : n ≤ c) (hn' : n ≤ 4096) (hr : Rd w A xs) (hnn : A = none → n = 0)
    (B : Option Addr) (m d : Nat) (hl : l.length = m) (hm : m ≤ 1000) (hsteps : ∀ i p, l[i]? = some p → ∃ b, B = some b ∧ b.block ∉ S ∧ w.cell? (b.add i) = some p.val) :
    Calls Try.prog 12 #[.slice A n c, .slice B m d] w (RetChain S Inv w (chainL l s xs)) := by
  have HE := Lib.hid (Made.empty w)
  have HR : Hid (Rd (w.alloc (.cells #[] 2)) A xs) := Lib.hid (hr.keep (Keep.alloc [] _ _) (by simp))
  have HN := Lib.hid hn
  have HNN := Lib.hid hnn
  have HG := Lib.hid hg
  have HS := Lib.hid hS
  have HI := Lib.hid hI
  have HII := Lib.hid hi
  have HL := Lib.hid hl
  have HT := Lib.hid hsteps
  clear hr hn hnn hg hS hI hi hl hsteps
  go_enter Try.func12, Try.ntmps12
  go_wp2_with (at_builtin; refine append_made rfl _ _ rfl _ [] rfl HE.out _ _ _ _ rfl HN.out HR.out (by simp; omega) HNN.out ?_)
  intro v1 w1 h1 h2 h3
  have H : Hid (ChainRel S Inv l s xs w 0 v1 w1) := by
    obtain ⟨a1, a2, a3⟩ := made_append h1 h2 h3
    exact Lib.hid ⟨a2.of0 _, by simpa [chainL] using a1, by simp [chainL], a3, by simpa [chainL] using HI.out _ _ _ HII.out a2⟩
  clear h1 h2 h3
  go_wp2_with fail
  go_loopw [0, 12] (fun v i wr => ∃ k : Nat, k ≤ m ∧ i = .int .i64 k ∧ ChainRel S Inv l s xs w k v wr) (fun _ i _ => m - (intOf i).toNat)
  case atStart => exact ⟨0, Nat.zero_le _, rfl, H.out⟩
  case round =>
    obtain ⟨k, hk, rfl, HC⟩ := hrel
    have HC := Lib.hid HC
    by_cases hlt : k < m
    · obtain ⟨p, hp⟩ : ∃ p, l[k]? = some p := ⟨_, List.getElem?_eq_getElem (by rw [HL.out]; exact hlt)⟩
      obtain ⟨b, rfl, hbS, hcb⟩ := HT.out k p hp
      have hcw := fun (_ : k < m) => HC.out.kept.cell hcb (by rw [add_block]; exact hbS)
      have hpg := Lib.hid (HG.out p (List.mem_of_getElem? hp))
      obtain ⟨A', c', hv, hc', hrd, _⟩ := HC.out.made.reads
      have hA : ∀ a, A' = some a → 0 < n → a.block ∉ S := fun a ha _ hm => by
        have := HC.out.fresh a.block (by rw [hv, ha]; rfl)
        have := HS.out _ hm
        omega
      subst hv
      have hln := HC.out.len
      rw [hln, HN.out] at hc'
      rw [hln, HN.out]
      have HRD := Lib.hid hrd
      have HAA := Lib.hid hA
      have HP := Lib.hid hp
      have HLN := Lib.hid hln
      clear hrd hA hp hcb hln
      unfold Stp.val at hcw
      go_wp2_with fail
      rw [hpg.out.call, Oper.upon_enter]
      refine (hpg.out.step _ A' _ n c' _ HC.out.inv (by rw [HLN.out, HN.out]) hc' hn' HRD.out HAA.out).mono ?_
      rintro e w2 ⟨g, h1, rfl, h2, h3, h4⟩
      have H2 : Hid (ChainRel S Inv l s xs w (k + 1) (.slice (some ⟨g, 0, none⟩) n n) w2) := by
        have ht := chainL_take l s xs k p HP.out
        have hl1 := hpg.out.len (chainL (l.take k) s xs).2 (chainL (l.take k) s xs).1
        rw [HLN.out] at hl1
        refine Lib.hid ⟨HC.out.kept.trans h2, ?_, ?_, ?_, ?_⟩
        · rw [ht]
          have := Made.ofBlk h3 (by rw [hl1, HN.out]; omega)
          rwa [hl1, HN.out] at this
        · rw [ht]; exact hl1
        · intro g' hg'
          simp only [Value.ownBlock, Option.some.injEq] at hg'
          have := HC.out.kept.size
          omega
        · rw [ht]; exact h4
      clear h1 h2 h3 h4
      go_wp2_with fail
      go_roundw
      case rel => exact ⟨k + 1, by omega, by go_num, H2.out⟩
      case measure => simp [intOf]; omega
    · go_wp2
      go_ret
      obtain rfl : k = m := by omega
      have hC := HC.out
      have hk : l.take k = l := List.take_of_length_le (by rw [HL.out]; exact Nat.le_refl _)
      refine ⟨_, rfl, ?_, hC.kept, hC.fresh, ?_⟩
      · have := hC.made; rwa [hk] at this
      · have := hC.inv; rwa [hk] at this

/-! ### Raise and Lower as steps -/
def raiseP (b : Nat) : Stp Flt := ⟨13, .pointer (some ⟨b, 0, none⟩), fun s xs => mapS (stepK raiseF) s xs⟩
def lowerP (b : Nat) : Stp Flt := ⟨14, .pointer (some ⟨b, 0, none⟩), fun s xs => mapS (stepK lowerF) s xs⟩
theorem raise_good (b : Nat) : (raiseP b).Good [b] (fun s w => IsFil w b s) where
  call := fun args w => by unfold raiseP; kernel_rfl
  len := fun s xs => mapS_length _ _ _
  step := fun s A xs n c w hf hn hnc hn' hr hA => (raise_calls b s A xs n c w hf hn hnc hn' hr (fun a ha h0 => by simpa using hA a ha h0)).mono fun e w' ⟨v, he, g, h1, hv, h2, h3, h4⟩ => by
    rw [mapS_length, hn] at hv
    exact ⟨g, h1, by rw [he, hv], h2, h3, h4⟩
theorem lower_good (b : Nat) : (lowerP b).Good [b] (fun s w => IsFil w b s) where
  call := fun args w => by unfold lowerP; kernel_rfl
  len := fun s xs => mapS_length _ _ _
  step := fun s A xs n c w hf hn hnc hn' hr hA => (lower_calls b s A xs n c w hf hn hnc hn' hr (fun a ha h0 => by simpa using hA a ha h0)).mono fun e w' ⟨v, he, g, h1, hv, h2, h3, h4⟩ => by
    rw [mapS_length, hn] at hv
    exact ⟨g, h1, by rw [he, hv], h2, h3, h4⟩
end Go.Proofs.Ytddlkglpgkdgkaa
