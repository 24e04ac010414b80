/- Parts that came in; Run of whatever part; SynthBounds. -/
import Derived.Test.YtjhgbcgpkpahjaaS7
import Derived.Lib.SmallJoins
namespace Go.Proofs.Ytjhgbcgpkpahjaa
open Go.RowKit

theorem wpList_load_agg {P : Program} {ops : Array Oper} {rest : List Oper} {o : Oper} {a : Act} {w : World} {Q : Exit → Act → World → Prop} (hgd : o.guard = none) (ty : TypeId) (x : Operand) (ho : o.op = .load ty x)
    (ad : Addr) (hx : a.eval x = .pointer (some ad)) (cs : List Value) (hc : ∀ j v, cs[j]? = some v → w.cell? (ad.add j) = some v) (d : TypeDesc)
    (hu : P.underlying ty = some d) (hd : (match d with | .struct _ | .array _ _ => true | _ => false) = true) (hi : (P.info? ty).map (·.size) = some cs.length)
    (h : wpList P ops Q rest (a.put o.dst (.agg cs.toArray)) w) : wpList P ops Q (o :: rest) a w := by
  refine wpList_plain hgd fun K hK => ?_
  have hl : (loadCells ad cs.length).run P w = .ok cs.toArray w := run_loadCells_list (P := P) w ad cs hc
  cases hq : P.info? ty with
  | none => simp [hq] at hi
  | some i =>
    have hs : i.size = cs.length := by simpa [hq] using hi
    have hagg : (isAgg ty).run P w = .ok true w := by
      unfold isAgg
      rw [Sem.run_bind, run_underlying hu w]
      cases d <;> simp_all
    unfold Oper.wp execOp
    simp only [ho, hx, Instr.loadAt, Instr.sureAddr, Sem.run_bind, Sem.run_pure, Result.andThen_ok, loadVar, hagg, sizeOf, typeInfo, run_program, hq, hs, hl, if_true]
    exact hK _ _ h
def PartA.list (p : PartA) : List Value := [.slice p.A p.n p.c, .int .i64 p.loud, .int .i64 p.lag, .int .i64 p.t0, .int .i64 p.t1, .int .i64 p.t2, .int .i64 p.t3, .int .i64 p.t4, .slice p.B p.m p.d]
structure Parts (W : World) (A : Option Addr) (n c : Nat) (l : List PartA) : Prop where
  ln : l.length = n
  cp : n ≤ c
  most : c ≤ 9223372036854775807
  at_ : ∀ i p, l[i]? = some p → ∃ a, A = some a ∧ (∀ j v, p.list[j]? = some v → W.cell? ((a.add (i * 9)).add j) = some v) ∧ IsPart W p
theorem stepV_bd (loud lag : Int) (taps fs : List Int) (xs : List Int) : ∀ s, ∀ y ∈ (mapS (stepV loud lag taps fs) s xs).1, -16777216 ≤ y ∧ y ≤ 16777216 := by
  induction xs with
  | nil => intro s y hy; simp [mapS] at hy
  | cons x xs ih =>
    intro s y hy
    simp only [mapS, List.mem_cons] at hy
    rcases hy with rfl | hy
    · exact keptI_bd _
    · exact ih _ y hy
/-- What Run leaves, whatever the part. -/
structure RanAny (b : Nat) (w w' : World) (s' : Vc) (A : Option Addr) (c : Nat) (ys : List Int) : Prop where
  kept : Keep [b] w w'
  vc : IsV w' b s'
  len : ys.length ≤ 480
  bd : ∀ y ∈ ys, -16777216 ≤ y ∧ y ≤ 16777216
  reads : Rd w' A ys
  cp : ys.length ≤ c
theorem run_any (b : Nat) (s : Vc) (p : PartA) (w : World) (hp : IsPart w p) (hb : IsV w b s) (hA : ∀ a, p.A = some a → 0 < p.n → a.block ≠ b) (hB : ∀ a, p.B = some a → 0 < p.m → a.block ≠ b) :
    Calls Try.prog 11 #[.pointer (some ⟨b, 0, none⟩), .agg p.cells] w fun e w' => ∃ A c code s' ys, e = .returned (.tuple #[.slice A ys.length c, .int .i64 code]) ∧ RanAny b w w' s' A c ys := by
  cases hg : goodB p with
  | false =>
    refine (run_bad b p w hp hg).mono ?_
    rintro e w' ⟨rfl, k⟩
    exact ⟨none, 0, 1, s, [], rfl, k.of0 _, hb.keep k (by simp), by simp, by simp, Rd.nil _ _, Nat.le_refl _⟩
  | true =>
    refine (run_calls b s p w hp hg hb hA hB).mono ?_
    rintro e w' ⟨v, rfl, k, h2, h3, h4⟩
    obtain ⟨A, c, rfl, hc, hr, _⟩ := h3.reads
    exact ⟨A, c, 0, _, _, rfl, k, h2, by rw [mapS_length, hp.pul.ln]; exact (goodP_of hg).n2, stepV_bd _ _ _ _ _ _, hr, hc⟩
structure BdSt (w wr : World) (f : Nat) (s : Vc) : Prop where
  kept : Keep [] w wr
  of : w.heap.size ≤ f
  vc : IsV wr f s
theorem BdSt.keep {w wr w' : World} {f : Nat} {s : Vc} (h : BdSt w wr f s) (k : Keep [] wr w') : BdSt w w' f s := ⟨h.kept.trans k, h.of, h.vc.keep k (by simp)⟩
theorem BdSt.ran {w wr w' : World} {f : Nat} {s s' : Vc} {A : Option Addr} {c : Nat} {ys : List Int} (h : BdSt w wr f s) (r : RanAny f wr w' s' A c ys) : BdSt w w' f s' := ⟨h.kept.trans' r.kept (by simp) (by simpa using h.of), h.of, r.vc⟩
theorem getD_mem {xs : List Int} {k n : Nat} (hn : xs.length = n) (h : k < n) : xs.getD k 0 ∈ xs := by
  simp only [List.getD_eq_getElem?_getD, List.getElem?_eq_getElem (show k < xs.length by omega), Option.getD_some]
  exact List.getElem_mem _
set_option maxRecDepth 100000 in
set_option maxHeartbeats 2000000 in
theorem bounds_walk (A : Option Addr) (n c : Nat) (l : List PartA) (w : World) (ha : Parts w A n c l) : Calls Try.prog 8 #[.slice A n c] w (RetKept w (.bool true)) := by
  have HA := Lib.hid ha
  have hm := ha.most
  have hnc := ha.cp
  clear ha
  go_enter Try.func8, Try.ntmps8
  go_wp2_with fail
  refine (awake_calls _).mono ?_
  rintro e w0 ⟨rfl, k0⟩
  have H0 := Lib.hid k0
  clear k0
  by_cases hbig : 6 < n
  · go_wp2
    go_ret
    exact ⟨rfl, H0.out⟩
  · go_wp2_with fail
    refine (new_calls _).mono ?_
    rintro e w1 ⟨f, f1, rfl, f2, f3⟩
    have H1 : Hid (BdSt w w1 f newV) := Lib.hid ⟨H0.out.trans f2, by have := H0.out.size; omega, f3⟩
    clear f1 f2 f3 H0
    go_wp2_with fail
    go_loopw [4] (fun i wr => ∃ (k : Nat) (s : Vc), k ≤ n ∧ i = .int .i64 k ∧ BdSt w wr f s) (fun i _ => n - (intOf i).toNat)
    case atStart => exact ⟨0, _, Nat.zero_le _, rfl, H1.out⟩
    case round =>
      obtain ⟨k, s, hk, rfl, HS⟩ := hrel
      have HS := Lib.hid HS
      by_cases hlt : k < n
      · obtain ⟨p, hp⟩ : ∃ p, l[k]? = some p := ⟨_, List.getElem?_eq_getElem (by rw [HA.out.ln]; exact hlt)⟩
        obtain ⟨a, rfl, hca, hax⟩ := HA.out.at_ k p hp
        have HCW : Hid (∀ j v, p.list[j]? = some v → wr.cell? ((a.add (k * 9)).add j) = some v) := Lib.hid (fun j v hv => HS.out.kept.cell (hca j v hv) (by simp))
        have HX := Lib.hid hax
        clear hca hax hp
        go_wp2_with (refine wpList_load_agg rfl 31 _ rfl (a.add (k * 9)) rfl _ HCW.out _ Try.underlying31 rfl (by kernel_rfl) ?_)
        refine (run_any f s p _ (HX.out.keep0 HS.out.kept) HS.out.vc (fun x hx h0 => by have := HX.out.pul.old x hx h0; have := HS.out.of; omega) (fun x hx h0 => by have := HX.out.fil.old x hx h0; have := HS.out.of; omega)).mono ?_
        rintro e w2 ⟨Ay, cy, code, s', ys, rfl, hran⟩
        have HR := Lib.hid hran
        have HS2 := Lib.hid (HS.out.ran hran)
        have hny := hran.len
        obtain ⟨ny, hy⟩ : ∃ ny, ny = ys.length := ⟨_, rfl⟩
        rw [← hy]
        rw [← hy] at hny
        have HY := Lib.hid hy.symm
        clear hran hy HS
        go_wp2_with fail
        refine (pcm_calls Ay ys ny cy _ HY.out (by omega) HR.out.reads).mono ?_
        rintro e w3 ⟨g, p1, rfl, p2, p3⟩
        have HS3 := Lib.hid (HS2.out.keep p2)
        have HRD := Lib.hid (HR.out.reads.keep p2 (by simp))
        have HP3 := Lib.hid p3
        clear p1 p2 p3 HS2
        go_wp2_with fail
        go_loopw [8] (fun i wi => ∃ j : Nat, j ≤ ny ∧ i = .int .i64 j ∧ wi = w3) (fun i _ => ny - (intOf i).toNat)
        case atStart => exact ⟨0, by omega, rfl, by trivial⟩
        case round =>
          obtain ⟨j, hj, rfl, rfl⟩ := hrel
          by_cases hjn : j < ny
          · obtain ⟨bb, rfl, hcb⟩ := HRD.out j (by rw [HY.out]; exact hjn)
            have hcp : wr.cell? ⟨g, j, none⟩ = some (.int .i64 (pcmI (ys.getD j 0))) := by
              rw [HP3.out.cell]
              simp [ints, pcmL, show j < ys.length by rw [HY.out]; exact hjn]
            obtain ⟨hb1, hb2⟩ := HR.out.bd (ys.getD j 0) (getD_mem HY.out hjn)
            obtain ⟨hb3, hb4⟩ := sat16_bd (mulS (ys.getD j 0) 1 4)
            unfold pcmI at hcp
            generalize sat16 (mulS (ys.getD j 0) 1 4) = y at *
            generalize ys.getD j 0 = x at *
            go_wp2_with fail
            all_goals first
              | (exfalso; omega)
              | (go_roundw
                 case rel => exact ⟨j + 1, by omega, by go_num, by trivial⟩
                 case measure => simp [intOf]; omega)
          · go_wp2_with fail
            go_roundw
            case rel => exact ⟨k + 1, s', by omega, by go_num, HS3.out⟩
            case measure => simp [intOf]; omega
      · go_wp2_with fail
        go_ret
        exact ⟨rfl, HS.out.kept⟩
end Go.Proofs.Ytjhgbcgpkpahjaa
