/- The reference's Pack. -/
import Derived.Test.YtmnknegbbmjcbaaT28
namespace Go.Proofs.Ytmnknegbbmjcbaa
open Go.RowKit

structure RcSt (w wr : World) (pb : Nat) (pc : Array Value) (v : Value) (xs : List Int) (FA : Option Addr) (n fc : Nat) (L : List (List Int)) : Prop where
  kept : Keep [] w wr
  bx : Blk wr pb pc 39
  made : MadeV wr 5 v (bytes xs)
  own : ∀ b, v.ownBlock = some b → w.heap.size ≤ b
  some_ : ∃ b, v.ownBlock = some b
  fr : FrR w FA n fc L
theorem RcSt.go {w wr wa w' : World} {pb : Nat} {pc : Array Value} {v v' : Value} {xs ys : List Int} {FA : Option Addr} {n fc : Nat} {L : List (List Int)} (h : RcSt w wr pb pc v xs FA n fc L) (k0 : Keep [] wr wa) (h1 : MadeV w' 5 v' (bytes ys)) (h2 : Keep v.ownBlock.toList wa w')
    (h3 : v'.ownBlock = v.ownBlock ∨ ∀ b, v'.ownBlock = some b → wr.heap.size ≤ b) (hy : 0 < ys.length) : RcSt w w' pb pc v' ys FA n fc L := by
  have z := h.kept.size
  have no : pb ∉ v.ownBlock.toList := fun hm => by
    simp only [Option.mem_toList] at hm
    exact h.made.ne h.bx (by decide) pb hm rfl
  refine ⟨(h.kept.trans k0).trans' h2 (by simp) (fun b hb => by simp only [Option.mem_toList] at hb; exact .inr (h.own b hb)), (h.bx.keep k0 (by simp)).keep h2 no, h1, fun b hb => ?_, h1.some_ (by rw [bytes_length]; exact hy), h.fr⟩
  rcases h3 with e | e
  · exact h.own b (by rw [← e]; exact hb)
  · have := e b hb
    omega
theorem RcSt.app {w wr w' : World} {pb : Nat} {pc : Array Value} {v v' : Value} {xs ys : List Int} {FA : Option Addr} {n fc : Nat} {L : List (List Int)} (h : RcSt w wr pb pc v xs FA n fc L) (h1 : MadeV w' 5 v' (bytes ys)) (h2 : Keep v.ownBlock.toList wr w')
    (h3 : v'.ownBlock = v.ownBlock ∨ v'.ownBlock = some wr.heap.size) (hy : 0 < ys.length) : RcSt w w' pb pc v' ys FA n fc L := h.go (Keep.refl [] _) h1 h2 (ge_of h3 (Nat.le_refl _)) hy
def alikeN (L : List (List Int)) (n0 i : Nat) : Bool := !anyL (fun q => !decide (q = n0)) (L.take i)
theorem alike_succ {L : List (List Int)} {n0 i : Nat} {l : List Int} (h : L[i]? = some l) : alikeN L n0 (i + 1) = (alikeN L n0 i && decide (l.length = n0)) := by
  unfold alikeN anyL
  rw [List.take_add_one, h, List.any_append]
  simp
theorem alike_one {L : List (List Int)} {l0 : List Int} (h : L[0]? = some l0) : alikeN L l0.length 1 = true := by
  cases L with
  | nil => simp at h
  | cons a L =>
    simp only [List.getElem?_cons_zero, Option.some.injEq] at h
    subst h
    simp [alikeN, anyL]
theorem alike_all {L : List (List Int)} {l0 : List Int} {n : Nat} (h : L[0]? = some l0) (hn : L.length = n) : alikeN L l0.length n = !unlikeB L := by
  have e : L.take n = L := List.take_of_length_le (by omega)
  unfold alikeN unlikeB
  rw [e]
  cases L with
  | nil => simp at h
  | cons a L =>
    simp only [List.getElem?_cons_zero, Option.some.injEq] at h
    subst h
    rfl
set_option maxRecDepth 100000
set_option maxHeartbeats 4000000
theorem rpack_p (k : Nat) (ch : Int) (pad : Nat) (FA : Option Addr) (n fc : Nat) (L : List (List Int)) (w : World) (h : FrR w FA n fc L) (hg : goodM k ch L pad = true) (hpN : 0 < pad) :
    Calls Try.prog 19 #[.agg #[.int .i64 k, .int .i64 ch, .slice FA n fc, .int .i64 pad]] w (RetS w (packM k ch L pad)) := by
  have G := good_of hg
  have HF0 := Lib.hid h
  have HSH := Lib.hid G.s
  have hk := G.c1
  have hch : 1 ≤ ch ∧ ch ≤ 2 := by rcases G.h with e | e <;> omega
  obtain ⟨hch1, hch2⟩ := hch
  have hn1 : 1 ≤ n := by rw [← h.ln]; exact G.n1
  have hn12 : n ≤ 12 := by rw [← h.ln]; exact G.n12
  have hp1000 : pad ≤ 1000 := by have := G.p1; omega
  have HN := Lib.hid h.ln
  have HPL : Hid ((preM k ch L pad).length ≤ 40) := Lib.hid (pre_len (by rw [h.ln]; exact hn12) hp1000)
  obtain ⟨l0, hl0⟩ : ∃ l0, L[0]? = some l0 := ⟨_, List.getElem?_eq_getElem (by rw [h.ln]; omega)⟩
  have hhd : L.headD [] = l0 := by
    cases L with
    | nil => simp at hl0
    | cons a L => simpa using hl0
  obtain ⟨u, hu⟩ : ∃ u, u = unlikeB L := ⟨_, rfl⟩
  obtain ⟨n0, hn0⟩ : ∃ n0, n0 = l0.length := ⟨_, rfl⟩
  have HU := Lib.hid hu.symm
  have HAL : Hid (alikeN L n0 n = !u) := Lib.hid (by rw [hu, hn0]; exact alike_all hl0 h.ln)
  have HA1 : Hid (alikeN L n0 1 = true) := Lib.hid (by rw [hn0]; exact alike_one hl0)
  obtain ⟨fa, X0, d0, hfa, hc0, _⟩ := h.at_ 0 l0 hl0
  subst hfa
  rw [Addr.add_zero', ← hn0] at hc0
  have HC0 := Lib.hid hc0
  have HHD := Lib.hid hhd
  have HL0 := Lib.hid hl0
  have HN0 := Lib.hid hn0
  have HS0 : Hid (Keep [] w (w.alloc (.cells #[.int .i64 k, .int .i64 ch, .slice (some fa) n fc, .int .i64 pad] 39)) ∧ Blk (w.alloc (.cells #[.int .i64 k, .int .i64 ch, .slice (some fa) n fc, .int .i64 pad] 39)) w.heap.size #[.int .i64 k, .int .i64 ch, .slice (some fa) n fc, .int .i64 pad] 39) := Lib.hid ⟨Keep.alloc [] _ _, Blk.new w _ _⟩
  have hcp := h.cp
  have hmo := h.most
  clear h hg hl0 hhd hu G hn0 hc0
  have h8 : IntKind.u8.wrap (8 * (k : Int) + 4 * (ch - 1)) = 8 * (k : Int) + 4 * (ch - 1) := by rw [IntKind.wrap_u8]; omega
  go_enter Try.func19, Try.ntmps19
  go_wp2_with fail
  go_loopw [5, 6] (fun a i wr => ∃ z : Nat, 1 ≤ z ∧ z ≤ n ∧ i = .int .i64 z ∧ a = .bool (alikeN L n0 z) ∧ Hid (Keep [] w wr ∧ Blk wr w.heap.size #[.int .i64 k, .int .i64 ch, .slice (some fa) n fc, .int .i64 pad] 39)) (fun _ i _ => n - (intOf i).toNat)
  case atStart => exact ⟨1, by omega, by omega, rfl, by rw [HA1.out], HS0⟩
  case round =>
    clear HS0
    obtain ⟨z, hz1, hz, rfl, rfl, HS⟩ := hrel
    by_cases hlt : z < n
    · obtain ⟨l, hl⟩ : ∃ l, L[z]? = some l := ⟨_, List.getElem?_eq_getElem (by rw [HN.out]; exact hlt)⟩
      obtain ⟨a, X, d, ha, hca, _⟩ := HF0.out.at_ z l hl
      simp only [Option.some.injEq] at ha
      subst ha
      obtain ⟨q, hq⟩ : ∃ q, q = l.length := ⟨_, rfl⟩
      have hsu := alike_succ (n0 := n0) hl
      rw [← hq] at hca hsu
      have HSU := Lib.hid hsu
      have hcw := HS.out.1.cell hca (by simp)
      have hc0 := HS.out.1.cell HC0.out (by simp)
      have hk0 : (0 : Int) ≤ (z : Int) := by omega
      have hk1 : (z : Int) < (n : Int) := by omega
      have hk2 : (0 : Int) < (n : Int) := by omega
      obtain ⟨al, hal⟩ : ∃ al, al = alikeN L n0 z := ⟨_, rfl⟩
      rw [← hal] at HSU ⊢
      clear hsu hq hl hca hal
      cases al with
      | false =>
        go_wp2_with fail
        go_quiet (fail)
        go_wp2_with fail
        go_roundw
        case rel => exact ⟨z + 1, by omega, by omega, by go_num, by rw [HSU.out]; rfl, Lib.hid ⟨HS.out.1.trans (Keep.drewN [] _ _), HS.out.2.drewN _⟩⟩
        case measure => simp [intOf]; omega
      | true =>
        by_cases hq : q = n0
        · subst hq
          go_wp2_with fail
          go_quiet (fail)
          go_wp2_with fail
          go_roundw
          case rel => exact ⟨z + 1, by omega, by omega, by go_num, by rw [HSU.out]; simp, Lib.hid ⟨HS.out.1.trans (Keep.drewN [] _ _), HS.out.2.drewN _⟩⟩
          case measure => simp [intOf]; omega
        · have e1 : ((q : Int) == (n0 : Int)) = false := by simp; omega
          have e2 : decide ((q : Int) = (n0 : Int)) = false := decide_eq_false (by omega)
          have e3 : decide (q = n0) = false := decide_eq_false hq
          go_wp2_with fail
          go_quiet (fail)
          go_wp2_with fail
          go_roundw
          case rel => exact ⟨z + 1, by omega, by omega, by go_num, by rw [HSU.out]; simp [e3], Lib.hid ⟨HS.out.1.trans (Keep.drewN [] _ _), HS.out.2.drewN _⟩⟩
          case measure => simp [intOf]; omega
    · obtain rfl : z = n := by omega
      rw [HAL.out]
      obtain ⟨wo, hwo⟩ : ∃ wo, wo = wr := ⟨_, rfl⟩
      rw [← hwo] at HS ⊢
      have KO := Lib.hid HS.out.1
      have HBO := Lib.hid HS.out.2
      have hn1 : 1 ≤ z := hz1
      obtain ⟨al, hal⟩ : ∃ al, al = !u := ⟨_, rfl⟩
      rw [← hal]
      have HAU := Lib.hid hal
      clear hwo HS HAL HA1 hal hlt
      have h81 : IntKind.u8.wrap (8 * (k : Int) + 4 * (ch - 1) + 1) = 8 * (k : Int) + 4 * (ch - 1) + 1 := by rw [IntKind.wrap_u8]; omega
      have h82 : IntKind.u8.wrap (8 * (k : Int) + 4 * (ch - 1) + 2) = 8 * (k : Int) + 4 * (ch - 1) + 2 := by rw [IntKind.wrap_u8]; omega
      have h83 : IntKind.u8.wrap (8 * (k : Int) + 4 * (ch - 1) + 3) = 8 * (k : Int) + 4 * (ch - 1) + 3 := by rw [IntKind.wrap_u8]; omega
      go_upto_block 2 with fail
      go_cut [7] from 45 to 140 (fun v wx => RcSt w wx w.heap.size #[.int .i64 k, .int .i64 ch, .slice (some fa) z fc, .int .i64 pad] v (preM k ch L pad) (some fa) z fc L)
      case rest =>
        have HP := Lib.hid hcut
        have HPR : Hid (RcSt w wc w.heap.size #[.int .i64 k, .int .i64 ch, .slice (some fa) z fc, .int .i64 pad] u7 (preM k ch L pad ++ (L.take 0).flatten) (some fa) z fc L) := Lib.hid (by
          have e : (L.take 0).flatten = [] := rfl
          rw [e, List.append_nil]
          exact hcut)
        obtain ⟨P, hP⟩ : ∃ P, P = preM k ch L pad := ⟨_, rfl⟩
        rw [← hP] at HPR HPL
        have HPE := Lib.hid hP
        have HPP : Hid (0 < P.length) := Lib.hid (by rw [hP]; exact pre_pos k ch L pad)
        clear h8 h81 h82 h83 hcut HP hP
        go_wp2_with fail
        go_loopw [7, 11] (fun v i wr => ∃ j : Nat, j ≤ z ∧ i = .int .i64 j ∧ RcSt w wr w.heap.size #[.int .i64 k, .int .i64 ch, .slice (some fa) z fc, .int .i64 pad] v (P ++ (L.take j).flatten) (some fa) z fc L) (fun _ i _ => z - (intOf i).toNat)
        case atStart => exact ⟨0, by omega, rfl, HPR.out⟩
        case round =>
          clear HPR
          obtain ⟨j, hj, rfl, HS⟩ := hrel
          have HS := Lib.hid HS
          by_cases hlt : j < z
          · obtain ⟨l, hl⟩ : ∃ l, L[j]? = some l := ⟨_, List.getElem?_eq_getElem (by rw [HN.out]; exact hlt)⟩
            obtain ⟨a, X, d, ha, hca, hax⟩ := HF0.out.at_ j l hl
            simp only [Option.some.injEq] at ha
            subst ha
            have hcw := HS.out.kept.cell hca (by simp)
            have HX := Lib.hid (hax.keep0 HS.out.kept)
            have HFL := Lib.hid (flat_take_succ hl)
            have HLL : Hid (l.length ≤ 1275) := Lib.hid (HSH.out l (List.mem_of_getElem? hl))
            have HSL : Hid ((L.take j).flatten.length ≤ 15300) := Lib.hid (take_sum_le j HSH.out (by rw [HN.out]; exact hn12))
            obtain ⟨q, hq⟩ : ∃ q, q = l.length := ⟨_, rfl⟩
            rw [← hq] at hcw HX HLL
            have HQ := Lib.hid hq
            clear hca hax hl hq
            have hk0 : (0 : Int) ≤ (j : Int) := by omega
            have hk1 : (j : Int) < (z : Int) := by omega
            go_wp2_with (at_builtin; refine append_v slB (by first | rfl | kernel_rfl) _ _ rfl _ (bytes (P ++ (L.take j).flatten)) rfl HS.out.made _ _ _ (bytes l) rfl (by rw [bytes_length]; exact HQ.out.symm) HX.out.reads (bytes_one _) (by have := HSL.out; have := HLL.out; have := HPL.out; rw [bytes_length, List.length_append]; omega) (by have := HSL.out; have := HLL.out; have := HPL.out; rw [bytes_length, List.length_append]; omega) (fun hA => HX.out.nil hA) ?_)
            intro v' w3 m1 m2 m3
            rw [← bytes_append] at m1
            have HU2 := Lib.hid (HS.out.app m1 m2 m3 (by have := HPP.out; simp only [List.length_append]; omega))
            clear m1 m2 m3 HX HS hcw
            go_wp2_with fail
            go_roundw
            case rel => exact ⟨j + 1, by omega, by go_num, by rw [HFL.out, ← List.append_assoc]; exact HU2.out⟩
            case measure => simp [intOf]; omega
          · obtain rfl : j = z := by omega
            have htk : L.take j = L := List.take_of_length_le (by rw [HN.out]; exact Nat.le_refl _)
            rw [htk] at HS
            obtain ⟨Q, hQ⟩ : ∃ Q, Q = P ++ L.flatten := ⟨_, rfl⟩
            have HQL : Hid (Q.length ≤ 15340 ∧ 0 < Q.length) := Lib.hid (by
              have h := take_sum_le j HSH.out (by rw [HN.out]; exact hn12)
              rw [htk] at h
              have h2 := HPL.out
              have h3 := HPP.out
              rw [hQ, List.length_append]
              omega)
            have HQE : Hid (packM k ch L pad = Q ++ List.replicate pad 0) := Lib.hid (by unfold packM; rw [hQ, HPE.out])
            rw [← hQ] at HS
            clear htk hQ hlt
            go_wp2_with fail
            have HS0 : Hid (RcSt w wr w.heap.size #[.int .i64 k, .int .i64 ch, .slice (some fa) j fc, .int .i64 pad] u7 (Q ++ List.replicate 0 0) (some fa) j fc L) := Lib.hid (by rw [show List.replicate 0 (0 : Int) = [] from rfl, List.append_nil]; exact HS.out)
            clear HS
            go_loopw [7, 12] (fun v i wr => ∃ y : Nat, y ≤ pad ∧ i = .int .i64 y ∧ RcSt w wr w.heap.size #[.int .i64 k, .int .i64 ch, .slice (some fa) j fc, .int .i64 pad] v (Q ++ List.replicate y 0) (some fa) j fc L) (fun _ i _ => pad - (intOf i).toNat)
            case atStart => exact ⟨0, by omega, rfl, HS0.out⟩
            case round =>
              clear HS0
              obtain ⟨y, hy, rfl, HS⟩ := hrel
              have HS := Lib.hid HS
              have d3 : wr.cell? ⟨w.heap.size, 3, none⟩ = some (.int .i64 pad) := HS.out.bx.cell 3
              by_cases hlt : y < pad
              · have hy1 : (y : Int) < (pad : Int) := by omega
                have HTA : Hid (MadeV (wr.alloc (.cells #[.int .u8 0] 5)) 5 _ _) := Lib.hid (HS.out.made.keep0 (Keep.alloc [] _ _))
                have HRD : Hid (RdV (wr.alloc (.cells #[.int .u8 0] 5)) (some ⟨wr.heap.size, 0, none⟩) (bytes [0])) := Lib.hid (rdV_lit wr 5 (bytes [0]))
                go_wp2_with (at_builtin; refine append_v slB (by first | rfl | kernel_rfl) _ _ rfl _ (bytes (Q ++ List.replicate y 0)) rfl HTA.out _ _ _ (bytes [0]) rfl rfl HRD.out (bytes_one _) (by have := HQL.out; rw [bytes_length]; simp; omega) (by have := HQL.out; rw [bytes_length]; simp; omega) (fun hA => by cases hA) ?_)
                intro v' w3 m1 m2 m3
                rw [← bytes_append, List.append_assoc] at m1
                have HU2 := Lib.hid (HS.out.go (Keep.alloc [] _ _) m1 m2 (ge_of m3 (by simp)) (by have := HQL.out; simp only [List.length_append]; omega))
                clear m1 m2 m3 HTA HRD HS d3
                go_wp2_with fail
                go_roundw
                case rel => exact ⟨y + 1, by omega, by go_num, by rw [show List.replicate (y + 1) (0 : Int) = List.replicate y 0 ++ [0] from List.replicate_succ']; exact HU2.out⟩
                case measure => simp [intOf]; omega
              · obtain rfl : y = pad := by omega
                go_wp2_with fail
                go_ret
                rw [HQE.out]
                exact ⟨_, rfl, HS.out.made, HS.out.kept, HS.out.own⟩
      case first =>
        have hp1 : 0 < (pad : Int) := by omega
        have e0 : ((pad : Int) == 0) = false := by simp; omega
        have HPRE : Hid (preM k ch L pad = severalM (8 * (k : Int) + 4 * (ch - 1) + 3) L pad) := Lib.hid (by unfold preM hdM; rw [if_neg (by omega), if_neg (by omega), if_neg (by omega)])
        have c3 : (wo.alloc (.cells #[.int .u8 (8 * (k : Int) + 4 * (ch - 1))] 5)).cell? ⟨w.heap.size, 3, none⟩ = some (.int .i64 pad) := (HBO.out.alloc _).cell 3
        cases u with
        | true =>
          have hal : al = false := HAU.out
          subst hal
          have n3 : IntKind.u8.wrap (z : Int) = (z : Int) := by rw [IntKind.wrap_u8]; omega
          have n4 : IntKind.u8.wrap ((z : Int) + 128) = (z : Int) + 128 := by rw [IntKind.wrap_u8]; omega
          have n5 : IntKind.u8.wrap ((z : Int) + 128 + 64) = ((z : Int) + 128 + 64) := by rw [IntKind.wrap_u8]; omega
          have HNN : Hid ((cntN L pad true : Int) = ((z : Int) + 128 + 64)) := Lib.hid (by unfold cntN; rw [HN.out]; rw [if_pos hpN]; simp)
          have HL : Hid (RcSt w ((wo.alloc (.cells #[.int .u8 (8 * (k : Int) + 4 * (ch - 1))] 5)).alloc (.cells #[.int .u8 (8 * (k : Int) + 4 * (ch - 1) + 3), .int .u8 ((z : Int) + 128 + 64)] 5)) w.heap.size #[.int .i64 k, .int .i64 ch, .slice (some fa) z fc, .int .i64 pad] (.slice (some ⟨wo.heap.size + 1, 0, none⟩) 2 2) [(8 * (k : Int) + 4 * (ch - 1) + 3), ((z : Int) + 128 + 64)] (some fa) z fc L) := by
            have kk := (Keep.alloc [] wo (.cells #[.int .u8 (8 * (k : Int) + 4 * (ch - 1))] 5)).trans (Keep.alloc [] (wo.alloc (.cells #[.int .u8 (8 * (k : Int) + 4 * (ch - 1))] 5)) (.cells #[.int .u8 (8 * (k : Int) + 4 * (ch - 1) + 3), .int .u8 ((z : Int) + 128 + 64)] 5))
            have hm := MadeV.lit (wo.alloc (.cells #[.int .u8 (8 * (k : Int) + 4 * (ch - 1))] 5)) 5 (bytes [(8 * (k : Int) + 4 * (ch - 1) + 3), ((z : Int) + 128 + 64)]) (by rw [bytes_length]; simp)
            rw [World.size_alloc] at hm
            exact Lib.hid ⟨KO.out.trans kk, HBO.out.keep kk (by simp), hm, (fun b hb => by have h2 := KO.out.size; have hb2 : some (wo.heap.size + 1) = some b := hb; simp only [Option.some.injEq] at hb2; omega), ⟨_, rfl⟩, HF0.out⟩
          obtain ⟨P0, hP0⟩ : ∃ P0, P0 = [(8 * (k : Int) + 4 * (ch - 1) + 3), ((z : Int) + 128 + 64)] := ⟨_, rfl⟩
          rw [← hP0] at HL
          have HP0L : Hid (P0.length = 2) := Lib.hid (by rw [hP0]; rfl)
          have HP0E := Lib.hid hP0
          have b3 : ((wo.alloc (.cells #[.int .u8 (8 * (k : Int) + 4 * (ch - 1))] 5)).alloc (.cells #[.int .u8 (8 * (k : Int) + 4 * (ch - 1) + 3), .int .u8 ((z : Int) + 128 + 64)] 5)).cell? ⟨w.heap.size, 3, none⟩ = some (.int .i64 pad) := HL.out.bx.cell 3
          clear hP0
          obtain ⟨K, hK⟩ : ∃ K, K = pad / 254 := ⟨_, rfl⟩
          obtain ⟨r, hr⟩ : ∃ r, r = pad % 254 := ⟨_, rfl⟩
          have hK4 : K ≤ 3 := by omega
          have hr4 : r ≤ 253 := by omega
          have HPB : Hid (padB pad = List.replicate K 255 ++ [(r : Int)]) := Lib.hid (by unfold padB; rw [if_pos hpN, hK, hr])
          have q1 : wrap64 ((pad : Int) / 254) = (K : Int) := by
            rw [show (pad : Int) / 254 = (K : Int) by omega]
            exact small64 (by omega)
          have q2 : IntKind.i64.wrap ((pad : Int) / 254) = (K : Int) := by rw [wrapEq']; exact q1
          have q3 : IntKind.u8.wrap ((pad : Int) % 254) = (r : Int) := by
            rw [show (pad : Int) % 254 = (r : Int) by omega]
            exact u8_small (by omega)
          clear hK hr
          have HQ3 := Lib.hid (And.intro q1 (And.intro q2 q3))
          go_wp2_with fail
          clear q1 q2 q3 b3 n3 n4 n5
          have HP0 : Hid (RcSt w ((wo.alloc (.cells #[.int .u8 (8 * (k : Int) + 4 * (ch - 1))] 5)).alloc (.cells #[.int .u8 (8 * (k : Int) + 4 * (ch - 1) + 3), .int .u8 ((z : Int) + 128 + 64)] 5)) w.heap.size #[.int .i64 k, .int .i64 ch, .slice (some fa) z fc, .int .i64 pad] (.slice (some ⟨wo.heap.size + 1, 0, none⟩) 2 2) (P0 ++ List.replicate 0 255) (some fa) z fc L) := Lib.hid (by rw [show List.replicate 0 (255 : Int) = [] from rfl, List.append_nil]; exact HL.out)
          clear HL
          go_loopw [7, 9] (fun v i wr => ∃ j : Nat, j ≤ K ∧ i = .int .i64 j ∧ RcSt w wr w.heap.size #[.int .i64 k, .int .i64 ch, .slice (some fa) z fc, .int .i64 pad] v (P0 ++ List.replicate j 255) (some fa) z fc L) (fun _ i _ => K - (intOf i).toNat)
          case atStart => exact ⟨0, by omega, rfl, HP0.out⟩
          case round =>
            clear HP0
            obtain ⟨j, hj, rfl, HS⟩ := hrel
            have HS := Lib.hid HS
            have d3 : wr.cell? ⟨w.heap.size, 3, none⟩ = some (.int .i64 pad) := HS.out.bx.cell 3
            by_cases hlt : j < K
            · have HBN : Hid (((bytes (P0 ++ List.replicate j 255)).length + 1) * 1 ≤ 140737488355328 ∧ (bytes (P0 ++ List.replicate j 255)).length + 1 ≤ 140737488355328) := Lib.hid (by have := HP0L.out; rw [bytes_length]; simp; omega)
              obtain ⟨q1, q2, q3⟩ := HQ3.out
              have HTA : Hid (MadeV (wr.alloc (.cells #[.int .u8 255] 5)) 5 _ _) := Lib.hid (HS.out.made.keep0 (Keep.alloc [] _ _))
              have HRD : Hid (RdV (wr.alloc (.cells #[.int .u8 255] 5)) (some ⟨wr.heap.size, 0, none⟩) (bytes [255])) := Lib.hid (rdV_lit wr 5 (bytes [255]))
              go_wp2_with (at_builtin; refine append_v slB (by first | rfl | kernel_rfl) _ _ rfl _ (bytes (P0 ++ List.replicate j 255)) rfl HTA.out _ _ _ (bytes [255]) rfl rfl HRD.out (bytes_one _) HBN.out.1 HBN.out.2 (fun hA => by cases hA) ?_)
              intro v' w3 m1 m2 m3
              clear q1 q2 q3
              rw [← bytes_append, List.append_assoc] at m1
              have HU5 := Lib.hid (HS.out.go (Keep.alloc [] _ _) m1 m2 (ge_of m3 (by simp)) (by have := HP0L.out; simp only [List.length_append]; omega))
              clear m1 m2 m3 HTA HRD HS d3 HBN
              go_wp2_with fail
              go_roundw
              case rel => exact ⟨j + 1, by omega, by go_num, by rw [show List.replicate (j + 1) (255 : Int) = List.replicate j 255 ++ [255] from List.replicate_succ']; exact HU5.out⟩
              case measure => simp [intOf]; omega
            · obtain rfl : j = K := by omega
              have HBN : Hid (((bytes (P0 ++ List.replicate j 255)).length + 1) * 1 ≤ 140737488355328 ∧ (bytes (P0 ++ List.replicate j 255)).length + 1 ≤ 140737488355328) := Lib.hid (by have := HP0L.out; rw [bytes_length]; simp; omega)
              obtain ⟨q1, q2, q3⟩ := HQ3.out
              have HTA : Hid (MadeV (wr.alloc (.cells #[.int .u8 r] 5)) 5 _ _) := Lib.hid (HS.out.made.keep0 (Keep.alloc [] _ _))
              have HRD : Hid (RdV (wr.alloc (.cells #[.int .u8 r] 5)) (some ⟨wr.heap.size, 0, none⟩) (bytes [(r : Int)])) := Lib.hid (rdV_lit wr 5 (bytes [(r : Int)]))
              go_wp2_with (at_builtin; refine append_v slB (by first | rfl | kernel_rfl) _ _ rfl _ (bytes (P0 ++ List.replicate j 255)) rfl HTA.out _ _ _ (bytes [(r : Int)]) rfl rfl HRD.out (bytes_one _) HBN.out.1 HBN.out.2 (fun hA => by cases hA) ?_)
              intro v' w3 m1 m2 m3
              clear q1 q2 q3
              rw [← bytes_append, List.append_assoc, ← HPB.out] at m1
              have HPQ := Lib.hid (HS.out.go (Keep.alloc [] _ _) m1 m2 (ge_of m3 (by simp)) (by have := HP0L.out; simp only [List.length_append]; omega))
              clear m1 m2 m3 HTA HRD HS d3 HBN hlt
              obtain ⟨M, hM⟩ : ∃ M, M = z - 1 := ⟨_, rfl⟩
              have k1 : wrap64 ((z : Int) - 1) = (M : Int) := by
                rw [show (z : Int) - 1 = (M : Int) by omega]
                exact small64 (by omega)
              have k2 : IntKind.i64.wrap ((z : Int) - 1) = (M : Int) := by rw [wrapEq']; exact k1
              have hM11 : M ≤ 11 := by omega
              have HDL : Hid (L.take M = L.dropLast) := Lib.hid (by rw [List.dropLast_eq_take, hM, HN.out])
              have HMN : Hid (M < z) := Lib.hid (by omega)
              have HK12 := Lib.hid (And.intro k1 k2)
              clear hM
              go_wp2_with fail
              clear k1 k2
              have HP1 : Hid (RcSt w w3 w.heap.size #[.int .i64 k, .int .i64 ch, .slice (some fa) z fc, .int .i64 pad] v' (P0 ++ padB pad ++ lensB (L.take 0)) (some fa) z fc L) := Lib.hid (by
                have e : lensB (L.take 0) = [] := rfl
                rw [e, List.append_nil]
                exact HPQ.out)
              clear HPQ
              go_loopw [7, 10] (fun v i wr => ∃ j : Nat, j ≤ M ∧ i = .int .i64 j ∧ RcSt w wr w.heap.size #[.int .i64 k, .int .i64 ch, .slice (some fa) z fc, .int .i64 pad] v (P0 ++ padB pad ++ lensB (L.take j)) (some fa) z fc L) (fun _ i _ => M - (intOf i).toNat)
              case atStart => exact ⟨0, by omega, rfl, HP1.out⟩
              case round =>
                clear HP1
                obtain ⟨j, hj, rfl, HS⟩ := hrel
                have HS := Lib.hid HS
                by_cases hlt : j < M
                · obtain ⟨l, hl⟩ : ∃ l, L[j]? = some l := ⟨_, List.getElem?_eq_getElem (by rw [HN.out]; have := HMN.out; omega)⟩
                  obtain ⟨a, X, d, ha, hca, hax⟩ := HF0.out.at_ j l hl
                  simp only [Option.some.injEq] at ha
                  subst ha
                  have hcw := HS.out.kept.cell hca (by simp)
                  have HFL := Lib.hid (lens_take_succ hl)
                  have HLL : Hid (l.length ≤ 1275) := Lib.hid (HSH.out l (List.mem_of_getElem? hl))
                  have HSL : Hid ((P0 ++ padB pad ++ lensB (L.take j)).length ≤ 100000) := Lib.hid (by
                    have h1 := lens_len (L.take j)
                    have h2 := pad_len (pad := pad) (by omega)
                    have h3 : (L.take j).length ≤ 12 := by simp; omega
                    have h4 := HP0L.out
                    simp only [List.length_append]
                    omega)
                  obtain ⟨q, hq⟩ : ∃ q, q = l.length := ⟨_, rfl⟩
                  rw [← hq] at hcw HLL HFL
                  obtain ⟨BA, bn, bc, hbv⟩ := HS.out.made.shape
                  subst hbv
                  clear hca hax hl hq
                  have hk0 : (0 : Int) ≤ (j : Int) := by omega
                  have hk1 : (j : Int) < (M : Int) := by omega
                  have hk2 : (j : Int) < (z : Int) := by have := HMN.out; omega
                  obtain ⟨k1, k2⟩ := HK12.out
                  go_wp2_with fail
                  clear k1 k2
                  refine (put_calls _ _ _ q HS.out.made HLL.out HSL.out).mono ?_
                  rintro e w3 ⟨v', rfl, m1, m2, m3⟩
                  have HU5 := Lib.hid (HS.out.go (Keep.refl [] _) m1 m2 m3 (by have := HP0L.out; simp only [List.length_append]; omega))
                  clear m1 m2 m3 HS hcw
                  go_wp2_with fail
                  go_roundw
                  case rel => exact ⟨j + 1, by omega, by go_num, by rw [HFL.out, ← List.append_assoc]; exact HU5.out⟩
                  case measure => simp [intOf]; omega
                · obtain rfl : j = M := by omega
                  obtain ⟨k1, k2⟩ := HK12.out
                  go_wp2_with fail
                  go_meet
                  have h := HS.out
                  rw [HDL.out] at h
                  rw [HPRE.out]
                  unfold severalM
                  rw [HU.out, if_pos rfl, HNN.out, ← HP0E.out]
                  exact h
        | false =>
          have hal : al = true := HAU.out
          subst hal
          have n3 : IntKind.u8.wrap (z : Int) = (z : Int) := by rw [IntKind.wrap_u8]; omega
          have n5 : IntKind.u8.wrap ((z : Int) + 64) = ((z : Int) + 64) := by rw [IntKind.wrap_u8]; omega
          have HNN : Hid ((cntN L pad false : Int) = ((z : Int) + 64)) := Lib.hid (by unfold cntN; rw [HN.out]; rw [if_pos hpN]; simp)
          have HL : Hid (RcSt w ((wo.alloc (.cells #[.int .u8 (8 * (k : Int) + 4 * (ch - 1))] 5)).alloc (.cells #[.int .u8 (8 * (k : Int) + 4 * (ch - 1) + 3), .int .u8 ((z : Int) + 64)] 5)) w.heap.size #[.int .i64 k, .int .i64 ch, .slice (some fa) z fc, .int .i64 pad] (.slice (some ⟨wo.heap.size + 1, 0, none⟩) 2 2) [(8 * (k : Int) + 4 * (ch - 1) + 3), ((z : Int) + 64)] (some fa) z fc L) := by
            have kk := (Keep.alloc [] wo (.cells #[.int .u8 (8 * (k : Int) + 4 * (ch - 1))] 5)).trans (Keep.alloc [] (wo.alloc (.cells #[.int .u8 (8 * (k : Int) + 4 * (ch - 1))] 5)) (.cells #[.int .u8 (8 * (k : Int) + 4 * (ch - 1) + 3), .int .u8 ((z : Int) + 64)] 5))
            have hm := MadeV.lit (wo.alloc (.cells #[.int .u8 (8 * (k : Int) + 4 * (ch - 1))] 5)) 5 (bytes [(8 * (k : Int) + 4 * (ch - 1) + 3), ((z : Int) + 64)]) (by rw [bytes_length]; simp)
            rw [World.size_alloc] at hm
            exact Lib.hid ⟨KO.out.trans kk, HBO.out.keep kk (by simp), hm, (fun b hb => by have h2 := KO.out.size; have hb2 : some (wo.heap.size + 1) = some b := hb; simp only [Option.some.injEq] at hb2; omega), ⟨_, rfl⟩, HF0.out⟩
          obtain ⟨P0, hP0⟩ : ∃ P0, P0 = [(8 * (k : Int) + 4 * (ch - 1) + 3), ((z : Int) + 64)] := ⟨_, rfl⟩
          rw [← hP0] at HL
          have HP0L : Hid (P0.length = 2) := Lib.hid (by rw [hP0]; rfl)
          have HP0E := Lib.hid hP0
          have b3 : ((wo.alloc (.cells #[.int .u8 (8 * (k : Int) + 4 * (ch - 1))] 5)).alloc (.cells #[.int .u8 (8 * (k : Int) + 4 * (ch - 1) + 3), .int .u8 ((z : Int) + 64)] 5)).cell? ⟨w.heap.size, 3, none⟩ = some (.int .i64 pad) := HL.out.bx.cell 3
          clear hP0
          obtain ⟨K, hK⟩ : ∃ K, K = pad / 254 := ⟨_, rfl⟩
          obtain ⟨r, hr⟩ : ∃ r, r = pad % 254 := ⟨_, rfl⟩
          have hK4 : K ≤ 3 := by omega
          have hr4 : r ≤ 253 := by omega
          have HPB : Hid (padB pad = List.replicate K 255 ++ [(r : Int)]) := Lib.hid (by unfold padB; rw [if_pos hpN, hK, hr])
          have q1 : wrap64 ((pad : Int) / 254) = (K : Int) := by
            rw [show (pad : Int) / 254 = (K : Int) by omega]
            exact small64 (by omega)
          have q2 : IntKind.i64.wrap ((pad : Int) / 254) = (K : Int) := by rw [wrapEq']; exact q1
          have q3 : IntKind.u8.wrap ((pad : Int) % 254) = (r : Int) := by
            rw [show (pad : Int) % 254 = (r : Int) by omega]
            exact u8_small (by omega)
          clear hK hr
          have HQ3 := Lib.hid (And.intro q1 (And.intro q2 q3))
          go_wp2_with fail
          clear q1 q2 q3 b3 n3 n5
          have HP0 : Hid (RcSt w ((wo.alloc (.cells #[.int .u8 (8 * (k : Int) + 4 * (ch - 1))] 5)).alloc (.cells #[.int .u8 (8 * (k : Int) + 4 * (ch - 1) + 3), .int .u8 ((z : Int) + 64)] 5)) w.heap.size #[.int .i64 k, .int .i64 ch, .slice (some fa) z fc, .int .i64 pad] (.slice (some ⟨wo.heap.size + 1, 0, none⟩) 2 2) (P0 ++ List.replicate 0 255) (some fa) z fc L) := Lib.hid (by rw [show List.replicate 0 (255 : Int) = [] from rfl, List.append_nil]; exact HL.out)
          clear HL
          go_loopw [7, 9] (fun v i wr => ∃ j : Nat, j ≤ K ∧ i = .int .i64 j ∧ RcSt w wr w.heap.size #[.int .i64 k, .int .i64 ch, .slice (some fa) z fc, .int .i64 pad] v (P0 ++ List.replicate j 255) (some fa) z fc L) (fun _ i _ => K - (intOf i).toNat)
          case atStart => exact ⟨0, by omega, rfl, HP0.out⟩
          case round =>
            clear HP0
            obtain ⟨j, hj, rfl, HS⟩ := hrel
            have HS := Lib.hid HS
            have d3 : wr.cell? ⟨w.heap.size, 3, none⟩ = some (.int .i64 pad) := HS.out.bx.cell 3
            by_cases hlt : j < K
            · have HBN : Hid (((bytes (P0 ++ List.replicate j 255)).length + 1) * 1 ≤ 140737488355328 ∧ (bytes (P0 ++ List.replicate j 255)).length + 1 ≤ 140737488355328) := Lib.hid (by have := HP0L.out; rw [bytes_length]; simp; omega)
              obtain ⟨q1, q2, q3⟩ := HQ3.out
              have HTA : Hid (MadeV (wr.alloc (.cells #[.int .u8 255] 5)) 5 _ _) := Lib.hid (HS.out.made.keep0 (Keep.alloc [] _ _))
              have HRD : Hid (RdV (wr.alloc (.cells #[.int .u8 255] 5)) (some ⟨wr.heap.size, 0, none⟩) (bytes [255])) := Lib.hid (rdV_lit wr 5 (bytes [255]))
              go_wp2_with (at_builtin; refine append_v slB (by first | rfl | kernel_rfl) _ _ rfl _ (bytes (P0 ++ List.replicate j 255)) rfl HTA.out _ _ _ (bytes [255]) rfl rfl HRD.out (bytes_one _) HBN.out.1 HBN.out.2 (fun hA => by cases hA) ?_)
              intro v' w3 m1 m2 m3
              clear q1 q2 q3
              rw [← bytes_append, List.append_assoc] at m1
              have HU5 := Lib.hid (HS.out.go (Keep.alloc [] _ _) m1 m2 (ge_of m3 (by simp)) (by have := HP0L.out; simp only [List.length_append]; omega))
              clear m1 m2 m3 HTA HRD HS d3 HBN
              go_wp2_with fail
              go_roundw
              case rel => exact ⟨j + 1, by omega, by go_num, by rw [show List.replicate (j + 1) (255 : Int) = List.replicate j 255 ++ [255] from List.replicate_succ']; exact HU5.out⟩
              case measure => simp [intOf]; omega
            · obtain rfl : j = K := by omega
              have HBN : Hid (((bytes (P0 ++ List.replicate j 255)).length + 1) * 1 ≤ 140737488355328 ∧ (bytes (P0 ++ List.replicate j 255)).length + 1 ≤ 140737488355328) := Lib.hid (by have := HP0L.out; rw [bytes_length]; simp; omega)
              obtain ⟨q1, q2, q3⟩ := HQ3.out
              have HTA : Hid (MadeV (wr.alloc (.cells #[.int .u8 r] 5)) 5 _ _) := Lib.hid (HS.out.made.keep0 (Keep.alloc [] _ _))
              have HRD : Hid (RdV (wr.alloc (.cells #[.int .u8 r] 5)) (some ⟨wr.heap.size, 0, none⟩) (bytes [(r : Int)])) := Lib.hid (rdV_lit wr 5 (bytes [(r : Int)]))
              go_wp2_with (at_builtin; refine append_v slB (by first | rfl | kernel_rfl) _ _ rfl _ (bytes (P0 ++ List.replicate j 255)) rfl HTA.out _ _ _ (bytes [(r : Int)]) rfl rfl HRD.out (bytes_one _) HBN.out.1 HBN.out.2 (fun hA => by cases hA) ?_)
              intro v' w3 m1 m2 m3
              clear q1 q2 q3
              rw [← bytes_append, List.append_assoc, ← HPB.out] at m1
              have HPQ := Lib.hid (HS.out.go (Keep.alloc [] _ _) m1 m2 (ge_of m3 (by simp)) (by have := HP0L.out; simp only [List.length_append]; omega))
              clear m1 m2 m3 HTA HRD HS d3 HBN hlt
              obtain ⟨M, hM⟩ : ∃ M, M = z - 1 := ⟨_, rfl⟩
              have k1 : wrap64 ((z : Int) - 1) = (M : Int) := by
                rw [show (z : Int) - 1 = (M : Int) by omega]
                exact small64 (by omega)
              have k2 : IntKind.i64.wrap ((z : Int) - 1) = (M : Int) := by rw [wrapEq']; exact k1
              have HK12 := Lib.hid (And.intro k1 k2)
              clear hM
              go_wp2_with fail
              clear k1 k2
              go_loopw [7, 10] (fun v i wr => i = .int .i64 0 ∧ RcSt w wr w.heap.size #[.int .i64 k, .int .i64 ch, .slice (some fa) z fc, .int .i64 pad] v (P0 ++ padB pad) (some fa) z fc L) (fun _ _ _ => 0)
              case atStart => exact ⟨rfl, HPQ.out⟩
              case round =>
                clear HPQ
                obtain ⟨rfl, HS⟩ := hrel
                have HS := Lib.hid HS
                by_cases hM : M = 0
                · subst hM
                  obtain ⟨k1, k2⟩ := HK12.out
                  go_wp2_with fail
                  go_meet
                  rw [HPRE.out]
                  unfold severalM
                  rw [HU.out, if_neg (by simp), HNN.out, ← HP0E.out, List.append_nil]
                  exact HS.out
                · have hM1 : (0 : Int) < (M : Int) := by omega
                  obtain ⟨k1, k2⟩ := HK12.out
                  go_wp2_with fail
                  go_meet
                  rw [HPRE.out]
                  unfold severalM
                  rw [HU.out, if_neg (by simp), HNN.out, ← HP0E.out, List.append_nil]
                  exact HS.out
theorem rpack_z (k : Nat) (ch : Int) (FA : Option Addr) (n fc : Nat) (L : List (List Int)) (w : World) (h : FrR w FA n fc L) (hg : goodM k ch L 0 = true) :
    Calls Try.prog 19 #[.agg #[.int .i64 k, .int .i64 ch, .slice FA n fc, .int .i64 0]] w (RetS w (packM k ch L 0)) := by
  have G := good_of hg
  have HF0 := Lib.hid h
  have HSH := Lib.hid G.s
  have hk := G.c1
  have hch : 1 ≤ ch ∧ ch ≤ 2 := by rcases G.h with e | e <;> omega
  obtain ⟨hch1, hch2⟩ := hch
  have hn1 : 1 ≤ n := by rw [← h.ln]; exact G.n1
  have hn12 : n ≤ 12 := by rw [← h.ln]; exact G.n12
  have HN := Lib.hid h.ln
  have HPL : Hid ((preM k ch L 0).length ≤ 40) := Lib.hid (pre_len (by rw [h.ln]; exact hn12) (by omega))
  obtain ⟨l0, hl0⟩ : ∃ l0, L[0]? = some l0 := ⟨_, List.getElem?_eq_getElem (by rw [h.ln]; omega)⟩
  have hhd : L.headD [] = l0 := by
    cases L with
    | nil => simp at hl0
    | cons a L => simpa using hl0
  obtain ⟨u, hu⟩ : ∃ u, u = unlikeB L := ⟨_, rfl⟩
  obtain ⟨n0, hn0⟩ : ∃ n0, n0 = l0.length := ⟨_, rfl⟩
  have HU := Lib.hid hu.symm
  have HAL : Hid (alikeN L n0 n = !u) := Lib.hid (by rw [hu, hn0]; exact alike_all hl0 h.ln)
  have HA1 : Hid (alikeN L n0 1 = true) := Lib.hid (by rw [hn0]; exact alike_one hl0)
  obtain ⟨fa, X0, d0, hfa, hc0, _⟩ := h.at_ 0 l0 hl0
  subst hfa
  rw [Addr.add_zero', ← hn0] at hc0
  have HC0 := Lib.hid hc0
  have HHD := Lib.hid hhd
  have HL0 := Lib.hid hl0
  have HN0 := Lib.hid hn0
  have HS0 : Hid (Keep [] w (w.alloc (.cells #[.int .i64 k, .int .i64 ch, .slice (some fa) n fc, .int .i64 0] 39)) ∧ Blk (w.alloc (.cells #[.int .i64 k, .int .i64 ch, .slice (some fa) n fc, .int .i64 0] 39)) w.heap.size #[.int .i64 k, .int .i64 ch, .slice (some fa) n fc, .int .i64 0] 39) := Lib.hid ⟨Keep.alloc [] _ _, Blk.new w _ _⟩
  have hcp := h.cp
  have hmo := h.most
  clear h hg hl0 hhd hu G hn0 hc0
  have h8 : IntKind.u8.wrap (8 * (k : Int) + 4 * (ch - 1)) = 8 * (k : Int) + 4 * (ch - 1) := by rw [IntKind.wrap_u8]; omega
  go_enter Try.func19, Try.ntmps19
  go_wp2_with fail
  go_loopw [5, 6] (fun a i wr => ∃ z : Nat, 1 ≤ z ∧ z ≤ n ∧ i = .int .i64 z ∧ a = .bool (alikeN L n0 z) ∧ Hid (Keep [] w wr ∧ Blk wr w.heap.size #[.int .i64 k, .int .i64 ch, .slice (some fa) n fc, .int .i64 0] 39)) (fun _ i _ => n - (intOf i).toNat)
  case atStart => exact ⟨1, by omega, by omega, rfl, by rw [HA1.out], HS0⟩
  case round =>
    clear HS0
    obtain ⟨z, hz1, hz, rfl, rfl, HS⟩ := hrel
    by_cases hlt : z < n
    · obtain ⟨l, hl⟩ : ∃ l, L[z]? = some l := ⟨_, List.getElem?_eq_getElem (by rw [HN.out]; exact hlt)⟩
      obtain ⟨a, X, d, ha, hca, _⟩ := HF0.out.at_ z l hl
      simp only [Option.some.injEq] at ha
      subst ha
      obtain ⟨q, hq⟩ : ∃ q, q = l.length := ⟨_, rfl⟩
      have hsu := alike_succ (n0 := n0) hl
      rw [← hq] at hca hsu
      have HSU := Lib.hid hsu
      have hcw := HS.out.1.cell hca (by simp)
      have hc0 := HS.out.1.cell HC0.out (by simp)
      have hk0 : (0 : Int) ≤ (z : Int) := by omega
      have hk1 : (z : Int) < (n : Int) := by omega
      have hk2 : (0 : Int) < (n : Int) := by omega
      obtain ⟨al, hal⟩ : ∃ al, al = alikeN L n0 z := ⟨_, rfl⟩
      rw [← hal] at HSU ⊢
      clear hsu hq hl hca hal
      cases al with
      | false =>
        go_wp2_with fail
        go_quiet (fail)
        go_wp2_with fail
        go_roundw
        case rel => exact ⟨z + 1, by omega, by omega, by go_num, by rw [HSU.out]; rfl, Lib.hid ⟨HS.out.1.trans (Keep.drewN [] _ _), HS.out.2.drewN _⟩⟩
        case measure => simp [intOf]; omega
      | true =>
        by_cases hq : q = n0
        · subst hq
          go_wp2_with fail
          go_quiet (fail)
          go_wp2_with fail
          go_roundw
          case rel => exact ⟨z + 1, by omega, by omega, by go_num, by rw [HSU.out]; simp, Lib.hid ⟨HS.out.1.trans (Keep.drewN [] _ _), HS.out.2.drewN _⟩⟩
          case measure => simp [intOf]; omega
        · have e1 : ((q : Int) == (n0 : Int)) = false := by simp; omega
          have e2 : decide ((q : Int) = (n0 : Int)) = false := decide_eq_false (by omega)
          have e3 : decide (q = n0) = false := decide_eq_false hq
          go_wp2_with fail
          go_quiet (fail)
          go_wp2_with fail
          go_roundw
          case rel => exact ⟨z + 1, by omega, by omega, by go_num, by rw [HSU.out]; simp [e3], Lib.hid ⟨HS.out.1.trans (Keep.drewN [] _ _), HS.out.2.drewN _⟩⟩
          case measure => simp [intOf]; omega
    · obtain rfl : z = n := by omega
      rw [HAL.out]
      obtain ⟨wo, hwo⟩ : ∃ wo, wo = wr := ⟨_, rfl⟩
      rw [← hwo] at HS ⊢
      have KO := Lib.hid HS.out.1
      have HBO := Lib.hid HS.out.2
      have hn1 : 1 ≤ z := hz1
      obtain ⟨al, hal⟩ : ∃ al, al = !u := ⟨_, rfl⟩
      rw [← hal]
      have HAU := Lib.hid hal
      clear hwo HS HAL HA1 hal hlt
      have h81 : IntKind.u8.wrap (8 * (k : Int) + 4 * (ch - 1) + 1) = 8 * (k : Int) + 4 * (ch - 1) + 1 := by rw [IntKind.wrap_u8]; omega
      have h82 : IntKind.u8.wrap (8 * (k : Int) + 4 * (ch - 1) + 2) = 8 * (k : Int) + 4 * (ch - 1) + 2 := by rw [IntKind.wrap_u8]; omega
      have h83 : IntKind.u8.wrap (8 * (k : Int) + 4 * (ch - 1) + 3) = 8 * (k : Int) + 4 * (ch - 1) + 3 := by rw [IntKind.wrap_u8]; omega
      go_upto_block 2 with fail
      go_cut [7] from 45 to 140 (fun v wx => RcSt w wx w.heap.size #[.int .i64 k, .int .i64 ch, .slice (some fa) z fc, .int .i64 0] v (preM k ch L 0) (some fa) z fc L)
      case rest =>
        have HP := Lib.hid hcut
        have HPR : Hid (RcSt w wc w.heap.size #[.int .i64 k, .int .i64 ch, .slice (some fa) z fc, .int .i64 0] u7 (preM k ch L 0 ++ (L.take 0).flatten) (some fa) z fc L) := Lib.hid (by
          have e : (L.take 0).flatten = [] := rfl
          rw [e, List.append_nil]
          exact hcut)
        obtain ⟨P, hP⟩ : ∃ P, P = preM k ch L 0 := ⟨_, rfl⟩
        rw [← hP] at HPR HPL
        have HPE := Lib.hid hP
        have HPP : Hid (0 < P.length) := Lib.hid (by rw [hP]; exact pre_pos k ch L 0)
        clear h8 h81 h82 h83 hcut HP hP
        go_wp2_with fail
        go_loopw [7, 11] (fun v i wr => ∃ j : Nat, j ≤ z ∧ i = .int .i64 j ∧ RcSt w wr w.heap.size #[.int .i64 k, .int .i64 ch, .slice (some fa) z fc, .int .i64 0] v (P ++ (L.take j).flatten) (some fa) z fc L) (fun _ i _ => z - (intOf i).toNat)
        case atStart => exact ⟨0, by omega, rfl, HPR.out⟩
        case round =>
          clear HPR
          obtain ⟨j, hj, rfl, HS⟩ := hrel
          have HS := Lib.hid HS
          by_cases hlt : j < z
          · obtain ⟨l, hl⟩ : ∃ l, L[j]? = some l := ⟨_, List.getElem?_eq_getElem (by rw [HN.out]; exact hlt)⟩
            obtain ⟨a, X, d, ha, hca, hax⟩ := HF0.out.at_ j l hl
            simp only [Option.some.injEq] at ha
            subst ha
            have hcw := HS.out.kept.cell hca (by simp)
            have HX := Lib.hid (hax.keep0 HS.out.kept)
            have HFL := Lib.hid (flat_take_succ hl)
            have HLL : Hid (l.length ≤ 1275) := Lib.hid (HSH.out l (List.mem_of_getElem? hl))
            have HSL : Hid ((L.take j).flatten.length ≤ 15300) := Lib.hid (take_sum_le j HSH.out (by rw [HN.out]; exact hn12))
            obtain ⟨q, hq⟩ : ∃ q, q = l.length := ⟨_, rfl⟩
            rw [← hq] at hcw HX HLL
            have HQ := Lib.hid hq
            clear hca hax hl hq
            have hk0 : (0 : Int) ≤ (j : Int) := by omega
            have hk1 : (j : Int) < (z : Int) := by omega
            go_wp2_with (at_builtin; refine append_v slB (by first | rfl | kernel_rfl) _ _ rfl _ (bytes (P ++ (L.take j).flatten)) rfl HS.out.made _ _ _ (bytes l) rfl (by rw [bytes_length]; exact HQ.out.symm) HX.out.reads (bytes_one _) (by have := HSL.out; have := HLL.out; have := HPL.out; rw [bytes_length, List.length_append]; omega) (by have := HSL.out; have := HLL.out; have := HPL.out; rw [bytes_length, List.length_append]; omega) (fun hA => HX.out.nil hA) ?_)
            intro v' w3 m1 m2 m3
            rw [← bytes_append] at m1
            have HU2 := Lib.hid (HS.out.app m1 m2 m3 (by have := HPP.out; simp only [List.length_append]; omega))
            clear m1 m2 m3 HX HS hcw
            go_wp2_with fail
            go_roundw
            case rel => exact ⟨j + 1, by omega, by go_num, by rw [HFL.out, ← List.append_assoc]; exact HU2.out⟩
            case measure => simp [intOf]; omega
          · obtain rfl : j = z := by omega
            have htk : L.take j = L := List.take_of_length_le (by rw [HN.out]; exact Nat.le_refl _)
            rw [htk] at HS
            obtain ⟨Q, hQ⟩ : ∃ Q, Q = P ++ L.flatten := ⟨_, rfl⟩
            have HQL : Hid (Q.length ≤ 15340 ∧ 0 < Q.length) := Lib.hid (by
              have h := take_sum_le j HSH.out (by rw [HN.out]; exact hn12)
              rw [htk] at h
              have h2 := HPL.out
              have h3 := HPP.out
              rw [hQ, List.length_append]
              omega)
            have HQE : Hid (packM k ch L 0 = Q ++ List.replicate 0 0) := Lib.hid (by unfold packM; rw [hQ, HPE.out])
            rw [← hQ] at HS
            clear htk hQ hlt
            go_wp2_with fail
            have HS0 : Hid (RcSt w wr w.heap.size #[.int .i64 k, .int .i64 ch, .slice (some fa) j fc, .int .i64 0] u7 (Q ++ List.replicate 0 0) (some fa) j fc L) := Lib.hid (by rw [show List.replicate 0 (0 : Int) = [] from rfl, List.append_nil]; exact HS.out)
            clear HS
            go_loopw [7, 12] (fun v i wr => i = .int .i64 0 ∧ RcSt w wr w.heap.size #[.int .i64 k, .int .i64 ch, .slice (some fa) j fc, .int .i64 0] v (Q ++ List.replicate 0 0) (some fa) j fc L) (fun _ _ _ => 0)
            case atStart => exact ⟨rfl, HS0.out⟩
            case round =>
              clear HS0
              obtain ⟨rfl, HS⟩ := hrel
              have HS := Lib.hid HS
              have d3 : wr.cell? ⟨w.heap.size, 3, none⟩ = some (.int .i64 0) := HS.out.bx.cell 3
              go_wp2_with fail
              go_ret
              rw [HQE.out]
              exact ⟨_, rfl, HS.out.made, HS.out.kept, HS.out.own⟩
      case first =>
        have HBO0 : Hid (Blk wo w.heap.size #[.int .i64 k, .int .i64 ch, .slice (some fa) z fc, .int .i64 0] 39) := HBO
        have HL1 : Hid (RcSt w (wo.alloc (.cells #[.int .u8 (8 * (k : Int) + 4 * (ch - 1))] 5)) w.heap.size #[.int .i64 k, .int .i64 ch, .slice (some fa) z fc, .int .i64 0] (.slice (some ⟨wo.heap.size, 0, none⟩) 1 1) [8 * (k : Int) + 4 * (ch - 1)] (some fa) z fc L) := by
          have kk := Keep.alloc [] wo (.cells #[.int .u8 (8 * (k : Int) + 4 * (ch - 1))] 5)
          exact Lib.hid ⟨KO.out.trans kk, HBO.out.keep kk (by simp), MadeV.lit wo 5 (bytes [8 * (k : Int) + 4 * (ch - 1)]) (by rw [bytes_length]; simp), (fun b hb => by have h2 := KO.out.size; have hb2 : wo.heap.size = b := Option.some.inj hb; omega), ⟨_, rfl⟩, HF0.out⟩
        have b3 : (wo.alloc (.cells #[.int .u8 (8 * (k : Int) + 4 * (ch - 1))] 5)).cell? ⟨w.heap.size, 3, none⟩ = some (.int .i64 0) := HL1.out.bx.cell 3
        by_cases h1 : z = 1
        · subst h1
          have HPRE : Hid (preM k ch L 0 = [8 * (k : Int) + 4 * (ch - 1)]) := Lib.hid (by unfold preM hdM; rw [if_pos ⟨rfl, HN.out⟩])
          go_wp2_with fail
          go_meet
          rw [HPRE.out]
          exact HL1.out
        · have e1 : ((z : Int) == 1) = false := by simp; omega
          by_cases h2 : z = 2
          · subst h2
            cases u with
            | false =>
              have hal : al = true := HAU.out
              subst hal
              have HPRE : Hid (preM k ch L 0 = [8 * (k : Int) + 4 * (ch - 1) + 1]) := Lib.hid (by unfold preM hdM; rw [if_neg (by rw [HN.out]; omega), if_pos ⟨rfl, HN.out, HU.out⟩])
              have HL2 : Hid (RcSt w (wo.alloc (.cells #[.int .u8 (8 * (k : Int) + 4 * (ch - 1) + 1)] 5)) w.heap.size #[.int .i64 k, .int .i64 ch, .slice (some fa) 2 fc, .int .i64 0] (.slice (some ⟨wo.heap.size, 0, none⟩) 1 1) [8 * (k : Int) + 4 * (ch - 1) + 1] (some fa) 2 fc L) := by
                have kk := Keep.alloc [] wo (.cells #[.int .u8 (8 * (k : Int) + 4 * (ch - 1) + 1)] 5)
                exact Lib.hid ⟨KO.out.trans kk, HBO.out.keep kk (by simp), MadeV.lit wo 5 (bytes [8 * (k : Int) + 4 * (ch - 1) + 1]) (by rw [bytes_length]; simp), (fun b hb => by have h2 := KO.out.size; have hb2 : wo.heap.size = b := Option.some.inj hb; omega), ⟨_, rfl⟩, HF0.out⟩
              go_wp2_with fail
              go_meet
              rw [HPRE.out]
              exact HL2.out
            | true =>
              have hal : al = false := HAU.out
              subst hal
              have HPRE : Hid (preM k ch L 0 = [8 * (k : Int) + 4 * (ch - 1) + 2] ++ toldM n0) := Lib.hid (by unfold preM hdM; rw [if_neg (by rw [HN.out]; omega), if_neg (by rw [HU.out]; simp), if_pos ⟨rfl, HN.out⟩, HHD.out, ← HN0.out])
              have HL2 : Hid (RcSt w ((wo.alloc (.cells #[.int .u8 (8 * (k : Int) + 4 * (ch - 1))] 5)).alloc (.cells #[.int .u8 (8 * (k : Int) + 4 * (ch - 1) + 2)] 5)) w.heap.size #[.int .i64 k, .int .i64 ch, .slice (some fa) 2 fc, .int .i64 0] (.slice (some ⟨wo.heap.size + 1, 0, none⟩) 1 1) [8 * (k : Int) + 4 * (ch - 1) + 2] (some fa) 2 fc L) := by
                have kk := (Keep.alloc [] wo (.cells #[.int .u8 (8 * (k : Int) + 4 * (ch - 1))] 5)).trans (Keep.alloc [] _ (.cells #[.int .u8 (8 * (k : Int) + 4 * (ch - 1) + 2)] 5))
                have hm := MadeV.lit (wo.alloc (.cells #[.int .u8 (8 * (k : Int) + 4 * (ch - 1))] 5)) 5 (bytes [8 * (k : Int) + 4 * (ch - 1) + 2]) (by rw [bytes_length]; simp)
                rw [World.size_alloc] at hm
                exact Lib.hid ⟨KO.out.trans kk, HBO.out.keep kk (by simp), hm, (fun b hb => by have h2 := KO.out.size; have hb2 : some (wo.heap.size + 1) = some b := hb; simp only [Option.some.injEq] at hb2; omega), ⟨_, rfl⟩, HF0.out⟩
              have hcb := HL2.out.kept.cell HC0.out (by simp)
              have HL5 : Hid (n0 ≤ 1275) := Lib.hid (by rw [HN0.out]; exact HSH.out l0 (List.mem_of_getElem? HL0.out))
              go_wp2_with fail
              refine (put_calls _ _ _ n0 HL2.out.made HL5.out (by simp)).mono ?_
              rintro e w3 ⟨v', rfl, m1, m2, m3⟩
              have HL3 := Lib.hid (HL2.out.go (Keep.refl [] _) m1 m2 m3 (by simp))
              clear m1 m2 m3
              go_wp2_with fail
              go_meet
              rw [HPRE.out]
              exact HL3.out
          · have e2 : ((z : Int) == 2) = false := by simp; omega
            have HPRE : Hid (preM k ch L 0 = severalM (8 * (k : Int) + 4 * (ch - 1) + 3) L 0) := Lib.hid (by unfold preM hdM; rw [if_neg (by rw [HN.out]; omega), if_neg (by rw [HN.out]; omega), if_neg (by rw [HN.out]; omega)])
            cases u with
            | true =>
              have hal : al = false := HAU.out
              subst hal
              clear HL1
              have n3 : IntKind.u8.wrap (z : Int) = (z : Int) := by rw [IntKind.wrap_u8]; omega
              have n4 : IntKind.u8.wrap ((z : Int) + 128) = (z : Int) + 128 := by rw [IntKind.wrap_u8]; omega
              have HNN : Hid ((cntN L 0 true : Int) = ((z : Int) + 128)) := Lib.hid (by unfold cntN; rw [HN.out]; simp)
              have HL : Hid (RcSt w ((wo.alloc (.cells #[.int .u8 (8 * (k : Int) + 4 * (ch - 1))] 5)).alloc (.cells #[.int .u8 (8 * (k : Int) + 4 * (ch - 1) + 3), .int .u8 ((z : Int) + 128)] 5)) w.heap.size #[.int .i64 k, .int .i64 ch, .slice (some fa) z fc, .int .i64 0] (.slice (some ⟨wo.heap.size + 1, 0, none⟩) 2 2) [(8 * (k : Int) + 4 * (ch - 1) + 3), ((z : Int) + 128)] (some fa) z fc L) := by
                have kk := (Keep.alloc [] wo (.cells #[.int .u8 (8 * (k : Int) + 4 * (ch - 1))] 5)).trans (Keep.alloc [] (wo.alloc (.cells #[.int .u8 (8 * (k : Int) + 4 * (ch - 1))] 5)) (.cells #[.int .u8 (8 * (k : Int) + 4 * (ch - 1) + 3), .int .u8 ((z : Int) + 128)] 5))
                have hm := MadeV.lit (wo.alloc (.cells #[.int .u8 (8 * (k : Int) + 4 * (ch - 1))] 5)) 5 (bytes [(8 * (k : Int) + 4 * (ch - 1) + 3), ((z : Int) + 128)]) (by rw [bytes_length]; simp)
                rw [World.size_alloc] at hm
                exact Lib.hid ⟨KO.out.trans kk, HBO.out.keep kk (by simp), hm, (fun b hb => by have h2 := KO.out.size; have hb2 : some (wo.heap.size + 1) = some b := hb; simp only [Option.some.injEq] at hb2; omega), ⟨_, rfl⟩, HF0.out⟩
              obtain ⟨P0, hP0⟩ : ∃ P0, P0 = [(8 * (k : Int) + 4 * (ch - 1) + 3), ((z : Int) + 128)] := ⟨_, rfl⟩
              rw [← hP0] at HL
              have HP0L : Hid (P0.length = 2) := Lib.hid (by rw [hP0]; rfl)
              have HP0E := Lib.hid hP0
              have b3 : ((wo.alloc (.cells #[.int .u8 (8 * (k : Int) + 4 * (ch - 1))] 5)).alloc (.cells #[.int .u8 (8 * (k : Int) + 4 * (ch - 1) + 3), .int .u8 ((z : Int) + 128)] 5)).cell? ⟨w.heap.size, 3, none⟩ = some (.int .i64 0) := HL.out.bx.cell 3
              clear hP0
              have HPQ : Hid (RcSt w ((wo.alloc (.cells #[.int .u8 (8 * (k : Int) + 4 * (ch - 1))] 5)).alloc (.cells #[.int .u8 (8 * (k : Int) + 4 * (ch - 1) + 3), .int .u8 ((z : Int) + 128)] 5)) w.heap.size #[.int .i64 k, .int .i64 ch, .slice (some fa) z fc, .int .i64 0] (.slice (some ⟨wo.heap.size + 1, 0, none⟩) 2 2) (P0 ++ padB 0) (some fa) z fc L) := Lib.hid (by rw [show padB 0 = [] from rfl, List.append_nil]; exact HL.out)
              clear HL
              obtain ⟨M, hM⟩ : ∃ M, M = z - 1 := ⟨_, rfl⟩
              have k1 : wrap64 ((z : Int) - 1) = (M : Int) := by
                rw [show (z : Int) - 1 = (M : Int) by omega]
                exact small64 (by omega)
              have k2 : IntKind.i64.wrap ((z : Int) - 1) = (M : Int) := by rw [wrapEq']; exact k1
              have hM11 : M ≤ 11 := by omega
              have HDL : Hid (L.take M = L.dropLast) := Lib.hid (by rw [List.dropLast_eq_take, hM, HN.out])
              have HMN : Hid (M < z) := Lib.hid (by omega)
              have HK12 := Lib.hid (And.intro k1 k2)
              clear hM
              go_wp2_with fail
              clear k1 k2
              have HP1 : Hid (RcSt w ((wo.alloc (.cells #[.int .u8 (8 * (k : Int) + 4 * (ch - 1))] 5)).alloc (.cells #[.int .u8 (8 * (k : Int) + 4 * (ch - 1) + 3), .int .u8 ((z : Int) + 128)] 5)) w.heap.size #[.int .i64 k, .int .i64 ch, .slice (some fa) z fc, .int .i64 0] (.slice (some ⟨wo.heap.size + 1, 0, none⟩) 2 2) (P0 ++ padB 0 ++ lensB (L.take 0)) (some fa) z fc L) := Lib.hid (by
                have e : lensB (L.take 0) = [] := rfl
                rw [e, List.append_nil]
                exact HPQ.out)
              clear HPQ
              go_loopw [7, 10] (fun v i wr => ∃ j : Nat, j ≤ M ∧ i = .int .i64 j ∧ RcSt w wr w.heap.size #[.int .i64 k, .int .i64 ch, .slice (some fa) z fc, .int .i64 0] v (P0 ++ padB 0 ++ lensB (L.take j)) (some fa) z fc L) (fun _ i _ => M - (intOf i).toNat)
              case atStart => exact ⟨0, by omega, rfl, HP1.out⟩
              case round =>
                clear HP1
                obtain ⟨j, hj, rfl, HS⟩ := hrel
                have HS := Lib.hid HS
                by_cases hlt : j < M
                · obtain ⟨l, hl⟩ : ∃ l, L[j]? = some l := ⟨_, List.getElem?_eq_getElem (by rw [HN.out]; have := HMN.out; omega)⟩
                  obtain ⟨a, X, d, ha, hca, hax⟩ := HF0.out.at_ j l hl
                  simp only [Option.some.injEq] at ha
                  subst ha
                  have hcw := HS.out.kept.cell hca (by simp)
                  have HFL := Lib.hid (lens_take_succ hl)
                  have HLL : Hid (l.length ≤ 1275) := Lib.hid (HSH.out l (List.mem_of_getElem? hl))
                  have HSL : Hid ((P0 ++ padB 0 ++ lensB (L.take j)).length ≤ 100000) := Lib.hid (by
                    have h1 := lens_len (L.take j)
                    have h2 := pad_len (pad := 0) (by omega)
                    have h3 : (L.take j).length ≤ 12 := by simp; omega
                    have h4 := HP0L.out
                    simp only [List.length_append]
                    omega)
                  obtain ⟨q, hq⟩ : ∃ q, q = l.length := ⟨_, rfl⟩
                  rw [← hq] at hcw HLL HFL
                  obtain ⟨BA, bn, bc, hbv⟩ := HS.out.made.shape
                  subst hbv
                  clear hca hax hl hq
                  have hk0 : (0 : Int) ≤ (j : Int) := by omega
                  have hk1 : (j : Int) < (M : Int) := by omega
                  have hk2 : (j : Int) < (z : Int) := by have := HMN.out; omega
                  obtain ⟨k1, k2⟩ := HK12.out
                  go_wp2_with fail
                  clear k1 k2
                  refine (put_calls _ _ _ q HS.out.made HLL.out HSL.out).mono ?_
                  rintro e w3 ⟨v', rfl, m1, m2, m3⟩
                  have HU5 := Lib.hid (HS.out.go (Keep.refl [] _) m1 m2 m3 (by have := HP0L.out; simp only [List.length_append]; omega))
                  clear m1 m2 m3 HS hcw
                  go_wp2_with fail
                  go_roundw
                  case rel => exact ⟨j + 1, by omega, by go_num, by rw [HFL.out, ← List.append_assoc]; exact HU5.out⟩
                  case measure => simp [intOf]; omega
                · obtain rfl : j = M := by omega
                  obtain ⟨k1, k2⟩ := HK12.out
                  go_wp2_with fail
                  go_meet
                  have h := HS.out
                  rw [HDL.out] at h
                  rw [HPRE.out]
                  unfold severalM
                  rw [HU.out, if_pos rfl, HNN.out, ← HP0E.out]
                  exact h
            | false =>
              have hal : al = true := HAU.out
              subst hal
              clear HL1
              have n3 : IntKind.u8.wrap (z : Int) = (z : Int) := by rw [IntKind.wrap_u8]; omega
              have HNN : Hid ((cntN L 0 false : Int) = ((z : Int))) := Lib.hid (by unfold cntN; rw [HN.out]; simp)
              have HL : Hid (RcSt w ((wo.alloc (.cells #[.int .u8 (8 * (k : Int) + 4 * (ch - 1))] 5)).alloc (.cells #[.int .u8 (8 * (k : Int) + 4 * (ch - 1) + 3), .int .u8 ((z : Int))] 5)) w.heap.size #[.int .i64 k, .int .i64 ch, .slice (some fa) z fc, .int .i64 0] (.slice (some ⟨wo.heap.size + 1, 0, none⟩) 2 2) [(8 * (k : Int) + 4 * (ch - 1) + 3), ((z : Int))] (some fa) z fc L) := by
                have kk := (Keep.alloc [] wo (.cells #[.int .u8 (8 * (k : Int) + 4 * (ch - 1))] 5)).trans (Keep.alloc [] (wo.alloc (.cells #[.int .u8 (8 * (k : Int) + 4 * (ch - 1))] 5)) (.cells #[.int .u8 (8 * (k : Int) + 4 * (ch - 1) + 3), .int .u8 ((z : Int))] 5))
                have hm := MadeV.lit (wo.alloc (.cells #[.int .u8 (8 * (k : Int) + 4 * (ch - 1))] 5)) 5 (bytes [(8 * (k : Int) + 4 * (ch - 1) + 3), ((z : Int))]) (by rw [bytes_length]; simp)
                rw [World.size_alloc] at hm
                exact Lib.hid ⟨KO.out.trans kk, HBO.out.keep kk (by simp), hm, (fun b hb => by have h2 := KO.out.size; have hb2 : some (wo.heap.size + 1) = some b := hb; simp only [Option.some.injEq] at hb2; omega), ⟨_, rfl⟩, HF0.out⟩
              obtain ⟨P0, hP0⟩ : ∃ P0, P0 = [(8 * (k : Int) + 4 * (ch - 1) + 3), ((z : Int))] := ⟨_, rfl⟩
              rw [← hP0] at HL
              have HP0L : Hid (P0.length = 2) := Lib.hid (by rw [hP0]; rfl)
              have HP0E := Lib.hid hP0
              have b3 : ((wo.alloc (.cells #[.int .u8 (8 * (k : Int) + 4 * (ch - 1))] 5)).alloc (.cells #[.int .u8 (8 * (k : Int) + 4 * (ch - 1) + 3), .int .u8 ((z : Int))] 5)).cell? ⟨w.heap.size, 3, none⟩ = some (.int .i64 0) := HL.out.bx.cell 3
              clear hP0
              have HPQ : Hid (RcSt w ((wo.alloc (.cells #[.int .u8 (8 * (k : Int) + 4 * (ch - 1))] 5)).alloc (.cells #[.int .u8 (8 * (k : Int) + 4 * (ch - 1) + 3), .int .u8 ((z : Int))] 5)) w.heap.size #[.int .i64 k, .int .i64 ch, .slice (some fa) z fc, .int .i64 0] (.slice (some ⟨wo.heap.size + 1, 0, none⟩) 2 2) (P0 ++ padB 0) (some fa) z fc L) := Lib.hid (by rw [show padB 0 = [] from rfl, List.append_nil]; exact HL.out)
              clear HL
              obtain ⟨M, hM⟩ : ∃ M, M = z - 1 := ⟨_, rfl⟩
              have k1 : wrap64 ((z : Int) - 1) = (M : Int) := by
                rw [show (z : Int) - 1 = (M : Int) by omega]
                exact small64 (by omega)
              have k2 : IntKind.i64.wrap ((z : Int) - 1) = (M : Int) := by rw [wrapEq']; exact k1
              have HK12 := Lib.hid (And.intro k1 k2)
              clear hM
              go_wp2_with fail
              clear k1 k2
              go_loopw [7, 10] (fun v i wr => i = .int .i64 0 ∧ RcSt w wr w.heap.size #[.int .i64 k, .int .i64 ch, .slice (some fa) z fc, .int .i64 0] v (P0 ++ padB 0) (some fa) z fc L) (fun _ _ _ => 0)
              case atStart => exact ⟨rfl, HPQ.out⟩
              case round =>
                clear HPQ
                obtain ⟨rfl, HS⟩ := hrel
                have HS := Lib.hid HS
                by_cases hM : M = 0
                · subst hM
                  obtain ⟨k1, k2⟩ := HK12.out
                  go_wp2_with fail
                  go_meet
                  rw [HPRE.out]
                  unfold severalM
                  rw [HU.out, if_neg (by simp), HNN.out, ← HP0E.out, List.append_nil]
                  exact HS.out
                · have hM1 : (0 : Int) < (M : Int) := by omega
                  obtain ⟨k1, k2⟩ := HK12.out
                  go_wp2_with fail
                  go_meet
                  rw [HPRE.out]
                  unfold severalM
                  rw [HU.out, if_neg (by simp), HNN.out, ← HP0E.out, List.append_nil]
                  exact HS.out
theorem rpack_calls (k : Nat) (ch : Int) (pad : Nat) (FA : Option Addr) (n fc : Nat) (L : List (List Int)) (w : World) (h : FrR w FA n fc L) (hg : goodM k ch L pad = true) :
    Calls Try.prog 19 #[.agg #[.int .i64 k, .int .i64 ch, .slice FA n fc, .int .i64 pad]] w (RetS w (packM k ch L pad)) := by
  rcases Nat.eq_zero_or_pos pad with hp | hp
  · subst hp
    exact rpack_z k ch FA n fc L w h hg
  · exact rpack_p k ch pad FA n fc L w h hg hp
end Go.Proofs.Ytmnknegbbmjcbaa
