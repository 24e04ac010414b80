/- What Pack lays: the plain law's words; toc's several. -/
import Derived.Test.YtmnknegbbmjcbaaT25
namespace Go.Proofs.Ytmnknegbbmjcbaa
open Go.RowKit

def unlikeB (L : List (List Int)) : Bool := anyL (fun q => !decide (q = (L.headD []).length)) L
def lensB (L : List (List Int)) : List Int := (L.map fun l => toldM l.length).flatten
def padB (pad : Nat) : List Int := if 0 < pad then List.replicate (pad / 254) 255 ++ [((pad % 254 : Nat) : Int)] else []
def cntN (L : List (List Int)) (pad : Nat) (u : Bool) : Nat := L.length + (if u = true then 128 else 0) + (if 0 < pad then 64 else 0)
def severalM (h : Int) (L : List (List Int)) (pad : Nat) : List Int :=
  [h, (cntN L pad (unlikeB L) : Int)] ++ padB pad ++ (if unlikeB L = true then lensB L.dropLast else [])
def hdM (cfg : Nat) (ch : Int) : Int := 8 * cfg + 4 * (ch - 1)
def preM (cfg : Nat) (ch : Int) (L : List (List Int)) (pad : Nat) : List Int :=
  if pad = 0 ∧ L.length = 1 then [hdM cfg ch]
  else if pad = 0 ∧ L.length = 2 ∧ unlikeB L = false then [hdM cfg ch + 1]
  else if pad = 0 ∧ L.length = 2 then [hdM cfg ch + 2] ++ toldM (L.headD []).length
  else severalM (hdM cfg ch + 3) L pad
def packM (cfg : Nat) (ch : Int) (L : List (List Int)) (pad : Nat) : List Int := preM cfg ch L pad ++ L.flatten ++ List.replicate pad 0

theorem told_len (n : Nat) : (toldM n).length ≤ 2 := by unfold toldM; split <;> simp
theorem lens_len (L : List (List Int)) : (lensB L).length ≤ 2 * L.length := by
  induction L with
  | nil => simp [lensB]
  | cons l L ih =>
    have h1 := told_len l.length
    simp only [lensB, List.map_cons, List.flatten_cons, List.length_append, List.length_cons] at ih ⊢
    omega
theorem lens_take_succ {L : List (List Int)} {k : Nat} {l : List Int} (h : L[k]? = some l) : lensB (L.take (k + 1)) = lensB (L.take k) ++ toldM l.length := by
  unfold lensB
  rw [List.take_add_one, h]
  simp
theorem pad_len {pad : Nat} (h : pad ≤ 1000) : (padB pad).length ≤ 5 := by
  unfold padB
  split
  · simp; omega
  · simp
theorem MadeV.some_ {w : World} {e : TypeId} {v : Value} {vs : List Value} (h : MadeV w e v vs) (hl : 0 < vs.length) : ∃ b, v.ownBlock = some b := by
  obtain ⟨A, c, _, _, _, _, hn, ho⟩ := h.reads
  cases A with
  | none => have := hn rfl; omega
  | some a => exact ⟨_, ho a rfl⟩
/-- The bytes have grown. -/
theorem PcSt.go {w wr wa w' : World} {pb : Nat} {pc : Array Value} {v v' : Value} {xs ys : List Int} {FA : Option Addr} {n fc : Nat} {L : List (List Int)} (h : PcSt w wr pb pc v xs FA n fc L) (k0 : Keep [] wr wa) (h1 : MadeV w' 5 v' (bytes ys)) (h2 : Keep v.ownBlock.toList wa w')
    (h3 : v'.ownBlock = v.ownBlock ∨ ∀ b, v'.ownBlock = some b → wr.heap.size ≤ b) (hy : 0 < ys.length) : PcSt w w' pb pc v' ys FA n fc L := by
  have z := h.kept.size
  have no : pb ∉ v.ownBlock.toList := fun hm => by
    simp only [Option.mem_toList] at hm
    exact h.made.ne h.bx (by decide) pb hm rfl
  refine ⟨(h.kept.trans k0).trans' h2 (by simp) (fun b hb => by simp only [Option.mem_toList] at hb; exact .inr (h.own b hb)), (h.bx.keep k0 (by simp)).keep h2 no, h1, fun b hb => ?_, h1.some_ (by rw [bytes_length]; exact hy), h.fr⟩
  rcases h3 with e | e
  · exact h.own b (by rw [← e]; exact hb)
  · have := e b hb
    omega
theorem ge_of {v v' : Value} {s t : Nat} (h : v'.ownBlock = v.ownBlock ∨ v'.ownBlock = some t) (hs : s ≤ t) : v'.ownBlock = v.ownBlock ∨ ∀ b, v'.ownBlock = some b → s ≤ b := by
  rcases h with e | e
  · exact .inl e
  · refine .inr (fun b hb => ?_)
    rw [hb] at e
    simp only [Option.some.injEq] at e
    omega
theorem u8_small {n : Nat} (h : n ≤ 255) : IntKind.u8.wrap (n : Int) = (n : Int) := small8 h
def RetS (w : World) (xs : List Int) (e : Ending) (w' : World) : Prop :=
  ∃ v, e = .returned v ∧ MadeV w' 5 v (bytes xs) ∧ Keep [] w w' ∧ (∀ b, v.ownBlock = some b → w.heap.size ≤ b)
set_option maxRecDepth 100000
set_option maxHeartbeats 4000000
theorem several_tp (w : World) (h : Int) (cfg : Nat) (ch : Int) (pad : Nat) (FA : Option Addr) (n fc : Nat) (L : List (List Int)) (hf : FrR w FA n fc L) (hu : unlikeB L = true) (hs : ∀ l ∈ L, l.length ≤ 1275) (hn1 : 1 ≤ n) (hn2 : n ≤ 12) (hp1 : pad ≤ 1000) (hp : 0 < pad) :
    Calls Try.prog 32 #[.int .u8 h, .agg #[.int .i64 cfg, .int .i64 ch, .slice FA n fc, .int .i64 pad], .bool true] w (RetS w (severalM h L pad)) := by
  have HF := Lib.hid hf
  have HU0 := Lib.hid hu
  have HSH := Lib.hid hs
  have HN := Lib.hid hf.ln
  have hcp := hf.cp
  have hmo := hf.most
  obtain ⟨NV, hNV⟩ : ∃ NV, NV = ((n : Int) + 128 + 64) := ⟨_, rfl⟩
  have HNN : Hid ((cntN L pad true : Int) = NV) := Lib.hid (by rw [hNV]; unfold cntN; rw [hf.ln]; simp [hp])
  have n3 : IntKind.u8.wrap ((n : Int) + 128 + 64) = ((n : Int) + 128 + 64) := by rw [IntKind.wrap_u8]; omega
  have hp0 : (0 : Int) < (pad : Int) := by omega
  have HP : Hid (PcSt w ((w.alloc (.cells #[.int .i64 cfg, .int .i64 ch, .slice FA n fc, .int .i64 pad] 25)).alloc (.cells #[.int .u8 h, .int .u8 NV] 5)) w.heap.size #[.int .i64 cfg, .int .i64 ch, .slice FA n fc, .int .i64 pad] (.slice (some ⟨w.heap.size + 1, 0, none⟩) 2 2) [h, NV] FA n fc L) := by
    have k1 := Keep.alloc [] w (.cells #[.int .i64 cfg, .int .i64 ch, .slice FA n fc, .int .i64 pad] 25)
    have k2 := Keep.alloc [] (w.alloc (.cells #[.int .i64 cfg, .int .i64 ch, .slice FA n fc, .int .i64 pad] 25)) (.cells #[.int .u8 h, .int .u8 NV] 5)
    have hm := MadeV.lit (w.alloc (.cells #[.int .i64 cfg, .int .i64 ch, .slice FA n fc, .int .i64 pad] 25)) 5 (bytes [h, NV]) (by rw [bytes_length]; simp)
    rw [World.size_alloc] at hm
    exact Lib.hid ⟨k1.trans k2, (Blk.new w _ _).keep k2 (by simp), hm, (fun b hb => by have hb2 : some (w.heap.size + 1) = some b := hb; simp only [Option.some.injEq] at hb2; omega), ⟨_, rfl⟩, hf⟩
  obtain ⟨P0, hP0⟩ : ∃ P0, P0 = [h, NV] := ⟨_, rfl⟩
  rw [← hP0] at HP
  have HP0L : Hid (P0.length = 2) := Lib.hid (by rw [hP0]; rfl)
  have HP0E := Lib.hid hP0
  subst hNV
  clear hf hu hs hP0
  go_enter Try.func32, Try.ntmps32
  obtain ⟨K, hK⟩ : ∃ K, K = pad / 254 := ⟨_, rfl⟩
  obtain ⟨r, hr⟩ : ∃ r, r = pad % 254 := ⟨_, rfl⟩
  have hK4 : K ≤ 3 := by omega
  have hr4 : r ≤ 253 := by omega
  have q1 : wrap64 ((pad : Int) / 254) = (K : Int) := by
    rw [show (pad : Int) / 254 = (K : Int) by omega]
    exact small64 (by omega)
  have q2 : IntKind.i64.wrap ((pad : Int) / 254) = (K : Int) := by rw [wrapEq']; exact q1
  have q3 : IntKind.u8.wrap ((pad : Int) % 254) = (r : Int) := by
    rw [show (pad : Int) % 254 = (r : Int) by omega]
    exact u8_small (by omega)
  have HPB : Hid (padB pad = List.replicate K 255 ++ [(r : Int)]) := Lib.hid (by unfold padB; rw [if_pos hp, hK, hr])
  clear hK hr
  have HQ3 := Lib.hid q3
  go_wp2_with fail
  clear n3 q1 q2 q3
  have HP0 : Hid (PcSt w ((w.alloc (.cells #[.int .i64 cfg, .int .i64 ch, .slice FA n fc, .int .i64 pad] 25)).alloc (.cells #[.int .u8 h, .int .u8 ((n : Int) + 128 + 64)] 5)) w.heap.size #[.int .i64 cfg, .int .i64 ch, .slice FA n fc, .int .i64 pad] (.slice (some ⟨w.heap.size + 1, 0, none⟩) 2 2) (P0 ++ List.replicate 0 255) FA n fc L) := Lib.hid (by rw [show List.replicate 0 (255 : Int) = [] from rfl, List.append_nil]; exact HP.out)
  go_loopw [8, 32] (fun v i wr => ∃ j : Nat, j ≤ K ∧ i = .int .i64 j ∧ PcSt w wr w.heap.size #[.int .i64 cfg, .int .i64 ch, .slice FA n fc, .int .i64 pad] v (P0 ++ List.replicate j 255) FA n fc L) (fun _ i _ => K - (intOf i).toNat)
  case atStart => exact ⟨0, by omega, rfl, HP0.out⟩
  case round =>
    clear HP0 HP
    obtain ⟨j, hj, rfl, HS⟩ := hrel
    have HS := Lib.hid HS
    by_cases hlt : j < K
    · have HTA : Hid (MadeV (wr.alloc (.cells #[.int .u8 255] 5)) 5 _ _) := Lib.hid (HS.out.made.keep0 (Keep.alloc [] _ _))
      have HRD : Hid (RdV (wr.alloc (.cells #[.int .u8 255] 5)) (some ⟨wr.heap.size, 0, none⟩) (bytes [255])) := Lib.hid (rdV_lit wr 5 (bytes [255]))
      go_wp2_with (at_builtin; refine append_v slB (by first | rfl | kernel_rfl) _ _ rfl _ (bytes (P0 ++ List.replicate j 255)) rfl HTA.out _ _ _ (bytes [255]) rfl rfl HRD.out (bytes_one _) (by have := HP0L.out; rw [bytes_length]; simp; omega) (by have := HP0L.out; rw [bytes_length]; simp; omega) (fun hA => by cases hA) ?_)
      intro v' w3 m1 m2 m3
      rw [← bytes_append, List.append_assoc] at m1
      have HU := Lib.hid (HS.out.go (Keep.alloc [] _ _) m1 m2 (ge_of m3 (by simp)) (by have := HP0L.out; simp only [List.length_append]; omega))
      clear m1 m2 m3 HTA HRD HS
      go_wp2_with fail
      go_roundw
      case rel => exact ⟨j + 1, by omega, by go_num, by rw [show List.replicate (j + 1) (255 : Int) = List.replicate j 255 ++ [255] from List.replicate_succ']; exact HU.out⟩
      case measure => simp [intOf]; omega
    · obtain rfl : j = K := by omega
      have HTA : Hid (MadeV (wr.alloc (.cells #[.int .u8 r] 5)) 5 _ _) := Lib.hid (HS.out.made.keep0 (Keep.alloc [] _ _))
      have HRD : Hid (RdV (wr.alloc (.cells #[.int .u8 r] 5)) (some ⟨wr.heap.size, 0, none⟩) (bytes [(r : Int)])) := Lib.hid (rdV_lit wr 5 (bytes [(r : Int)]))
      have d3 : wr.cell? ⟨w.heap.size, 3, none⟩ = some (.int .i64 pad) := HS.out.bx.cell 3
      have q3 := HQ3.out
      go_wp2_with (at_builtin; refine append_v slB (by first | rfl | kernel_rfl) _ _ rfl _ (bytes (P0 ++ List.replicate j 255)) rfl HTA.out _ _ _ (bytes [(r : Int)]) rfl rfl HRD.out (bytes_one _) (by have := HP0L.out; rw [bytes_length]; simp; omega) (by have := HP0L.out; rw [bytes_length]; simp; omega) (fun hA => by cases hA) ?_)
      intro v' w3 m1 m2 m3
      rw [← bytes_append, List.append_assoc, ← HPB.out] at m1
      have HPQ := Lib.hid (HS.out.go (Keep.alloc [] _ _) m1 m2 (ge_of m3 (by simp)) (by have := HP0L.out; simp only [List.length_append]; omega))
      clear m1 m2 m3 HTA HRD HS d3 q3 hlt
      obtain ⟨M, hM⟩ : ∃ M, M = n - 1 := ⟨_, rfl⟩
      have k1 : wrap64 ((n : Int) - 1) = (M : Int) := by
        rw [show (n : Int) - 1 = (M : Int) by omega]
        exact small64 (by omega)
      have k2 : IntKind.i64.wrap ((n : Int) - 1) = (M : Int) := by rw [wrapEq']; exact k1
      have hct := cut_to_v slF FA n fc M (by omega) hcp
      have hM11 : M ≤ 11 := by omega
      have HDL : Hid (L.take M = L.dropLast) := Lib.hid (by rw [List.dropLast_eq_take, hM, HN.out])
      have HMN : Hid (M < n) := Lib.hid (by omega)
      have d2 : w3.cell? ⟨w.heap.size, 2, none⟩ = some (.slice FA n fc) := HPQ.out.bx.cell 2
      have hcp2 : M ≤ fc := by omega
      clear hM
      go_wp2_with fail
      clear k1 k2 hct d2
      have HP1 : Hid (PcSt w w3 w.heap.size #[.int .i64 cfg, .int .i64 ch, .slice FA n fc, .int .i64 pad] v' (P0 ++ padB pad ++ lensB (L.take 0)) FA n fc L) := Lib.hid (by
        have e : lensB (L.take 0) = [] := rfl
        rw [e, List.append_nil]
        exact HPQ.out)
      clear HPQ
      go_loopw [8, 54] (fun v i wr => ∃ j : Nat, j ≤ M ∧ i = .int .i64 j ∧ PcSt w wr w.heap.size #[.int .i64 cfg, .int .i64 ch, .slice FA n fc, .int .i64 pad] v (P0 ++ padB pad ++ lensB (L.take j)) FA n fc L) (fun _ i _ => M - (intOf i).toNat)
      case atStart => exact ⟨0, by omega, rfl, HP1.out⟩
      case round =>
        clear HP1
        obtain ⟨j, hj, rfl, HS⟩ := hrel
        have HS := Lib.hid HS
        by_cases hlt : j < M
        · obtain ⟨l, hl⟩ : ∃ l, L[j]? = some l := ⟨_, List.getElem?_eq_getElem (by rw [HN.out]; have := HMN.out; omega)⟩
          obtain ⟨a, X, d, rfl, hca, hax⟩ := HF.out.at_ j l hl
          have hcw := HS.out.kept.cell hca (by simp)
          have HFL := Lib.hid (lens_take_succ hl)
          have HLL : Hid (l.length ≤ 1275) := Lib.hid (HSH.out l (List.mem_of_getElem? hl))
          have HSL : Hid ((P0 ++ padB pad ++ lensB (L.take j)).length ≤ 100000) := Lib.hid (by
            have h1 := lens_len (L.take j)
            have h2 := pad_len hp1
            have h3 : (L.take j).length ≤ 12 := by simp; omega
            have h4 := HP0L.out
            simp only [List.length_append]
            omega)
          obtain ⟨q, hq⟩ : ∃ q, q = l.length := ⟨_, rfl⟩
          rw [← hq] at hcw HLL HFL
          obtain ⟨BA, bn, bc, hbv⟩ := HS.out.made.shape
          subst hbv
          clear hca hax hl hq
          have hk0 : (0 : Int) ≤ (j : Int) := by omega
          have hk1 : (j : Int) < (M : Int) := by omega
          go_wp2_with fail
          refine (told_calls _ _ _ q HS.out.made HLL.out HSL.out).mono ?_
          rintro e w3 ⟨v', rfl, m1, m2, m3⟩
          have HU := Lib.hid (HS.out.go (Keep.refl [] _) m1 m2 m3 (by have := HP0L.out; simp only [List.length_append]; omega))
          clear m1 m2 m3 HS hcw
          go_wp2_with fail
          go_roundw
          case rel => exact ⟨j + 1, by omega, by go_num, by rw [HFL.out, ← List.append_assoc]; exact HU.out⟩
          case measure => simp [intOf]; omega
        · obtain rfl : j = M := by omega
          go_wp2_with fail
          go_ret
          refine ⟨_, rfl, ?_, HS.out.kept, HS.out.own⟩
          have h := HS.out.made
          rw [HDL.out] at h
          unfold severalM
          rw [HU0.out, if_pos rfl, HNN.out, ← HP0E.out]
          exact h
theorem several_tn (w : World) (h : Int) (cfg : Nat) (ch : Int) (FA : Option Addr) (n fc : Nat) (L : List (List Int)) (hf : FrR w FA n fc L) (hu : unlikeB L = true) (hs : ∀ l ∈ L, l.length ≤ 1275) (hn1 : 1 ≤ n) (hn2 : n ≤ 12) :
    Calls Try.prog 32 #[.int .u8 h, .agg #[.int .i64 cfg, .int .i64 ch, .slice FA n fc, .int .i64 0], .bool true] w (RetS w (severalM h L 0)) := by
  have HF := Lib.hid hf
  have HU0 := Lib.hid hu
  have HSH := Lib.hid hs
  have HN := Lib.hid hf.ln
  have hcp := hf.cp
  have hmo := hf.most
  obtain ⟨NV, hNV⟩ : ∃ NV, NV = ((n : Int) + 128) := ⟨_, rfl⟩
  have HNN : Hid ((cntN L 0 true : Int) = NV) := Lib.hid (by rw [hNV]; unfold cntN; rw [hf.ln]; simp)
  have n3 : IntKind.u8.wrap ((n : Int) + 128) = ((n : Int) + 128) := by rw [IntKind.wrap_u8]; omega
  
  have HP : Hid (PcSt w ((w.alloc (.cells #[.int .i64 cfg, .int .i64 ch, .slice FA n fc, .int .i64 0] 25)).alloc (.cells #[.int .u8 h, .int .u8 NV] 5)) w.heap.size #[.int .i64 cfg, .int .i64 ch, .slice FA n fc, .int .i64 0] (.slice (some ⟨w.heap.size + 1, 0, none⟩) 2 2) [h, NV] FA n fc L) := by
    have k1 := Keep.alloc [] w (.cells #[.int .i64 cfg, .int .i64 ch, .slice FA n fc, .int .i64 0] 25)
    have k2 := Keep.alloc [] (w.alloc (.cells #[.int .i64 cfg, .int .i64 ch, .slice FA n fc, .int .i64 0] 25)) (.cells #[.int .u8 h, .int .u8 NV] 5)
    have hm := MadeV.lit (w.alloc (.cells #[.int .i64 cfg, .int .i64 ch, .slice FA n fc, .int .i64 0] 25)) 5 (bytes [h, NV]) (by rw [bytes_length]; simp)
    rw [World.size_alloc] at hm
    exact Lib.hid ⟨k1.trans k2, (Blk.new w _ _).keep k2 (by simp), hm, (fun b hb => by have hb2 : some (w.heap.size + 1) = some b := hb; simp only [Option.some.injEq] at hb2; omega), ⟨_, rfl⟩, hf⟩
  obtain ⟨P0, hP0⟩ : ∃ P0, P0 = [h, NV] := ⟨_, rfl⟩
  rw [← hP0] at HP
  have HP0L : Hid (P0.length = 2) := Lib.hid (by rw [hP0]; rfl)
  have HP0E := Lib.hid hP0
  subst hNV
  clear hf hu hs hP0
  go_enter Try.func32, Try.ntmps32
  have HPQ : Hid (PcSt w ((w.alloc (.cells #[.int .i64 cfg, .int .i64 ch, .slice FA n fc, .int .i64 0] 25)).alloc (.cells #[.int .u8 h, .int .u8 ((n : Int) + 128)] 5)) w.heap.size #[.int .i64 cfg, .int .i64 ch, .slice FA n fc, .int .i64 0] (.slice (some ⟨w.heap.size + 1, 0, none⟩) 2 2) (P0 ++ padB 0) FA n fc L) := Lib.hid (by rw [show padB 0 = [] from rfl, List.append_nil]; exact HP.out)
  clear HP
  obtain ⟨M, hM⟩ : ∃ M, M = n - 1 := ⟨_, rfl⟩
  have k1 : wrap64 ((n : Int) - 1) = (M : Int) := by
    rw [show (n : Int) - 1 = (M : Int) by omega]
    exact small64 (by omega)
  have k2 : IntKind.i64.wrap ((n : Int) - 1) = (M : Int) := by rw [wrapEq']; exact k1
  have hct := cut_to_v slF FA n fc M (by omega) hcp
  have hM11 : M ≤ 11 := by omega
  have HDL : Hid (L.take M = L.dropLast) := Lib.hid (by rw [List.dropLast_eq_take, hM, HN.out])
  have HMN : Hid (M < n) := Lib.hid (by omega)
  have d2 : ((w.alloc (.cells #[.int .i64 cfg, .int .i64 ch, .slice FA n fc, .int .i64 0] 25)).alloc (.cells #[.int .u8 h, .int .u8 ((n : Int) + 128)] 5)).cell? ⟨w.heap.size, 2, none⟩ = some (.slice FA n fc) := HPQ.out.bx.cell 2
  have hcp2 : M ≤ fc := by omega
  clear hM
  go_wp2_with fail
  clear k1 k2 hct d2 n3
  have HP1 : Hid (PcSt w ((w.alloc (.cells #[.int .i64 cfg, .int .i64 ch, .slice FA n fc, .int .i64 0] 25)).alloc (.cells #[.int .u8 h, .int .u8 ((n : Int) + 128)] 5)) w.heap.size #[.int .i64 cfg, .int .i64 ch, .slice FA n fc, .int .i64 0] (.slice (some ⟨w.heap.size + 1, 0, none⟩) 2 2) (P0 ++ padB 0 ++ lensB (L.take 0)) FA n fc L) := Lib.hid (by
    have e : lensB (L.take 0) = [] := rfl
    rw [e, List.append_nil]
    exact HPQ.out)
  clear HPQ
  go_loopw [8, 54] (fun v i wr => ∃ j : Nat, j ≤ M ∧ i = .int .i64 j ∧ PcSt w wr w.heap.size #[.int .i64 cfg, .int .i64 ch, .slice FA n fc, .int .i64 0] v (P0 ++ padB 0 ++ lensB (L.take j)) FA n fc L) (fun _ i _ => M - (intOf i).toNat)
  case atStart => exact ⟨0, by omega, rfl, HP1.out⟩
  case round =>
    clear HP1
    obtain ⟨j, hj, rfl, HS⟩ := hrel
    have HS := Lib.hid HS
    by_cases hlt : j < M
    · obtain ⟨l, hl⟩ : ∃ l, L[j]? = some l := ⟨_, List.getElem?_eq_getElem (by rw [HN.out]; have := HMN.out; omega)⟩
      obtain ⟨a, X, d, rfl, hca, hax⟩ := HF.out.at_ j l hl
      have hcw := HS.out.kept.cell hca (by simp)
      have HFL := Lib.hid (lens_take_succ hl)
      have HLL : Hid (l.length ≤ 1275) := Lib.hid (HSH.out l (List.mem_of_getElem? hl))
      have HSL : Hid ((P0 ++ padB 0 ++ lensB (L.take j)).length ≤ 100000) := Lib.hid (by
        have h1 := lens_len (L.take j)
        have h2 := pad_len (pad := 0) (by omega)
        have h3 : (L.take j).length ≤ 12 := by simp; omega
        have h4 := HP0L.out
        simp only [List.length_append]
        omega)
      obtain ⟨q, hq⟩ : ∃ q, q = l.length := ⟨_, rfl⟩
      rw [← hq] at hcw HLL HFL
      obtain ⟨BA, bn, bc, hbv⟩ := HS.out.made.shape
      subst hbv
      clear hca hax hl hq
      have hk0 : (0 : Int) ≤ (j : Int) := by omega
      have hk1 : (j : Int) < (M : Int) := by omega
      go_wp2_with fail
      refine (told_calls _ _ _ q HS.out.made HLL.out HSL.out).mono ?_
      rintro e w3 ⟨v', rfl, m1, m2, m3⟩
      have HU := Lib.hid (HS.out.go (Keep.refl [] _) m1 m2 m3 (by have := HP0L.out; simp only [List.length_append]; omega))
      clear m1 m2 m3 HS hcw
      go_wp2_with fail
      go_roundw
      case rel => exact ⟨j + 1, by omega, by go_num, by rw [HFL.out, ← List.append_assoc]; exact HU.out⟩
      case measure => simp [intOf]; omega
    · obtain rfl : j = M := by omega
      go_wp2_with fail
      go_ret
      refine ⟨_, rfl, ?_, HS.out.kept, HS.out.own⟩
      have h := HS.out.made
      rw [HDL.out] at h
      unfold severalM
      rw [HU0.out, if_pos rfl, HNN.out, ← HP0E.out]
      exact h
theorem several_fp (w : World) (h : Int) (cfg : Nat) (ch : Int) (pad : Nat) (FA : Option Addr) (n fc : Nat) (L : List (List Int)) (hf : FrR w FA n fc L) (hu : unlikeB L = false) (hs : ∀ l ∈ L, l.length ≤ 1275) (hn1 : 1 ≤ n) (hn2 : n ≤ 12) (hp1 : pad ≤ 1000) (hp : 0 < pad) :
    Calls Try.prog 32 #[.int .u8 h, .agg #[.int .i64 cfg, .int .i64 ch, .slice FA n fc, .int .i64 pad], .bool false] w (RetS w (severalM h L pad)) := by
  have HF := Lib.hid hf
  have HU0 := Lib.hid hu
  have HSH := Lib.hid hs
  have HN := Lib.hid hf.ln
  have hcp := hf.cp
  have hmo := hf.most
  obtain ⟨NV, hNV⟩ : ∃ NV, NV = ((n : Int) + 64) := ⟨_, rfl⟩
  have HNN : Hid ((cntN L pad false : Int) = NV) := Lib.hid (by rw [hNV]; unfold cntN; rw [hf.ln]; simp [hp])
  have n3 : IntKind.u8.wrap ((n : Int) + 64) = ((n : Int) + 64) := by rw [IntKind.wrap_u8]; omega
  have hp0 : (0 : Int) < (pad : Int) := by omega
  have HP : Hid (PcSt w ((w.alloc (.cells #[.int .i64 cfg, .int .i64 ch, .slice FA n fc, .int .i64 pad] 25)).alloc (.cells #[.int .u8 h, .int .u8 NV] 5)) w.heap.size #[.int .i64 cfg, .int .i64 ch, .slice FA n fc, .int .i64 pad] (.slice (some ⟨w.heap.size + 1, 0, none⟩) 2 2) [h, NV] FA n fc L) := by
    have k1 := Keep.alloc [] w (.cells #[.int .i64 cfg, .int .i64 ch, .slice FA n fc, .int .i64 pad] 25)
    have k2 := Keep.alloc [] (w.alloc (.cells #[.int .i64 cfg, .int .i64 ch, .slice FA n fc, .int .i64 pad] 25)) (.cells #[.int .u8 h, .int .u8 NV] 5)
    have hm := MadeV.lit (w.alloc (.cells #[.int .i64 cfg, .int .i64 ch, .slice FA n fc, .int .i64 pad] 25)) 5 (bytes [h, NV]) (by rw [bytes_length]; simp)
    rw [World.size_alloc] at hm
    exact Lib.hid ⟨k1.trans k2, (Blk.new w _ _).keep k2 (by simp), hm, (fun b hb => by have hb2 : some (w.heap.size + 1) = some b := hb; simp only [Option.some.injEq] at hb2; omega), ⟨_, rfl⟩, hf⟩
  obtain ⟨P0, hP0⟩ : ∃ P0, P0 = [h, NV] := ⟨_, rfl⟩
  rw [← hP0] at HP
  have HP0L : Hid (P0.length = 2) := Lib.hid (by rw [hP0]; rfl)
  have HP0E := Lib.hid hP0
  subst hNV
  clear hf hu hs hP0
  go_enter Try.func32, Try.ntmps32
  obtain ⟨K, hK⟩ : ∃ K, K = pad / 254 := ⟨_, rfl⟩
  obtain ⟨r, hr⟩ : ∃ r, r = pad % 254 := ⟨_, rfl⟩
  have hK4 : K ≤ 3 := by omega
  have hr4 : r ≤ 253 := by omega
  have q1 : wrap64 ((pad : Int) / 254) = (K : Int) := by
    rw [show (pad : Int) / 254 = (K : Int) by omega]
    exact small64 (by omega)
  have q2 : IntKind.i64.wrap ((pad : Int) / 254) = (K : Int) := by rw [wrapEq']; exact q1
  have q3 : IntKind.u8.wrap ((pad : Int) % 254) = (r : Int) := by
    rw [show (pad : Int) % 254 = (r : Int) by omega]
    exact u8_small (by omega)
  have HPB : Hid (padB pad = List.replicate K 255 ++ [(r : Int)]) := Lib.hid (by unfold padB; rw [if_pos hp, hK, hr])
  clear hK hr
  have HQ3 := Lib.hid q3
  go_wp2_with fail
  clear n3 q1 q2 q3
  have HP0 : Hid (PcSt w ((w.alloc (.cells #[.int .i64 cfg, .int .i64 ch, .slice FA n fc, .int .i64 pad] 25)).alloc (.cells #[.int .u8 h, .int .u8 ((n : Int) + 64)] 5)) w.heap.size #[.int .i64 cfg, .int .i64 ch, .slice FA n fc, .int .i64 pad] (.slice (some ⟨w.heap.size + 1, 0, none⟩) 2 2) (P0 ++ List.replicate 0 255) FA n fc L) := Lib.hid (by rw [show List.replicate 0 (255 : Int) = [] from rfl, List.append_nil]; exact HP.out)
  go_loopw [8, 32] (fun v i wr => ∃ j : Nat, j ≤ K ∧ i = .int .i64 j ∧ PcSt w wr w.heap.size #[.int .i64 cfg, .int .i64 ch, .slice FA n fc, .int .i64 pad] v (P0 ++ List.replicate j 255) FA n fc L) (fun _ i _ => K - (intOf i).toNat)
  case atStart => exact ⟨0, by omega, rfl, HP0.out⟩
  case round =>
    clear HP0 HP
    obtain ⟨j, hj, rfl, HS⟩ := hrel
    have HS := Lib.hid HS
    by_cases hlt : j < K
    · have HTA : Hid (MadeV (wr.alloc (.cells #[.int .u8 255] 5)) 5 _ _) := Lib.hid (HS.out.made.keep0 (Keep.alloc [] _ _))
      have HRD : Hid (RdV (wr.alloc (.cells #[.int .u8 255] 5)) (some ⟨wr.heap.size, 0, none⟩) (bytes [255])) := Lib.hid (rdV_lit wr 5 (bytes [255]))
      go_wp2_with (at_builtin; refine append_v slB (by first | rfl | kernel_rfl) _ _ rfl _ (bytes (P0 ++ List.replicate j 255)) rfl HTA.out _ _ _ (bytes [255]) rfl rfl HRD.out (bytes_one _) (by have := HP0L.out; rw [bytes_length]; simp; omega) (by have := HP0L.out; rw [bytes_length]; simp; omega) (fun hA => by cases hA) ?_)
      intro v' w3 m1 m2 m3
      rw [← bytes_append, List.append_assoc] at m1
      have HU := Lib.hid (HS.out.go (Keep.alloc [] _ _) m1 m2 (ge_of m3 (by simp)) (by have := HP0L.out; simp only [List.length_append]; omega))
      clear m1 m2 m3 HTA HRD HS
      go_wp2_with fail
      go_roundw
      case rel => exact ⟨j + 1, by omega, by go_num, by rw [show List.replicate (j + 1) (255 : Int) = List.replicate j 255 ++ [255] from List.replicate_succ']; exact HU.out⟩
      case measure => simp [intOf]; omega
    · obtain rfl : j = K := by omega
      have HTA : Hid (MadeV (wr.alloc (.cells #[.int .u8 r] 5)) 5 _ _) := Lib.hid (HS.out.made.keep0 (Keep.alloc [] _ _))
      have HRD : Hid (RdV (wr.alloc (.cells #[.int .u8 r] 5)) (some ⟨wr.heap.size, 0, none⟩) (bytes [(r : Int)])) := Lib.hid (rdV_lit wr 5 (bytes [(r : Int)]))
      have d3 : wr.cell? ⟨w.heap.size, 3, none⟩ = some (.int .i64 pad) := HS.out.bx.cell 3
      have q3 := HQ3.out
      go_wp2_with (at_builtin; refine append_v slB (by first | rfl | kernel_rfl) _ _ rfl _ (bytes (P0 ++ List.replicate j 255)) rfl HTA.out _ _ _ (bytes [(r : Int)]) rfl rfl HRD.out (bytes_one _) (by have := HP0L.out; rw [bytes_length]; simp; omega) (by have := HP0L.out; rw [bytes_length]; simp; omega) (fun hA => by cases hA) ?_)
      intro v' w3 m1 m2 m3
      rw [← bytes_append, List.append_assoc, ← HPB.out] at m1
      have HPQ := Lib.hid (HS.out.go (Keep.alloc [] _ _) m1 m2 (ge_of m3 (by simp)) (by have := HP0L.out; simp only [List.length_append]; omega))
      clear m1 m2 m3 HTA HRD HS d3 q3 hlt
      go_wp2_with fail
      go_ret
      refine ⟨_, rfl, ?_, HPQ.out.kept, HPQ.out.own⟩
      unfold severalM
      rw [HU0.out, if_neg (by simp), HNN.out, ← HP0E.out, List.append_nil]
      exact HPQ.out.made
theorem several_fn (w : World) (h : Int) (cfg : Nat) (ch : Int) (FA : Option Addr) (n fc : Nat) (L : List (List Int)) (hf : FrR w FA n fc L) (hu : unlikeB L = false) (hs : ∀ l ∈ L, l.length ≤ 1275) (hn1 : 1 ≤ n) (hn2 : n ≤ 12) :
    Calls Try.prog 32 #[.int .u8 h, .agg #[.int .i64 cfg, .int .i64 ch, .slice FA n fc, .int .i64 0], .bool false] w (RetS w (severalM h L 0)) := by
  have HF := Lib.hid hf
  have HU0 := Lib.hid hu
  have HSH := Lib.hid hs
  have HN := Lib.hid hf.ln
  have hcp := hf.cp
  have hmo := hf.most
  obtain ⟨NV, hNV⟩ : ∃ NV, NV = ((n : Int)) := ⟨_, rfl⟩
  have HNN : Hid ((cntN L 0 false : Int) = NV) := Lib.hid (by rw [hNV]; unfold cntN; rw [hf.ln]; simp)
  have n3 : IntKind.u8.wrap ((n : Int)) = ((n : Int)) := by rw [IntKind.wrap_u8]; omega
  
  have HP : Hid (PcSt w ((w.alloc (.cells #[.int .i64 cfg, .int .i64 ch, .slice FA n fc, .int .i64 0] 25)).alloc (.cells #[.int .u8 h, .int .u8 NV] 5)) w.heap.size #[.int .i64 cfg, .int .i64 ch, .slice FA n fc, .int .i64 0] (.slice (some ⟨w.heap.size + 1, 0, none⟩) 2 2) [h, NV] FA n fc L) := by
    have k1 := Keep.alloc [] w (.cells #[.int .i64 cfg, .int .i64 ch, .slice FA n fc, .int .i64 0] 25)
    have k2 := Keep.alloc [] (w.alloc (.cells #[.int .i64 cfg, .int .i64 ch, .slice FA n fc, .int .i64 0] 25)) (.cells #[.int .u8 h, .int .u8 NV] 5)
    have hm := MadeV.lit (w.alloc (.cells #[.int .i64 cfg, .int .i64 ch, .slice FA n fc, .int .i64 0] 25)) 5 (bytes [h, NV]) (by rw [bytes_length]; simp)
    rw [World.size_alloc] at hm
    exact Lib.hid ⟨k1.trans k2, (Blk.new w _ _).keep k2 (by simp), hm, (fun b hb => by have hb2 : some (w.heap.size + 1) = some b := hb; simp only [Option.some.injEq] at hb2; omega), ⟨_, rfl⟩, hf⟩
  obtain ⟨P0, hP0⟩ : ∃ P0, P0 = [h, NV] := ⟨_, rfl⟩
  rw [← hP0] at HP
  have HP0L : Hid (P0.length = 2) := Lib.hid (by rw [hP0]; rfl)
  have HP0E := Lib.hid hP0
  subst hNV
  clear hf hu hs hP0
  go_enter Try.func32, Try.ntmps32
  have HPQ : Hid (PcSt w ((w.alloc (.cells #[.int .i64 cfg, .int .i64 ch, .slice FA n fc, .int .i64 0] 25)).alloc (.cells #[.int .u8 h, .int .u8 ((n : Int))] 5)) w.heap.size #[.int .i64 cfg, .int .i64 ch, .slice FA n fc, .int .i64 0] (.slice (some ⟨w.heap.size + 1, 0, none⟩) 2 2) (P0 ++ padB 0) FA n fc L) := Lib.hid (by rw [show padB 0 = [] from rfl, List.append_nil]; exact HP.out)
  clear HP
  go_wp2_with fail
  go_ret
  refine ⟨_, rfl, ?_, HPQ.out.kept, HPQ.out.own⟩
  unfold severalM
  rw [HU0.out, if_neg (by simp), HNN.out, ← HP0E.out, List.append_nil]
  exact HPQ.out.made
theorem several_calls (w : World) (h : Int) (cfg : Nat) (ch : Int) (pad : Nat) (FA : Option Addr) (n fc : Nat) (L : List (List Int)) (u : Bool) (hf : FrR w FA n fc L) (hu : unlikeB L = u) (hs : ∀ l ∈ L, l.length ≤ 1275) (hn1 : 1 ≤ n) (hn2 : n ≤ 12) (hp1 : pad ≤ 1000) :
    Calls Try.prog 32 #[.int .u8 h, .agg #[.int .i64 cfg, .int .i64 ch, .slice FA n fc, .int .i64 pad], .bool u] w (RetS w (severalM h L pad)) := by
  rcases Nat.eq_zero_or_pos pad with hp | hp
  · subst hp
    cases u with
    | true => exact several_tn w h cfg ch FA n fc L hf hu hs hn1 hn2
    | false => exact several_fn w h cfg ch FA n fc L hf hu hs hn1 hn2
  · cases u with
    | true => exact several_tp w h cfg ch pad FA n fc L hf hu hs hn1 hn2 hp1 hp
    | false => exact several_fp w h cfg ch pad FA n fc L hf hu hs hn1 hn2 hp1 hp
end Go.Proofs.Ytmnknegbbmjcbaa
