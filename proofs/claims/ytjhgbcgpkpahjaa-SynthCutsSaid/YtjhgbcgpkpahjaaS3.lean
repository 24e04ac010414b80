/- A voice: New, Reset, Copy, Same. -/
import Derived.Test.YtjhgbcgpkpahjaaS2
namespace Go.Proofs.Ytjhgbcgpkpahjaa
open Go.RowKit

/-- A voice's cells. -/
def vcells (r o : List Int) : Array Value := (ints r ++ ints o).toArray
structure Vc where
  r : List Int
  o : List Int
structure IsV (w : World) (b : Nat) (s : Vc) : Prop where
  blk : Blk w b (vcells s.r s.o) 46
  lr : s.r.length = 320
  lo : s.o.length = 32
theorem vcells_size (r o : List Int) (hr : r.length = 320) (ho : o.length = 32) : (vcells r o).size = 352 := by simp [vcells, ints, hr, ho]
theorem vcells_one (r o : List Int) : (vcells r o).all (·.oneCell') = true := by
  refine Array.all_eq_true_iff_forall_mem.2 ?_
  intro v hv
  simp only [vcells, List.mem_toArray, List.mem_append] at hv
  rcases hv with hv | hv
  · exact ints_one _ v hv
  · exact ints_one _ v hv
theorem vcells_r (r o : List Int) (hr : r.length = 320) (k : Nat) (hk : k < 320) : (vcells r o)[k]? = some (.int .i64 (r.getD k 0)) := by
  simp only [vcells, List.getElem?_toArray]
  rw [List.getElem?_append_left (by simp [ints]; omega)]
  exact ints_get r k (by omega)
theorem vcells_o (r o : List Int) (hr : r.length = 320) (ho : o.length = 32) (k : Nat) (hk : k < 32) : (vcells r o)[320 + k]? = some (.int .i64 (o.getD k 0)) := by
  simp only [vcells, List.getElem?_toArray]
  rw [List.getElem?_append_right (by simp [ints]; omega), show 320 + k - (ints r).length = k by simp [ints]; omega]
  exact ints_get o k (by omega)
theorem IsV.keep {w w' : World} {b : Nat} {s : Vc} {l : List Nat} (h : IsV w b s) (k : Keep l w w') (hl : b ∉ l) : IsV w' b s := ⟨h.blk.keep k hl, h.lr, h.lo⟩
theorem IsV.lt {w : World} {b : Nat} {s : Vc} (h : IsV w b s) : b < w.heap.size := h.blk.lt
theorem IsV.drewN {w : World} {b : Nat} {s : Vc} (h : IsV w b s) (n : Nat) : IsV (w.drewN n) b s := ⟨h.blk, h.lr, h.lo⟩
theorem IsV.cr {w : World} {b : Nat} {s : Vc} (h : IsV w b s) (k : Nat) (hk : k < 320) : w.cell? ⟨b, k, none⟩ = some (.int .i64 (s.r.getD k 0)) := by rw [h.blk.cell, vcells_r _ _ h.lr k hk]
theorem IsV.co {w : World} {b : Nat} {s : Vc} (h : IsV w b s) (k : Nat) (hk : k < 32) : w.cell? ⟨b, 320 + k, none⟩ = some (.int .i64 (s.o.getD k 0)) := by rw [h.blk.cell, vcells_o _ _ h.lr h.lo k hk]
def newV : Vc := ⟨List.replicate 320 0, List.replicate 32 0⟩
theorem newV_r : newV.r.length = 320 := List.length_replicate
theorem newV_o : newV.o.length = 32 := List.length_replicate
theorem zero_v (w : World) : (zeroValue 46).run Try.prog w = .ok (.agg (vcells newV.r newV.o)) w := by kernel_rfl
theorem info_v : (Try.prog.info? 46).map (·.size) = some 352 := by kernel_rfl
def RetNew (w : World) (s : Vc) (e : Ending) (w' : World) : Prop := ∃ g, w.heap.size ≤ g ∧ e = .returned (.pointer (some ⟨g, 0, none⟩)) ∧ Keep [] w w' ∧ IsV w' g s
set_option maxHeartbeats 400000 in
theorem new_calls (w : World) : Calls Try.prog 10 #[] w (RetNew w newV) := by
  have hb := zero_v
  have H : Hid (RetNew w newV (.returned (.pointer (some ⟨w.heap.size, 0, none⟩))) (w.alloc (.cells (vcells newV.r newV.o) 46))) :=
    Lib.hid ⟨_, Nat.le_refl _, rfl, Keep.alloc _ _ _, ⟨Blk.new w _ _, newV_r, newV_o⟩⟩
  go_enter Try.func10, Try.ntmps10
  go_wp2_with fail
  go_ret
  exact H.out
def RetReset (b : Nat) (w : World) (e : Ending) (w' : World) : Prop := e = .returned (.tuple #[]) ∧ Keep [b] w w' ∧ IsV w' b newV
set_option maxHeartbeats 400000 in
theorem reset_calls (b : Nat) (s : Vc) (w : World) (hf : IsV w b s) : Calls Try.prog 20 #[.pointer (some ⟨b, 0, none⟩)] w (RetReset b w) := by
  have hb := zero_v
  have HF := Lib.hid hf
  have H : Hid (RetReset b w (.returned (.tuple #[])) (w.setRow b (vcells newV.r newV.o))) := Lib.hid ⟨rfl, Keep.row _ _ _, ⟨hf.blk.row _, newV_r, newV_o⟩⟩
  clear hf
  go_enter Try.func20, Try.ntmps20
  go_wp2_with (refine wpList_store_row rfl 46 _ _ rfl b _ rfl rfl 46 _ HF.out.blk (by rw [vcells_size _ _ newV_r newV_o]; exact info_v) (by rw [vcells_size _ _ newV_r newV_o, vcells_size _ _ HF.out.lr HF.out.lo]) (vcells_one _ _) ?_)
  go_end0
  exact H.out
set_option maxHeartbeats 400000 in
theorem copy_calls (b : Nat) (s : Vc) (w : World) (hf : IsV w b s) : Calls Try.prog 19 #[.pointer (some ⟨b, 0, none⟩)] w (RetNew w s) := by
  have hb := zero_v
  have HF := Lib.hid hf
  have HG : Hid (Blk (w.alloc (.cells (vcells newV.r newV.o) 46)) w.heap.size (vcells newV.r newV.o) 46) := Lib.hid (Blk.new w _ _)
  have H : Hid (RetNew w s (.returned (.pointer (some ⟨w.heap.size, 0, none⟩))) ((w.alloc (.cells (vcells newV.r newV.o) 46)).setRow w.heap.size (vcells s.r s.o))) :=
    Lib.hid ⟨_, Nat.le_refl _, rfl, (Keep.alloc [] _ _).trans' (Keep.row _ _ _) (by simp) (by simp), ⟨HG.out.row _, hf.lr, hf.lo⟩⟩
  clear hf
  go_enter Try.func19, Try.ntmps19
  go_wp2_with (first
    | (refine wpList_load_row rfl 46 _ rfl b rfl 46 _ (0, 0) _ HF.out.blk Try.underlying46 rfl (by rw [vcells_size _ _ HF.out.lr HF.out.lo]; exact info_v) ?_)
    | (refine wpList_store_row rfl 46 _ _ rfl w.heap.size _ rfl rfl 46 _ HG.out (by rw [vcells_size _ _ HF.out.lr HF.out.lo]; exact info_v) (by rw [vcells_size _ _ newV_r newV_o, vcells_size _ _ HF.out.lr HF.out.lo]) (vcells_one _ _) ?_))
  go_ret
  exact H.out
instance : DecidableEq Vc := fun a b => decidable_of_iff (a.r = b.r ∧ a.o = b.o) ⟨fun ⟨h1, h2⟩ => by cases a; cases b; simp_all, fun h => by subst h; exact ⟨rfl, rfl⟩⟩
theorem v_dec (s s' : Vc) : decide (s = s') = (decide (s.r = s'.r) && decide (s.o = s'.o)) := by
  rw [Bool.eq_iff_iff]
  cases s; cases s'
  simp
theorem vcells_er (r o : List Int) (hr : r.length = 320) : (vcells r o).extract 0 320 = (ints r).toArray := by
  apply Array.ext'
  simp only [vcells, Array.toList_extract, List.extract_eq_take_drop, List.drop_zero, Nat.sub_zero]
  exact List.take_left' (by simp [ints, hr])
theorem vcells_eo (r o : List Int) (hr : r.length = 320) (ho : o.length = 32) : (vcells r o).extract 320 352 = (ints o).toArray := by
  apply Array.ext'
  simp only [vcells, Array.toList_extract, List.extract_eq_take_drop, Nat.reduceSub]
  rw [List.drop_left' (by simp [ints, hr])]
  exact List.take_of_length_le (by simp [ints, ho])
theorem part_r (w : World) (r o : List Int) (hr : r.length = 320) : (part 43 (vcells r o) 0).run Try.prog w = .ok (.agg (ints r).toArray) w := by
  have hsz : (Try.prog.info? 43).map (·.size) = some 320 := by kernel_rfl
  obtain ⟨i, hi, hs⟩ := Option.map_eq_some_iff.1 hsz
  have p2 := run_part_row (P := Try.prog) w 43 _ Try.underlying43 rfl i hi (vcells r o) 0
  have e : 0 + i.size = 320 := by omega
  rw [p2, e, vcells_er r o hr]
theorem part_o (w : World) (r o : List Int) (hr : r.length = 320) (ho : o.length = 32) : (part 44 (vcells r o) 320).run Try.prog w = .ok (.agg (ints o).toArray) w := by
  have hsz : (Try.prog.info? 44).map (·.size) = some 32 := by kernel_rfl
  obtain ⟨i, hi, hs⟩ := Option.map_eq_some_iff.1 hsz
  have p2 := run_part_row (P := Try.prog) w 44 _ Try.underlying44 rfl i hi (vcells r o) 320
  have e : 320 + i.size = 352 := by omega
  rw [p2, e, vcells_eo r o hr ho]
theorem eq_v (w : World) (d : Nat) (s s' : Vc) (h : s.r.length = 320) (h' : s'.r.length = 320) (k : s.o.length = 32) (k' : s'.o.length = 32) :
    (Op.equalIn (d + 3) 46 (.agg (vcells s.r s.o)) (.agg (vcells s'.r s'.o))).run Try.prog w = .ok (decide (s = s')) w := by
  have p0 := part_r w s.r s.o h
  have p0' := part_r w s'.r s'.o h'
  have p1 := part_o w s.r s.o h k
  have p1' := part_o w s'.r s'.o h' k'
  have q0 := run_eq_ints (P := Try.prog) w d 43 2 320 Try.underlying43 Try.underlying2 (by kernel_rfl) s.r s'.r h h'
  have q1 := run_eq_ints (P := Try.prog) w d 44 2 32 Try.underlying44 Try.underlying2 (by kernel_rfl) s.o s'.o k k'
  rw [run_equalIn_struct w (d + 2) 46 _ _ (by kernel_rfl) (by kernel_rfl)]
  have hf : ((Try.prog.fieldsOf 46).toList.map fun f => (f.name, f.type, f.offset)) = [("r", 43, 0), ("o", 44, 320)] := by kernel_rfl
  generalize (Try.prog.fieldsOf 46).toList = l at hf
  rcases l with _ | ⟨f0, _ | ⟨f1, _ | ⟨f2, l⟩⟩⟩ <;> simp only [List.map_cons, List.map_nil, List.cons.injEq, Prod.mk.injEq, reduceCtorEq, and_false, and_true] at hf
  obtain ⟨⟨n0, t0, o0⟩, ⟨n1, t1, o1⟩⟩ := hf
  change Sem.run Try.prog (Op.equalIn (d + 2) 43 _ _) w = _ at q0
  change Sem.run Try.prog (Op.equalIn (d + 2) 44 _ _) w = _ at q1
  have e0 : ("r" ≠ "_") := by decide
  have e1 : ("o" ≠ "_") := by decide
  rw [v_dec s s']
  generalize decide (s.r = s'.r) = b0 at *
  generalize decide (s.o = s'.o) = b1 at *
  simp only [Op.eqFields, n0, t0, o0, n1, t1, o1, if_pos e0, if_pos e1, Sem.run_bind]
  rw [p0, Result.andThen_ok, p0', Result.andThen_ok, q0, Result.andThen_ok]
  cases b0 with
  | false => simp only [Bool.not_false, if_true, Sem.run_pure, Bool.false_and]
  | true =>
    simp only [Bool.not_true, Bool.false_eq_true, if_false, Sem.run_bind, Bool.true_and]
    rw [p1, Result.andThen_ok, p1', Result.andThen_ok, q1, Result.andThen_ok]
    cases b1 with
    | false => rfl
    | true => rfl
theorem eq_v' (w : World) (s s' : Vc) (h : s.r.length = 320) (h' : s'.r.length = 320) (k : s.o.length = 32) (k' : s'.o.length = 32) (n : Nat) (hn : n = 10000) :
    (Op.equalIn n 46 (.agg (vcells s.r s.o)) (.agg (vcells s'.r s'.o))).run Try.prog w = .ok (decide (s = s')) w := by
  obtain ⟨d, rfl⟩ : ∃ d, n = d + 3 := ⟨n - 3, by omega⟩
  exact eq_v w d s s' h h' k k'
theorem guard_v : Try.prog.eqGuardType Try.prog.depth 46 = false := by kernel_rfl
theorem same_op {ρ : Operand → Value} {o : Oper} (w : World) (x y : Operand) (ho : o.op = .binOp .eql 46 x y 46) (s s' : Vc) (h : s.r.length = 320) (h' : s'.r.length = 320) (k : s.o.length = 32) (k' : s'.o.length = 32)
    (hx : ρ x = .agg (vcells s.r s.o)) (hy : ρ y = .agg (vcells s'.r s'.o)) : (execOp ρ o).run Try.prog w = .ok (.value (.bool (decide (s = s')))) w :=
  exec_eql w _ _ x y ho _ _ hx hy guard_v _ (eq_v' w s s' h h' k k' _ rfl)
theorem load_op {ρ : Operand → Value} {o : Oper} (w : World) (x : Operand) (ho : o.op = .load 46 x) (g : Nat) (hx : ρ x = .pointer (some ⟨g, 0, none⟩)) (s : Vc) (hf : IsV w g s) :
    (execOp ρ o).run Try.prog w = .ok (.value (.agg (vcells s.r s.o))) w :=
  exec_load_row w _ x ho g hx _ _ _ hf.blk Try.underlying46 rfl (by rw [vcells_size _ _ hf.lr hf.lo]; exact info_v)
set_option maxHeartbeats 400000 in
theorem same_calls (bf bg : Nat) (s s' : Vc) (w : World) (hf : IsV w bf s) (hg : IsV w bg s') :
    Calls Try.prog 12 #[.pointer (some ⟨bf, 0, none⟩), .pointer (some ⟨bg, 0, none⟩)] w fun e w' => e = .returned (.bool (decide (s = s'))) ∧ Keep [] w w' := by
  have HF := Lib.hid hf
  have HG := Lib.hid hg
  clear hf hg
  go_enter Try.func12, Try.ntmps12
  go_wp2_with fail
  refine wp_region_quiet_lit (by kernel_rfl) (by kernel_rfl) ?_
  refine wpQuiet_by rfl (.pointer (some ⟨bf, 0, none⟩)) (fun n => exec_move _ _ rfl _ rfl) ?_
  simp only [Act.put, List.setIfInBounds_toArray, List.set_cons_succ, List.set_cons_zero]
  refine wpQuiet_by rfl (.pointer (some ⟨bf, 0, none⟩)) (fun n => exec_nilCheck _ _ rfl _ rfl) ?_
  simp only [Act.put, List.setIfInBounds_toArray, List.set_cons_succ, List.set_cons_zero]
  refine wpQuiet_by rfl (.agg (vcells s.r s.o)) (fun n => load_op _ _ rfl bf rfl s (HF.out.drewN n)) ?_
  simp only [Act.put, List.setIfInBounds_toArray, List.set_cons_succ, List.set_cons_zero]
  refine wpQuiet_by rfl (.pointer (some ⟨bg, 0, none⟩)) (fun n => exec_move _ _ rfl _ rfl) ?_
  simp only [Act.put, List.setIfInBounds_toArray, List.set_cons_succ, List.set_cons_zero]
  refine wpQuiet_by rfl (.pointer (some ⟨bg, 0, none⟩)) (fun n => exec_nilCheck _ _ rfl _ rfl) ?_
  simp only [Act.put, List.setIfInBounds_toArray, List.set_cons_succ, List.set_cons_zero]
  refine wpQuiet_by rfl (.agg (vcells s'.r s'.o)) (fun n => load_op _ _ rfl bg rfl s' (HG.out.drewN n)) ?_
  simp only [Act.put, List.setIfInBounds_toArray, List.set_cons_succ, List.set_cons_zero]
  refine wpQuiet_by rfl (.bool (decide (s = s'))) (fun n => same_op _ _ _ rfl s s' HF.out.lr HG.out.lr HF.out.lo HG.out.lo rfl rfl) ?_
  simp only [Act.put, List.setIfInBounds_toArray, List.set_cons_succ, List.set_cons_zero]
  refine wpQuiet_by rfl (.bool (decide (s = s'))) (fun n => exec_assign _ _ rfl _ rfl) ?_
  simp only [Act.put, List.setIfInBounds_toArray, List.set_cons_succ, List.set_cons_zero]
  refine wpQuiet_nil ?_
  rintro w' ⟨n, rfl⟩
  go_wp2
  go_ret
  exact ⟨rfl, Keep.drewN _ _ _⟩
end Go.Proofs.Ytjhgbcgpkpahjaa
