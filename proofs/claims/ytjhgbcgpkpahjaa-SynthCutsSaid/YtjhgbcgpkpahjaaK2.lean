/- Structs and arrays of whole numbers held against each other; a whole struct read and written through its address. -/
import Derived.Test.YtjhgbcgpkpahjaaK0
namespace Go.Proofs.Ytjhgbcgpkpahjaa
open Go.RowKit

section
variable {P : Program}
theorem run_part_one (w : World) (t : TypeId) (k : IntKind) (ht : P.underlying t = some (.int k)) (cs : Array Value) (off : Nat) (v : Value) (hv : cs[off]? = some v) : (part t cs off).run P w = .ok v w := by
  simp [part, isAgg, run_underlying ht, hv]
theorem run_part_row (w : World) (t : TypeId) (d : TypeDesc) (ht : P.underlying t = some d) (hd : (match d with | .struct _ | .array _ _ => true | _ => false) = true) (i : TypeInfo) (hi : P.info? t = some i) (cs : Array Value) (off : Nat) :
    (part t cs off).run P w = .ok (.agg (cs.extract off (off + i.size))) w := by
  have hagg : (isAgg t).run P w = .ok true w := by
    unfold isAgg
    rw [Sem.run_bind, run_underlying ht w]
    cases d <;> simp_all
  simp [part, hagg, sizeOf, typeInfo, hi]
theorem run_eq_ints_from (w : World) (d : Nat) (elem : TypeId) (he : P.underlying elem = some (.int .i64)) (xs ys : List Int) (len : Nat) (hx : xs.length = len) (hy : ys.length = len) :
    ∀ (m k : Nat), k + m = len → (forIn (m := Sem) (List.range' k m) ((none, ()) : Option Bool × Unit) fun i _ => do
        if (!(← Op.equalIn (d + 1) elem (← part elem (ints xs).toArray (i * 1)) (← part elem (ints ys).toArray (i * 1)))) = true then pure (ForInStep.done (some false, ())) else pure (ForInStep.yield (none, ()))).run P w =
      .ok (if xs.drop k = ys.drop k then (none, ()) else (some false, ())) w := by
  intro m
  induction m with
  | zero =>
    intro k hk
    rw [List.drop_of_length_le (by omega), List.drop_of_length_le (by omega)]
    simp
  | succ m ih =>
    intro k hk
    have h1 := run_part_one w elem .i64 he (ints xs).toArray (k * 1) (.int .i64 (xs.getD k 0)) (by simpa using ints_get xs k (by omega))
    have h2 := run_part_one w elem .i64 he (ints ys).toArray (k * 1) (.int .i64 (ys.getD k 0)) (by simpa using ints_get ys k (by omega))
    have h3 := run_equalIn_int (P := P) w d elem .i64 .i64 (xs.getD k 0) (ys.getD k 0) he
    have hdx : xs.drop k = xs.getD k 0 :: xs.drop (k + 1) := by
      rw [List.drop_eq_getElem_cons (by omega)]; congr 1; simp [show k < xs.length by omega]
    have hdy : ys.drop k = ys.getD k 0 :: ys.drop (k + 1) := by
      rw [List.drop_eq_getElem_cons (by omega)]; congr 1; simp [show k < ys.length by omega]
    rw [List.range'_succ, List.forIn_cons]
    simp only [Sem.run_bind, h1, h2, h3, Result.andThen_ok]
    by_cases e : xs.getD k 0 = ys.getD k 0
    · rw [hdx, hdy, e]
      simp only [beq_self_eq_true, Bool.not_true, Bool.false_eq_true, if_false, Sem.run_pure, Result.andThen_ok, List.cons.injEq, true_and]
      exact ih (k + 1) (by omega)
    · have e' : (xs.getD k 0 == ys.getD k 0) = false := beq_eq_false_iff_ne.2 e
      have hne : ¬ (xs.drop k = ys.drop k) := by rw [hdx, hdy]; simp only [List.cons.injEq]; exact fun h => e h.1
      rw [if_neg hne, e']
      simp only [Bool.not_false, if_true, Sem.run_pure, Result.andThen_ok]
theorem run_eq_ints (w : World) (d : Nat) (t elem : TypeId) (len : Nat) (ht : P.underlying t = some (.array len elem)) (he : P.underlying elem = some (.int .i64)) (hs : (P.info? elem).map (·.size) = some 1) (xs ys : List Int) (hx : xs.length = len) (hy : ys.length = len) :
    (Op.equalIn (d + 2) t (.agg (ints xs).toArray) (.agg (ints ys).toArray)).run P w = .ok (decide (xs = ys)) w := by
  obtain ⟨i, hi, hsz⟩ := Option.map_eq_some_iff.1 hs
  have h := run_eq_ints_from w d elem he xs ys len hx hy len 0 (by omega)
  rw [Op.equalIn]
  simp only [Sem.run_bind, run_underlying ht, Result.andThen_ok, sizeOf, typeInfo, hi, run_program, Sem.run_pure, hsz]
  rw [Std.Legacy.Range.forIn_eq_forIn_range']
  have e : ([:len] : Std.Legacy.Range).size = len := by simp [Std.Legacy.Range.size]
  rw [e]
  show ((Sem.run P (forIn (List.range' 0 len) _ _) w).andThen _) = _
  rw [h]
  by_cases hxy : xs = ys
  · subst hxy; simp
  · simp [hxy]
/-- A whole struct or array read through its address: the operation's own run. -/
theorem exec_load_row {ρ : Operand → Value} {o : Oper} (w : World) (ty : TypeId) (x : Operand) (ho : o.op = .load ty x) (g : Nat) (hx : ρ x = .pointer (some ⟨g, 0, none⟩)) (t : TypeId) (cs : Array Value) (d : TypeDesc) (hg : Blk w g cs t)
    (hu : P.underlying ty = some d) (hd : (match d with | .struct _ | .array _ _ => true | _ => false) = true) (hi : (P.info? ty).map (·.size) = some cs.size) : (execOp ρ o).run P w = .ok (.value (.agg cs)) w := by
  unfold execOp
  simp only [ho, hx, Instr.loadAt, Instr.sureAddr, Sem.run_bind, Sem.run_pure, Result.andThen_ok, run_loadVar_row w g t ty cs (0, 0) d hg hu hd hi]
theorem exec_eql {ρ : Operand → Value} {o : Oper} (w : World) (t ty : TypeId) (x y : Operand) (ho : o.op = .binOp .eql t x y ty) (xs ys : Array Value) (hx : ρ x = .agg xs) (hy : ρ y = .agg ys) (hm : P.eqGuardType P.depth t = false)
    (b : Bool) (hb : (Op.equalIn 10000 t (.agg xs) (.agg ys)).run P w = .ok b w) : (execOp ρ o).run P w = .ok (.value (.bool b)) w := by
  unfold execOp
  simp only [ho, hx, hy, Sem.run_bind, run_eqGuard_agg w _ t x y xs ys hm, Result.andThen_ok, run_eql_struct, hb, Sem.run_pure]
theorem exec_move {ρ : Operand → Value} {o : Oper} (w : World) (x : Operand) (ho : o.op = .move x) (v : Value) (hv : ρ x = v) : (execOp ρ o).run P w = .ok (.value v) w := hv ▸ BigFrame.run_move x ho w
theorem exec_assign {ρ : Operand → Value} {o : Oper} (w : World) (x : Operand) (ho : o.op = .assign x) (v : Value) (hv : ρ x = v) : (execOp ρ o).run P w = .ok (.value v) w := hv ▸ BigFrame.run_assign x ho w
theorem exec_nilCheck {ρ : Operand → Value} {o : Oper} (w : World) (x : Operand) (ho : o.op = .nilCheck x) (a : Addr) (hx : ρ x = .pointer (some a)) : (execOp ρ o).run P w = .ok (.value (.pointer (some a))) w := by
  unfold execOp
  simp only [ho, hx, Sem.run_pure]
/-- One operation of a quiet walk by its own run. -/
theorem quiet_by {w : World} {a : Act} {o : Oper} {K : Act → Prop} (v : Value) (h : ∀ n, (execOp a.eval o).run P (w.drewN n) = .ok (.value v) (w.drewN n)) (hk : K (a.put o.dst v)) : o.quiet P a (fun w' => ∃ n, w' = w.drewN n) K :=
  ⟨v, fun w' ⟨n, hn⟩ => by subst hn; unfold Oper.quietAt; rw [h n]; exact ⟨rfl, rfl⟩, hk⟩
theorem wpQuiet_by {w : World} {ops : Array Oper} {Q : Act → Prop} {a : Act} {o : Oper} {rest : List Oper} (hg : o.guard = none) (v : Value) (h : ∀ n, (execOp a.eval o).run P (w.drewN n) = .ok (.value v) (w.drewN n))
    (hk : wpQuiet P ops (fun w' => ∃ n, w' = w.drewN n) Q rest (a.put o.dst v)) : wpQuiet P ops (fun w' => ∃ n, w' = w.drewN n) Q (o :: rest) a :=
  wpQuiet_step fun _ hK => by rw [if_pos (by simp [Region.wanted, hg])]; exact quiet_by v h (hK _ hk)
end
end Go.Proofs.Ytjhgbcgpkpahjaa
