/- Five truth values compared with five trues. -/
import Derived.Test.YtnoeiaicligmiaaDoorSPick
import Derived.ChangeKeysEq
namespace Go.Proofs.YtnoeiaicligmiaaDoor
set_option linter.unusedVariables false
set_option linter.unusedSimpArgs false
open Go Go.RowKit
theorem bool_info : (Tryd.prog.info? 4).map (fun i => (i.zero, i.size, i.bytes)) = some (some (.bool false), 1, 1) := by kernel_rfl
theorem arr_guard : Tryd.prog.eqGuardType Tryd.prog.depth 101 = false := by kernel_rfl
theorem run_bool (w : World) (d : Nat) (a b : Bool) : (Op.equalIn (d + 1) 4 (.bool a) (.bool b)).run Tryd.prog w = .ok (a == b) w := by
  simp [Op.equalIn, run_underlying Tryd.underlying4]
theorem cells_bool : Tryd.prog.cellsOf 4 = 1 := by kernel_rfl
theorem part_bool (w : World) (xs : Array Value) (i : Nat) (b : Bool) (h : xs[i]? = some (.bool b)) : (part 4 xs i).run Tryd.prog w = .ok (.bool b) w := by
  obtain ⟨i0, hi, hz0, hz1, hz2⟩ := info_parts bool_info
  simp [part, run_underlying Tryd.underlying4, typeInfo, hi, hz1, h]
theorem items_step (w : World) (d : Nat) (xs ys : Array Value) (i : Nat) (is : List Nat) (a : Bool) (hx : xs[i]? = some (.bool a)) (hy : ys[i]? = some (.bool true)) : (Op.eqItems (d + 1) 4 1 xs ys (i :: is)).run Tryd.prog w = if a then (Op.eqItems (d + 1) 4 1 xs ys is).run Tryd.prog w else .ok false w := by
  simp only [Op.eqItems, Sem.run_bind, Nat.mul_one, part_bool w xs i a hx, part_bool w ys i true hy, Result.andThen_ok, run_bool]
  cases a <;> simp
theorem run_five_in (w : World) (d : Nat) (b0 b1 b2 b3 b4 : Bool) : (Op.equalIn (d + 1 + 1) 101 (.agg #[.bool b0, .bool b1, .bool b2, .bool b3, .bool b4]) (.agg #[.bool true, .bool true, .bool true, .bool true, .bool true])).run Tryd.prog w = .ok (b0 && (b1 && (b2 && (b3 && b4)))) w := by
  obtain ⟨i0, hi, hz0, hz1, hz2⟩ := info_parts bool_info
  rw [run_equalIn_array w (d + 1) _ _ Tryd.underlying101 hi, cells_bool, show List.range 5 = [0, 1, 2, 3, 4] from rfl]
  rw [items_step w d _ _ 0 _ b0 rfl rfl, items_step w d _ _ 1 _ b1 rfl rfl, items_step w d _ _ 2 _ b2 rfl rfl, items_step w d _ _ 3 _ b3 rfl rfl, items_step w d _ _ 4 _ b4 rfl rfl]
  cases b0 <;> cases b1 <;> cases b2 <;> cases b3 <;> cases b4 <;> simp [Op.eqItems]
theorem run_five (w : World) (b0 b1 b2 b3 b4 : Bool) : (Op.equal 101 (.agg #[.bool b0, .bool b1, .bool b2, .bool b3, .bool b4]) (.agg #[.bool true, .bool true, .bool true, .bool true, .bool true])).run Tryd.prog w = .ok (b0 && (b1 && (b2 && (b3 && b4)))) w := run_five_in w 9998 b0 b1 b2 b3 b4
theorem run_guard5 (w : World) (x y : Operand) (u v : Array Value) : (eqGuard .eql 101 x y (.agg u) (.agg v)).run Tryd.prog w = .ok () w := by
  simp [eqGuard, go_sem, arr_guard]
theorem wpList_five {ops : Array Oper} {rest : List Oper} {o : Oper} {a : Act} {Q : Exit → Act → World → Prop} (w : World) (hgd : o.guard = none) (x y : Operand) (ho : o.op = .binOp .eql 101 x y 101) (b0 b1 b2 b3 b4 : Bool) (hx : a.eval x = .agg #[.bool b0, .bool b1, .bool b2, .bool b3, .bool b4]) (hy : a.eval y = .agg #[.bool true, .bool true, .bool true, .bool true, .bool true])
    (h : wpList Tryd.prog ops Q rest (a.put o.dst (.bool (b0 && (b1 && (b2 && (b3 && b4)))))) w) : wpList Tryd.prog ops Q (o :: rest) a w := by
  refine wpList_plain hgd fun K hK => ?_
  unfold Oper.wp execOp
  simp only [ho, hx, hy, run_guard5, binOp, Sem.run_bind, Sem.run_pure, Result.andThen_ok, run_five]
  exact hK _ _ h
end Go.Proofs.YtnoeiaicligmiaaDoor
