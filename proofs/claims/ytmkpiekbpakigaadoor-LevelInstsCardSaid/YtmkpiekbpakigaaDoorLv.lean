/- Contracts of the functions of layer 7. -/
import Derived.Test.YtmkpiekbpakigaaDoorRows
import Derived.Test.YtmkpiekbpakigaaDoorBase
namespace Go.Proofs.YtmkpiekbpakigaaDoor
open Go.RowKit Go.Proofs.Base

structure Lv where
  b : Int
  p0 : Int
  p1 : Int
  p2 : Int
  p3 : Int
  deriving DecidableEq

def Lv.val (l : Lv) : Value := .agg #[.int .i64 l.b, .int .i64 l.p0, .int .i64 l.p1, .int .i64 l.p2, .int .i64 l.p3]
theorem Lv.val_mk (b p0 p1 p2 p3 : Int) : (⟨b, p0, p1, p2, p3⟩ : Lv).val = .agg #[.int .i64 b, .int .i64 p0, .int .i64 p1, .int .i64 p2, .int .i64 p3] := rfl

theorem ix (w : World) (p0 p1 p2 p3 : Int) : 
  (Instr.index 22 (.agg #[.int .i64 p0, .int .i64 p1, .int .i64 p2, .int .i64 p3]) (.int .i64 0)).run Tryd.prog w = .ok (.int .i64 p0) w ∧
  (Instr.index 22 (.agg #[.int .i64 p0, .int .i64 p1, .int .i64 p2, .int .i64 p3]) (.int .i64 1)).run Tryd.prog w = .ok (.int .i64 p1) w ∧
  (Instr.index 22 (.agg #[.int .i64 p0, .int .i64 p1, .int .i64 p2, .int .i64 p3]) (.int .i64 2)).run Tryd.prog w = .ok (.int .i64 p2) w ∧
  (Instr.index 22 (.agg #[.int .i64 p0, .int .i64 p1, .int .i64 p2, .int .i64 p3]) (.int .i64 3)).run Tryd.prog w = .ok (.int .i64 p3) w := ⟨by kernel_rfl, by kernel_rfl, by kernel_rfl, by kernel_rfl⟩

def Lv.right (l : Lv) : Bool := decide ((-1 ≤ l.p0 ∧ l.p0 ≤ l.b) ∧ (-1 ≤ l.p1 ∧ l.p1 ≤ l.b) ∧ (-1 ≤ l.p2 ∧ l.p2 ≤ l.b) ∧ (-1 ≤ l.p3 ∧ l.p3 ≤ l.b) ∧ 0 ≤ l.b ∧ l.b ≤ 100)

set_option maxHeartbeats 1000000 in
theorem right_any (b p0 p1 p2 p3 : Int) (w : World) :
    Calls Tryd.prog 16 #[.agg #[.int .i64 b, .int .i64 p0, .int .i64 p1, .int .i64 p2, .int .i64 p3]] w fun e w' => e = .returned (.bool (Lv.right ⟨b, p0, p1, p2, p3⟩)) ∧ Below w.heap.size w w' := by
  have i0 := fun w => (ix w p0 p1 p2 p3).1
  have i1 := fun w => (ix w p0 p1 p2 p3).2.1
  have i2 := fun w => (ix w p0 p1 p2 p3).2.2.1
  have i3 := fun w => (ix w p0 p1 p2 p3).2.2.2
  go_enter Tryd.func16, Tryd.ntmps16
  go_wp2
  go_rounds 5
  all_goals go_ret
  all_goals refine ⟨congrArg (fun b => Ending.returned (.bool b)) ?_, by go_grown⟩
  all_goals unfold Lv.right
  all_goals (rw [Bool.eq_iff_iff]; simp only [decide_eq_true_eq, Bool.false_eq_true, false_iff]; omega)

theorem num_any (n : Int) (w : World) :
    Calls Tryd.prog 48 #[.int .i64 n] w fun e w' => e = .returned (.agg #[.int .i64 n, .int .i64 (-1), .int .i64 (-1), .int .i64 (-1), .int .i64 (-1)]) ∧ Below w.heap.size w w' := by
  go_enter Tryd.func48, Tryd.ntmps48
  go_wp2
  go_returns
  exact ⟨rfl, by go_grown⟩

def Lv.width (l : Lv) : Int := if l.p3 > -1 then 4 else if l.p2 > -1 then 3 else if l.p1 > -1 then 2 else if l.p0 > -1 then 1 else 0

set_option maxHeartbeats 1000000 in
theorem width_any (b p0 p1 p2 p3 : Int) (w : World) :
    Calls Tryd.prog 51 #[.agg #[.int .i64 b, .int .i64 p0, .int .i64 p1, .int .i64 p2, .int .i64 p3]] w fun e w' => e = .returned (.int .i64 (Lv.width ⟨b, p0, p1, p2, p3⟩)) ∧ Below w.heap.size w w' := by
  have i0 := fun w => (ix w p0 p1 p2 p3).1
  have i1 := fun w => (ix w p0 p1 p2 p3).2.1
  have i2 := fun w => (ix w p0 p1 p2 p3).2.2.1
  have i3 := fun w => (ix w p0 p1 p2 p3).2.2.2
  go_enter Tryd.func51, Tryd.ntmps51
  go_wp2
  go_rounds 5
  all_goals go_ret
  all_goals refine ⟨congrArg (fun b => Ending.returned (.int .i64 b)) ?_, by go_grown⟩
  all_goals (simp only [Lv.width]; repeat' split) <;> omega
end Go.Proofs.YtmkpiekbpakigaaDoor
