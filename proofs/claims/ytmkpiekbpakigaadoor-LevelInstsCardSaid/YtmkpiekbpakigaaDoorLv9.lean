/- Contracts of the functions of layer 7: String, whole. -/
import Derived.Test.YtmkpiekbpakigaaDoorLv8
set_option linter.unusedVariables false
set_option linter.unusedSimpArgs false
namespace Go.Proofs.YtmkpiekbpakigaaDoor
open Go.RowKit Go.Proofs.Base Go.Proofs.Mono
section
variable (l : Lv) (w : World)
set_option maxRecDepth 20000 in
set_option maxHeartbeats 4000000 in
theorem string_no (hr : l.right = false) :
    Calls Tryd.prog 19 #[.agg #[.int .i64 l.b, .int .i64 l.p0, .int .i64 l.p1, .int .i64 l.p2, .int .i64 l.p3]] w fun e w' => e = .returned (.string ⟨#[]⟩) ∧ Below w.heap.size w w' := by
  have hr2 : Lv.right ⟨l.b, l.p0, l.p1, l.p2, l.p3⟩ = false := hr
  clear hr
  go_enter Tryd.func19, Tryd.ntmps19
  go_wp2_with fail
  refine (right_any _ _ _ _ _ _).mono ?_
  rintro e w1 ⟨rfl, hb⟩
  have HBW := Lib.hid (bstep (B := w.heap.size) (a := w) (by go_grown) hb (by simp))
  clear hb
  go_wp2
  go_ret
  exact ⟨rfl, HBW.out⟩
theorem string_any (ht : Tab w) :
    Calls Tryd.prog 19 #[.agg #[.int .i64 l.b, .int .i64 l.p0, .int .i64 l.p1, .int .i64 l.p2, .int .i64 l.p3]] w fun e w' => e = .returned (.string ⟨l.text.toArray⟩) ∧ Below w.heap.size w w' := by
  unfold Lv.text
  cases hr : l.right
  · exact string_no l w hr
  · exact string_yes l w hr ht
end
end Go.Proofs.YtmkpiekbpakigaaDoor
