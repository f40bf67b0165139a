/- Contracts of the functions of layer 7: Leq. -/
import Derived.Test.YtmkpiekbpakigaaDoorLv3
set_option linter.unusedVariables false
set_option linter.unusedSimpArgs false
namespace Go.Proofs.YtmkpiekbpakigaaDoor
open Go.RowKit Go.Proofs.Base Go.Proofs.Mono

def Lv.leq (a b : Lv) : Bool := a.right && b.right && decide (Lv.maxl [a, b] = b)

theorem row_two {w : World} {g : Nat} {a b : Lv} (h : Blk w g 24 #[.int .i64 a.b, .int .i64 a.p0, .int .i64 a.p1, .int .i64 a.p2, .int .i64 a.p3, .int .i64 b.b, .int .i64 b.p0, .int .i64 b.p1, .int .i64 b.p2, .int .i64 b.p3]) : LvRow w (some ⟨g, 0, none⟩) [a, b] := by
  refine ⟨by simp, fun _ => ⟨g, 0, rfl, fun j l hj => ?_⟩⟩
  match j, hj with
  | 0, hj =>
    obtain rfl : a = l := by simpa using hj
    exact ⟨h.cell 0, h.cell 1, h.cell 2, h.cell 3, h.cell 4⟩
  | 1, hj =>
    obtain rfl : b = l := by simpa using hj
    exact ⟨h.cell 5, h.cell 6, h.cell 7, h.cell 8, h.cell 9⟩
  | j + 2, hj => simp at hj
theorem eq_vals (a b : Lv) : (a.b == b.b && (a.p0 == b.p0 && (a.p1 == b.p1 && (a.p2 == b.p2 && a.p3 == b.p3)))) = decide (a = b) := by
  rw [Bool.eq_iff_iff]
  simp only [Bool.and_eq_true, beq_iff_eq, decide_eq_true_eq]
  constructor
  · rintro ⟨h0, h1, h2, h3, h4⟩
    cases a; cases b
    simp only at h0 h1 h2 h3 h4
    subst h0 h1 h2 h3 h4
    rfl
  · rintro rfl
    simp

theorem eq22 (w : World) (x0 x1 x2 x3 y0 y1 y2 y3 : Int) :
  (Op.equalIn 9999 22 (.agg #[.int .i64 x0, .int .i64 x1, .int .i64 x2, .int .i64 x3]) (.agg #[.int .i64 y0, .int .i64 y1, .int .i64 y2, .int .i64 y3])).run Tryd.prog w = .ok (x0 == y0 && (x1 == y1 && (x2 == y2 && x3 == y3))) w := by
  have hs : (sizeOf 3).run Tryd.prog w = .ok 1 w := by kernel_rfl
  have e := fun (x y : Int) => run_equalIn_int (P := Tryd.prog) w 9997 3 .i64 .i64 x y Tryd.underlying3
  rw [Op.equalIn]
  simp [Sem.run_bind, run_underlying Tryd.underlying22, hs, List.range', part, go_sem, e]
  by_cases h0 : x0 = y0 <;> by_cases h1 : x1 = y1 <;> by_cases h2 : x2 = y2 <;> by_cases h3 : x3 = y3 <;> simp [h0, h1, h2, h3]
theorem if_eq (a b : Lv) (w : World) : (if a.b = b.b then if a.p0 = b.p0 → a.p1 = b.p1 → a.p2 = b.p2 → ¬ a.p3 = b.p3 then Result.ok (Next.value (Value.bool false)) w else Result.ok (Next.value (Value.bool true)) w else Result.ok (Next.value (Value.bool false)) w) = .ok (.value (.bool (decide (a = b)))) w := by
  rw [← eq_vals]
  by_cases h : a.b = b.b <;> by_cases h0 : a.p0 = b.p0 <;> by_cases h1 : a.p1 = b.p1 <;> by_cases h2 : a.p2 = b.p2 <;> by_cases h3 : a.p3 = b.p3 <;> simp [h, h0, h1, h2, h3]

section
variable (a b : Lv) (w : World)
set_option maxRecDepth 20000 in
set_option maxHeartbeats 2000000 in
theorem leq_no1 (hr : a.right = false) :
    Calls Tryd.prog 14 #[.agg #[.int .i64 a.b, .int .i64 a.p0, .int .i64 a.p1, .int .i64 a.p2, .int .i64 a.p3], .agg #[.int .i64 b.b, .int .i64 b.p0, .int .i64 b.p1, .int .i64 b.p2, .int .i64 b.p3]] w fun e w' => e = .returned (.bool false) ∧ Below w.heap.size w w' := by
  have HR := Lib.hid hr
  clear hr
  go_enter Tryd.func14, Tryd.ntmps14
  go_wp2_with fail
  refine wp_region_at 15 (by kernel_rfl) (by kernel_rfl) (by kernel_rfl) (by decide) ?_
  simp only [List.take_succ_cons, List.take_zero, List.drop_succ_cons, List.drop_zero]
  with_reducible apply wpN_det
  · intro vals w1 hl hd
    obtain ⟨hc, hf⟩ := hl.cells
    unfold yieldsM
    go_simp
    with_reducible exact uponM_pure
  simp only [Act.put, List.setIfInBounds_toArray, List.set_cons_zero, List.set_cons_succ]
  with_reducible apply wpN_det
  · intro vals w1 hl hd
    obtain ⟨hc, hf⟩ := hl.cells
    unfold yieldsM
    go_simp
    with_reducible refine uponM_enter ?_
    refine (right_any _ _ _ _ _ _).mono ?_; rintro e w2 ⟨rfl, hb⟩; exact ⟨_, rfl, hb, congrArg Value.bool HR.out⟩
  simp only [Act.put, List.setIfInBounds_toArray, List.set_cons_zero, List.set_cons_succ]
  with_reducible apply wpN_det
  · intro vals w1 hl hd
    obtain ⟨hc, hf⟩ := hl.cells
    unfold yieldsM
    go_simp
    with_reducible exact uponM_pure
  simp only [Act.put, List.setIfInBounds_toArray, List.set_cons_zero, List.set_cons_succ]
  with_reducible apply wpN_det
  · intro vals w1 hl hd
    obtain ⟨hc, hf⟩ := hl.cells
    unfold yieldsM
    go_simp
    with_reducible exact rfl
  simp only [Act.put, List.setIfInBounds_toArray, List.set_cons_zero, List.set_cons_succ]
  with_reducible apply wpN_det
  · intro vals w1 hl hd
    obtain ⟨hc, hf⟩ := hl.cells
    unfold yieldsM
    go_simp
    with_reducible exact rfl
  simp only [Act.put, List.setIfInBounds_toArray, List.set_cons_zero, List.set_cons_succ]
  with_reducible apply wpN_det
  · intro vals w1 hl hd
    obtain ⟨hc, hf⟩ := hl.cells
    unfold yieldsM
    go_simp
    with_reducible exact uponM_pure
  simp only [Act.put, List.setIfInBounds_toArray, List.set_cons_zero, List.set_cons_succ]
  with_reducible apply wpN_det
  · intro vals w1 hl hd
    obtain ⟨hc, hf⟩ := hl.cells
    unfold yieldsM
    go_simp
    with_reducible exact uponM_pure
  simp only [Act.put, List.setIfInBounds_toArray, List.set_cons_zero, List.set_cons_succ]
  with_reducible apply wpN_det
  · intro vals w1 hl hd
    obtain ⟨hc, hf⟩ := hl.cells
    unfold yieldsM
    go_simp
    with_reducible exact rfl
  simp only [Act.put, List.setIfInBounds_toArray, List.set_cons_zero, List.set_cons_succ]
  with_reducible apply wpN_det
  · intro vals w1 hl hd
    obtain ⟨hc, hf⟩ := hl.cells
    unfold yieldsM
    go_simp
    with_reducible exact rfl
  simp only [Act.put, List.setIfInBounds_toArray, List.set_cons_zero, List.set_cons_succ]
  with_reducible apply wpN_det
  · intro vals w1 hl hd
    obtain ⟨hc, hf⟩ := hl.cells
    unfold yieldsM
    go_simp
    with_reducible exact rfl
  simp only [Act.put, List.setIfInBounds_toArray, List.set_cons_zero, List.set_cons_succ]
  with_reducible apply wpN_det
  · intro vals w1 hl hd
    obtain ⟨hc, hf⟩ := hl.cells
    unfold yieldsM
    go_simp
    with_reducible exact rfl
  simp only [Act.put, List.setIfInBounds_toArray, List.set_cons_zero, List.set_cons_succ]
  with_reducible apply wpN_det
  · intro vals w1 hl hd
    obtain ⟨hc, hf⟩ := hl.cells
    unfold yieldsM
    go_simp
    with_reducible exact rfl
  simp only [Act.put, List.setIfInBounds_toArray, List.set_cons_zero, List.set_cons_succ]
  with_reducible apply wpN_det
  · intro vals w1 hl hd
    obtain ⟨hc, hf⟩ := hl.cells
    unfold yieldsM
    go_simp
    with_reducible exact rfl
  simp only [Act.put, List.setIfInBounds_toArray, List.set_cons_zero, List.set_cons_succ]
  with_reducible apply wpN_det
  · intro vals w1 hl hd
    obtain ⟨hc, hf⟩ := hl.cells
    unfold yieldsM
    go_simp
    with_reducible exact uponM_pure
  simp only [Act.put, List.setIfInBounds_toArray, List.set_cons_zero, List.set_cons_succ]
  with_reducible apply wpN_det
  · intro vals w1 hl hd
    obtain ⟨hc, hf⟩ := hl.cells
    unfold yieldsM
    go_simp
    with_reducible exact uponM_pure
  simp only [Act.put, List.setIfInBounds_toArray, List.set_cons_zero, List.set_cons_succ]
  refine wpN_nil trivial ?_
  intro vals w1 hl hd
  clear hd
  have HL := Lib.hid hl
  clear hl
  go_wp2
  go_ret
  exact ⟨rfl, bstep (by go_grown) HL.out (by simp; omega)⟩

set_option maxRecDepth 20000 in
set_option maxHeartbeats 2000000 in
theorem leq_no2 (hr : a.right = true) (hr2 : b.right = false) :
    Calls Tryd.prog 14 #[.agg #[.int .i64 a.b, .int .i64 a.p0, .int .i64 a.p1, .int .i64 a.p2, .int .i64 a.p3], .agg #[.int .i64 b.b, .int .i64 b.p0, .int .i64 b.p1, .int .i64 b.p2, .int .i64 b.p3]] w fun e w' => e = .returned (.bool false) ∧ Below w.heap.size w w' := by
  have HR := Lib.hid hr
  have HR2 := Lib.hid hr2
  clear hr hr2
  go_enter Tryd.func14, Tryd.ntmps14
  go_wp2_with fail
  refine wp_region_at 15 (by kernel_rfl) (by kernel_rfl) (by kernel_rfl) (by decide) ?_
  simp only [List.take_succ_cons, List.take_zero, List.drop_succ_cons, List.drop_zero]
  with_reducible apply wpN_det
  · intro vals w1 hl hd
    obtain ⟨hc, hf⟩ := hl.cells
    unfold yieldsM
    go_simp
    with_reducible exact uponM_pure
  simp only [Act.put, List.setIfInBounds_toArray, List.set_cons_zero, List.set_cons_succ]
  with_reducible apply wpN_det
  · intro vals w1 hl hd
    obtain ⟨hc, hf⟩ := hl.cells
    unfold yieldsM
    go_simp
    with_reducible refine uponM_enter ?_
    refine (right_any _ _ _ _ _ _).mono ?_; rintro e w2 ⟨rfl, hb⟩; exact ⟨_, rfl, hb, congrArg Value.bool HR.out⟩
  simp only [Act.put, List.setIfInBounds_toArray, List.set_cons_zero, List.set_cons_succ]
  with_reducible apply wpN_det
  · intro vals w1 hl hd
    obtain ⟨hc, hf⟩ := hl.cells
    unfold yieldsM
    go_simp
    with_reducible exact uponM_pure
  simp only [Act.put, List.setIfInBounds_toArray, List.set_cons_zero, List.set_cons_succ]
  with_reducible apply wpN_det
  · intro vals w1 hl hd
    obtain ⟨hc, hf⟩ := hl.cells
    unfold yieldsM
    go_simp
    with_reducible exact uponM_pure
  simp only [Act.put, List.setIfInBounds_toArray, List.set_cons_zero, List.set_cons_succ]
  with_reducible apply wpN_det
  · intro vals w1 hl hd
    obtain ⟨hc, hf⟩ := hl.cells
    unfold yieldsM
    go_simp
    with_reducible refine uponM_enter ?_
    refine (right_any _ _ _ _ _ _).mono ?_; rintro e w2 ⟨rfl, hb⟩; exact ⟨_, rfl, hb, congrArg Value.bool HR2.out⟩
  simp only [Act.put, List.setIfInBounds_toArray, List.set_cons_zero, List.set_cons_succ]
  with_reducible apply wpN_det
  · intro vals w1 hl hd
    obtain ⟨hc, hf⟩ := hl.cells
    unfold yieldsM
    go_simp
    with_reducible exact uponM_pure
  simp only [Act.put, List.setIfInBounds_toArray, List.set_cons_zero, List.set_cons_succ]
  with_reducible apply wpN_det
  · intro vals w1 hl hd
    obtain ⟨hc, hf⟩ := hl.cells
    unfold yieldsM
    go_simp
    with_reducible exact uponM_pure
  simp only [Act.put, List.setIfInBounds_toArray, List.set_cons_zero, List.set_cons_succ]
  with_reducible apply wpN_det
  · intro vals w1 hl hd
    obtain ⟨hc, hf⟩ := hl.cells
    unfold yieldsM
    go_simp
    with_reducible exact rfl
  simp only [Act.put, List.setIfInBounds_toArray, List.set_cons_zero, List.set_cons_succ]
  with_reducible apply wpN_det
  · intro vals w1 hl hd
    obtain ⟨hc, hf⟩ := hl.cells
    unfold yieldsM
    go_simp
    with_reducible exact rfl
  simp only [Act.put, List.setIfInBounds_toArray, List.set_cons_zero, List.set_cons_succ]
  with_reducible apply wpN_det
  · intro vals w1 hl hd
    obtain ⟨hc, hf⟩ := hl.cells
    unfold yieldsM
    go_simp
    with_reducible exact rfl
  simp only [Act.put, List.setIfInBounds_toArray, List.set_cons_zero, List.set_cons_succ]
  with_reducible apply wpN_det
  · intro vals w1 hl hd
    obtain ⟨hc, hf⟩ := hl.cells
    unfold yieldsM
    go_simp
    with_reducible exact rfl
  simp only [Act.put, List.setIfInBounds_toArray, List.set_cons_zero, List.set_cons_succ]
  with_reducible apply wpN_det
  · intro vals w1 hl hd
    obtain ⟨hc, hf⟩ := hl.cells
    unfold yieldsM
    go_simp
    with_reducible exact rfl
  simp only [Act.put, List.setIfInBounds_toArray, List.set_cons_zero, List.set_cons_succ]
  with_reducible apply wpN_det
  · intro vals w1 hl hd
    obtain ⟨hc, hf⟩ := hl.cells
    unfold yieldsM
    go_simp
    with_reducible exact rfl
  simp only [Act.put, List.setIfInBounds_toArray, List.set_cons_zero, List.set_cons_succ]
  with_reducible apply wpN_det
  · intro vals w1 hl hd
    obtain ⟨hc, hf⟩ := hl.cells
    unfold yieldsM
    go_simp
    with_reducible exact uponM_pure
  simp only [Act.put, List.setIfInBounds_toArray, List.set_cons_zero, List.set_cons_succ]
  with_reducible apply wpN_det
  · intro vals w1 hl hd
    obtain ⟨hc, hf⟩ := hl.cells
    unfold yieldsM
    go_simp
    with_reducible exact uponM_pure
  simp only [Act.put, List.setIfInBounds_toArray, List.set_cons_zero, List.set_cons_succ]
  refine wpN_nil trivial ?_
  intro vals w1 hl hd
  clear hd
  have HL := Lib.hid hl
  clear hl
  go_wp2
  go_ret
  exact ⟨rfl, bstep (by go_grown) HL.out (by simp; omega)⟩

set_option maxRecDepth 20000 in
set_option maxHeartbeats 2000000 in
theorem leq_yes (hr : a.right = true) (hr2 : b.right = true) :
    Calls Tryd.prog 14 #[.agg #[.int .i64 a.b, .int .i64 a.p0, .int .i64 a.p1, .int .i64 a.p2, .int .i64 a.p3], .agg #[.int .i64 b.b, .int .i64 b.p0, .int .i64 b.p1, .int .i64 b.p2, .int .i64 b.p3]] w fun e w' => e = .returned (.bool (decide (Lv.maxl [a, b] = b))) ∧ Below w.heap.size w w' := by
  have HR := Lib.hid hr
  have HR2 := Lib.hid hr2
  clear hr hr2
  go_enter Tryd.func14, Tryd.ntmps14
  go_wp2_with fail
  refine wp_region_at 15 (by kernel_rfl) (by kernel_rfl) (by kernel_rfl) (by decide) ?_
  simp only [List.take_succ_cons, List.take_zero, List.drop_succ_cons, List.drop_zero]
  with_reducible apply wpN_det
  · intro vals w1 hl hd
    obtain ⟨hc, hf⟩ := hl.cells
    unfold yieldsM
    go_simp
    with_reducible exact uponM_pure
  simp only [Act.put, List.setIfInBounds_toArray, List.set_cons_zero, List.set_cons_succ]
  with_reducible apply wpN_det
  · intro vals w1 hl hd
    obtain ⟨hc, hf⟩ := hl.cells
    unfold yieldsM
    go_simp
    with_reducible refine uponM_enter ?_
    refine (right_any _ _ _ _ _ _).mono ?_; rintro e w2 ⟨rfl, hb⟩; exact ⟨_, rfl, hb, congrArg Value.bool HR.out⟩
  simp only [Act.put, List.setIfInBounds_toArray, List.set_cons_zero, List.set_cons_succ]
  with_reducible apply wpN_det
  · intro vals w1 hl hd
    obtain ⟨hc, hf⟩ := hl.cells
    unfold yieldsM
    go_simp
    with_reducible exact uponM_pure
  simp only [Act.put, List.setIfInBounds_toArray, List.set_cons_zero, List.set_cons_succ]
  with_reducible apply wpN_det
  · intro vals w1 hl hd
    obtain ⟨hc, hf⟩ := hl.cells
    unfold yieldsM
    go_simp
    with_reducible exact uponM_pure
  simp only [Act.put, List.setIfInBounds_toArray, List.set_cons_zero, List.set_cons_succ]
  with_reducible apply wpN_det
  · intro vals w1 hl hd
    obtain ⟨hc, hf⟩ := hl.cells
    unfold yieldsM
    go_simp
    with_reducible refine uponM_enter ?_
    refine (right_any _ _ _ _ _ _).mono ?_; rintro e w2 ⟨rfl, hb⟩; exact ⟨_, rfl, hb, congrArg Value.bool HR2.out⟩
  simp only [Act.put, List.setIfInBounds_toArray, List.set_cons_zero, List.set_cons_succ]
  with_reducible apply wpN_det
  · intro vals w1 hl hd
    obtain ⟨hc, hf⟩ := hl.cells
    unfold yieldsM
    go_simp
    with_reducible exact uponM_pure
  simp only [Act.put, List.setIfInBounds_toArray, List.set_cons_zero, List.set_cons_succ]
  with_reducible apply wpN_det
  · intro vals w1 hl hd
    obtain ⟨hc, hf⟩ := hl.cells
    unfold yieldsM
    go_simp
    with_reducible exact uponM_pure
  simp only [Act.put, List.setIfInBounds_toArray, List.set_cons_zero, List.set_cons_succ]
  with_reducible apply wpN_det
  · intro vals w1 hl hd
    obtain ⟨hc, hf⟩ := hl.cells
    unfold yieldsM
    go_simp
    with_reducible exact uponM_pure
  simp only [Act.put, List.setIfInBounds_toArray, List.set_cons_zero, List.set_cons_succ]
  with_reducible apply wpN_det
  · intro vals w1 hl hd
    obtain ⟨hc, hf⟩ := hl.cells
    unfold yieldsM
    go_simp
    with_reducible exact uponM_pure
  simp only [Act.put, List.setIfInBounds_toArray, List.set_cons_zero, List.set_cons_succ]
  refine wpN_mem (fun u w => ∃ g, u = .slice (some ⟨g, 0, none⟩) 2 2 ∧ Blk w g 24 #[.int .i64 a.b, .int .i64 a.p0, .int .i64 a.p1, .int .i64 a.p2, .int .i64 a.p3, .int .i64 b.b, .int .i64 b.p0, .int .i64 b.p1, .int .i64 b.p2, .int .i64 b.p3]) (fun u w w' hw ⟨g, e, h⟩ => ⟨g, e, h.bel hw⟩) ?_ ?_
  · intro vals w1 hl hd
    obtain ⟨hc, hf⟩ := hl.cells
    unfold yieldsM
    go_simp
    exact ⟨Below.alloc (Below.refl _ _) (Nat.le_refl _) _, _, rfl, Blk.new _ _ _⟩
  simp only [Act.put, List.setIfInBounds_toArray, List.set_cons_zero, List.set_cons_succ]
  with_reducible apply wpN_det
  · intro vals w1 hl hd
    obtain ⟨hc, hf⟩ := hl.cells
    have hd14 := hd 9 _ rfl (by kernel_rfl)
    obtain ⟨g, hg, hB⟩ := hd14; have hv : vals 9 = .slice (some ⟨g, 0, none⟩) 2 2 := hg; have HB := Lib.hid hB; clear hB hd hg
    unfold yieldsM
    go_simp
    with_reducible refine uponM_enter ?_
    refine (max_any _ _ [a, b] _ (row_two HB.out) _ rfl).mono ?_; rintro e w2 ⟨rfl, hb⟩; exact ⟨.agg #[.int .i64 (Lv.maxl [a, b]).b, .int .i64 (Lv.maxl [a, b]).p0, .int .i64 (Lv.maxl [a, b]).p1, .int .i64 (Lv.maxl [a, b]).p2, .int .i64 (Lv.maxl [a, b]).p3], rfl, hb, rfl⟩
  simp only [Act.put, List.setIfInBounds_toArray, List.set_cons_zero, List.set_cons_succ]
  with_reducible apply wpN_det
  · intro vals w1 hl hd
    obtain ⟨hc, hf⟩ := hl.cells
    unfold yieldsM
    go_simp
    with_reducible exact uponM_pure
  simp only [Act.put, List.setIfInBounds_toArray, List.set_cons_zero, List.set_cons_succ]
  refine wpN_det (v := .bool (decide (Lv.maxl [a, b] = b))) ?_ ?_
  · intro vals w1 hl hd
    obtain ⟨hc, hf⟩ := hl.cells
    have he := eq22 w1
    unfold yieldsM
    go_simp
    exact uponM_eq (if_eq _ _ _)
  simp only [Act.put, List.setIfInBounds_toArray, List.set_cons_zero, List.set_cons_succ]
  with_reducible apply wpN_det
  · intro vals w1 hl hd
    obtain ⟨hc, hf⟩ := hl.cells
    unfold yieldsM
    go_simp
    with_reducible exact uponM_pure
  simp only [Act.put, List.setIfInBounds_toArray, List.set_cons_zero, List.set_cons_succ]
  with_reducible apply wpN_det
  · intro vals w1 hl hd
    obtain ⟨hc, hf⟩ := hl.cells
    unfold yieldsM
    go_simp
    with_reducible exact uponM_pure
  simp only [Act.put, List.setIfInBounds_toArray, List.set_cons_zero, List.set_cons_succ]
  refine wpN_nil trivial ?_
  intro vals w1 hl hd
  have hd14 := hd 9 _ rfl
  clear hd
  have HL := Lib.hid hl
  clear hl
  go_wp2
  go_ret
  exact ⟨rfl, bstep (by go_grown) HL.out (by simp; omega)⟩

theorem leq_any :
    Calls Tryd.prog 14 #[.agg #[.int .i64 a.b, .int .i64 a.p0, .int .i64 a.p1, .int .i64 a.p2, .int .i64 a.p3], .agg #[.int .i64 b.b, .int .i64 b.p0, .int .i64 b.p1, .int .i64 b.p2, .int .i64 b.p3]] w fun e w' => e = .returned (.bool (Lv.leq a b)) ∧ Below w.heap.size w w' := by
  unfold Lv.leq
  cases hr : a.right
  · exact leq_no1 a b w hr
  · cases hr2 : b.right
    · exact leq_no2 a b w hr hr2
    · exact leq_yes a b w hr hr2
end
end Go.Proofs.YtmkpiekbpakigaaDoor
