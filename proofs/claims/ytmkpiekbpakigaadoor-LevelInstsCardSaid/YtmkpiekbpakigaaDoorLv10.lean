/- The liveness test of layer 7's statements. -/
import Derived.Test.YtmkpiekbpakigaaDoorLv9
set_option linter.unusedVariables false
set_option linter.unusedSimpArgs false
namespace Go.Proofs.YtmkpiekbpakigaaDoor
open Go.RowKit Go.Proofs.Base Go.Proofs.Mono

theorem row_one {w : World} {g : Nat} {a : Lv} (h : Blk w g 24 #[.int .i64 a.b, .int .i64 a.p0, .int .i64 a.p1, .int .i64 a.p2, .int .i64 a.p3]) : LvRow w (some ⟨g, 0, none⟩) [a] := by
  refine ⟨by simp, fun _ => ⟨g, 0, rfl, fun j l hj => ?_⟩⟩
  match j, hj with
  | 0, hj =>
    obtain rfl : a = l := by simpa using hj
    exact ⟨h.cell 0, h.cell 1, h.cell 2, h.cell 3, h.cell 4⟩
  | j + 1, hj => simp at hj
theorem itoa_digit (n : Nat) (h : n < 10) : Lib.itoa n = [UInt8.ofNat (48 + n)] := by
  unfold Lib.itoa
  rw [if_neg (by omega), Lib.decDigits, dif_pos (by simpa using h)]
  simp
theorem text_u : Lv.text ⟨2, 1, -1, -1, -1⟩ = [50, 32, 124, 32, 117, 48, 43, 49] := by
  have h0 := itoa_digit 0 (by decide)
  have h1 := itoa_digit 1 (by decide)
  have h2 := itoa_digit 2 (by decide)
  simp only [Int.natCast_zero, Int.natCast_one, Int.cast_ofNat_Int] at h0 h1 h2
  have hf : Lv.full ⟨2, 1, -1, -1, -1⟩ = [[50], [117, 48, 43, 49]] := by
    simp only [Lv.full, Lv.toldGo, Lv.partsGo, Lv.p, uPart]
    simp [h0, h1, h2]
  unfold Lv.text
  rw [if_pos (by decide), hf]
  rfl

section
variable (w : World)
set_option maxRecDepth 20000 in
set_option maxHeartbeats 8000000 in
theorem alive_any (ht : Tab w) : Calls Tryd.prog 13 #[] w fun e w' => e = .returned (.bool true) ∧ Below w.heap.size w w' := by
  have HT := Lib.hid ht
  clear ht
  go_enter Tryd.func13, Tryd.ntmps13
  go_wp2_with fail
  refine (num_any _ _).mono ?_
  rintro e w1 ⟨rfl, hb⟩
  have HB1 := Lib.hid hb
  clear hb
  go_wp2_with fail
  refine (param_00 _).mono ?_
  rintro e w2 ⟨rfl, hb⟩
  have HB2 := Lib.hid (bstep HB1.out hb HB1.out.size)
  clear hb HB1
  go_wp2_with fail
  refine (max_any _ _ [⟨1, -1, -1, -1, -1⟩, ⟨0, 0, -1, -1, -1⟩] _ (row_two (Blk.new _ _ _)) _ rfl).mono ?_
  rintro e w3 ⟨rfl, hb⟩
  rw [show Lv.maxl [⟨1, -1, -1, -1, -1⟩, ⟨0, 0, -1, -1, -1⟩] = ⟨1, 0, -1, -1, -1⟩ from by decide, Lv.val_mk]
  have HB3 := Lib.hid (bstep (HB2.out.alloc HB2.out.size _) hb (by have := HB2.out.size; simp; omega))
  clear hb HB2
  go_wp2_with fail
  refine (up_any 1 0 (-1) (-1) (-1) 1 _).mono ?_
  rintro e w4 ⟨rfl, hb⟩
  rw [show Lv.up ⟨1, 0, -1, -1, -1⟩ 1 = (⟨2, 1, -1, -1, -1⟩, true) from by decide, Lv.val_mk]
  have hB1 := (Blk.new w3 24 #[.int .i64 1, .int .i64 0, .int .i64 (-1), .int .i64 (-1), .int .i64 (-1)]).bel hb
  have HB4 := Lib.hid (bstep (HB3.out.alloc HB3.out.size _) hb (by have := HB3.out.size; simp; omega))
  have h34 : w3.heap.size < w4.heap.size := hB1.lt
  have HBM := Lib.hid hB1
  clear hb HB3 hB1
  go_wp2_with fail
  have hBM := HBM.out.alloc (.cells #[.int .i64 2, .int .i64 1, .int .i64 (-1), .int .i64 (-1), .int .i64 (-1)] 24)
  have hBU := Blk.new w4 24 #[.int .i64 2, .int .i64 1, .int .i64 (-1), .int .i64 (-1), .int .i64 (-1)]
  have hbw := HB4.out.alloc HB4.out.size (.cells #[.int .i64 2, .int .i64 1, .int .i64 (-1), .int .i64 (-1), .int .i64 (-1)] 24)
  generalize hg2 : w4.heap.size = g2 at hBU h34 ⊢
  generalize hg1 : w3.heap.size = g1 at hBM h34 ⊢
  generalize w4.alloc (.cells #[.int .i64 2, .int .i64 1, .int .i64 (-1), .int .i64 (-1), .int .i64 (-1)] 24) = W at hBM hBU hbw ⊢
  clear hg1 hg2 HBM HB4
  obtain ⟨d0, d1, d2, d3, d4, df⟩ := hBM.cells5
  obtain ⟨f0, f1, f2, f3, f4, ff⟩ := hBU.cells5
  have hz1 : g1 < W.heap.size := hBM.lt
  have hz2 : g2 < W.heap.size := hBU.lt
  have HBM := Lib.hid hBM
  have HBU := Lib.hid hBU
  have HBW := Lib.hid hbw
  clear hBM hBU hbw
  refine wp_region_lateAt 8 [6] (by kernel_rfl) (by kernel_rfl) (by kernel_rfl) (by decide) ?_
  simp only [List.take_succ_cons, List.take_zero, List.drop_succ_cons, List.drop_zero]
  with_reducible apply wpN_det
  · intro vals w1 hl hd
    obtain ⟨hc, hf⟩ := hl.cells
    unfold yieldsM
    go_simp
    with_reducible exact uponM_pure
  simp only [Act.put, List.setIfInBounds_toArray, List.set_cons_zero, List.set_cons_succ]
  with_reducible apply wpN_det
  · intro vals w1 hl hd
    obtain ⟨hc, hf⟩ := hl.cells
    unfold yieldsM
    go_simp
    with_reducible refine uponM_enter ?_
    refine (num_any _ _).mono ?_; rintro e w5 ⟨rfl, hb⟩; exact ⟨_, rfl, hb, rfl⟩
  simp only [Act.put, List.setIfInBounds_toArray, List.set_cons_zero, List.set_cons_succ]
  refine wpN_mem (fun u w => ∃ g, u = .slice (some ⟨g, 0, none⟩) 1 1 ∧ Blk w g 24 #[.int .i64 7, .int .i64 (-1), .int .i64 (-1), .int .i64 (-1), .int .i64 (-1)]) (fun u w w' hw ⟨g, e, h⟩ => ⟨g, e, h.bel hw⟩) ?_ ?_
  · intro vals w1 hl hd
    obtain ⟨hc, hf⟩ := hl.cells
    unfold yieldsM
    go_simp
    exact ⟨Below.alloc (Below.refl _ _) (Nat.le_refl _) _, _, rfl, Blk.new _ _ _⟩
  simp only [Act.put, List.setIfInBounds_toArray, List.set_cons_zero, List.set_cons_succ]
  with_reducible apply wpN_det
  · intro vals w1 hl hd
    obtain ⟨hc, hf⟩ := hl.cells
    have hd18 := hd 2 _ rfl (by kernel_rfl)
    obtain ⟨g, hg, hB⟩ := hd18; have hv : vals 2 = .slice (some ⟨g, 0, none⟩) 1 1 := hg; have HB := Lib.hid hB; clear hB hd hg
    unfold yieldsM
    go_simp
    with_reducible refine uponM_enter ?_
    refine (inst_any ⟨2, 1, -1, -1, -1⟩ _ [⟨7, -1, -1, -1, -1⟩] _ _ _ rfl (row_one HB.out)).mono ?_; rintro e w5 ⟨rfl, hb⟩; exact ⟨.tuple #[.agg #[.int .i64 8, .int .i64 (-1), .int .i64 (-1), .int .i64 (-1), .int .i64 (-1)], .bool true], by rw [show Lv.inst ⟨2, 1, -1, -1, -1⟩ [⟨7, -1, -1, -1, -1⟩] = (⟨8, -1, -1, -1, -1⟩, true) from by decide]; rfl, hb, rfl⟩
  simp only [Act.put, List.setIfInBounds_toArray, List.set_cons_zero, List.set_cons_succ]
  with_reducible apply wpN_det
  · intro vals w1 hl hd
    obtain ⟨hc, hf⟩ := hl.cells
    unfold yieldsM
    go_simp
    with_reducible exact uponM_pure
  simp only [Act.put, List.setIfInBounds_toArray, List.set_cons_zero, List.set_cons_succ]
  with_reducible apply wpN_det
  · intro vals w1 hl hd
    obtain ⟨hc, hf⟩ := hl.cells
    unfold yieldsM
    go_simp
    with_reducible exact uponM_pure
  simp only [Act.put, List.setIfInBounds_toArray, List.set_cons_zero, List.set_cons_succ]
  with_reducible apply wpN_free
  · intro vals w1 hd
    go_simp
    first | (with_reducible exact rfl) | exact fun _ => rfl
  simp only [Act.put, List.setIfInBounds_toArray, List.set_cons_zero, List.set_cons_succ]
  refine wpN_mem (fun u w => ∃ g, u = .pointer (some ⟨g, 0, none⟩) ∧ W.heap.size ≤ g ∧ Blk w g 24 #[.int .i64 0, .int .i64 0, .int .i64 0, .int .i64 0, .int .i64 0]) (fun u w w' hw ⟨g, e, hg, h⟩ => ⟨g, e, hg, h.bel hw⟩) ?_ ?_
  · intro vals w1 hl hd
    obtain ⟨hc, hf⟩ := hl.cells
    unfold yieldsM
    go_simp
    exact ⟨Below.alloc (Below.refl _ _) (Nat.le_refl _) _, _, rfl, Below.size hl, Blk.new _ _ _⟩
  simp only [Act.put, List.setIfInBounds_toArray, List.set_cons_zero, List.set_cons_succ]
  refine wpN_nil (by rfl) ?_
  intro vals w1 hl hd
  have hd18 := hd 2 _ rfl
  have hd4 := hd 7 _ rfl
  clear hd
  obtain ⟨g, hg, hgw, hB9⟩ := hd4; have hv : vals 7 = .pointer (some ⟨g, 0, none⟩) := hg; obtain ⟨q0, q1, q2, q3, q4, qf⟩ := hB9.cells5; have HL := Lib.hid hl; have HB9 := Lib.hid hB9; clear hl hB9 hg
  refine wpT_step (fun K hK => ?_)
  unfold yieldsM
  go_simp
  with_reducible refine uponM_skip ?_
  refine hK _ _ ?_
  clear hK K
  try simp only [Act.put, List.setIfInBounds_toArray, List.set_cons_zero, List.set_cons_succ]
  refine wpT_step (fun K hK => ?_)
  unfold yieldsM
  go_simp
  with_reducible refine uponM_value ?_
  refine hK _ _ ?_
  clear hK K
  try simp only [Act.put, List.setIfInBounds_toArray, List.set_cons_zero, List.set_cons_succ]
  refine wpT_nil ?_
  have h6 : g1 ≠ g := by omega
  have h7 : g2 ≠ g := by omega
  have hBX := (((((HB9.out.set_ 0 (.int .i64 8)).set_ 1 (.int .i64 (-1))).set_ 2 (.int .i64 (-1))).set_ 3 (.int .i64 (-1))).set_ 4 (.int .i64 (-1)))
  have hBM := ((((((HBM.out.bel HL.out).far (p := ⟨g, 0, none⟩) h6 (.int .i64 8)).far (p := ⟨g, 1, none⟩) h6 (.int .i64 (-1))).far (p := ⟨g, 2, none⟩) h6 (.int .i64 (-1))).far (p := ⟨g, 3, none⟩) h6 (.int .i64 (-1))).far (p := ⟨g, 4, none⟩) h6 (.int .i64 (-1)))
  have hBU := ((((((HBU.out.bel HL.out).far (p := ⟨g, 0, none⟩) h7 (.int .i64 8)).far (p := ⟨g, 1, none⟩) h7 (.int .i64 (-1))).far (p := ⟨g, 2, none⟩) h7 (.int .i64 (-1))).far (p := ⟨g, 3, none⟩) h7 (.int .i64 (-1))).far (p := ⟨g, 4, none⟩) h7 (.int .i64 (-1)))
  have hbw := ((((((bstep HBW.out HL.out HBW.out.size).setCell (p := ⟨g, 0, none⟩) (by have := HBW.out.size; show _ ≤ g; omega) (.int .i64 8)).setCell (p := ⟨g, 1, none⟩) (by have := HBW.out.size; show _ ≤ g; omega) (.int .i64 (-1))).setCell (p := ⟨g, 2, none⟩) (by have := HBW.out.size; show _ ≤ g; omega) (.int .i64 (-1))).setCell (p := ⟨g, 3, none⟩) (by have := HBW.out.size; show _ ≤ g; omega) (.int .i64 (-1))).setCell (p := ⟨g, 4, none⟩) (by have := HBW.out.size; show _ ≤ g; omega) (.int .i64 (-1)))
  clear d0 d1 d2 d3 d4 df f0 f1 f2 f3 f4 ff q0 q1 q2 q3 q4 qf HB9 HBM HBU
  have hTW : Tab (((((w1.setCell ⟨g, 0, none⟩ (.int .i64 8)).setCell ⟨g, 1, none⟩ (.int .i64 (-1))).setCell ⟨g, 2, none⟩ (.int .i64 (-1))).setCell ⟨g, 3, none⟩ (.int .i64 (-1))).setCell ⟨g, 4, none⟩ (.int .i64 (-1))) := HT.out.bel hbw
  generalize (((((w1.setCell ⟨g, 0, none⟩ (.int .i64 8)).setCell ⟨g, 1, none⟩ (.int .i64 (-1))).setCell ⟨g, 2, none⟩ (.int .i64 (-1))).setCell ⟨g, 3, none⟩ (.int .i64 (-1))).setCell ⟨g, 4, none⟩ (.int .i64 (-1))) = V at hBX hBM hBU hbw hTW ⊢
  clear hz1 hz2 h6 h7 hgw HL HBW
  obtain ⟨d0, d1, d2, d3, d4, df⟩ := hBM.cells5
  obtain ⟨f0, f1, f2, f3, f4, ff⟩ := hBU.cells5
  obtain ⟨q0, q1, q2, q3, q4, qf⟩ := hBX.cells5
  have hz1 : g1 < V.heap.size := hBM.lt
  have hz2 : g2 < V.heap.size := hBU.lt
  have hz3 : g < V.heap.size := hBX.lt
  have HBW := Lib.hid hbw
  have HTW := Lib.hid hTW
  clear hBX hBM hBU hbw hTW h34
  go_wp2_with fail
  refine wp_region_at 57 (by kernel_rfl) (by kernel_rfl) (by kernel_rfl) (by decide) ?_
  simp only [List.take_succ_cons, List.take_zero, List.drop_succ_cons, List.drop_zero]
  with_reducible apply wpN_det
  · intro vals w1 hl hd
    obtain ⟨hc, hf⟩ := hl.cells
    unfold yieldsM
    go_simp
    with_reducible exact uponM_pure
  simp only [Act.put, List.setIfInBounds_toArray, List.set_cons_zero, List.set_cons_succ]
  with_reducible apply wpN_det
  · intro vals w1 hl hd
    obtain ⟨hc, hf⟩ := hl.cells
    unfold yieldsM
    go_simp
    with_reducible exact uponM_pure
  simp only [Act.put, List.setIfInBounds_toArray, List.set_cons_zero, List.set_cons_succ]
  with_reducible apply wpN_det
  · intro vals w1 hl hd
    obtain ⟨hc, hf⟩ := hl.cells
    unfold yieldsM
    go_simp
    with_reducible exact uponM_pure
  simp only [Act.put, List.setIfInBounds_toArray, List.set_cons_zero, List.set_cons_succ]
  with_reducible apply wpN_det
  · intro vals w1 hl hd
    obtain ⟨hc, hf⟩ := hl.cells
    unfold yieldsM
    go_simp
    with_reducible exact uponM_pure
  simp only [Act.put, List.setIfInBounds_toArray, List.set_cons_zero, List.set_cons_succ]
  with_reducible apply wpN_det
  · intro vals w1 hl hd
    obtain ⟨hc, hf⟩ := hl.cells
    unfold yieldsM
    go_simp
    with_reducible exact uponM_pure
  simp only [Act.put, List.setIfInBounds_toArray, List.set_cons_zero, List.set_cons_succ]
  with_reducible apply wpN_det
  · intro vals w1 hl hd
    obtain ⟨hc, hf⟩ := hl.cells
    unfold yieldsM
    go_simp
    with_reducible exact uponM_pure
  simp only [Act.put, List.setIfInBounds_toArray, List.set_cons_zero, List.set_cons_succ]
  with_reducible apply wpN_det
  · intro vals w1 hl hd
    obtain ⟨hc, hf⟩ := hl.cells
    unfold yieldsM
    go_simp
    with_reducible exact uponM_pure
  simp only [Act.put, List.setIfInBounds_toArray, List.set_cons_zero, List.set_cons_succ]
  with_reducible apply wpN_det
  · intro vals w1 hl hd
    obtain ⟨hc, hf⟩ := hl.cells
    unfold yieldsM
    go_simp
    with_reducible exact uponM_pure
  simp only [Act.put, List.setIfInBounds_toArray, List.set_cons_zero, List.set_cons_succ]
  with_reducible apply wpN_det
  · intro vals w1 hl hd
    obtain ⟨hc, hf⟩ := hl.cells
    have he := eq22 w1
    unfold yieldsM
    go_simp
    with_reducible exact uponM_pure
  simp only [Act.put, List.setIfInBounds_toArray, List.set_cons_zero, List.set_cons_succ]
  with_reducible apply wpN_det
  · intro vals w1 hl hd
    obtain ⟨hc, hf⟩ := hl.cells
    unfold yieldsM
    go_simp
    with_reducible exact uponM_pure
  simp only [Act.put, List.setIfInBounds_toArray, List.set_cons_zero, List.set_cons_succ]
  with_reducible apply wpN_det
  · intro vals w1 hl hd
    obtain ⟨hc, hf⟩ := hl.cells
    unfold yieldsM
    go_simp
    with_reducible exact uponM_pure
  simp only [Act.put, List.setIfInBounds_toArray, List.set_cons_zero, List.set_cons_succ]
  with_reducible apply wpN_det
  · intro vals w1 hl hd
    obtain ⟨hc, hf⟩ := hl.cells
    unfold yieldsM
    go_simp
    with_reducible exact uponM_pure
  simp only [Act.put, List.setIfInBounds_toArray, List.set_cons_zero, List.set_cons_succ]
  with_reducible apply wpN_det
  · intro vals w1 hl hd
    obtain ⟨hc, hf⟩ := hl.cells
    unfold yieldsM
    go_simp
    with_reducible refine uponM_enter ?_
    refine (string_any (⟨2, 1, -1, -1, -1⟩ : Lv) _ (HTW.out.bel hl)).mono ?_; rintro e w5 ⟨rfl, hb⟩; exact ⟨.string ⟨#[50, 32, 124, 32, 117, 48, 43, 49]⟩, by rw [text_u], hb, rfl⟩
  simp only [Act.put, List.setIfInBounds_toArray, List.set_cons_zero, List.set_cons_succ]
  with_reducible apply wpN_det
  · intro vals w1 hl hd
    obtain ⟨hc, hf⟩ := hl.cells
    unfold yieldsM
    go_simp
    with_reducible exact uponM_pure
  simp only [Act.put, List.setIfInBounds_toArray, List.set_cons_zero, List.set_cons_succ]
  with_reducible apply wpN_det
  · intro vals w1 hl hd
    obtain ⟨hc, hf⟩ := hl.cells
    unfold yieldsM
    go_simp
    with_reducible exact uponM_pure
  simp only [Act.put, List.setIfInBounds_toArray, List.set_cons_zero, List.set_cons_succ]
  with_reducible apply wpN_det
  · intro vals w1 hl hd
    obtain ⟨hc, hf⟩ := hl.cells
    unfold yieldsM
    go_simp
    with_reducible exact uponM_pure
  simp only [Act.put, List.setIfInBounds_toArray, List.set_cons_zero, List.set_cons_succ]
  with_reducible apply wpN_det
  · intro vals w1 hl hd
    obtain ⟨hc, hf⟩ := hl.cells
    unfold yieldsM
    go_simp
    with_reducible exact uponM_pure
  simp only [Act.put, List.setIfInBounds_toArray, List.set_cons_zero, List.set_cons_succ]
  refine wpN_mem (fun u w => ∃ g, u = .slice (some ⟨g, 0, none⟩) 1 1 ∧ Blk w g 3 #[.int .i64 5]) (fun u w w' hw ⟨g, e, h⟩ => ⟨g, e, h.bel hw⟩) ?_ ?_
  · intro vals w1 hl hd
    obtain ⟨hc, hf⟩ := hl.cells
    unfold yieldsM
    go_simp
    exact ⟨Below.alloc (Below.refl _ _) (Nat.le_refl _) _, _, rfl, Blk.new _ _ _⟩
  simp only [Act.put, List.setIfInBounds_toArray, List.set_cons_zero, List.set_cons_succ]
  with_reducible apply wpN_det
  · intro vals w1 hl hd
    obtain ⟨hc, hf⟩ := hl.cells
    have hd39 := hd 17 _ rfl (by kernel_rfl)
    obtain ⟨g', hg, hB⟩ := hd39; have hv : vals 17 = .slice (some ⟨g', 0, none⟩) 1 1 := hg; have HB := Lib.hid hB; clear hB hd hg
    unfold yieldsM
    go_simp
    with_reducible refine uponM_enter ?_
    refine (value_any (⟨2, 1, -1, -1, -1⟩ : Lv) _ [5] _ _ _ ⟨by simp, fun _ => ⟨g', 0, rfl, fun j x hj => by rcases j with _ | j; (obtain rfl : 5 = x := by simpa using hj); exact HB.out.cell 0; simp at hj⟩⟩ rfl (Nat.le_refl _) (by decide)).mono ?_; rintro e w5 ⟨rfl, hb⟩; exact ⟨.int .i64 6, by rw [show Lv.value (⟨2, 1, -1, -1, -1⟩ : Lv) [5] = 6 from by decide], hb, rfl⟩
  simp only [Act.put, List.setIfInBounds_toArray, List.set_cons_zero, List.set_cons_succ]
  with_reducible apply wpN_det
  · intro vals w1 hl hd
    obtain ⟨hc, hf⟩ := hl.cells
    unfold yieldsM
    go_simp
    with_reducible exact uponM_pure
  simp only [Act.put, List.setIfInBounds_toArray, List.set_cons_zero, List.set_cons_succ]
  with_reducible apply wpN_det
  · intro vals w1 hl hd
    obtain ⟨hc, hf⟩ := hl.cells
    unfold yieldsM
    go_simp
    with_reducible exact uponM_pure
  simp only [Act.put, List.setIfInBounds_toArray, List.set_cons_zero, List.set_cons_succ]
  with_reducible apply wpN_det
  · intro vals w1 hl hd
    obtain ⟨hc, hf⟩ := hl.cells
    unfold yieldsM
    go_simp
    with_reducible exact uponM_pure
  simp only [Act.put, List.setIfInBounds_toArray, List.set_cons_zero, List.set_cons_succ]
  with_reducible apply wpN_det
  · intro vals w1 hl hd
    obtain ⟨hc, hf⟩ := hl.cells
    unfold yieldsM
    go_simp
    with_reducible exact uponM_pure
  simp only [Act.put, List.setIfInBounds_toArray, List.set_cons_zero, List.set_cons_succ]
  with_reducible apply wpN_det
  · intro vals w1 hl hd
    obtain ⟨hc, hf⟩ := hl.cells
    unfold yieldsM
    go_simp
    with_reducible refine uponM_enter ?_
    refine (num_any _ _).mono ?_; rintro e w5 ⟨rfl, hb⟩; exact ⟨_, rfl, hb, rfl⟩
  simp only [Act.put, List.setIfInBounds_toArray, List.set_cons_zero, List.set_cons_succ]
  with_reducible apply wpN_det
  · intro vals w1 hl hd
    obtain ⟨hc, hf⟩ := hl.cells
    have he := eq22 w1
    unfold yieldsM
    go_simp
    with_reducible exact uponM_pure
  simp only [Act.put, List.setIfInBounds_toArray, List.set_cons_zero, List.set_cons_succ]
  with_reducible apply wpN_det
  · intro vals w1 hl hd
    obtain ⟨hc, hf⟩ := hl.cells
    unfold yieldsM
    go_simp
    with_reducible exact uponM_pure
  simp only [Act.put, List.setIfInBounds_toArray, List.set_cons_zero, List.set_cons_succ]
  with_reducible apply wpN_det
  · intro vals w1 hl hd
    obtain ⟨hc, hf⟩ := hl.cells
    unfold yieldsM
    go_simp
    with_reducible exact uponM_pure
  simp only [Act.put, List.setIfInBounds_toArray, List.set_cons_zero, List.set_cons_succ]
  with_reducible apply wpN_det
  · intro vals w1 hl hd
    obtain ⟨hc, hf⟩ := hl.cells
    unfold yieldsM
    go_simp
    with_reducible exact uponM_pure
  simp only [Act.put, List.setIfInBounds_toArray, List.set_cons_zero, List.set_cons_succ]
  with_reducible apply wpN_det
  · intro vals w1 hl hd
    obtain ⟨hc, hf⟩ := hl.cells
    unfold yieldsM
    go_simp
    with_reducible exact uponM_pure
  simp only [Act.put, List.setIfInBounds_toArray, List.set_cons_zero, List.set_cons_succ]
  with_reducible apply wpN_det
  · intro vals w1 hl hd
    obtain ⟨hc, hf⟩ := hl.cells
    unfold yieldsM
    go_simp
    with_reducible refine uponM_enter ?_
    refine (leq_any (⟨1, 0, -1, -1, -1⟩ : Lv) (⟨2, 1, -1, -1, -1⟩ : Lv) _).mono ?_; rintro e w5 ⟨rfl, hb⟩; exact ⟨.bool true, by rw [show Lv.leq (⟨1, 0, -1, -1, -1⟩ : Lv) (⟨2, 1, -1, -1, -1⟩ : Lv) = true from by decide], hb, rfl⟩
  simp only [Act.put, List.setIfInBounds_toArray, List.set_cons_zero, List.set_cons_succ]
  with_reducible apply wpN_det
  · intro vals w1 hl hd
    obtain ⟨hc, hf⟩ := hl.cells
    unfold yieldsM
    go_simp
    with_reducible exact uponM_pure
  simp only [Act.put, List.setIfInBounds_toArray, List.set_cons_zero, List.set_cons_succ]
  with_reducible apply wpN_det
  · intro vals w1 hl hd
    obtain ⟨hc, hf⟩ := hl.cells
    unfold yieldsM
    go_simp
    with_reducible exact uponM_pure
  simp only [Act.put, List.setIfInBounds_toArray, List.set_cons_zero, List.set_cons_succ]
  with_reducible apply wpN_det
  · intro vals w1 hl hd
    obtain ⟨hc, hf⟩ := hl.cells
    unfold yieldsM
    go_simp
    with_reducible exact uponM_pure
  simp only [Act.put, List.setIfInBounds_toArray, List.set_cons_zero, List.set_cons_succ]
  with_reducible apply wpN_det
  · intro vals w1 hl hd
    obtain ⟨hc, hf⟩ := hl.cells
    unfold yieldsM
    go_simp
    with_reducible exact uponM_pure
  simp only [Act.put, List.setIfInBounds_toArray, List.set_cons_zero, List.set_cons_succ]
  with_reducible apply wpN_det
  · intro vals w1 hl hd
    obtain ⟨hc, hf⟩ := hl.cells
    unfold yieldsM
    go_simp
    with_reducible refine uponM_enter ?_
    refine (leq_any (⟨2, 1, -1, -1, -1⟩ : Lv) (⟨1, 0, -1, -1, -1⟩ : Lv) _).mono ?_; rintro e w5 ⟨rfl, hb⟩; exact ⟨.bool false, by rw [show Lv.leq (⟨2, 1, -1, -1, -1⟩ : Lv) (⟨1, 0, -1, -1, -1⟩ : Lv) = false from by decide], hb, rfl⟩
  simp only [Act.put, List.setIfInBounds_toArray, List.set_cons_zero, List.set_cons_succ]
  with_reducible apply wpN_det
  · intro vals w1 hl hd
    obtain ⟨hc, hf⟩ := hl.cells
    unfold yieldsM
    go_simp
    with_reducible exact uponM_pure
  simp only [Act.put, List.setIfInBounds_toArray, List.set_cons_zero, List.set_cons_succ]
  with_reducible apply wpN_det
  · intro vals w1 hl hd
    obtain ⟨hc, hf⟩ := hl.cells
    unfold yieldsM
    go_simp
    with_reducible exact uponM_pure
  simp only [Act.put, List.setIfInBounds_toArray, List.set_cons_zero, List.set_cons_succ]
  with_reducible apply wpN_det
  · intro vals w1 hl hd
    obtain ⟨hc, hf⟩ := hl.cells
    unfold yieldsM
    go_simp
    with_reducible exact uponM_pure
  simp only [Act.put, List.setIfInBounds_toArray, List.set_cons_zero, List.set_cons_succ]
  with_reducible apply wpN_det
  · intro vals w1 hl hd
    obtain ⟨hc, hf⟩ := hl.cells
    unfold yieldsM
    go_simp
    with_reducible exact uponM_pure
  simp only [Act.put, List.setIfInBounds_toArray, List.set_cons_zero, List.set_cons_succ]
  with_reducible apply wpN_det
  · intro vals w1 hl hd
    obtain ⟨hc, hf⟩ := hl.cells
    unfold yieldsM
    go_simp
    with_reducible refine uponM_enter ?_
    refine (right_any _ _ _ _ _ _).mono ?_; rintro e w5 ⟨rfl, hb⟩; exact ⟨.bool true, by rw [show Lv.right (⟨2, 1, -1, -1, -1⟩ : Lv) = true from by decide], hb, rfl⟩
  simp only [Act.put, List.setIfInBounds_toArray, List.set_cons_zero, List.set_cons_succ]
  with_reducible apply wpN_det
  · intro vals w1 hl hd
    obtain ⟨hc, hf⟩ := hl.cells
    unfold yieldsM
    go_simp
    with_reducible exact uponM_pure
  simp only [Act.put, List.setIfInBounds_toArray, List.set_cons_zero, List.set_cons_succ]
  with_reducible apply wpN_det
  · intro vals w1 hl hd
    obtain ⟨hc, hf⟩ := hl.cells
    unfold yieldsM
    go_simp
    with_reducible exact uponM_pure
  simp only [Act.put, List.setIfInBounds_toArray, List.set_cons_zero, List.set_cons_succ]
  with_reducible apply wpN_det
  · intro vals w1 hl hd
    obtain ⟨hc, hf⟩ := hl.cells
    unfold yieldsM
    go_simp
    with_reducible refine uponM_enter ?_
    refine (num_any _ _).mono ?_; rintro e w5 ⟨rfl, hb⟩; exact ⟨_, rfl, hb, rfl⟩
  simp only [Act.put, List.setIfInBounds_toArray, List.set_cons_zero, List.set_cons_succ]
  with_reducible apply wpN_det
  · intro vals w1 hl hd
    obtain ⟨hc, hf⟩ := hl.cells
    unfold yieldsM
    go_simp
    with_reducible refine uponM_enter ?_
    refine (right_any _ _ _ _ _ _).mono ?_; rintro e w5 ⟨rfl, hb⟩; exact ⟨.bool false, by rw [show Lv.right ⟨-1, -1, -1, -1, -1⟩ = false from by decide], hb, rfl⟩
  simp only [Act.put, List.setIfInBounds_toArray, List.set_cons_zero, List.set_cons_succ]
  with_reducible apply wpN_det
  · intro vals w1 hl hd
    obtain ⟨hc, hf⟩ := hl.cells
    unfold yieldsM
    go_simp
    with_reducible exact uponM_pure
  simp only [Act.put, List.setIfInBounds_toArray, List.set_cons_zero, List.set_cons_succ]
  with_reducible apply wpN_det
  · intro vals w1 hl hd
    obtain ⟨hc, hf⟩ := hl.cells
    unfold yieldsM
    go_simp
    with_reducible exact uponM_pure
  simp only [Act.put, List.setIfInBounds_toArray, List.set_cons_zero, List.set_cons_succ]
  with_reducible apply wpN_det
  · intro vals w1 hl hd
    obtain ⟨hc, hf⟩ := hl.cells
    unfold yieldsM
    go_simp
    with_reducible exact uponM_pure
  simp only [Act.put, List.setIfInBounds_toArray, List.set_cons_zero, List.set_cons_succ]
  with_reducible apply wpN_det
  · intro vals w1 hl hd
    obtain ⟨hc, hf⟩ := hl.cells
    unfold yieldsM
    go_simp
    with_reducible exact uponM_pure
  simp only [Act.put, List.setIfInBounds_toArray, List.set_cons_zero, List.set_cons_succ]
  with_reducible apply wpN_det
  · intro vals w1 hl hd
    obtain ⟨hc, hf⟩ := hl.cells
    unfold yieldsM
    go_simp
    with_reducible refine uponM_enter ?_
    refine (width_any _ _ _ _ _ _).mono ?_; rintro e w5 ⟨rfl, hb⟩; exact ⟨.int .i64 1, by rw [show Lv.width (⟨2, 1, -1, -1, -1⟩ : Lv) = 1 from by decide], hb, rfl⟩
  simp only [Act.put, List.setIfInBounds_toArray, List.set_cons_zero, List.set_cons_succ]
  with_reducible apply wpN_det
  · intro vals w1 hl hd
    obtain ⟨hc, hf⟩ := hl.cells
    unfold yieldsM
    go_simp
    with_reducible exact uponM_pure
  simp only [Act.put, List.setIfInBounds_toArray, List.set_cons_zero, List.set_cons_succ]
  with_reducible apply wpN_det
  · intro vals w1 hl hd
    obtain ⟨hc, hf⟩ := hl.cells
    unfold yieldsM
    go_simp
    with_reducible exact uponM_pure
  simp only [Act.put, List.setIfInBounds_toArray, List.set_cons_zero, List.set_cons_succ]
  with_reducible apply wpN_det
  · intro vals w1 hl hd
    obtain ⟨hc, hf⟩ := hl.cells
    unfold yieldsM
    go_simp
    with_reducible exact uponM_pure
  simp only [Act.put, List.setIfInBounds_toArray, List.set_cons_zero, List.set_cons_succ]
  with_reducible apply wpN_det
  · intro vals w1 hl hd
    obtain ⟨hc, hf⟩ := hl.cells
    unfold yieldsM
    go_simp
    with_reducible refine uponM_enter ?_
    refine (max_any none 0 [] _ ⟨by simp, fun h => by simp at h⟩ 0 rfl).mono ?_; rintro e w5 ⟨rfl, hb⟩; exact ⟨.agg #[.int .i64 0, .int .i64 (-1), .int .i64 (-1), .int .i64 (-1), .int .i64 (-1)], rfl, hb, rfl⟩
  simp only [Act.put, List.setIfInBounds_toArray, List.set_cons_zero, List.set_cons_succ]
  with_reducible apply wpN_det
  · intro vals w1 hl hd
    obtain ⟨hc, hf⟩ := hl.cells
    unfold yieldsM
    go_simp
    with_reducible refine uponM_enter ?_
    refine (num_any _ _).mono ?_; rintro e w5 ⟨rfl, hb⟩; exact ⟨_, rfl, hb, rfl⟩
  simp only [Act.put, List.setIfInBounds_toArray, List.set_cons_zero, List.set_cons_succ]
  with_reducible apply wpN_det
  · intro vals w1 hl hd
    obtain ⟨hc, hf⟩ := hl.cells
    have he := eq22 w1
    unfold yieldsM
    go_simp
    with_reducible exact uponM_pure
  simp only [Act.put, List.setIfInBounds_toArray, List.set_cons_zero, List.set_cons_succ]
  with_reducible apply wpN_det
  · intro vals w1 hl hd
    obtain ⟨hc, hf⟩ := hl.cells
    unfold yieldsM
    go_simp
    with_reducible exact uponM_pure
  simp only [Act.put, List.setIfInBounds_toArray, List.set_cons_zero, List.set_cons_succ]
  with_reducible apply wpN_det
  · intro vals w1 hl hd
    obtain ⟨hc, hf⟩ := hl.cells
    unfold yieldsM
    go_simp
    with_reducible exact uponM_pure
  simp only [Act.put, List.setIfInBounds_toArray, List.set_cons_zero, List.set_cons_succ]
  refine wpN_nil trivial ?_
  intro vals w1 hl hd
  have hd39 := hd 17 _ rfl
  clear hd
  go_wp2_with fail
  refine bodyPost_ret (v := .bool true) (by simp [results, Tryd.results13, go_sem]) rfl ⟨rfl, bstep HBW.out hl HBW.out.size⟩
end
end Go.Proofs.YtmkpiekbpakigaaDoor
