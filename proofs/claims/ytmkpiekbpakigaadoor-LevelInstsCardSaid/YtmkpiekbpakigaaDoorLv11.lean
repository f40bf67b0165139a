/- The order of levels: the plain law and the walk of the statement LevelOrder. -/
import Derived.Test.YtmkpiekbpakigaaDoorLv10
set_option linter.unusedVariables false
set_option linter.unusedSimpArgs false
namespace Go.Proofs.YtmkpiekbpakigaaDoor
open Go.RowKit Go.Proofs.Base Go.Proofs.Mono

def Lv.below (a b : Lv) : Prop := a.b ≤ b.b ∧ a.p0 ≤ b.p0 ∧ a.p1 ≤ b.p1 ∧ a.p2 ≤ b.p2 ∧ a.p3 ≤ b.p3
theorem Lv.ext' {a b : Lv} (h : a.b = b.b) (h0 : a.p0 = b.p0) (h1 : a.p1 = b.p1) (h2 : a.p2 = b.p2) (h3 : a.p3 = b.p3) : a = b := by
  cases a; cases b
  simp only at h h0 h1 h2 h3
  subst h h0 h1 h2 h3
  rfl
theorem mxi_def (x y : Int) : mxi x y = if x < y then y else x := rfl
theorem mxi_r {x y : Int} (h : x ≤ y) : mxi x y = y := by unfold mxi; split <;> omega
theorem mxi_l {x y : Int} (h : y ≤ x) : mxi x y = x := by unfold mxi; split <;> omega
theorem le_mxi_l (x y : Int) : x ≤ mxi x y := by unfold mxi; split <;> omega
theorem le_mxi_r (x y : Int) : y ≤ mxi x y := by unfold mxi; split <;> omega
theorem mxi_le {x y z : Int} (h : x ≤ z) (k : y ≤ z) : mxi x y ≤ z := by unfold mxi; split <;> omega
theorem mxi_comm (x y : Int) : mxi x y = mxi y x := by unfold mxi; split <;> split <;> omega
theorem mxi_mono {x y x' y' : Int} (h : x ≤ x') (k : y ≤ y') : mxi x y ≤ mxi x' y' := mxi_le (Int.le_trans h (le_mxi_l _ _)) (Int.le_trans k (le_mxi_r _ _))

theorem Lv.max_num {a : Lv} (h : a.right = true) : (Lv.num 0).max2 a = a := by
  obtain ⟨⟨a1, a2⟩, ⟨a3, a4⟩, ⟨a5, a6⟩, ⟨a7, a8⟩, a9, a10⟩ := Lv.right_bd h
  exact Lv.ext' (mxi_r a9) (mxi_r a1) (mxi_r a3) (mxi_r a5) (mxi_r a7)
theorem Lv.maxl_two {a b : Lv} (ha : a.right = true) (hb : b.right = true) : Lv.maxl [a, b] = a.max2 b := by
  unfold Lv.maxl
  rw [if_pos (by simp [ha, hb])]
  simp only [List.foldl]
  rw [Lv.max_num ha]
theorem Lv.leq_iff {a b : Lv} : a.leq b = true ↔ a.right = true ∧ b.right = true ∧ a.below b := by
  unfold Lv.leq
  rw [Bool.and_eq_true, Bool.and_eq_true, decide_eq_true_eq, and_assoc]
  constructor
  · rintro ⟨ha, hb, h⟩
    rw [Lv.maxl_two ha hb] at h
    refine ⟨ha, hb, ?_⟩
    have e0 : mxi a.b b.b = b.b := congrArg Lv.b h
    have e1 : mxi a.p0 b.p0 = b.p0 := congrArg Lv.p0 h
    have e2 : mxi a.p1 b.p1 = b.p1 := congrArg Lv.p1 h
    have e3 : mxi a.p2 b.p2 = b.p2 := congrArg Lv.p2 h
    have e4 : mxi a.p3 b.p3 = b.p3 := congrArg Lv.p3 h
    have l0 := le_mxi_l a.b b.b
    have l1 := le_mxi_l a.p0 b.p0
    have l2 := le_mxi_l a.p1 b.p1
    have l3 := le_mxi_l a.p2 b.p2
    have l4 := le_mxi_l a.p3 b.p3
    rw [e0] at l0
    rw [e1] at l1
    rw [e2] at l2
    rw [e3] at l3
    rw [e4] at l4
    exact ⟨l0, l1, l2, l3, l4⟩
  · rintro ⟨ha, hb, h0, h1, h2, h3, h4⟩
    rw [Lv.maxl_two ha hb]
    exact ⟨ha, hb, Lv.ext' (mxi_r h0) (mxi_r h1) (mxi_r h2) (mxi_r h3) (mxi_r h4)⟩
theorem Lv.leq_refl (a : Lv) : a.leq a = a.right := by
  rw [Bool.eq_iff_iff, Lv.leq_iff]
  exact ⟨fun h => h.1, fun h => ⟨h, h, Int.le_refl _, Int.le_refl _, Int.le_refl _, Int.le_refl _, Int.le_refl _⟩⟩
theorem Lv.leq_trans {a b c : Lv} (h : a.leq b = true) (k : b.leq c = true) : a.leq c = true := by
  rw [Lv.leq_iff] at *
  obtain ⟨ha, hb, h0, h1, h2, h3, h4⟩ := h
  obtain ⟨_, hc, k0, k1, k2, k3, k4⟩ := k
  exact ⟨ha, hc, Int.le_trans h0 k0, Int.le_trans h1 k1, Int.le_trans h2 k2, Int.le_trans h3 k3, Int.le_trans h4 k4⟩
theorem Lv.leq_anti {a b : Lv} (h : a.leq b = true) : b.leq a = decide (a = b) := by
  rw [Bool.eq_iff_iff, decide_eq_true_eq, Lv.leq_iff]
  rw [Lv.leq_iff] at h
  obtain ⟨ha, hb, h0, h1, h2, h3, h4⟩ := h
  constructor
  · rintro ⟨_, _, k0, k1, k2, k3, k4⟩
    exact Lv.ext' (Int.le_antisymm h0 k0) (Int.le_antisymm h1 k1) (Int.le_antisymm h2 k2) (Int.le_antisymm h3 k3) (Int.le_antisymm h4 k4)
  · rintro rfl
    exact ⟨ha, ha, Int.le_refl _, Int.le_refl _, Int.le_refl _, Int.le_refl _, Int.le_refl _⟩
theorem Lv.p_ge {l : Lv} (h : l.right = true) (k : Nat) : -1 ≤ l.p k := by
  obtain ⟨⟨a1, a2⟩, ⟨a3, a4⟩, ⟨a5, a6⟩, ⟨a7, a8⟩, a9, a10⟩ := Lv.right_bd h
  unfold Lv.p
  split <;> assumption
theorem Lv.below_p {a b : Lv} (h : a.below b) (k : Nat) : a.p k ≤ b.p k := by
  obtain ⟨h0, h1, h2, h3, h4⟩ := h
  unfold Lv.p
  split <;> assumption
theorem valGo_mono {a b : Lv} (ha : a.right = true) (h : a.below b) (vals : List Int) : ∀ k, a.valGo vals k ≤ b.valGo vals k
  | 0 => h.1
  | k + 1 => by
    have ih := valGo_mono ha h vals k
    have g := Lv.p_ge ha k
    have hp := Lv.below_p h k
    by_cases e : a.p k = -1
    · rw [valGo_pos a vals k e]
      by_cases e2 : b.p k = -1
      · rw [valGo_pos b vals k e2]
        exact ih
      · rw [valGo_neg b vals k e2]
        exact Int.le_trans ih (le_mxi_l _ _)
    · rw [valGo_neg a vals k e, valGo_neg b vals k (by omega)]
      exact mxi_mono ih (by omega)
theorem Lv.value_mono {a b : Lv} (h : a.leq b = true) (vals : List Int) : a.value vals ≤ b.value vals := by
  rw [Lv.leq_iff] at h
  unfold Lv.value
  rw [if_pos h.1, if_pos h.2.1]
  exact valGo_mono h.1 h.2.2 vals _

section
variable (a b c : Lv) (A : Option Addr) (xs : List Int) (w : World)
set_option maxRecDepth 20000 in
set_option maxHeartbeats 8000000 in
theorem order_true (n cc : Nat) (hx : IntRow w A xs) (hn : n = xs.length) (hcc : n ≤ cc) (hc2 : cc ≤ 9223372036854775807) (ht : Tab w) :
    Calls Tryd.prog 3 #[.agg #[.int .i64 a.b, .int .i64 a.p0, .int .i64 a.p1, .int .i64 a.p2, .int .i64 a.p3], .agg #[.int .i64 b.b, .int .i64 b.p0, .int .i64 b.p1, .int .i64 b.p2, .int .i64 b.p3], .agg #[.int .i64 c.b, .int .i64 c.p0, .int .i64 c.p1, .int .i64 c.p2, .int .i64 c.p3], .slice A n cc] w fun e w' => e = .returned (.bool true) ∧ Below w.heap.size w w' := by
  subst hn
  have HT := Lib.hid ht
  have HX := Lib.hid hx
  clear ht hx
  go_enter Tryd.func3, Tryd.ntmps3
  go_wp2_with fail
  have hBA := ((Blk.new w 24 #[.int .i64 a.b, .int .i64 a.p0, .int .i64 a.p1, .int .i64 a.p2, .int .i64 a.p3]).alloc (.cells #[.int .i64 b.b, .int .i64 b.p0, .int .i64 b.p1, .int .i64 b.p2, .int .i64 b.p3] 24)).alloc (.cells #[.int .i64 c.b, .int .i64 c.p0, .int .i64 c.p1, .int .i64 c.p2, .int .i64 c.p3] 24)
  have hBB := (Blk.new (w.alloc (.cells #[.int .i64 a.b, .int .i64 a.p0, .int .i64 a.p1, .int .i64 a.p2, .int .i64 a.p3] 24)) 24 #[.int .i64 b.b, .int .i64 b.p0, .int .i64 b.p1, .int .i64 b.p2, .int .i64 b.p3]).alloc (.cells #[.int .i64 c.b, .int .i64 c.p0, .int .i64 c.p1, .int .i64 c.p2, .int .i64 c.p3] 24)
  have hBC := Blk.new ((w.alloc (.cells #[.int .i64 a.b, .int .i64 a.p0, .int .i64 a.p1, .int .i64 a.p2, .int .i64 a.p3] 24)).alloc (.cells #[.int .i64 b.b, .int .i64 b.p0, .int .i64 b.p1, .int .i64 b.p2, .int .i64 b.p3] 24)) 24 #[.int .i64 c.b, .int .i64 c.p0, .int .i64 c.p1, .int .i64 c.p2, .int .i64 c.p3]
  have hbw : Below w.heap.size w (((w.alloc (.cells #[.int .i64 a.b, .int .i64 a.p0, .int .i64 a.p1, .int .i64 a.p2, .int .i64 a.p3] 24)).alloc (.cells #[.int .i64 b.b, .int .i64 b.p0, .int .i64 b.p1, .int .i64 b.p2, .int .i64 b.p3] 24)).alloc (.cells #[.int .i64 c.b, .int .i64 c.p0, .int .i64 c.p1, .int .i64 c.p2, .int .i64 c.p3] 24)) := by go_grown
  simp only [World.size_alloc] at hBA hBB hBC
  refine (alive_any _ (HT.out.bel hbw)).mono ?_
  rintro e w1 ⟨rfl, hb⟩
  replace hBA := hBA.bel hb
  replace hBB := hBB.bel hb
  replace hBC := hBC.bel hb
  replace hbw := bstep hbw hb hbw.size
  clear hb
  obtain ⟨d0, d1, d2, d3, d4, df⟩ := hBA.cells5
  obtain ⟨f0, f1, f2, f3, f4, ff⟩ := hBB.cells5
  obtain ⟨q0, q1, q2, q3, q4, qf⟩ := hBC.cells5
  have hz1 : w.heap.size < w1.heap.size := hBA.lt
  have hz2 : w.heap.size + 1 < w1.heap.size := hBB.lt
  have hz3 : w.heap.size + 2 < w1.heap.size := hBC.lt
  have HBA := Lib.hid hBA
  have HBB := Lib.hid hBB
  have HBC := Lib.hid hBC
  have HBW := Lib.hid hbw
  clear hBA hBB hBC hbw
  go_wp2_with fail
  · refine bodyPost_ret (v := .bool true) (by simp [results, Tryd.results3, go_sem]) rfl ⟨rfl, ?_⟩
    have := HBW.out
    go_grown
  cases hab : a.leq b
  · skip
    refine wp_region_at 12 (by kernel_rfl) (by kernel_rfl) (by kernel_rfl) (by decide) ?_
    simp only [List.take_succ_cons, List.take_zero, List.drop_succ_cons, List.drop_zero]
    with_reducible apply wpN_det
    · intro vals w1 hl hd
      obtain ⟨hc, hf⟩ := hl.cells
      unfold yieldsM
      go_simp
      with_reducible exact uponM_pure
    simp only [Act.put, List.setIfInBounds_toArray, List.set_cons_zero, List.set_cons_succ]
    with_reducible apply wpN_det
    · intro vals w1 hl hd
      obtain ⟨hc, hf⟩ := hl.cells
      unfold yieldsM
      go_simp
      with_reducible exact uponM_pure
    simp only [Act.put, List.setIfInBounds_toArray, List.set_cons_zero, List.set_cons_succ]
    with_reducible apply wpN_det
    · intro vals w1 hl hd
      obtain ⟨hc, hf⟩ := hl.cells
      unfold yieldsM
      go_simp
      with_reducible refine uponM_enter ?_
      refine (leq_any a b _).mono ?_; rintro e w5 ⟨rfl, hb⟩; exact ⟨.bool false, by rw [hab], hb, rfl⟩
    simp only [Act.put, List.setIfInBounds_toArray, List.set_cons_zero, List.set_cons_succ]
    with_reducible apply wpN_det
    · intro vals w1 hl hd
      obtain ⟨hc, hf⟩ := hl.cells
      unfold yieldsM
      go_simp
      with_reducible exact uponM_pure
    simp only [Act.put, List.setIfInBounds_toArray, List.set_cons_zero, List.set_cons_succ]
    with_reducible apply wpN_det
    · intro vals w1 hl hd
      obtain ⟨hc, hf⟩ := hl.cells
      unfold yieldsM
      go_simp
      with_reducible exact rfl
    simp only [Act.put, List.setIfInBounds_toArray, List.set_cons_zero, List.set_cons_succ]
    with_reducible apply wpN_det
    · intro vals w1 hl hd
      obtain ⟨hc, hf⟩ := hl.cells
      unfold yieldsM
      go_simp
      with_reducible exact rfl
    simp only [Act.put, List.setIfInBounds_toArray, List.set_cons_zero, List.set_cons_succ]
    with_reducible apply wpN_det
    · intro vals w1 hl hd
      obtain ⟨hc, hf⟩ := hl.cells
      unfold yieldsM
      go_simp
      with_reducible exact rfl
    simp only [Act.put, List.setIfInBounds_toArray, List.set_cons_zero, List.set_cons_succ]
    with_reducible apply wpN_det
    · intro vals w1 hl hd
      obtain ⟨hc, hf⟩ := hl.cells
      unfold yieldsM
      go_simp
      with_reducible exact rfl
    simp only [Act.put, List.setIfInBounds_toArray, List.set_cons_zero, List.set_cons_succ]
    with_reducible apply wpN_det
    · intro vals w1 hl hd
      obtain ⟨hc, hf⟩ := hl.cells
      unfold yieldsM
      go_simp
      with_reducible exact rfl
    simp only [Act.put, List.setIfInBounds_toArray, List.set_cons_zero, List.set_cons_succ]
    with_reducible apply wpN_det
    · intro vals w1 hl hd
      obtain ⟨hc, hf⟩ := hl.cells
      unfold yieldsM
      go_simp
      with_reducible exact rfl
    simp only [Act.put, List.setIfInBounds_toArray, List.set_cons_zero, List.set_cons_succ]
    with_reducible apply wpN_det
    · intro vals w1 hl hd
      obtain ⟨hc, hf⟩ := hl.cells
      unfold yieldsM
      go_simp
      with_reducible exact rfl
    simp only [Act.put, List.setIfInBounds_toArray, List.set_cons_zero, List.set_cons_succ]
    with_reducible apply wpN_det
    · intro vals w1 hl hd
      obtain ⟨hc, hf⟩ := hl.cells
      unfold yieldsM
      go_simp
      with_reducible exact uponM_pure
    simp only [Act.put, List.setIfInBounds_toArray, List.set_cons_zero, List.set_cons_succ]
    refine wpN_nil trivial ?_
    intro vals w1 hl hd
    clear hd
    have hBA := HBA.out.bel hl
    have hBB := HBB.out.bel hl
    have hBC := HBC.out.bel hl
    have hbw := bstep HBW.out hl HBW.out.size
    clear hl HBA HBB HBC HBW d0 d1 d2 d3 d4 df f0 f1 f2 f3 f4 ff q0 q1 q2 q3 q4 qf hz1 hz2 hz3
    obtain ⟨d0, d1, d2, d3, d4, df⟩ := hBA.cells5
    obtain ⟨f0, f1, f2, f3, f4, ff⟩ := hBB.cells5
    obtain ⟨q0, q1, q2, q3, q4, qf⟩ := hBC.cells5
    have hz1 : w.heap.size < w1.heap.size := hBA.lt
    have hz2 : w.heap.size + 1 < w1.heap.size := hBB.lt
    have hz3 : w.heap.size + 2 < w1.heap.size := hBC.lt
    have HBA := Lib.hid hBA
    have HBB := Lib.hid hBB
    have HBC := Lib.hid hBC
    have HBW := Lib.hid hbw
    clear hBA hBB hBC hbw
    go_wp2_with fail
    refine wp_region_at 12 (by kernel_rfl) (by kernel_rfl) (by kernel_rfl) (by decide) ?_
    simp only [List.take_succ_cons, List.take_zero, List.drop_succ_cons, List.drop_zero]
    with_reducible apply wpN_det
    · intro vals w1 hl hd
      obtain ⟨hc, hf⟩ := hl.cells
      unfold yieldsM
      go_simp
      with_reducible exact uponM_pure
    simp only [Act.put, List.setIfInBounds_toArray, List.set_cons_zero, List.set_cons_succ]
    with_reducible apply wpN_det
    · intro vals w1 hl hd
      obtain ⟨hc, hf⟩ := hl.cells
      unfold yieldsM
      go_simp
      with_reducible exact uponM_pure
    simp only [Act.put, List.setIfInBounds_toArray, List.set_cons_zero, List.set_cons_succ]
    with_reducible apply wpN_det
    · intro vals w1 hl hd
      obtain ⟨hc, hf⟩ := hl.cells
      unfold yieldsM
      go_simp
      with_reducible refine uponM_enter ?_
      refine (leq_any a b _).mono ?_; rintro e w5 ⟨rfl, hb⟩; exact ⟨.bool false, by rw [hab], hb, rfl⟩
    simp only [Act.put, List.setIfInBounds_toArray, List.set_cons_zero, List.set_cons_succ]
    with_reducible apply wpN_det
    · intro vals w1 hl hd
      obtain ⟨hc, hf⟩ := hl.cells
      unfold yieldsM
      go_simp
      with_reducible exact uponM_pure
    simp only [Act.put, List.setIfInBounds_toArray, List.set_cons_zero, List.set_cons_succ]
    with_reducible apply wpN_det
    · intro vals w1 hl hd
      obtain ⟨hc, hf⟩ := hl.cells
      unfold yieldsM
      go_simp
      with_reducible exact rfl
    simp only [Act.put, List.setIfInBounds_toArray, List.set_cons_zero, List.set_cons_succ]
    with_reducible apply wpN_det
    · intro vals w1 hl hd
      obtain ⟨hc, hf⟩ := hl.cells
      unfold yieldsM
      go_simp
      with_reducible exact rfl
    simp only [Act.put, List.setIfInBounds_toArray, List.set_cons_zero, List.set_cons_succ]
    with_reducible apply wpN_det
    · intro vals w1 hl hd
      obtain ⟨hc, hf⟩ := hl.cells
      unfold yieldsM
      go_simp
      with_reducible exact rfl
    simp only [Act.put, List.setIfInBounds_toArray, List.set_cons_zero, List.set_cons_succ]
    with_reducible apply wpN_det
    · intro vals w1 hl hd
      obtain ⟨hc, hf⟩ := hl.cells
      unfold yieldsM
      go_simp
      with_reducible exact rfl
    simp only [Act.put, List.setIfInBounds_toArray, List.set_cons_zero, List.set_cons_succ]
    with_reducible apply wpN_det
    · intro vals w1 hl hd
      obtain ⟨hc, hf⟩ := hl.cells
      unfold yieldsM
      go_simp
      with_reducible exact rfl
    simp only [Act.put, List.setIfInBounds_toArray, List.set_cons_zero, List.set_cons_succ]
    with_reducible apply wpN_det
    · intro vals w1 hl hd
      obtain ⟨hc, hf⟩ := hl.cells
      unfold yieldsM
      go_simp
      with_reducible exact rfl
    simp only [Act.put, List.setIfInBounds_toArray, List.set_cons_zero, List.set_cons_succ]
    with_reducible apply wpN_det
    · intro vals w1 hl hd
      obtain ⟨hc, hf⟩ := hl.cells
      unfold yieldsM
      go_simp
      with_reducible exact rfl
    simp only [Act.put, List.setIfInBounds_toArray, List.set_cons_zero, List.set_cons_succ]
    with_reducible apply wpN_det
    · intro vals w1 hl hd
      obtain ⟨hc, hf⟩ := hl.cells
      unfold yieldsM
      go_simp
      with_reducible exact uponM_pure
    simp only [Act.put, List.setIfInBounds_toArray, List.set_cons_zero, List.set_cons_succ]
    refine wpN_nil trivial ?_
    intro vals w1 hl hd
    clear hd
    have hBA := HBA.out.bel hl
    have hBB := HBB.out.bel hl
    have hBC := HBC.out.bel hl
    have hbw := bstep HBW.out hl HBW.out.size
    clear hl HBA HBB HBC HBW d0 d1 d2 d3 d4 df f0 f1 f2 f3 f4 ff q0 q1 q2 q3 q4 qf hz1 hz2 hz3
    obtain ⟨d0, d1, d2, d3, d4, df⟩ := hBA.cells5
    obtain ⟨f0, f1, f2, f3, f4, ff⟩ := hBB.cells5
    obtain ⟨q0, q1, q2, q3, q4, qf⟩ := hBC.cells5
    have hz1 : w.heap.size < w1.heap.size := hBA.lt
    have hz2 : w.heap.size + 1 < w1.heap.size := hBB.lt
    have hz3 : w.heap.size + 2 < w1.heap.size := hBC.lt
    have HBA := Lib.hid hBA
    have HBB := Lib.hid hBB
    have HBC := Lib.hid hBC
    have HBW := Lib.hid hbw
    clear hBA hBB hBC hbw
    go_wp2_with fail
    refine wp_region_at 24 (by kernel_rfl) (by kernel_rfl) (by kernel_rfl) (by decide) ?_
    simp only [List.take_succ_cons, List.take_zero, List.drop_succ_cons, List.drop_zero]
    with_reducible apply wpN_det
    · intro vals w1 hl hd
      obtain ⟨hc, hf⟩ := hl.cells
      unfold yieldsM
      go_simp
      with_reducible exact uponM_pure
    simp only [Act.put, List.setIfInBounds_toArray, List.set_cons_zero, List.set_cons_succ]
    with_reducible apply wpN_det
    · intro vals w1 hl hd
      obtain ⟨hc, hf⟩ := hl.cells
      unfold yieldsM
      go_simp
      with_reducible exact uponM_pure
    simp only [Act.put, List.setIfInBounds_toArray, List.set_cons_zero, List.set_cons_succ]
    with_reducible apply wpN_det
    · intro vals w1 hl hd
      obtain ⟨hc, hf⟩ := hl.cells
      unfold yieldsM
      go_simp
      with_reducible refine uponM_enter ?_
      refine (leq_any a a _).mono ?_; rintro e w5 ⟨rfl, hb⟩; exact ⟨.bool a.right, by rw [Lv.leq_refl], hb, rfl⟩
    simp only [Act.put, List.setIfInBounds_toArray, List.set_cons_zero, List.set_cons_succ]
    with_reducible apply wpN_det
    · intro vals w1 hl hd
      obtain ⟨hc, hf⟩ := hl.cells
      unfold yieldsM
      go_simp
      with_reducible exact uponM_pure
    simp only [Act.put, List.setIfInBounds_toArray, List.set_cons_zero, List.set_cons_succ]
    with_reducible apply wpN_det
    · intro vals w1 hl hd
      obtain ⟨hc, hf⟩ := hl.cells
      unfold yieldsM
      go_simp
      with_reducible refine uponM_enter ?_
      refine (right_any a.b a.p0 a.p1 a.p2 a.p3 _).mono ?_; rintro e w5 ⟨rfl, hb⟩; exact ⟨.bool a.right, rfl, hb, rfl⟩
    simp only [Act.put, List.setIfInBounds_toArray, List.set_cons_zero, List.set_cons_succ]
    with_reducible apply wpN_det
    · intro vals w1 hl hd
      obtain ⟨hc, hf⟩ := hl.cells
      unfold yieldsM
      go_simp
      with_reducible exact uponM_pure
    simp only [Act.put, List.setIfInBounds_toArray, List.set_cons_zero, List.set_cons_succ]
    with_reducible apply wpN_det
    · intro vals w1 hl hd
      obtain ⟨hc, hf⟩ := hl.cells
      unfold yieldsM
      go_simp
      with_reducible exact uponM_pure
    simp only [Act.put, List.setIfInBounds_toArray, List.set_cons_zero, List.set_cons_succ]
    with_reducible apply wpN_det
    · intro vals w1 hl hd
      obtain ⟨hc, hf⟩ := hl.cells
      unfold yieldsM
      go_simp
      with_reducible exact uponM_pure
    simp only [Act.put, List.setIfInBounds_toArray, List.set_cons_zero, List.set_cons_succ]
    with_reducible apply wpN_det
    · intro vals w1 hl hd
      obtain ⟨hc, hf⟩ := hl.cells
      unfold yieldsM
      go_simp
      with_reducible exact uponM_pure
    simp only [Act.put, List.setIfInBounds_toArray, List.set_cons_zero, List.set_cons_succ]
    with_reducible apply wpN_det
    · intro vals w1 hl hd
      obtain ⟨hc, hf⟩ := hl.cells
      unfold yieldsM
      go_simp
      with_reducible refine uponM_enter ?_
      refine (leq_any a b _).mono ?_; rintro e w5 ⟨rfl, hb⟩; exact ⟨.bool false, by rw [hab], hb, rfl⟩
    simp only [Act.put, List.setIfInBounds_toArray, List.set_cons_zero, List.set_cons_succ]
    with_reducible apply wpN_det
    · intro vals w1 hl hd
      obtain ⟨hc, hf⟩ := hl.cells
      unfold yieldsM
      go_simp
      with_reducible exact uponM_pure
    simp only [Act.put, List.setIfInBounds_toArray, List.set_cons_zero, List.set_cons_succ]
    with_reducible apply wpN_det
    · intro vals w1 hl hd
      obtain ⟨hc, hf⟩ := hl.cells
      unfold yieldsM
      go_simp
      with_reducible exact uponM_pure
    simp only [Act.put, List.setIfInBounds_toArray, List.set_cons_zero, List.set_cons_succ]
    with_reducible apply wpN_det
    · intro vals w1 hl hd
      obtain ⟨hc, hf⟩ := hl.cells
      unfold yieldsM
      go_simp
      with_reducible exact rfl
    simp only [Act.put, List.setIfInBounds_toArray, List.set_cons_zero, List.set_cons_succ]
    with_reducible apply wpN_det
    · intro vals w1 hl hd
      obtain ⟨hc, hf⟩ := hl.cells
      unfold yieldsM
      go_simp
      with_reducible exact rfl
    simp only [Act.put, List.setIfInBounds_toArray, List.set_cons_zero, List.set_cons_succ]
    with_reducible apply wpN_det
    · intro vals w1 hl hd
      obtain ⟨hc, hf⟩ := hl.cells
      unfold yieldsM
      go_simp
      with_reducible exact rfl
    simp only [Act.put, List.setIfInBounds_toArray, List.set_cons_zero, List.set_cons_succ]
    with_reducible apply wpN_det
    · intro vals w1 hl hd
      obtain ⟨hc, hf⟩ := hl.cells
      unfold yieldsM
      go_simp
      with_reducible exact rfl
    simp only [Act.put, List.setIfInBounds_toArray, List.set_cons_zero, List.set_cons_succ]
    with_reducible apply wpN_det
    · intro vals w1 hl hd
      obtain ⟨hc, hf⟩ := hl.cells
      unfold yieldsM
      go_simp
      with_reducible exact uponM_pure
    simp only [Act.put, List.setIfInBounds_toArray, List.set_cons_zero, List.set_cons_succ]
    with_reducible apply wpN_det
    · intro vals w1 hl hd
      obtain ⟨hc, hf⟩ := hl.cells
      unfold yieldsM
      go_simp
      with_reducible exact uponM_pure
    simp only [Act.put, List.setIfInBounds_toArray, List.set_cons_zero, List.set_cons_succ]
    with_reducible apply wpN_det
    · intro vals w1 hl hd
      obtain ⟨hc, hf⟩ := hl.cells
      unfold yieldsM
      go_simp
      with_reducible exact rfl
    simp only [Act.put, List.setIfInBounds_toArray, List.set_cons_zero, List.set_cons_succ]
    with_reducible apply wpN_det
    · intro vals w1 hl hd
      obtain ⟨hc, hf⟩ := hl.cells
      unfold yieldsM
      go_simp
      with_reducible exact rfl
    simp only [Act.put, List.setIfInBounds_toArray, List.set_cons_zero, List.set_cons_succ]
    with_reducible apply wpN_det
    · intro vals w1 hl hd
      obtain ⟨hc, hf⟩ := hl.cells
      unfold yieldsM
      go_simp
      with_reducible exact rfl
    simp only [Act.put, List.setIfInBounds_toArray, List.set_cons_zero, List.set_cons_succ]
    with_reducible apply wpN_det
    · intro vals w1 hl hd
      obtain ⟨hc, hf⟩ := hl.cells
      unfold yieldsM
      go_simp
      with_reducible exact uponM_pure
    simp only [Act.put, List.setIfInBounds_toArray, List.set_cons_zero, List.set_cons_succ]
    with_reducible apply wpN_det
    · intro vals w1 hl hd
      obtain ⟨hc, hf⟩ := hl.cells
      unfold yieldsM
      go_simp
      with_reducible exact uponM_pure
    simp only [Act.put, List.setIfInBounds_toArray, List.set_cons_zero, List.set_cons_succ]
    with_reducible apply wpN_det
    · intro vals w1 hl hd
      obtain ⟨hc, hf⟩ := hl.cells
      unfold yieldsM
      go_simp
      with_reducible exact uponM_pure
    simp only [Act.put, List.setIfInBounds_toArray, List.set_cons_zero, List.set_cons_succ]
    refine wpN_nil trivial ?_
    intro vals w1 hl hd
    clear hd
    have hBA := HBA.out.bel hl
    have hBB := HBB.out.bel hl
    have hBC := HBC.out.bel hl
    have hbw := bstep HBW.out hl HBW.out.size
    clear hl HBA HBB HBC HBW d0 d1 d2 d3 d4 df f0 f1 f2 f3 f4 ff q0 q1 q2 q3 q4 qf hz1 hz2 hz3
    obtain ⟨d0, d1, d2, d3, d4, df⟩ := hBA.cells5
    obtain ⟨f0, f1, f2, f3, f4, ff⟩ := hBB.cells5
    obtain ⟨q0, q1, q2, q3, q4, qf⟩ := hBC.cells5
    have hz1 : w.heap.size < w1.heap.size := hBA.lt
    have hz2 : w.heap.size + 1 < w1.heap.size := hBB.lt
    have hz3 : w.heap.size + 2 < w1.heap.size := hBC.lt
    have HBA := Lib.hid hBA
    have HBB := Lib.hid hBB
    have HBC := Lib.hid hBC
    have HBW := Lib.hid hbw
    clear hBA hBB hBC hbw
    go_wp2_with fail
    refine bodyPost_ret (v := .bool true) (by simp [results, Tryd.results3, go_sem]) rfl ⟨rfl, HBW.out⟩
  · have hle : ¬ (b.value xs < a.value xs) := Int.not_lt.2 (Lv.value_mono hab xs)
    refine wp_region_at 12 (by kernel_rfl) (by kernel_rfl) (by kernel_rfl) (by decide) ?_
    simp only [List.take_succ_cons, List.take_zero, List.drop_succ_cons, List.drop_zero]
    with_reducible apply wpN_det
    · intro vals w1 hl hd
      obtain ⟨hc, hf⟩ := hl.cells
      unfold yieldsM
      go_simp
      with_reducible exact uponM_pure
    simp only [Act.put, List.setIfInBounds_toArray, List.set_cons_zero, List.set_cons_succ]
    with_reducible apply wpN_det
    · intro vals w1 hl hd
      obtain ⟨hc, hf⟩ := hl.cells
      unfold yieldsM
      go_simp
      with_reducible exact uponM_pure
    simp only [Act.put, List.setIfInBounds_toArray, List.set_cons_zero, List.set_cons_succ]
    with_reducible apply wpN_det
    · intro vals w1 hl hd
      obtain ⟨hc, hf⟩ := hl.cells
      unfold yieldsM
      go_simp
      with_reducible refine uponM_enter ?_
      refine (leq_any a b _).mono ?_; rintro e w5 ⟨rfl, hb⟩; exact ⟨.bool true, by rw [hab], hb, rfl⟩
    simp only [Act.put, List.setIfInBounds_toArray, List.set_cons_zero, List.set_cons_succ]
    with_reducible apply wpN_det
    · intro vals w1 hl hd
      obtain ⟨hc, hf⟩ := hl.cells
      unfold yieldsM
      go_simp
      with_reducible exact uponM_pure
    simp only [Act.put, List.setIfInBounds_toArray, List.set_cons_zero, List.set_cons_succ]
    with_reducible apply wpN_det
    · intro vals w1 hl hd
      obtain ⟨hc, hf⟩ := hl.cells
      unfold yieldsM
      go_simp
      with_reducible exact uponM_pure
    simp only [Act.put, List.setIfInBounds_toArray, List.set_cons_zero, List.set_cons_succ]
    with_reducible apply wpN_det
    · intro vals w1 hl hd
      obtain ⟨hc, hf⟩ := hl.cells
      unfold yieldsM
      go_simp
      with_reducible exact uponM_pure
    simp only [Act.put, List.setIfInBounds_toArray, List.set_cons_zero, List.set_cons_succ]
    with_reducible apply wpN_det
    · intro vals w1 hl hd
      obtain ⟨hc, hf⟩ := hl.cells
      unfold yieldsM
      go_simp
      with_reducible refine uponM_enter ?_
      refine (value_any a A xs xs.length cc _ (HX.out.below (bstep HBW.out hl HBW.out.size)) rfl hcc hc2).mono ?_; rintro e w5 ⟨rfl, hb⟩; exact ⟨.int .i64 (a.value xs), rfl, hb, rfl⟩
    simp only [Act.put, List.setIfInBounds_toArray, List.set_cons_zero, List.set_cons_succ]
    with_reducible apply wpN_det
    · intro vals w1 hl hd
      obtain ⟨hc, hf⟩ := hl.cells
      unfold yieldsM
      go_simp
      with_reducible exact uponM_pure
    simp only [Act.put, List.setIfInBounds_toArray, List.set_cons_zero, List.set_cons_succ]
    with_reducible apply wpN_det
    · intro vals w1 hl hd
      obtain ⟨hc, hf⟩ := hl.cells
      unfold yieldsM
      go_simp
      with_reducible exact uponM_pure
    simp only [Act.put, List.setIfInBounds_toArray, List.set_cons_zero, List.set_cons_succ]
    with_reducible apply wpN_det
    · intro vals w1 hl hd
      obtain ⟨hc, hf⟩ := hl.cells
      unfold yieldsM
      go_simp
      with_reducible refine uponM_enter ?_
      refine (value_any b A xs xs.length cc _ (HX.out.below (bstep HBW.out hl HBW.out.size)) rfl hcc hc2).mono ?_; rintro e w5 ⟨rfl, hb⟩; exact ⟨.int .i64 (b.value xs), rfl, hb, rfl⟩
    simp only [Act.put, List.setIfInBounds_toArray, List.set_cons_zero, List.set_cons_succ]
    with_reducible apply wpN_det
    · intro vals w1 hl hd
      obtain ⟨hc, hf⟩ := hl.cells
      unfold yieldsM
      go_simp
      with_reducible exact uponM_pure
    simp only [Act.put, List.setIfInBounds_toArray, List.set_cons_zero, List.set_cons_succ]
    with_reducible apply wpN_det
    · intro vals w1 hl hd
      obtain ⟨hc, hf⟩ := hl.cells
      unfold yieldsM
      go_simp
      with_reducible exact uponM_pure
    simp only [Act.put, List.setIfInBounds_toArray, List.set_cons_zero, List.set_cons_succ]
    refine wpN_nil trivial ?_
    intro vals w1 hl hd
    clear hd
    have hBA := HBA.out.bel hl
    have hBB := HBB.out.bel hl
    have hBC := HBC.out.bel hl
    have hbw := bstep HBW.out hl HBW.out.size
    clear hl HBA HBB HBC HBW d0 d1 d2 d3 d4 df f0 f1 f2 f3 f4 ff q0 q1 q2 q3 q4 qf hz1 hz2 hz3
    obtain ⟨d0, d1, d2, d3, d4, df⟩ := hBA.cells5
    obtain ⟨f0, f1, f2, f3, f4, ff⟩ := hBB.cells5
    obtain ⟨q0, q1, q2, q3, q4, qf⟩ := hBC.cells5
    have hz1 : w.heap.size < w1.heap.size := hBA.lt
    have hz2 : w.heap.size + 1 < w1.heap.size := hBB.lt
    have hz3 : w.heap.size + 2 < w1.heap.size := hBC.lt
    have HBA := Lib.hid hBA
    have HBB := Lib.hid hBB
    have HBC := Lib.hid hBC
    have HBW := Lib.hid hbw
    clear hBA hBB hBC hbw
    go_wp2_with fail
    have hba := Lv.leq_anti hab
    refine wp_region_at 12 (by kernel_rfl) (by kernel_rfl) (by kernel_rfl) (by decide) ?_
    simp only [List.take_succ_cons, List.take_zero, List.drop_succ_cons, List.drop_zero]
    with_reducible apply wpN_det
    · intro vals w1 hl hd
      obtain ⟨hc, hf⟩ := hl.cells
      unfold yieldsM
      go_simp
      with_reducible exact uponM_pure
    simp only [Act.put, List.setIfInBounds_toArray, List.set_cons_zero, List.set_cons_succ]
    with_reducible apply wpN_det
    · intro vals w1 hl hd
      obtain ⟨hc, hf⟩ := hl.cells
      unfold yieldsM
      go_simp
      with_reducible exact uponM_pure
    simp only [Act.put, List.setIfInBounds_toArray, List.set_cons_zero, List.set_cons_succ]
    with_reducible apply wpN_det
    · intro vals w1 hl hd
      obtain ⟨hc, hf⟩ := hl.cells
      unfold yieldsM
      go_simp
      with_reducible refine uponM_enter ?_
      refine (leq_any a b _).mono ?_; rintro e w5 ⟨rfl, hb⟩; exact ⟨.bool true, by rw [hab], hb, rfl⟩
    simp only [Act.put, List.setIfInBounds_toArray, List.set_cons_zero, List.set_cons_succ]
    with_reducible apply wpN_det
    · intro vals w1 hl hd
      obtain ⟨hc, hf⟩ := hl.cells
      unfold yieldsM
      go_simp
      with_reducible exact uponM_pure
    simp only [Act.put, List.setIfInBounds_toArray, List.set_cons_zero, List.set_cons_succ]
    with_reducible apply wpN_det
    · intro vals w1 hl hd
      obtain ⟨hc, hf⟩ := hl.cells
      unfold yieldsM
      go_simp
      with_reducible exact uponM_pure
    simp only [Act.put, List.setIfInBounds_toArray, List.set_cons_zero, List.set_cons_succ]
    with_reducible apply wpN_det
    · intro vals w1 hl hd
      obtain ⟨hc, hf⟩ := hl.cells
      unfold yieldsM
      go_simp
      with_reducible exact uponM_pure
    simp only [Act.put, List.setIfInBounds_toArray, List.set_cons_zero, List.set_cons_succ]
    with_reducible apply wpN_det
    · intro vals w1 hl hd
      obtain ⟨hc, hf⟩ := hl.cells
      unfold yieldsM
      go_simp
      with_reducible refine uponM_enter ?_
      refine (leq_any b a _).mono ?_; rintro e w5 ⟨rfl, hb⟩; exact ⟨.bool (decide (a = b)), by rw [hba], hb, rfl⟩
    simp only [Act.put, List.setIfInBounds_toArray, List.set_cons_zero, List.set_cons_succ]
    with_reducible apply wpN_det
    · intro vals w1 hl hd
      obtain ⟨hc, hf⟩ := hl.cells
      unfold yieldsM
      go_simp
      with_reducible exact uponM_pure
    simp only [Act.put, List.setIfInBounds_toArray, List.set_cons_zero, List.set_cons_succ]
    with_reducible apply wpN_det
    · intro vals w1 hl hd
      obtain ⟨hc, hf⟩ := hl.cells
      unfold yieldsM
      go_simp
      with_reducible exact uponM_pure
    simp only [Act.put, List.setIfInBounds_toArray, List.set_cons_zero, List.set_cons_succ]
    refine wpN_det (v := .bool (decide (a = b))) ?_ ?_
    · intro vals w1 hl hd
      obtain ⟨hc, hf⟩ := hl.cells
      have he := eq22 w1
      unfold yieldsM
      go_simp
      exact uponM_eq (if_eq _ _ _)
    simp only [Act.put, List.setIfInBounds_toArray, List.set_cons_zero, List.set_cons_succ]
    refine wpN_det (v := .bool false) ?_ ?_
    · intro vals w1 hl hd
      obtain ⟨hc, hf⟩ := hl.cells
      unfold yieldsM
      go_simp
      first | exact uponM_pure | (refine uponM_eq ?_; by_cases hh : a = b <;> simp [hh])
    simp only [Act.put, List.setIfInBounds_toArray, List.set_cons_zero, List.set_cons_succ]
    with_reducible apply wpN_det
    · intro vals w1 hl hd
      obtain ⟨hc, hf⟩ := hl.cells
      unfold yieldsM
      go_simp
      with_reducible exact uponM_pure
    simp only [Act.put, List.setIfInBounds_toArray, List.set_cons_zero, List.set_cons_succ]
    refine wpN_nil trivial ?_
    intro vals w1 hl hd
    clear hd
    have hBA := HBA.out.bel hl
    have hBB := HBB.out.bel hl
    have hBC := HBC.out.bel hl
    have hbw := bstep HBW.out hl HBW.out.size
    clear hl HBA HBB HBC HBW d0 d1 d2 d3 d4 df f0 f1 f2 f3 f4 ff q0 q1 q2 q3 q4 qf hz1 hz2 hz3
    obtain ⟨d0, d1, d2, d3, d4, df⟩ := hBA.cells5
    obtain ⟨f0, f1, f2, f3, f4, ff⟩ := hBB.cells5
    obtain ⟨q0, q1, q2, q3, q4, qf⟩ := hBC.cells5
    have hz1 : w.heap.size < w1.heap.size := hBA.lt
    have hz2 : w.heap.size + 1 < w1.heap.size := hBB.lt
    have hz3 : w.heap.size + 2 < w1.heap.size := hBC.lt
    have HBA := Lib.hid hBA
    have HBB := Lib.hid hBB
    have HBC := Lib.hid hBC
    have HBW := Lib.hid hbw
    clear hBA hBB hBC hbw
    go_wp2_with fail
    cases hbc : b.leq c
    · skip
      refine wp_region_at 24 (by kernel_rfl) (by kernel_rfl) (by kernel_rfl) (by decide) ?_
      simp only [List.take_succ_cons, List.take_zero, List.drop_succ_cons, List.drop_zero]
      with_reducible apply wpN_det
      · intro vals w1 hl hd
        obtain ⟨hc, hf⟩ := hl.cells
        unfold yieldsM
        go_simp
        with_reducible exact uponM_pure
      simp only [Act.put, List.setIfInBounds_toArray, List.set_cons_zero, List.set_cons_succ]
      with_reducible apply wpN_det
      · intro vals w1 hl hd
        obtain ⟨hc, hf⟩ := hl.cells
        unfold yieldsM
        go_simp
        with_reducible exact uponM_pure
      simp only [Act.put, List.setIfInBounds_toArray, List.set_cons_zero, List.set_cons_succ]
      with_reducible apply wpN_det
      · intro vals w1 hl hd
        obtain ⟨hc, hf⟩ := hl.cells
        unfold yieldsM
        go_simp
        with_reducible refine uponM_enter ?_
        refine (leq_any a a _).mono ?_; rintro e w5 ⟨rfl, hb⟩; exact ⟨.bool a.right, by rw [Lv.leq_refl], hb, rfl⟩
      simp only [Act.put, List.setIfInBounds_toArray, List.set_cons_zero, List.set_cons_succ]
      with_reducible apply wpN_det
      · intro vals w1 hl hd
        obtain ⟨hc, hf⟩ := hl.cells
        unfold yieldsM
        go_simp
        with_reducible exact uponM_pure
      simp only [Act.put, List.setIfInBounds_toArray, List.set_cons_zero, List.set_cons_succ]
      with_reducible apply wpN_det
      · intro vals w1 hl hd
        obtain ⟨hc, hf⟩ := hl.cells
        unfold yieldsM
        go_simp
        with_reducible refine uponM_enter ?_
        refine (right_any a.b a.p0 a.p1 a.p2 a.p3 _).mono ?_; rintro e w5 ⟨rfl, hb⟩; exact ⟨.bool a.right, rfl, hb, rfl⟩
      simp only [Act.put, List.setIfInBounds_toArray, List.set_cons_zero, List.set_cons_succ]
      with_reducible apply wpN_det
      · intro vals w1 hl hd
        obtain ⟨hc, hf⟩ := hl.cells
        unfold yieldsM
        go_simp
        with_reducible exact uponM_pure
      simp only [Act.put, List.setIfInBounds_toArray, List.set_cons_zero, List.set_cons_succ]
      with_reducible apply wpN_det
      · intro vals w1 hl hd
        obtain ⟨hc, hf⟩ := hl.cells
        unfold yieldsM
        go_simp
        with_reducible exact uponM_pure
      simp only [Act.put, List.setIfInBounds_toArray, List.set_cons_zero, List.set_cons_succ]
      with_reducible apply wpN_det
      · intro vals w1 hl hd
        obtain ⟨hc, hf⟩ := hl.cells
        unfold yieldsM
        go_simp
        with_reducible exact uponM_pure
      simp only [Act.put, List.setIfInBounds_toArray, List.set_cons_zero, List.set_cons_succ]
      with_reducible apply wpN_det
      · intro vals w1 hl hd
        obtain ⟨hc, hf⟩ := hl.cells
        unfold yieldsM
        go_simp
        with_reducible exact uponM_pure
      simp only [Act.put, List.setIfInBounds_toArray, List.set_cons_zero, List.set_cons_succ]
      with_reducible apply wpN_det
      · intro vals w1 hl hd
        obtain ⟨hc, hf⟩ := hl.cells
        unfold yieldsM
        go_simp
        with_reducible refine uponM_enter ?_
        refine (leq_any a b _).mono ?_; rintro e w5 ⟨rfl, hb⟩; exact ⟨.bool true, by rw [hab], hb, rfl⟩
      simp only [Act.put, List.setIfInBounds_toArray, List.set_cons_zero, List.set_cons_succ]
      with_reducible apply wpN_det
      · intro vals w1 hl hd
        obtain ⟨hc, hf⟩ := hl.cells
        unfold yieldsM
        go_simp
        with_reducible exact uponM_pure
      simp only [Act.put, List.setIfInBounds_toArray, List.set_cons_zero, List.set_cons_succ]
      with_reducible apply wpN_det
      · intro vals w1 hl hd
        obtain ⟨hc, hf⟩ := hl.cells
        unfold yieldsM
        go_simp
        with_reducible exact uponM_pure
      simp only [Act.put, List.setIfInBounds_toArray, List.set_cons_zero, List.set_cons_succ]
      with_reducible apply wpN_det
      · intro vals w1 hl hd
        obtain ⟨hc, hf⟩ := hl.cells
        unfold yieldsM
        go_simp
        with_reducible exact uponM_pure
      simp only [Act.put, List.setIfInBounds_toArray, List.set_cons_zero, List.set_cons_succ]
      with_reducible apply wpN_det
      · intro vals w1 hl hd
        obtain ⟨hc, hf⟩ := hl.cells
        unfold yieldsM
        go_simp
        with_reducible exact uponM_pure
      simp only [Act.put, List.setIfInBounds_toArray, List.set_cons_zero, List.set_cons_succ]
      with_reducible apply wpN_det
      · intro vals w1 hl hd
        obtain ⟨hc, hf⟩ := hl.cells
        unfold yieldsM
        go_simp
        with_reducible refine uponM_enter ?_
        refine (leq_any b c _).mono ?_; rintro e w5 ⟨rfl, hb⟩; exact ⟨.bool false, by rw [hbc], hb, rfl⟩
      simp only [Act.put, List.setIfInBounds_toArray, List.set_cons_zero, List.set_cons_succ]
      with_reducible apply wpN_det
      · intro vals w1 hl hd
        obtain ⟨hc, hf⟩ := hl.cells
        unfold yieldsM
        go_simp
        with_reducible exact uponM_pure
      simp only [Act.put, List.setIfInBounds_toArray, List.set_cons_zero, List.set_cons_succ]
      with_reducible apply wpN_det
      · intro vals w1 hl hd
        obtain ⟨hc, hf⟩ := hl.cells
        unfold yieldsM
        go_simp
        with_reducible exact uponM_pure
      simp only [Act.put, List.setIfInBounds_toArray, List.set_cons_zero, List.set_cons_succ]
      with_reducible apply wpN_det
      · intro vals w1 hl hd
        obtain ⟨hc, hf⟩ := hl.cells
        unfold yieldsM
        go_simp
        with_reducible exact uponM_pure
      simp only [Act.put, List.setIfInBounds_toArray, List.set_cons_zero, List.set_cons_succ]
      with_reducible apply wpN_det
      · intro vals w1 hl hd
        obtain ⟨hc, hf⟩ := hl.cells
        unfold yieldsM
        go_simp
        with_reducible exact rfl
      simp only [Act.put, List.setIfInBounds_toArray, List.set_cons_zero, List.set_cons_succ]
      with_reducible apply wpN_det
      · intro vals w1 hl hd
        obtain ⟨hc, hf⟩ := hl.cells
        unfold yieldsM
        go_simp
        with_reducible exact rfl
      simp only [Act.put, List.setIfInBounds_toArray, List.set_cons_zero, List.set_cons_succ]
      with_reducible apply wpN_det
      · intro vals w1 hl hd
        obtain ⟨hc, hf⟩ := hl.cells
        unfold yieldsM
        go_simp
        with_reducible exact rfl
      simp only [Act.put, List.setIfInBounds_toArray, List.set_cons_zero, List.set_cons_succ]
      with_reducible apply wpN_det
      · intro vals w1 hl hd
        obtain ⟨hc, hf⟩ := hl.cells
        unfold yieldsM
        go_simp
        with_reducible exact uponM_pure
      simp only [Act.put, List.setIfInBounds_toArray, List.set_cons_zero, List.set_cons_succ]
      with_reducible apply wpN_det
      · intro vals w1 hl hd
        obtain ⟨hc, hf⟩ := hl.cells
        unfold yieldsM
        go_simp
        with_reducible exact uponM_pure
      simp only [Act.put, List.setIfInBounds_toArray, List.set_cons_zero, List.set_cons_succ]
      with_reducible apply wpN_det
      · intro vals w1 hl hd
        obtain ⟨hc, hf⟩ := hl.cells
        unfold yieldsM
        go_simp
        with_reducible exact uponM_pure
      simp only [Act.put, List.setIfInBounds_toArray, List.set_cons_zero, List.set_cons_succ]
      refine wpN_nil trivial ?_
      intro vals w1 hl hd
      clear hd
      have hBA := HBA.out.bel hl
      have hBB := HBB.out.bel hl
      have hBC := HBC.out.bel hl
      have hbw := bstep HBW.out hl HBW.out.size
      clear hl HBA HBB HBC HBW d0 d1 d2 d3 d4 df f0 f1 f2 f3 f4 ff q0 q1 q2 q3 q4 qf hz1 hz2 hz3
      obtain ⟨d0, d1, d2, d3, d4, df⟩ := hBA.cells5
      obtain ⟨f0, f1, f2, f3, f4, ff⟩ := hBB.cells5
      obtain ⟨q0, q1, q2, q3, q4, qf⟩ := hBC.cells5
      have hz1 : w.heap.size < w1.heap.size := hBA.lt
      have hz2 : w.heap.size + 1 < w1.heap.size := hBB.lt
      have hz3 : w.heap.size + 2 < w1.heap.size := hBC.lt
      have HBA := Lib.hid hBA
      have HBB := Lib.hid hBB
      have HBC := Lib.hid hBC
      have HBW := Lib.hid hbw
      clear hBA hBB hBC hbw
      go_wp2_with fail
      refine bodyPost_ret (v := .bool true) (by simp [results, Tryd.results3, go_sem]) rfl ⟨rfl, HBW.out⟩
    · skip
      refine wp_region_at 24 (by kernel_rfl) (by kernel_rfl) (by kernel_rfl) (by decide) ?_
      simp only [List.take_succ_cons, List.take_zero, List.drop_succ_cons, List.drop_zero]
      with_reducible apply wpN_det
      · intro vals w1 hl hd
        obtain ⟨hc, hf⟩ := hl.cells
        unfold yieldsM
        go_simp
        with_reducible exact uponM_pure
      simp only [Act.put, List.setIfInBounds_toArray, List.set_cons_zero, List.set_cons_succ]
      with_reducible apply wpN_det
      · intro vals w1 hl hd
        obtain ⟨hc, hf⟩ := hl.cells
        unfold yieldsM
        go_simp
        with_reducible exact uponM_pure
      simp only [Act.put, List.setIfInBounds_toArray, List.set_cons_zero, List.set_cons_succ]
      with_reducible apply wpN_det
      · intro vals w1 hl hd
        obtain ⟨hc, hf⟩ := hl.cells
        unfold yieldsM
        go_simp
        with_reducible refine uponM_enter ?_
        refine (leq_any a a _).mono ?_; rintro e w5 ⟨rfl, hb⟩; exact ⟨.bool a.right, by rw [Lv.leq_refl], hb, rfl⟩
      simp only [Act.put, List.setIfInBounds_toArray, List.set_cons_zero, List.set_cons_succ]
      with_reducible apply wpN_det
      · intro vals w1 hl hd
        obtain ⟨hc, hf⟩ := hl.cells
        unfold yieldsM
        go_simp
        with_reducible exact uponM_pure
      simp only [Act.put, List.setIfInBounds_toArray, List.set_cons_zero, List.set_cons_succ]
      with_reducible apply wpN_det
      · intro vals w1 hl hd
        obtain ⟨hc, hf⟩ := hl.cells
        unfold yieldsM
        go_simp
        with_reducible refine uponM_enter ?_
        refine (right_any a.b a.p0 a.p1 a.p2 a.p3 _).mono ?_; rintro e w5 ⟨rfl, hb⟩; exact ⟨.bool a.right, rfl, hb, rfl⟩
      simp only [Act.put, List.setIfInBounds_toArray, List.set_cons_zero, List.set_cons_succ]
      with_reducible apply wpN_det
      · intro vals w1 hl hd
        obtain ⟨hc, hf⟩ := hl.cells
        unfold yieldsM
        go_simp
        with_reducible exact uponM_pure
      simp only [Act.put, List.setIfInBounds_toArray, List.set_cons_zero, List.set_cons_succ]
      with_reducible apply wpN_det
      · intro vals w1 hl hd
        obtain ⟨hc, hf⟩ := hl.cells
        unfold yieldsM
        go_simp
        with_reducible exact uponM_pure
      simp only [Act.put, List.setIfInBounds_toArray, List.set_cons_zero, List.set_cons_succ]
      with_reducible apply wpN_det
      · intro vals w1 hl hd
        obtain ⟨hc, hf⟩ := hl.cells
        unfold yieldsM
        go_simp
        with_reducible exact uponM_pure
      simp only [Act.put, List.setIfInBounds_toArray, List.set_cons_zero, List.set_cons_succ]
      with_reducible apply wpN_det
      · intro vals w1 hl hd
        obtain ⟨hc, hf⟩ := hl.cells
        unfold yieldsM
        go_simp
        with_reducible exact uponM_pure
      simp only [Act.put, List.setIfInBounds_toArray, List.set_cons_zero, List.set_cons_succ]
      with_reducible apply wpN_det
      · intro vals w1 hl hd
        obtain ⟨hc, hf⟩ := hl.cells
        unfold yieldsM
        go_simp
        with_reducible refine uponM_enter ?_
        refine (leq_any a b _).mono ?_; rintro e w5 ⟨rfl, hb⟩; exact ⟨.bool true, by rw [hab], hb, rfl⟩
      simp only [Act.put, List.setIfInBounds_toArray, List.set_cons_zero, List.set_cons_succ]
      with_reducible apply wpN_det
      · intro vals w1 hl hd
        obtain ⟨hc, hf⟩ := hl.cells
        unfold yieldsM
        go_simp
        with_reducible exact uponM_pure
      simp only [Act.put, List.setIfInBounds_toArray, List.set_cons_zero, List.set_cons_succ]
      with_reducible apply wpN_det
      · intro vals w1 hl hd
        obtain ⟨hc, hf⟩ := hl.cells
        unfold yieldsM
        go_simp
        with_reducible exact uponM_pure
      simp only [Act.put, List.setIfInBounds_toArray, List.set_cons_zero, List.set_cons_succ]
      with_reducible apply wpN_det
      · intro vals w1 hl hd
        obtain ⟨hc, hf⟩ := hl.cells
        unfold yieldsM
        go_simp
        with_reducible exact uponM_pure
      simp only [Act.put, List.setIfInBounds_toArray, List.set_cons_zero, List.set_cons_succ]
      with_reducible apply wpN_det
      · intro vals w1 hl hd
        obtain ⟨hc, hf⟩ := hl.cells
        unfold yieldsM
        go_simp
        with_reducible exact uponM_pure
      simp only [Act.put, List.setIfInBounds_toArray, List.set_cons_zero, List.set_cons_succ]
      with_reducible apply wpN_det
      · intro vals w1 hl hd
        obtain ⟨hc, hf⟩ := hl.cells
        unfold yieldsM
        go_simp
        with_reducible refine uponM_enter ?_
        refine (leq_any b c _).mono ?_; rintro e w5 ⟨rfl, hb⟩; exact ⟨.bool true, by rw [hbc], hb, rfl⟩
      simp only [Act.put, List.setIfInBounds_toArray, List.set_cons_zero, List.set_cons_succ]
      with_reducible apply wpN_det
      · intro vals w1 hl hd
        obtain ⟨hc, hf⟩ := hl.cells
        unfold yieldsM
        go_simp
        with_reducible exact uponM_pure
      simp only [Act.put, List.setIfInBounds_toArray, List.set_cons_zero, List.set_cons_succ]
      with_reducible apply wpN_det
      · intro vals w1 hl hd
        obtain ⟨hc, hf⟩ := hl.cells
        unfold yieldsM
        go_simp
        with_reducible exact uponM_pure
      simp only [Act.put, List.setIfInBounds_toArray, List.set_cons_zero, List.set_cons_succ]
      with_reducible apply wpN_det
      · intro vals w1 hl hd
        obtain ⟨hc, hf⟩ := hl.cells
        unfold yieldsM
        go_simp
        with_reducible exact uponM_pure
      simp only [Act.put, List.setIfInBounds_toArray, List.set_cons_zero, List.set_cons_succ]
      with_reducible apply wpN_det
      · intro vals w1 hl hd
        obtain ⟨hc, hf⟩ := hl.cells
        unfold yieldsM
        go_simp
        with_reducible exact uponM_pure
      simp only [Act.put, List.setIfInBounds_toArray, List.set_cons_zero, List.set_cons_succ]
      with_reducible apply wpN_det
      · intro vals w1 hl hd
        obtain ⟨hc, hf⟩ := hl.cells
        unfold yieldsM
        go_simp
        with_reducible exact uponM_pure
      simp only [Act.put, List.setIfInBounds_toArray, List.set_cons_zero, List.set_cons_succ]
      with_reducible apply wpN_det
      · intro vals w1 hl hd
        obtain ⟨hc, hf⟩ := hl.cells
        unfold yieldsM
        go_simp
        with_reducible refine uponM_enter ?_
        refine (leq_any a c _).mono ?_; rintro e w5 ⟨rfl, hb⟩; exact ⟨.bool true, by rw [Lv.leq_trans hab hbc], hb, rfl⟩
      simp only [Act.put, List.setIfInBounds_toArray, List.set_cons_zero, List.set_cons_succ]
      with_reducible apply wpN_det
      · intro vals w1 hl hd
        obtain ⟨hc, hf⟩ := hl.cells
        unfold yieldsM
        go_simp
        with_reducible exact uponM_pure
      simp only [Act.put, List.setIfInBounds_toArray, List.set_cons_zero, List.set_cons_succ]
      with_reducible apply wpN_det
      · intro vals w1 hl hd
        obtain ⟨hc, hf⟩ := hl.cells
        unfold yieldsM
        go_simp
        with_reducible exact uponM_pure
      simp only [Act.put, List.setIfInBounds_toArray, List.set_cons_zero, List.set_cons_succ]
      with_reducible apply wpN_det
      · intro vals w1 hl hd
        obtain ⟨hc, hf⟩ := hl.cells
        unfold yieldsM
        go_simp
        with_reducible exact uponM_pure
      simp only [Act.put, List.setIfInBounds_toArray, List.set_cons_zero, List.set_cons_succ]
      refine wpN_nil trivial ?_
      intro vals w1 hl hd
      clear hd
      have hBA := HBA.out.bel hl
      have hBB := HBB.out.bel hl
      have hBC := HBC.out.bel hl
      have hbw := bstep HBW.out hl HBW.out.size
      clear hl HBA HBB HBC HBW d0 d1 d2 d3 d4 df f0 f1 f2 f3 f4 ff q0 q1 q2 q3 q4 qf hz1 hz2 hz3
      obtain ⟨d0, d1, d2, d3, d4, df⟩ := hBA.cells5
      obtain ⟨f0, f1, f2, f3, f4, ff⟩ := hBB.cells5
      obtain ⟨q0, q1, q2, q3, q4, qf⟩ := hBC.cells5
      have hz1 : w.heap.size < w1.heap.size := hBA.lt
      have hz2 : w.heap.size + 1 < w1.heap.size := hBB.lt
      have hz3 : w.heap.size + 2 < w1.heap.size := hBC.lt
      have HBA := Lib.hid hBA
      have HBB := Lib.hid hBB
      have HBC := Lib.hid hBC
      have HBW := Lib.hid hbw
      clear hBA hBB hBC hbw
      go_wp2_with fail
      refine bodyPost_ret (v := .bool true) (by simp [results, Tryd.results3, go_sem]) rfl ⟨rfl, HBW.out⟩
end
end Go.Proofs.YtmkpiekbpakigaaDoor
