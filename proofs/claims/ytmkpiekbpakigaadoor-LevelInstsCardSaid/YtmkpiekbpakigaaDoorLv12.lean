/- The greatest of levels: the plain law and the walk of the statement LevelMax. -/
import Derived.Test.YtmkpiekbpakigaaDoorLv11
set_option linter.unusedVariables false
set_option linter.unusedSimpArgs false
namespace Go.Proofs.YtmkpiekbpakigaaDoor
open Go.RowKit Go.Proofs.Base Go.Proofs.Mono

theorem Lv.maxl_no {a b : Lv} (h : ¬ (a.right = true ∧ b.right = true)) : Lv.maxl [a, b] = Lv.num (-1) := by
  unfold Lv.maxl
  rw [if_neg (by simpa using h)]
theorem Lv.max2_right {a b : Lv} (ha : a.right = true) (hb : b.right = true) : (a.max2 b).right = true := by
  have ga := Lv.right_bd ha
  have gb := Lv.right_bd hb
  unfold Lv.right Lv.max2
  simp only [decide_eq_true_eq]
  unfold mxi
  refine ⟨?_, ?_, ?_, ?_, ?_, ?_⟩ <;> (repeat' split) <;> omega
theorem Lv.max2_comm (a b : Lv) : a.max2 b = b.max2 a := by
  unfold Lv.max2
  rw [mxi_comm a.b, mxi_comm a.p0, mxi_comm a.p1, mxi_comm a.p2, mxi_comm a.p3]
theorem Lv.leq_max_l {a b : Lv} (ha : a.right = true) (hb : b.right = true) : a.leq (a.max2 b) = true :=
  Lv.leq_iff.2 ⟨ha, Lv.max2_right ha hb, le_mxi_l _ _, le_mxi_l _ _, le_mxi_l _ _, le_mxi_l _ _, le_mxi_l _ _⟩
theorem Lv.leq_max_r {a b : Lv} (ha : a.right = true) (hb : b.right = true) : b.leq (a.max2 b) = true :=
  Lv.leq_iff.2 ⟨hb, Lv.max2_right ha hb, le_mxi_r _ _, le_mxi_r _ _, le_mxi_r _ _, le_mxi_r _ _, le_mxi_r _ _⟩
theorem Lv.max_leq {a b c : Lv} (ha : a.leq c = true) (hb : b.leq c = true) : (a.max2 b).leq c = true := by
  rw [Lv.leq_iff] at *
  obtain ⟨ra, rc, h0, h1, h2, h3, h4⟩ := ha
  obtain ⟨rb, _, k0, k1, k2, k3, k4⟩ := hb
  exact ⟨Lv.max2_right ra rb, rc, mxi_le h0 k0, mxi_le h1 k1, mxi_le h2 k2, mxi_le h3 k3, mxi_le h4 k4⟩
theorem Lv.p_max (a b : Lv) (k : Nat) : (a.max2 b).p k = mxi (a.p k) (b.p k) := by
  unfold Lv.p Lv.max2
  split <;> rfl
theorem valGo_max {a b : Lv} (ha : a.right = true) (hb : b.right = true) (vals : List Int) : ∀ k, (a.max2 b).valGo vals k = mxi (a.valGo vals k) (b.valGo vals k)
  | 0 => rfl
  | k + 1 => by
    have ih := valGo_max ha hb vals k
    have ga := Lv.p_ge ha k
    have gb := Lv.p_ge hb k
    have hp := Lv.p_max a b k
    by_cases ea : a.p k = -1
    · by_cases eb : b.p k = -1
      · rw [valGo_pos _ vals k (by rw [hp, ea, eb]; rfl), valGo_pos a vals k ea, valGo_pos b vals k eb, ih]
      · have e : mxi (a.p k) (b.p k) = b.p k := mxi_r (by omega)
        rw [valGo_neg _ vals k (by rw [hp, e]; exact eb), valGo_pos a vals k ea, valGo_neg b vals k eb, ih, hp, e]
        unfold mxi
        repeat' split
        all_goals omega
    · by_cases eb : b.p k = -1
      · have e : mxi (a.p k) (b.p k) = a.p k := mxi_l (by omega)
        rw [valGo_neg _ vals k (by rw [hp, e]; exact ea), valGo_neg a vals k ea, valGo_pos b vals k eb, ih, hp, e]
        unfold mxi
        repeat' split
        all_goals omega
      · rw [valGo_neg _ vals k (by rw [hp]; unfold mxi; split <;> omega), valGo_neg a vals k ea, valGo_neg b vals k eb, ih, hp]
        unfold mxi
        repeat' split
        all_goals omega
theorem Lv.value_max {a b : Lv} (ha : a.right = true) (hb : b.right = true) (vals : List Int) : (a.max2 b).value vals = mxi (a.value vals) (b.value vals) := by
  unfold Lv.value
  rw [if_pos ha, if_pos hb, if_pos (Lv.max2_right ha hb)]
  exact valGo_max ha hb vals _

theorem max_mxi (x y : Int) : max x y = mxi x y := by
  rw [Int.max_def]
  unfold mxi
  split <;> split <;> omega
section
variable (a b c : Lv) (A : Option Addr) (xs : List Int) (w : World)
set_option maxRecDepth 20000 in
set_option maxHeartbeats 8000000 in
theorem max_true (n cc : Nat) (hx : IntRow w A xs) (hn : n = xs.length) (hcc : n ≤ cc) (hc2 : cc ≤ 9223372036854775807) (ht : Tab w) :
    Calls Tryd.prog 4 #[.agg #[.int .i64 a.b, .int .i64 a.p0, .int .i64 a.p1, .int .i64 a.p2, .int .i64 a.p3], .agg #[.int .i64 b.b, .int .i64 b.p0, .int .i64 b.p1, .int .i64 b.p2, .int .i64 b.p3], .agg #[.int .i64 c.b, .int .i64 c.p0, .int .i64 c.p1, .int .i64 c.p2, .int .i64 c.p3], .slice A n cc] w fun e w' => e = .returned (.bool true) ∧ Below w.heap.size w w' := by
  subst hn
  have HT := Lib.hid ht
  have HX := Lib.hid hx
  clear ht hx
  go_enter Tryd.func4, Tryd.ntmps4
  go_wp2_with fail
  have hBA := ((Blk.new w 24 #[.int .i64 a.b, .int .i64 a.p0, .int .i64 a.p1, .int .i64 a.p2, .int .i64 a.p3]).alloc (.cells #[.int .i64 b.b, .int .i64 b.p0, .int .i64 b.p1, .int .i64 b.p2, .int .i64 b.p3] 24)).alloc (.cells #[.int .i64 c.b, .int .i64 c.p0, .int .i64 c.p1, .int .i64 c.p2, .int .i64 c.p3] 24)
  have hBB := (Blk.new (w.alloc (.cells #[.int .i64 a.b, .int .i64 a.p0, .int .i64 a.p1, .int .i64 a.p2, .int .i64 a.p3] 24)) 24 #[.int .i64 b.b, .int .i64 b.p0, .int .i64 b.p1, .int .i64 b.p2, .int .i64 b.p3]).alloc (.cells #[.int .i64 c.b, .int .i64 c.p0, .int .i64 c.p1, .int .i64 c.p2, .int .i64 c.p3] 24)
  have hBC := Blk.new ((w.alloc (.cells #[.int .i64 a.b, .int .i64 a.p0, .int .i64 a.p1, .int .i64 a.p2, .int .i64 a.p3] 24)).alloc (.cells #[.int .i64 b.b, .int .i64 b.p0, .int .i64 b.p1, .int .i64 b.p2, .int .i64 b.p3] 24)) 24 #[.int .i64 c.b, .int .i64 c.p0, .int .i64 c.p1, .int .i64 c.p2, .int .i64 c.p3]
  have hbw : Below w.heap.size w (((w.alloc (.cells #[.int .i64 a.b, .int .i64 a.p0, .int .i64 a.p1, .int .i64 a.p2, .int .i64 a.p3] 24)).alloc (.cells #[.int .i64 b.b, .int .i64 b.p0, .int .i64 b.p1, .int .i64 b.p2, .int .i64 b.p3] 24)).alloc (.cells #[.int .i64 c.b, .int .i64 c.p0, .int .i64 c.p1, .int .i64 c.p2, .int .i64 c.p3] 24)) := by go_grown
  simp only [World.size_alloc] at hBA hBB hBC
  refine (alive_any _ (HT.out.bel hbw)).mono ?_
  rintro e w1 ⟨rfl, hb⟩
  replace hBA := hBA.bel hb
  replace hBB := hBB.bel hb
  replace hBC := hBC.bel hb
  replace hbw := bstep hbw hb hbw.size
  clear hb
  obtain ⟨d0, d1, d2, d3, d4, df⟩ := hBA.cells5
  have zd : w.heap.size < w1.heap.size := hBA.lt
  obtain ⟨f0, f1, f2, f3, f4, ff⟩ := hBB.cells5
  have zf : w.heap.size + 1 < w1.heap.size := hBB.lt
  obtain ⟨q0, q1, q2, q3, q4, qf⟩ := hBC.cells5
  have zq : w.heap.size + 2 < w1.heap.size := hBC.lt
  have HBA := Lib.hid hBA
  have HBB := Lib.hid hBB
  have HBC := Lib.hid hBC
  have HBW := Lib.hid hbw
  clear hBA hBB hBC hbw
  go_wp2_with fail
  · refine bodyPost_ret (v := .bool true) (by simp [results, Tryd.results4, go_sem]) rfl ⟨rfl, ?_⟩
    have := HBW.out
    go_grown
  refine (max_any _ _ [a, b] _ (row_two (Blk.new _ _ _)) _ rfl).mono ?_
  rintro e w2 ⟨rfl, hb⟩
  have hl := bstep (B := w1.heap.size) ((Below.refl w1.heap.size w1).alloc (Nat.le_refl _) (.cells #[.int .i64 a.b, .int .i64 a.p0, .int .i64 a.p1, .int .i64 a.p2, .int .i64 a.p3, .int .i64 b.b, .int .i64 b.p0, .int .i64 b.p1, .int .i64 b.p2, .int .i64 b.p3] 24)) hb (by simp)
  clear hb
  have hBA := HBA.out.bel hl
  have hBB := HBB.out.bel hl
  have hBC := HBC.out.bel hl
  have hbw := bstep HBW.out hl HBW.out.size
  clear hl HBA HBB HBC HBW d0 d1 d2 d3 d4 df f0 f1 f2 f3 f4 ff q0 q1 q2 q3 q4 qf zd zf zq
  obtain ⟨d0, d1, d2, d3, d4, df⟩ := hBA.cells5
  have zd : w.heap.size < w2.heap.size := hBA.lt
  obtain ⟨f0, f1, f2, f3, f4, ff⟩ := hBB.cells5
  have zf : w.heap.size + 1 < w2.heap.size := hBB.lt
  obtain ⟨q0, q1, q2, q3, q4, qf⟩ := hBC.cells5
  have zq : w.heap.size + 2 < w2.heap.size := hBC.lt
  have HBA := Lib.hid hBA
  have HBB := Lib.hid hBB
  have HBC := Lib.hid hBC
  have HBW := Lib.hid hbw
  clear hBA hBB hBC hbw
  generalize hM : Lv.maxl [a, b] = M
  rw [show M.val = (.agg #[.int .i64 M.b, .int .i64 M.p0, .int .i64 M.p1, .int .i64 M.p2, .int .i64 M.p3] : Value) from rfl]
  go_wp2_with fail
  have hBA := HBA.out.alloc (.cells #[.int .i64 M.b, .int .i64 M.p0, .int .i64 M.p1, .int .i64 M.p2, .int .i64 M.p3] 24)
  have hBB := HBB.out.alloc (.cells #[.int .i64 M.b, .int .i64 M.p0, .int .i64 M.p1, .int .i64 M.p2, .int .i64 M.p3] 24)
  have hBC := HBC.out.alloc (.cells #[.int .i64 M.b, .int .i64 M.p0, .int .i64 M.p1, .int .i64 M.p2, .int .i64 M.p3] 24)
  have hBM := Blk.new w2 24 #[.int .i64 M.b, .int .i64 M.p0, .int .i64 M.p1, .int .i64 M.p2, .int .i64 M.p3]
  have hbw := HBW.out.alloc HBW.out.size (.cells #[.int .i64 M.b, .int .i64 M.p0, .int .i64 M.p1, .int .i64 M.p2, .int .i64 M.p3] 24)
  clear HBA HBB HBC HBW d0 d1 d2 d3 d4 df f0 f1 f2 f3 f4 ff q0 q1 q2 q3 q4 qf zd zf zq
  generalize hg : w2.heap.size = g at hBM ⊢
  generalize w2.alloc (.cells #[.int .i64 M.b, .int .i64 M.p0, .int .i64 M.p1, .int .i64 M.p2, .int .i64 M.p3] 24) = V at hBA hBB hBC hBM hbw ⊢
  clear hg w2
  obtain ⟨d0, d1, d2, d3, d4, df⟩ := hBA.cells5
  have zd : w.heap.size < V.heap.size := hBA.lt
  obtain ⟨f0, f1, f2, f3, f4, ff⟩ := hBB.cells5
  have zf : w.heap.size + 1 < V.heap.size := hBB.lt
  obtain ⟨q0, q1, q2, q3, q4, qf⟩ := hBC.cells5
  have zq : w.heap.size + 2 < V.heap.size := hBC.lt
  obtain ⟨m0, m1, m2, m3, m4, mf⟩ := hBM.cells5
  have zm : g < V.heap.size := hBM.lt
  have HBA := Lib.hid hBA
  have HBB := Lib.hid hBB
  have HBC := Lib.hid hBC
  have HBM := Lib.hid hBM
  have HBW := Lib.hid hbw
  clear hBA hBB hBC hBM hbw
  cases ra : a.right
  · have hm : M.right = false := by rw [← hM, Lv.maxl_no (by simp [ra])]; rfl
    refine (right_any a.b a.p0 a.p1 a.p2 a.p3 _).mono ?_
    rintro e w3 ⟨rfl, hl⟩
    rw [(show Lv.right ⟨a.b, a.p0, a.p1, a.p2, a.p3⟩ = false from ra)]
    have hBA := HBA.out.bel hl
    have hBB := HBB.out.bel hl
    have hBC := HBC.out.bel hl
    have hBM := HBM.out.bel hl
    have hbw := bstep HBW.out hl HBW.out.size
    clear hl HBA HBB HBC HBM HBW d0 d1 d2 d3 d4 df f0 f1 f2 f3 f4 ff q0 q1 q2 q3 q4 qf m0 m1 m2 m3 m4 mf zd zf zq zm
    obtain ⟨d0, d1, d2, d3, d4, df⟩ := hBA.cells5
    have zd : w.heap.size < w3.heap.size := hBA.lt
    obtain ⟨f0, f1, f2, f3, f4, ff⟩ := hBB.cells5
    have zf : w.heap.size + 1 < w3.heap.size := hBB.lt
    obtain ⟨q0, q1, q2, q3, q4, qf⟩ := hBC.cells5
    have zq : w.heap.size + 2 < w3.heap.size := hBC.lt
    obtain ⟨m0, m1, m2, m3, m4, mf⟩ := hBM.cells5
    have zm : g < w3.heap.size := hBM.lt
    have HBA := Lib.hid hBA
    have HBB := Lib.hid hBB
    have HBC := Lib.hid hBC
    have HBM := Lib.hid hBM
    have HBW := Lib.hid hbw
    clear hBA hBB hBC hBM hbw
    go_wp2_with fail
    refine (right_any M.b M.p0 M.p1 M.p2 M.p3 _).mono ?_
    rintro e w4 ⟨rfl, hl⟩
    rw [(show Lv.right ⟨M.b, M.p0, M.p1, M.p2, M.p3⟩ = false from hm)]
    have hbw := bstep HBW.out hl HBW.out.size
    have HBW := Lib.hid hbw
    clear hbw hl
    go_wp2_with fail
    refine bodyPost_ret (v := .bool true) (by simp [results, Tryd.results4, go_sem]) rfl ⟨rfl, HBW.out⟩
  · refine (right_any a.b a.p0 a.p1 a.p2 a.p3 _).mono ?_
    rintro e w3 ⟨rfl, hl⟩
    rw [(show Lv.right ⟨a.b, a.p0, a.p1, a.p2, a.p3⟩ = true from ra)]
    have hBA := HBA.out.bel hl
    have hBB := HBB.out.bel hl
    have hBC := HBC.out.bel hl
    have hBM := HBM.out.bel hl
    have hbw := bstep HBW.out hl HBW.out.size
    clear hl HBA HBB HBC HBM HBW d0 d1 d2 d3 d4 df f0 f1 f2 f3 f4 ff q0 q1 q2 q3 q4 qf m0 m1 m2 m3 m4 mf zd zf zq zm
    obtain ⟨d0, d1, d2, d3, d4, df⟩ := hBA.cells5
    have zd : w.heap.size < w3.heap.size := hBA.lt
    obtain ⟨f0, f1, f2, f3, f4, ff⟩ := hBB.cells5
    have zf : w.heap.size + 1 < w3.heap.size := hBB.lt
    obtain ⟨q0, q1, q2, q3, q4, qf⟩ := hBC.cells5
    have zq : w.heap.size + 2 < w3.heap.size := hBC.lt
    obtain ⟨m0, m1, m2, m3, m4, mf⟩ := hBM.cells5
    have zm : g < w3.heap.size := hBM.lt
    have HBA := Lib.hid hBA
    have HBB := Lib.hid hBB
    have HBC := Lib.hid hBC
    have HBM := Lib.hid hBM
    have HBW := Lib.hid hbw
    clear hBA hBB hBC hBM hbw
    go_wp2_with fail
    cases rb : b.right
    · have hm : M.right = false := by rw [← hM, Lv.maxl_no (by simp [rb])]; rfl
      refine (right_any b.b b.p0 b.p1 b.p2 b.p3 _).mono ?_
      rintro e w4 ⟨rfl, hl⟩
      rw [(show Lv.right ⟨b.b, b.p0, b.p1, b.p2, b.p3⟩ = false from rb)]
      have hBA := HBA.out.bel hl
      have hBB := HBB.out.bel hl
      have hBC := HBC.out.bel hl
      have hBM := HBM.out.bel hl
      have hbw := bstep HBW.out hl HBW.out.size
      clear hl HBA HBB HBC HBM HBW d0 d1 d2 d3 d4 df f0 f1 f2 f3 f4 ff q0 q1 q2 q3 q4 qf m0 m1 m2 m3 m4 mf zd zf zq zm
      obtain ⟨d0, d1, d2, d3, d4, df⟩ := hBA.cells5
      have zd : w.heap.size < w4.heap.size := hBA.lt
      obtain ⟨f0, f1, f2, f3, f4, ff⟩ := hBB.cells5
      have zf : w.heap.size + 1 < w4.heap.size := hBB.lt
      obtain ⟨q0, q1, q2, q3, q4, qf⟩ := hBC.cells5
      have zq : w.heap.size + 2 < w4.heap.size := hBC.lt
      obtain ⟨m0, m1, m2, m3, m4, mf⟩ := hBM.cells5
      have zm : g < w4.heap.size := hBM.lt
      have HBA := Lib.hid hBA
      have HBB := Lib.hid hBB
      have HBC := Lib.hid hBC
      have HBM := Lib.hid hBM
      have HBW := Lib.hid hbw
      clear hBA hBB hBC hBM hbw
      go_wp2_with fail
      refine (right_any M.b M.p0 M.p1 M.p2 M.p3 _).mono ?_
      rintro e w5 ⟨rfl, hl⟩
      rw [(show Lv.right ⟨M.b, M.p0, M.p1, M.p2, M.p3⟩ = false from hm)]
      have hbw := bstep HBW.out hl HBW.out.size
      have HBW := Lib.hid hbw
      clear hbw hl
      go_wp2_with fail
      refine bodyPost_ret (v := .bool true) (by simp [results, Tryd.results4, go_sem]) rfl ⟨rfl, HBW.out⟩
    · refine (right_any b.b b.p0 b.p1 b.p2 b.p3 _).mono ?_
      rintro e w4 ⟨rfl, hl⟩
      rw [(show Lv.right ⟨b.b, b.p0, b.p1, b.p2, b.p3⟩ = true from rb)]
      have hBA := HBA.out.bel hl
      have hBB := HBB.out.bel hl
      have hBC := HBC.out.bel hl
      have hBM := HBM.out.bel hl
      have hbw := bstep HBW.out hl HBW.out.size
      clear hl HBA HBB HBC HBM HBW d0 d1 d2 d3 d4 df f0 f1 f2 f3 f4 ff q0 q1 q2 q3 q4 qf m0 m1 m2 m3 m4 mf zd zf zq zm
      obtain ⟨d0, d1, d2, d3, d4, df⟩ := hBA.cells5
      have zd : w.heap.size < w4.heap.size := hBA.lt
      obtain ⟨f0, f1, f2, f3, f4, ff⟩ := hBB.cells5
      have zf : w.heap.size + 1 < w4.heap.size := hBB.lt
      obtain ⟨q0, q1, q2, q3, q4, qf⟩ := hBC.cells5
      have zq : w.heap.size + 2 < w4.heap.size := hBC.lt
      obtain ⟨m0, m1, m2, m3, m4, mf⟩ := hBM.cells5
      have zm : g < w4.heap.size := hBM.lt
      have HBA := Lib.hid hBA
      have HBB := Lib.hid hBB
      have HBC := Lib.hid hBC
      have HBM := Lib.hid hBM
      have HBW := Lib.hid hbw
      clear hBA hBB hBC hBM hbw
      rw [Lv.maxl_two ra rb] at hM
      have hm : ∀ x y : Int, (if x < y then y else x) = mxi x y := fun _ _ => rfl
      go_wp2_with fail
      refine wp_region_at 8 (by kernel_rfl) (by kernel_rfl) (by kernel_rfl) (by decide) ?_
      simp only [List.take_succ_cons, List.take_zero, List.drop_succ_cons, List.drop_zero]
      with_reducible apply wpN_det
      · intro vals w1 hl hd
        obtain ⟨hc, hf⟩ := hl.cells
        unfold yieldsM
        go_simp
        with_reducible exact uponM_pure
      simp only [Act.put, List.setIfInBounds_toArray, List.set_cons_zero, List.set_cons_succ]
      with_reducible apply wpN_det
      · intro vals w1 hl hd
        obtain ⟨hc, hf⟩ := hl.cells
        unfold yieldsM
        go_simp
        with_reducible exact uponM_pure
      simp only [Act.put, List.setIfInBounds_toArray, List.set_cons_zero, List.set_cons_succ]
      with_reducible apply wpN_det
      · intro vals w1 hl hd
        obtain ⟨hc, hf⟩ := hl.cells
        unfold yieldsM
        go_simp
        with_reducible refine uponM_enter ?_
        refine (value_any a A xs xs.length cc _ (HX.out.below (bstep HBW.out hl HBW.out.size)) rfl hcc hc2).mono ?_; rintro e w5 ⟨rfl, hb⟩; exact ⟨.int .i64 (a.value xs), rfl, hb, rfl⟩
      simp only [Act.put, List.setIfInBounds_toArray, List.set_cons_zero, List.set_cons_succ]
      with_reducible apply wpN_det
      · intro vals w1 hl hd
        obtain ⟨hc, hf⟩ := hl.cells
        unfold yieldsM
        go_simp
        with_reducible exact uponM_pure
      simp only [Act.put, List.setIfInBounds_toArray, List.set_cons_zero, List.set_cons_succ]
      with_reducible apply wpN_det
      · intro vals w1 hl hd
        obtain ⟨hc, hf⟩ := hl.cells
        unfold yieldsM
        go_simp
        with_reducible exact uponM_pure
      simp only [Act.put, List.setIfInBounds_toArray, List.set_cons_zero, List.set_cons_succ]
      with_reducible apply wpN_det
      · intro vals w1 hl hd
        obtain ⟨hc, hf⟩ := hl.cells
        unfold yieldsM
        go_simp
        with_reducible refine uponM_enter ?_
        refine (value_any b A xs xs.length cc _ (HX.out.below (bstep HBW.out hl HBW.out.size)) rfl hcc hc2).mono ?_; rintro e w5 ⟨rfl, hb⟩; exact ⟨.int .i64 (b.value xs), rfl, hb, rfl⟩
      simp only [Act.put, List.setIfInBounds_toArray, List.set_cons_zero, List.set_cons_succ]
      refine wpN_det (v := .int .i64 (mxi (a.value xs) (b.value xs))) ?_ ?_
      · intro vals w1 hl hd
        obtain ⟨hc, hf⟩ := hl.cells
        unfold yieldsM
        go_simp
        first | exact uponM_pure | (refine uponM_eq ?_; rw [max_mxi])
      simp only [Act.put, List.setIfInBounds_toArray, List.set_cons_zero, List.set_cons_succ]
      with_reducible apply wpN_det
      · intro vals w1 hl hd
        obtain ⟨hc, hf⟩ := hl.cells
        unfold yieldsM
        go_simp
        with_reducible exact uponM_pure
      simp only [Act.put, List.setIfInBounds_toArray, List.set_cons_zero, List.set_cons_succ]
      refine wpN_nil trivial ?_
      intro vals w1 hl hd
      clear hd
      have hBA := HBA.out.bel hl
      have hBB := HBB.out.bel hl
      have hBC := HBC.out.bel hl
      have hBM := HBM.out.bel hl
      have hbw := bstep HBW.out hl HBW.out.size
      clear hl HBA HBB HBC HBM HBW d0 d1 d2 d3 d4 df f0 f1 f2 f3 f4 ff q0 q1 q2 q3 q4 qf m0 m1 m2 m3 m4 mf zd zf zq zm
      obtain ⟨d0, d1, d2, d3, d4, df⟩ := hBA.cells5
      have zd : w.heap.size < w1.heap.size := hBA.lt
      obtain ⟨f0, f1, f2, f3, f4, ff⟩ := hBB.cells5
      have zf : w.heap.size + 1 < w1.heap.size := hBB.lt
      obtain ⟨q0, q1, q2, q3, q4, qf⟩ := hBC.cells5
      have zq : w.heap.size + 2 < w1.heap.size := hBC.lt
      obtain ⟨m0, m1, m2, m3, m4, mf⟩ := hBM.cells5
      have zm : g < w1.heap.size := hBM.lt
      have HBA := Lib.hid hBA
      have HBB := Lib.hid hBB
      have HBC := Lib.hid hBC
      have HBM := Lib.hid hBM
      have HBW := Lib.hid hbw
      clear hBA hBB hBC hBM hbw
      have lam : a.leq M = true := by rw [← hM]; exact Lv.leq_max_l ra rb
      have lbm : b.leq M = true := by rw [← hM]; exact Lv.leq_max_r ra rb
      have hval : M.value xs = mxi (a.value xs) (b.value xs) := by rw [← hM]; exact Lv.value_max ra rb xs
      have hba : Lv.maxl [b, a] = M := by rw [Lv.maxl_two rb ra, Lv.max2_comm]; exact hM
      clear hm
      go_wp2_with fail
      cases hac : a.leq c
      · skip
        refine wp_region_at 41 (by kernel_rfl) (by kernel_rfl) (by kernel_rfl) (by decide) ?_
        simp only [List.take_succ_cons, List.take_zero, List.drop_succ_cons, List.drop_zero]
        with_reducible apply wpN_det
        · intro vals w1 hl hd
          obtain ⟨hc, hf⟩ := hl.cells
          unfold yieldsM
          go_simp
          with_reducible exact uponM_pure
        simp only [Act.put, List.setIfInBounds_toArray, List.set_cons_zero, List.set_cons_succ]
        with_reducible apply wpN_det
        · intro vals w1 hl hd
          obtain ⟨hc, hf⟩ := hl.cells
          unfold yieldsM
          go_simp
          with_reducible exact uponM_pure
        simp only [Act.put, List.setIfInBounds_toArray, List.set_cons_zero, List.set_cons_succ]
        with_reducible apply wpN_det
        · intro vals w1 hl hd
          obtain ⟨hc, hf⟩ := hl.cells
          unfold yieldsM
          go_simp
          with_reducible refine uponM_enter ?_
          refine (leq_any a M _).mono ?_; rintro e w5 ⟨rfl, hb⟩; exact ⟨.bool true, by rw [lam], hb, rfl⟩
        simp only [Act.put, List.setIfInBounds_toArray, List.set_cons_zero, List.set_cons_succ]
        with_reducible apply wpN_det
        · intro vals w1 hl hd
          obtain ⟨hc, hf⟩ := hl.cells
          unfold yieldsM
          go_simp
          with_reducible exact uponM_pure
        simp only [Act.put, List.setIfInBounds_toArray, List.set_cons_zero, List.set_cons_succ]
        with_reducible apply wpN_det
        · intro vals w1 hl hd
          obtain ⟨hc, hf⟩ := hl.cells
          unfold yieldsM
          go_simp
          with_reducible exact uponM_pure
        simp only [Act.put, List.setIfInBounds_toArray, List.set_cons_zero, List.set_cons_succ]
        with_reducible apply wpN_det
        · intro vals w1 hl hd
          obtain ⟨hc, hf⟩ := hl.cells
          unfold yieldsM
          go_simp
          with_reducible exact uponM_pure
        simp only [Act.put, List.setIfInBounds_toArray, List.set_cons_zero, List.set_cons_succ]
        with_reducible apply wpN_det
        · intro vals w1 hl hd
          obtain ⟨hc, hf⟩ := hl.cells
          unfold yieldsM
          go_simp
          with_reducible refine uponM_enter ?_
          refine (leq_any b M _).mono ?_; rintro e w5 ⟨rfl, hb⟩; exact ⟨.bool true, by rw [lbm], hb, rfl⟩
        simp only [Act.put, List.setIfInBounds_toArray, List.set_cons_zero, List.set_cons_succ]
        with_reducible apply wpN_det
        · intro vals w1 hl hd
          obtain ⟨hc, hf⟩ := hl.cells
          unfold yieldsM
          go_simp
          with_reducible exact uponM_pure
        simp only [Act.put, List.setIfInBounds_toArray, List.set_cons_zero, List.set_cons_succ]
        with_reducible apply wpN_det
        · intro vals w1 hl hd
          obtain ⟨hc, hf⟩ := hl.cells
          unfold yieldsM
          go_simp
          with_reducible exact uponM_pure
        simp only [Act.put, List.setIfInBounds_toArray, List.set_cons_zero, List.set_cons_succ]
        with_reducible apply wpN_det
        · intro vals w1 hl hd
          obtain ⟨hc, hf⟩ := hl.cells
          unfold yieldsM
          go_simp
          with_reducible exact uponM_pure
        simp only [Act.put, List.setIfInBounds_toArray, List.set_cons_zero, List.set_cons_succ]
        with_reducible apply wpN_det
        · intro vals w1 hl hd
          obtain ⟨hc, hf⟩ := hl.cells
          unfold yieldsM
          go_simp
          with_reducible exact uponM_pure
        simp only [Act.put, List.setIfInBounds_toArray, List.set_cons_zero, List.set_cons_succ]
        with_reducible apply wpN_det
        · intro vals w1 hl hd
          obtain ⟨hc, hf⟩ := hl.cells
          unfold yieldsM
          go_simp
          with_reducible refine uponM_enter ?_
          refine (value_any M A xs xs.length cc _ (HX.out.below (bstep HBW.out hl HBW.out.size)) rfl hcc hc2).mono ?_; rintro e w5 ⟨rfl, hb⟩; exact ⟨.int .i64 (mxi (a.value xs) (b.value xs)), by rw [hval], hb, rfl⟩
        simp only [Act.put, List.setIfInBounds_toArray, List.set_cons_zero, List.set_cons_succ]
        with_reducible apply wpN_det
        · intro vals w1 hl hd
          obtain ⟨hc, hf⟩ := hl.cells
          unfold yieldsM
          go_simp
          with_reducible exact uponM_pure
        simp only [Act.put, List.setIfInBounds_toArray, List.set_cons_zero, List.set_cons_succ]
        with_reducible apply wpN_det
        · intro vals w1 hl hd
          obtain ⟨hc, hf⟩ := hl.cells
          unfold yieldsM
          go_simp
          with_reducible exact uponM_pure
        simp only [Act.put, List.setIfInBounds_toArray, List.set_cons_zero, List.set_cons_succ]
        with_reducible apply wpN_det
        · intro vals w1 hl hd
          obtain ⟨hc, hf⟩ := hl.cells
          unfold yieldsM
          go_simp
          with_reducible exact uponM_pure
        simp only [Act.put, List.setIfInBounds_toArray, List.set_cons_zero, List.set_cons_succ]
        with_reducible apply wpN_det
        · intro vals w1 hl hd
          obtain ⟨hc, hf⟩ := hl.cells
          unfold yieldsM
          go_simp
          with_reducible exact uponM_pure
        simp only [Act.put, List.setIfInBounds_toArray, List.set_cons_zero, List.set_cons_succ]
        with_reducible apply wpN_det
        · intro vals w1 hl hd
          obtain ⟨hc, hf⟩ := hl.cells
          unfold yieldsM
          go_simp
          with_reducible exact uponM_pure
        simp only [Act.put, List.setIfInBounds_toArray, List.set_cons_zero, List.set_cons_succ]
        with_reducible apply wpN_det
        · intro vals w1 hl hd
          obtain ⟨hc, hf⟩ := hl.cells
          unfold yieldsM
          go_simp
          with_reducible exact uponM_pure
        simp only [Act.put, List.setIfInBounds_toArray, List.set_cons_zero, List.set_cons_succ]
        with_reducible apply wpN_det
        · intro vals w1 hl hd
          obtain ⟨hc, hf⟩ := hl.cells
          unfold yieldsM
          go_simp
          with_reducible exact uponM_pure
        simp only [Act.put, List.setIfInBounds_toArray, List.set_cons_zero, List.set_cons_succ]
        refine wpN_mem (fun u w => ∃ g, u = .slice (some ⟨g, 0, none⟩) 2 2 ∧ Blk w g 24 #[.int .i64 b.b, .int .i64 b.p0, .int .i64 b.p1, .int .i64 b.p2, .int .i64 b.p3, .int .i64 a.b, .int .i64 a.p0, .int .i64 a.p1, .int .i64 a.p2, .int .i64 a.p3]) (fun u w w' hw ⟨g, e, h⟩ => ⟨g, e, h.bel hw⟩) ?_ ?_
        · intro vals w1 hl hd
          obtain ⟨hc, hf⟩ := hl.cells
          unfold yieldsM
          go_simp
          exact ⟨Below.alloc (Below.refl _ _) (Nat.le_refl _) _, _, rfl, Blk.new _ _ _⟩
        simp only [Act.put, List.setIfInBounds_toArray, List.set_cons_zero, List.set_cons_succ]
        with_reducible apply wpN_det
        · intro vals w1 hl hd
          obtain ⟨hc, hf⟩ := hl.cells
          have hd57 := hd 19 _ rfl (by kernel_rfl)
          obtain ⟨g', hg, hB⟩ := hd57; have hv : vals 19 = .slice (some ⟨g', 0, none⟩) 2 2 := hg; have HB := Lib.hid hB; clear hB hd hg
          unfold yieldsM
          go_simp
          with_reducible refine uponM_enter ?_
          refine (max_any _ _ [b, a] _ (row_two HB.out) _ rfl).mono ?_; rintro e w5 ⟨rfl, hb⟩; exact ⟨.agg #[.int .i64 M.b, .int .i64 M.p0, .int .i64 M.p1, .int .i64 M.p2, .int .i64 M.p3], by rw [hba]; rfl, hb, rfl⟩
        simp only [Act.put, List.setIfInBounds_toArray, List.set_cons_zero, List.set_cons_succ]
        with_reducible apply wpN_det
        · intro vals w1 hl hd
          obtain ⟨hc, hf⟩ := hl.cells
          have he := eq22 w1
          unfold yieldsM
          go_simp
          with_reducible exact uponM_pure
        simp only [Act.put, List.setIfInBounds_toArray, List.set_cons_zero, List.set_cons_succ]
        with_reducible apply wpN_det
        · intro vals w1 hl hd
          obtain ⟨hc, hf⟩ := hl.cells
          unfold yieldsM
          go_simp
          with_reducible exact uponM_pure
        simp only [Act.put, List.setIfInBounds_toArray, List.set_cons_zero, List.set_cons_succ]
        with_reducible apply wpN_det
        · intro vals w1 hl hd
          obtain ⟨hc, hf⟩ := hl.cells
          unfold yieldsM
          go_simp
          with_reducible exact uponM_pure
        simp only [Act.put, List.setIfInBounds_toArray, List.set_cons_zero, List.set_cons_succ]
        with_reducible apply wpN_det
        · intro vals w1 hl hd
          obtain ⟨hc, hf⟩ := hl.cells
          unfold yieldsM
          go_simp
          with_reducible exact uponM_pure
        simp only [Act.put, List.setIfInBounds_toArray, List.set_cons_zero, List.set_cons_succ]
        with_reducible apply wpN_det
        · intro vals w1 hl hd
          obtain ⟨hc, hf⟩ := hl.cells
          unfold yieldsM
          go_simp
          with_reducible exact uponM_pure
        simp only [Act.put, List.setIfInBounds_toArray, List.set_cons_zero, List.set_cons_succ]
        with_reducible apply wpN_det
        · intro vals w1 hl hd
          obtain ⟨hc, hf⟩ := hl.cells
          unfold yieldsM
          go_simp
          with_reducible refine uponM_enter ?_
          refine (leq_any a c _).mono ?_; rintro e w5 ⟨rfl, hb⟩; exact ⟨.bool false, by rw [hac], hb, rfl⟩
        simp only [Act.put, List.setIfInBounds_toArray, List.set_cons_zero, List.set_cons_succ]
        with_reducible apply wpN_det
        · intro vals w1 hl hd
          obtain ⟨hc, hf⟩ := hl.cells
          unfold yieldsM
          go_simp
          with_reducible exact uponM_pure
        simp only [Act.put, List.setIfInBounds_toArray, List.set_cons_zero, List.set_cons_succ]
        with_reducible apply wpN_det
        · intro vals w1 hl hd
          obtain ⟨hc, hf⟩ := hl.cells
          unfold yieldsM
          go_simp
          with_reducible exact uponM_pure
        simp only [Act.put, List.setIfInBounds_toArray, List.set_cons_zero, List.set_cons_succ]
        with_reducible apply wpN_det
        · intro vals w1 hl hd
          obtain ⟨hc, hf⟩ := hl.cells
          unfold yieldsM
          go_simp
          with_reducible exact rfl
        simp only [Act.put, List.setIfInBounds_toArray, List.set_cons_zero, List.set_cons_succ]
        with_reducible apply wpN_det
        · intro vals w1 hl hd
          obtain ⟨hc, hf⟩ := hl.cells
          unfold yieldsM
          go_simp
          with_reducible exact rfl
        simp only [Act.put, List.setIfInBounds_toArray, List.set_cons_zero, List.set_cons_succ]
        with_reducible apply wpN_det
        · intro vals w1 hl hd
          obtain ⟨hc, hf⟩ := hl.cells
          unfold yieldsM
          go_simp
          with_reducible exact rfl
        simp only [Act.put, List.setIfInBounds_toArray, List.set_cons_zero, List.set_cons_succ]
        with_reducible apply wpN_det
        · intro vals w1 hl hd
          obtain ⟨hc, hf⟩ := hl.cells
          unfold yieldsM
          go_simp
          with_reducible exact rfl
        simp only [Act.put, List.setIfInBounds_toArray, List.set_cons_zero, List.set_cons_succ]
        with_reducible apply wpN_det
        · intro vals w1 hl hd
          obtain ⟨hc, hf⟩ := hl.cells
          unfold yieldsM
          go_simp
          with_reducible exact uponM_pure
        simp only [Act.put, List.setIfInBounds_toArray, List.set_cons_zero, List.set_cons_succ]
        with_reducible apply wpN_det
        · intro vals w1 hl hd
          obtain ⟨hc, hf⟩ := hl.cells
          unfold yieldsM
          go_simp
          with_reducible exact uponM_pure
        simp only [Act.put, List.setIfInBounds_toArray, List.set_cons_zero, List.set_cons_succ]
        with_reducible apply wpN_det
        · intro vals w1 hl hd
          obtain ⟨hc, hf⟩ := hl.cells
          unfold yieldsM
          go_simp
          with_reducible exact rfl
        simp only [Act.put, List.setIfInBounds_toArray, List.set_cons_zero, List.set_cons_succ]
        with_reducible apply wpN_det
        · intro vals w1 hl hd
          obtain ⟨hc, hf⟩ := hl.cells
          unfold yieldsM
          go_simp
          with_reducible exact rfl
        simp only [Act.put, List.setIfInBounds_toArray, List.set_cons_zero, List.set_cons_succ]
        with_reducible apply wpN_det
        · intro vals w1 hl hd
          obtain ⟨hc, hf⟩ := hl.cells
          unfold yieldsM
          go_simp
          with_reducible exact rfl
        simp only [Act.put, List.setIfInBounds_toArray, List.set_cons_zero, List.set_cons_succ]
        with_reducible apply wpN_det
        · intro vals w1 hl hd
          obtain ⟨hc, hf⟩ := hl.cells
          unfold yieldsM
          go_simp
          with_reducible exact uponM_pure
        simp only [Act.put, List.setIfInBounds_toArray, List.set_cons_zero, List.set_cons_succ]
        with_reducible apply wpN_det
        · intro vals w1 hl hd
          obtain ⟨hc, hf⟩ := hl.cells
          unfold yieldsM
          go_simp
          with_reducible exact uponM_pure
        simp only [Act.put, List.setIfInBounds_toArray, List.set_cons_zero, List.set_cons_succ]
        with_reducible apply wpN_det
        · intro vals w1 hl hd
          obtain ⟨hc, hf⟩ := hl.cells
          unfold yieldsM
          go_simp
          with_reducible exact uponM_pure
        simp only [Act.put, List.setIfInBounds_toArray, List.set_cons_zero, List.set_cons_succ]
        refine wpN_nil trivial ?_
        intro vals w1 hl hd
        have hd57 := hd 19 _ rfl
        clear hd
        have hbw := bstep HBW.out hl HBW.out.size
        have HBW := Lib.hid hbw
        clear hbw hl
        go_wp2_with fail
        refine bodyPost_ret (v := .bool true) (by simp [results, Tryd.results4, go_sem]) rfl ⟨rfl, HBW.out⟩
      · cases hbc : b.leq c
        · skip
          refine wp_region_at 41 (by kernel_rfl) (by kernel_rfl) (by kernel_rfl) (by decide) ?_
          simp only [List.take_succ_cons, List.take_zero, List.drop_succ_cons, List.drop_zero]
          with_reducible apply wpN_det
          · intro vals w1 hl hd
            obtain ⟨hc, hf⟩ := hl.cells
            unfold yieldsM
            go_simp
            with_reducible exact uponM_pure
          simp only [Act.put, List.setIfInBounds_toArray, List.set_cons_zero, List.set_cons_succ]
          with_reducible apply wpN_det
          · intro vals w1 hl hd
            obtain ⟨hc, hf⟩ := hl.cells
            unfold yieldsM
            go_simp
            with_reducible exact uponM_pure
          simp only [Act.put, List.setIfInBounds_toArray, List.set_cons_zero, List.set_cons_succ]
          with_reducible apply wpN_det
          · intro vals w1 hl hd
            obtain ⟨hc, hf⟩ := hl.cells
            unfold yieldsM
            go_simp
            with_reducible refine uponM_enter ?_
            refine (leq_any a M _).mono ?_; rintro e w5 ⟨rfl, hb⟩; exact ⟨.bool true, by rw [lam], hb, rfl⟩
          simp only [Act.put, List.setIfInBounds_toArray, List.set_cons_zero, List.set_cons_succ]
          with_reducible apply wpN_det
          · intro vals w1 hl hd
            obtain ⟨hc, hf⟩ := hl.cells
            unfold yieldsM
            go_simp
            with_reducible exact uponM_pure
          simp only [Act.put, List.setIfInBounds_toArray, List.set_cons_zero, List.set_cons_succ]
          with_reducible apply wpN_det
          · intro vals w1 hl hd
            obtain ⟨hc, hf⟩ := hl.cells
            unfold yieldsM
            go_simp
            with_reducible exact uponM_pure
          simp only [Act.put, List.setIfInBounds_toArray, List.set_cons_zero, List.set_cons_succ]
          with_reducible apply wpN_det
          · intro vals w1 hl hd
            obtain ⟨hc, hf⟩ := hl.cells
            unfold yieldsM
            go_simp
            with_reducible exact uponM_pure
          simp only [Act.put, List.setIfInBounds_toArray, List.set_cons_zero, List.set_cons_succ]
          with_reducible apply wpN_det
          · intro vals w1 hl hd
            obtain ⟨hc, hf⟩ := hl.cells
            unfold yieldsM
            go_simp
            with_reducible refine uponM_enter ?_
            refine (leq_any b M _).mono ?_; rintro e w5 ⟨rfl, hb⟩; exact ⟨.bool true, by rw [lbm], hb, rfl⟩
          simp only [Act.put, List.setIfInBounds_toArray, List.set_cons_zero, List.set_cons_succ]
          with_reducible apply wpN_det
          · intro vals w1 hl hd
            obtain ⟨hc, hf⟩ := hl.cells
            unfold yieldsM
            go_simp
            with_reducible exact uponM_pure
          simp only [Act.put, List.setIfInBounds_toArray, List.set_cons_zero, List.set_cons_succ]
          with_reducible apply wpN_det
          · intro vals w1 hl hd
            obtain ⟨hc, hf⟩ := hl.cells
            unfold yieldsM
            go_simp
            with_reducible exact uponM_pure
          simp only [Act.put, List.setIfInBounds_toArray, List.set_cons_zero, List.set_cons_succ]
          with_reducible apply wpN_det
          · intro vals w1 hl hd
            obtain ⟨hc, hf⟩ := hl.cells
            unfold yieldsM
            go_simp
            with_reducible exact uponM_pure
          simp only [Act.put, List.setIfInBounds_toArray, List.set_cons_zero, List.set_cons_succ]
          with_reducible apply wpN_det
          · intro vals w1 hl hd
            obtain ⟨hc, hf⟩ := hl.cells
            unfold yieldsM
            go_simp
            with_reducible exact uponM_pure
          simp only [Act.put, List.setIfInBounds_toArray, List.set_cons_zero, List.set_cons_succ]
          with_reducible apply wpN_det
          · intro vals w1 hl hd
            obtain ⟨hc, hf⟩ := hl.cells
            unfold yieldsM
            go_simp
            with_reducible refine uponM_enter ?_
            refine (value_any M A xs xs.length cc _ (HX.out.below (bstep HBW.out hl HBW.out.size)) rfl hcc hc2).mono ?_; rintro e w5 ⟨rfl, hb⟩; exact ⟨.int .i64 (mxi (a.value xs) (b.value xs)), by rw [hval], hb, rfl⟩
          simp only [Act.put, List.setIfInBounds_toArray, List.set_cons_zero, List.set_cons_succ]
          with_reducible apply wpN_det
          · intro vals w1 hl hd
            obtain ⟨hc, hf⟩ := hl.cells
            unfold yieldsM
            go_simp
            with_reducible exact uponM_pure
          simp only [Act.put, List.setIfInBounds_toArray, List.set_cons_zero, List.set_cons_succ]
          with_reducible apply wpN_det
          · intro vals w1 hl hd
            obtain ⟨hc, hf⟩ := hl.cells
            unfold yieldsM
            go_simp
            with_reducible exact uponM_pure
          simp only [Act.put, List.setIfInBounds_toArray, List.set_cons_zero, List.set_cons_succ]
          with_reducible apply wpN_det
          · intro vals w1 hl hd
            obtain ⟨hc, hf⟩ := hl.cells
            unfold yieldsM
            go_simp
            with_reducible exact uponM_pure
          simp only [Act.put, List.setIfInBounds_toArray, List.set_cons_zero, List.set_cons_succ]
          with_reducible apply wpN_det
          · intro vals w1 hl hd
            obtain ⟨hc, hf⟩ := hl.cells
            unfold yieldsM
            go_simp
            with_reducible exact uponM_pure
          simp only [Act.put, List.setIfInBounds_toArray, List.set_cons_zero, List.set_cons_succ]
          with_reducible apply wpN_det
          · intro vals w1 hl hd
            obtain ⟨hc, hf⟩ := hl.cells
            unfold yieldsM
            go_simp
            with_reducible exact uponM_pure
          simp only [Act.put, List.setIfInBounds_toArray, List.set_cons_zero, List.set_cons_succ]
          with_reducible apply wpN_det
          · intro vals w1 hl hd
            obtain ⟨hc, hf⟩ := hl.cells
            unfold yieldsM
            go_simp
            with_reducible exact uponM_pure
          simp only [Act.put, List.setIfInBounds_toArray, List.set_cons_zero, List.set_cons_succ]
          with_reducible apply wpN_det
          · intro vals w1 hl hd
            obtain ⟨hc, hf⟩ := hl.cells
            unfold yieldsM
            go_simp
            with_reducible exact uponM_pure
          simp only [Act.put, List.setIfInBounds_toArray, List.set_cons_zero, List.set_cons_succ]
          refine wpN_mem (fun u w => ∃ g, u = .slice (some ⟨g, 0, none⟩) 2 2 ∧ Blk w g 24 #[.int .i64 b.b, .int .i64 b.p0, .int .i64 b.p1, .int .i64 b.p2, .int .i64 b.p3, .int .i64 a.b, .int .i64 a.p0, .int .i64 a.p1, .int .i64 a.p2, .int .i64 a.p3]) (fun u w w' hw ⟨g, e, h⟩ => ⟨g, e, h.bel hw⟩) ?_ ?_
          · intro vals w1 hl hd
            obtain ⟨hc, hf⟩ := hl.cells
            unfold yieldsM
            go_simp
            exact ⟨Below.alloc (Below.refl _ _) (Nat.le_refl _) _, _, rfl, Blk.new _ _ _⟩
          simp only [Act.put, List.setIfInBounds_toArray, List.set_cons_zero, List.set_cons_succ]
          with_reducible apply wpN_det
          · intro vals w1 hl hd
            obtain ⟨hc, hf⟩ := hl.cells
            have hd57 := hd 19 _ rfl (by kernel_rfl)
            obtain ⟨g', hg, hB⟩ := hd57; have hv : vals 19 = .slice (some ⟨g', 0, none⟩) 2 2 := hg; have HB := Lib.hid hB; clear hB hd hg
            unfold yieldsM
            go_simp
            with_reducible refine uponM_enter ?_
            refine (max_any _ _ [b, a] _ (row_two HB.out) _ rfl).mono ?_; rintro e w5 ⟨rfl, hb⟩; exact ⟨.agg #[.int .i64 M.b, .int .i64 M.p0, .int .i64 M.p1, .int .i64 M.p2, .int .i64 M.p3], by rw [hba]; rfl, hb, rfl⟩
          simp only [Act.put, List.setIfInBounds_toArray, List.set_cons_zero, List.set_cons_succ]
          with_reducible apply wpN_det
          · intro vals w1 hl hd
            obtain ⟨hc, hf⟩ := hl.cells
            have he := eq22 w1
            unfold yieldsM
            go_simp
            with_reducible exact uponM_pure
          simp only [Act.put, List.setIfInBounds_toArray, List.set_cons_zero, List.set_cons_succ]
          with_reducible apply wpN_det
          · intro vals w1 hl hd
            obtain ⟨hc, hf⟩ := hl.cells
            unfold yieldsM
            go_simp
            with_reducible exact uponM_pure
          simp only [Act.put, List.setIfInBounds_toArray, List.set_cons_zero, List.set_cons_succ]
          with_reducible apply wpN_det
          · intro vals w1 hl hd
            obtain ⟨hc, hf⟩ := hl.cells
            unfold yieldsM
            go_simp
            with_reducible exact uponM_pure
          simp only [Act.put, List.setIfInBounds_toArray, List.set_cons_zero, List.set_cons_succ]
          with_reducible apply wpN_det
          · intro vals w1 hl hd
            obtain ⟨hc, hf⟩ := hl.cells
            unfold yieldsM
            go_simp
            with_reducible exact uponM_pure
          simp only [Act.put, List.setIfInBounds_toArray, List.set_cons_zero, List.set_cons_succ]
          with_reducible apply wpN_det
          · intro vals w1 hl hd
            obtain ⟨hc, hf⟩ := hl.cells
            unfold yieldsM
            go_simp
            with_reducible exact uponM_pure
          simp only [Act.put, List.setIfInBounds_toArray, List.set_cons_zero, List.set_cons_succ]
          with_reducible apply wpN_det
          · intro vals w1 hl hd
            obtain ⟨hc, hf⟩ := hl.cells
            unfold yieldsM
            go_simp
            with_reducible refine uponM_enter ?_
            refine (leq_any a c _).mono ?_; rintro e w5 ⟨rfl, hb⟩; exact ⟨.bool true, by rw [hac], hb, rfl⟩
          simp only [Act.put, List.setIfInBounds_toArray, List.set_cons_zero, List.set_cons_succ]
          with_reducible apply wpN_det
          · intro vals w1 hl hd
            obtain ⟨hc, hf⟩ := hl.cells
            unfold yieldsM
            go_simp
            with_reducible exact uponM_pure
          simp only [Act.put, List.setIfInBounds_toArray, List.set_cons_zero, List.set_cons_succ]
          with_reducible apply wpN_det
          · intro vals w1 hl hd
            obtain ⟨hc, hf⟩ := hl.cells
            unfold yieldsM
            go_simp
            with_reducible exact uponM_pure
          simp only [Act.put, List.setIfInBounds_toArray, List.set_cons_zero, List.set_cons_succ]
          with_reducible apply wpN_det
          · intro vals w1 hl hd
            obtain ⟨hc, hf⟩ := hl.cells
            unfold yieldsM
            go_simp
            with_reducible exact uponM_pure
          simp only [Act.put, List.setIfInBounds_toArray, List.set_cons_zero, List.set_cons_succ]
          with_reducible apply wpN_det
          · intro vals w1 hl hd
            obtain ⟨hc, hf⟩ := hl.cells
            unfold yieldsM
            go_simp
            with_reducible exact uponM_pure
          simp only [Act.put, List.setIfInBounds_toArray, List.set_cons_zero, List.set_cons_succ]
          with_reducible apply wpN_det
          · intro vals w1 hl hd
            obtain ⟨hc, hf⟩ := hl.cells
            unfold yieldsM
            go_simp
            with_reducible refine uponM_enter ?_
            refine (leq_any b c _).mono ?_; rintro e w5 ⟨rfl, hb⟩; exact ⟨.bool false, by rw [hbc], hb, rfl⟩
          simp only [Act.put, List.setIfInBounds_toArray, List.set_cons_zero, List.set_cons_succ]
          with_reducible apply wpN_det
          · intro vals w1 hl hd
            obtain ⟨hc, hf⟩ := hl.cells
            unfold yieldsM
            go_simp
            with_reducible exact uponM_pure
          simp only [Act.put, List.setIfInBounds_toArray, List.set_cons_zero, List.set_cons_succ]
          with_reducible apply wpN_det
          · intro vals w1 hl hd
            obtain ⟨hc, hf⟩ := hl.cells
            unfold yieldsM
            go_simp
            with_reducible exact uponM_pure
          simp only [Act.put, List.setIfInBounds_toArray, List.set_cons_zero, List.set_cons_succ]
          with_reducible apply wpN_det
          · intro vals w1 hl hd
            obtain ⟨hc, hf⟩ := hl.cells
            unfold yieldsM
            go_simp
            with_reducible exact uponM_pure
          simp only [Act.put, List.setIfInBounds_toArray, List.set_cons_zero, List.set_cons_succ]
          with_reducible apply wpN_det
          · intro vals w1 hl hd
            obtain ⟨hc, hf⟩ := hl.cells
            unfold yieldsM
            go_simp
            with_reducible exact rfl
          simp only [Act.put, List.setIfInBounds_toArray, List.set_cons_zero, List.set_cons_succ]
          with_reducible apply wpN_det
          · intro vals w1 hl hd
            obtain ⟨hc, hf⟩ := hl.cells
            unfold yieldsM
            go_simp
            with_reducible exact rfl
          simp only [Act.put, List.setIfInBounds_toArray, List.set_cons_zero, List.set_cons_succ]
          with_reducible apply wpN_det
          · intro vals w1 hl hd
            obtain ⟨hc, hf⟩ := hl.cells
            unfold yieldsM
            go_simp
            with_reducible exact rfl
          simp only [Act.put, List.setIfInBounds_toArray, List.set_cons_zero, List.set_cons_succ]
          with_reducible apply wpN_det
          · intro vals w1 hl hd
            obtain ⟨hc, hf⟩ := hl.cells
            unfold yieldsM
            go_simp
            with_reducible exact uponM_pure
          simp only [Act.put, List.setIfInBounds_toArray, List.set_cons_zero, List.set_cons_succ]
          with_reducible apply wpN_det
          · intro vals w1 hl hd
            obtain ⟨hc, hf⟩ := hl.cells
            unfold yieldsM
            go_simp
            with_reducible exact uponM_pure
          simp only [Act.put, List.setIfInBounds_toArray, List.set_cons_zero, List.set_cons_succ]
          with_reducible apply wpN_det
          · intro vals w1 hl hd
            obtain ⟨hc, hf⟩ := hl.cells
            unfold yieldsM
            go_simp
            with_reducible exact uponM_pure
          simp only [Act.put, List.setIfInBounds_toArray, List.set_cons_zero, List.set_cons_succ]
          refine wpN_nil trivial ?_
          intro vals w1 hl hd
          have hd57 := hd 19 _ rfl
          clear hd
          have hbw := bstep HBW.out hl HBW.out.size
          have HBW := Lib.hid hbw
          clear hbw hl
          go_wp2_with fail
          refine bodyPost_ret (v := .bool true) (by simp [results, Tryd.results4, go_sem]) rfl ⟨rfl, HBW.out⟩
        · have hmc : M.leq c = true := by rw [← hM]; exact Lv.max_leq hac hbc
          refine wp_region_at 41 (by kernel_rfl) (by kernel_rfl) (by kernel_rfl) (by decide) ?_
          simp only [List.take_succ_cons, List.take_zero, List.drop_succ_cons, List.drop_zero]
          with_reducible apply wpN_det
          · intro vals w1 hl hd
            obtain ⟨hc, hf⟩ := hl.cells
            unfold yieldsM
            go_simp
            with_reducible exact uponM_pure
          simp only [Act.put, List.setIfInBounds_toArray, List.set_cons_zero, List.set_cons_succ]
          with_reducible apply wpN_det
          · intro vals w1 hl hd
            obtain ⟨hc, hf⟩ := hl.cells
            unfold yieldsM
            go_simp
            with_reducible exact uponM_pure
          simp only [Act.put, List.setIfInBounds_toArray, List.set_cons_zero, List.set_cons_succ]
          with_reducible apply wpN_det
          · intro vals w1 hl hd
            obtain ⟨hc, hf⟩ := hl.cells
            unfold yieldsM
            go_simp
            with_reducible refine uponM_enter ?_
            refine (leq_any a M _).mono ?_; rintro e w5 ⟨rfl, hb⟩; exact ⟨.bool true, by rw [lam], hb, rfl⟩
          simp only [Act.put, List.setIfInBounds_toArray, List.set_cons_zero, List.set_cons_succ]
          with_reducible apply wpN_det
          · intro vals w1 hl hd
            obtain ⟨hc, hf⟩ := hl.cells
            unfold yieldsM
            go_simp
            with_reducible exact uponM_pure
          simp only [Act.put, List.setIfInBounds_toArray, List.set_cons_zero, List.set_cons_succ]
          with_reducible apply wpN_det
          · intro vals w1 hl hd
            obtain ⟨hc, hf⟩ := hl.cells
            unfold yieldsM
            go_simp
            with_reducible exact uponM_pure
          simp only [Act.put, List.setIfInBounds_toArray, List.set_cons_zero, List.set_cons_succ]
          with_reducible apply wpN_det
          · intro vals w1 hl hd
            obtain ⟨hc, hf⟩ := hl.cells
            unfold yieldsM
            go_simp
            with_reducible exact uponM_pure
          simp only [Act.put, List.setIfInBounds_toArray, List.set_cons_zero, List.set_cons_succ]
          with_reducible apply wpN_det
          · intro vals w1 hl hd
            obtain ⟨hc, hf⟩ := hl.cells
            unfold yieldsM
            go_simp
            with_reducible refine uponM_enter ?_
            refine (leq_any b M _).mono ?_; rintro e w5 ⟨rfl, hb⟩; exact ⟨.bool true, by rw [lbm], hb, rfl⟩
          simp only [Act.put, List.setIfInBounds_toArray, List.set_cons_zero, List.set_cons_succ]
          with_reducible apply wpN_det
          · intro vals w1 hl hd
            obtain ⟨hc, hf⟩ := hl.cells
            unfold yieldsM
            go_simp
            with_reducible exact uponM_pure
          simp only [Act.put, List.setIfInBounds_toArray, List.set_cons_zero, List.set_cons_succ]
          with_reducible apply wpN_det
          · intro vals w1 hl hd
            obtain ⟨hc, hf⟩ := hl.cells
            unfold yieldsM
            go_simp
            with_reducible exact uponM_pure
          simp only [Act.put, List.setIfInBounds_toArray, List.set_cons_zero, List.set_cons_succ]
          with_reducible apply wpN_det
          · intro vals w1 hl hd
            obtain ⟨hc, hf⟩ := hl.cells
            unfold yieldsM
            go_simp
            with_reducible exact uponM_pure
          simp only [Act.put, List.setIfInBounds_toArray, List.set_cons_zero, List.set_cons_succ]
          with_reducible apply wpN_det
          · intro vals w1 hl hd
            obtain ⟨hc, hf⟩ := hl.cells
            unfold yieldsM
            go_simp
            with_reducible exact uponM_pure
          simp only [Act.put, List.setIfInBounds_toArray, List.set_cons_zero, List.set_cons_succ]
          with_reducible apply wpN_det
          · intro vals w1 hl hd
            obtain ⟨hc, hf⟩ := hl.cells
            unfold yieldsM
            go_simp
            with_reducible refine uponM_enter ?_
            refine (value_any M A xs xs.length cc _ (HX.out.below (bstep HBW.out hl HBW.out.size)) rfl hcc hc2).mono ?_; rintro e w5 ⟨rfl, hb⟩; exact ⟨.int .i64 (mxi (a.value xs) (b.value xs)), by rw [hval], hb, rfl⟩
          simp only [Act.put, List.setIfInBounds_toArray, List.set_cons_zero, List.set_cons_succ]
          with_reducible apply wpN_det
          · intro vals w1 hl hd
            obtain ⟨hc, hf⟩ := hl.cells
            unfold yieldsM
            go_simp
            with_reducible exact uponM_pure
          simp only [Act.put, List.setIfInBounds_toArray, List.set_cons_zero, List.set_cons_succ]
          with_reducible apply wpN_det
          · intro vals w1 hl hd
            obtain ⟨hc, hf⟩ := hl.cells
            unfold yieldsM
            go_simp
            with_reducible exact uponM_pure
          simp only [Act.put, List.setIfInBounds_toArray, List.set_cons_zero, List.set_cons_succ]
          with_reducible apply wpN_det
          · intro vals w1 hl hd
            obtain ⟨hc, hf⟩ := hl.cells
            unfold yieldsM
            go_simp
            with_reducible exact uponM_pure
          simp only [Act.put, List.setIfInBounds_toArray, List.set_cons_zero, List.set_cons_succ]
          with_reducible apply wpN_det
          · intro vals w1 hl hd
            obtain ⟨hc, hf⟩ := hl.cells
            unfold yieldsM
            go_simp
            with_reducible exact uponM_pure
          simp only [Act.put, List.setIfInBounds_toArray, List.set_cons_zero, List.set_cons_succ]
          with_reducible apply wpN_det
          · intro vals w1 hl hd
            obtain ⟨hc, hf⟩ := hl.cells
            unfold yieldsM
            go_simp
            with_reducible exact uponM_pure
          simp only [Act.put, List.setIfInBounds_toArray, List.set_cons_zero, List.set_cons_succ]
          with_reducible apply wpN_det
          · intro vals w1 hl hd
            obtain ⟨hc, hf⟩ := hl.cells
            unfold yieldsM
            go_simp
            with_reducible exact uponM_pure
          simp only [Act.put, List.setIfInBounds_toArray, List.set_cons_zero, List.set_cons_succ]
          with_reducible apply wpN_det
          · intro vals w1 hl hd
            obtain ⟨hc, hf⟩ := hl.cells
            unfold yieldsM
            go_simp
            with_reducible exact uponM_pure
          simp only [Act.put, List.setIfInBounds_toArray, List.set_cons_zero, List.set_cons_succ]
          refine wpN_mem (fun u w => ∃ g, u = .slice (some ⟨g, 0, none⟩) 2 2 ∧ Blk w g 24 #[.int .i64 b.b, .int .i64 b.p0, .int .i64 b.p1, .int .i64 b.p2, .int .i64 b.p3, .int .i64 a.b, .int .i64 a.p0, .int .i64 a.p1, .int .i64 a.p2, .int .i64 a.p3]) (fun u w w' hw ⟨g, e, h⟩ => ⟨g, e, h.bel hw⟩) ?_ ?_
          · intro vals w1 hl hd
            obtain ⟨hc, hf⟩ := hl.cells
            unfold yieldsM
            go_simp
            exact ⟨Below.alloc (Below.refl _ _) (Nat.le_refl _) _, _, rfl, Blk.new _ _ _⟩
          simp only [Act.put, List.setIfInBounds_toArray, List.set_cons_zero, List.set_cons_succ]
          with_reducible apply wpN_det
          · intro vals w1 hl hd
            obtain ⟨hc, hf⟩ := hl.cells
            have hd57 := hd 19 _ rfl (by kernel_rfl)
            obtain ⟨g', hg, hB⟩ := hd57; have hv : vals 19 = .slice (some ⟨g', 0, none⟩) 2 2 := hg; have HB := Lib.hid hB; clear hB hd hg
            unfold yieldsM
            go_simp
            with_reducible refine uponM_enter ?_
            refine (max_any _ _ [b, a] _ (row_two HB.out) _ rfl).mono ?_; rintro e w5 ⟨rfl, hb⟩; exact ⟨.agg #[.int .i64 M.b, .int .i64 M.p0, .int .i64 M.p1, .int .i64 M.p2, .int .i64 M.p3], by rw [hba]; rfl, hb, rfl⟩
          simp only [Act.put, List.setIfInBounds_toArray, List.set_cons_zero, List.set_cons_succ]
          with_reducible apply wpN_det
          · intro vals w1 hl hd
            obtain ⟨hc, hf⟩ := hl.cells
            have he := eq22 w1
            unfold yieldsM
            go_simp
            with_reducible exact uponM_pure
          simp only [Act.put, List.setIfInBounds_toArray, List.set_cons_zero, List.set_cons_succ]
          with_reducible apply wpN_det
          · intro vals w1 hl hd
            obtain ⟨hc, hf⟩ := hl.cells
            unfold yieldsM
            go_simp
            with_reducible exact uponM_pure
          simp only [Act.put, List.setIfInBounds_toArray, List.set_cons_zero, List.set_cons_succ]
          with_reducible apply wpN_det
          · intro vals w1 hl hd
            obtain ⟨hc, hf⟩ := hl.cells
            unfold yieldsM
            go_simp
            with_reducible exact uponM_pure
          simp only [Act.put, List.setIfInBounds_toArray, List.set_cons_zero, List.set_cons_succ]
          with_reducible apply wpN_det
          · intro vals w1 hl hd
            obtain ⟨hc, hf⟩ := hl.cells
            unfold yieldsM
            go_simp
            with_reducible exact uponM_pure
          simp only [Act.put, List.setIfInBounds_toArray, List.set_cons_zero, List.set_cons_succ]
          with_reducible apply wpN_det
          · intro vals w1 hl hd
            obtain ⟨hc, hf⟩ := hl.cells
            unfold yieldsM
            go_simp
            with_reducible exact uponM_pure
          simp only [Act.put, List.setIfInBounds_toArray, List.set_cons_zero, List.set_cons_succ]
          with_reducible apply wpN_det
          · intro vals w1 hl hd
            obtain ⟨hc, hf⟩ := hl.cells
            unfold yieldsM
            go_simp
            with_reducible refine uponM_enter ?_
            refine (leq_any a c _).mono ?_; rintro e w5 ⟨rfl, hb⟩; exact ⟨.bool true, by rw [hac], hb, rfl⟩
          simp only [Act.put, List.setIfInBounds_toArray, List.set_cons_zero, List.set_cons_succ]
          with_reducible apply wpN_det
          · intro vals w1 hl hd
            obtain ⟨hc, hf⟩ := hl.cells
            unfold yieldsM
            go_simp
            with_reducible exact uponM_pure
          simp only [Act.put, List.setIfInBounds_toArray, List.set_cons_zero, List.set_cons_succ]
          with_reducible apply wpN_det
          · intro vals w1 hl hd
            obtain ⟨hc, hf⟩ := hl.cells
            unfold yieldsM
            go_simp
            with_reducible exact uponM_pure
          simp only [Act.put, List.setIfInBounds_toArray, List.set_cons_zero, List.set_cons_succ]
          with_reducible apply wpN_det
          · intro vals w1 hl hd
            obtain ⟨hc, hf⟩ := hl.cells
            unfold yieldsM
            go_simp
            with_reducible exact uponM_pure
          simp only [Act.put, List.setIfInBounds_toArray, List.set_cons_zero, List.set_cons_succ]
          with_reducible apply wpN_det
          · intro vals w1 hl hd
            obtain ⟨hc, hf⟩ := hl.cells
            unfold yieldsM
            go_simp
            with_reducible exact uponM_pure
          simp only [Act.put, List.setIfInBounds_toArray, List.set_cons_zero, List.set_cons_succ]
          with_reducible apply wpN_det
          · intro vals w1 hl hd
            obtain ⟨hc, hf⟩ := hl.cells
            unfold yieldsM
            go_simp
            with_reducible refine uponM_enter ?_
            refine (leq_any b c _).mono ?_; rintro e w5 ⟨rfl, hb⟩; exact ⟨.bool true, by rw [hbc], hb, rfl⟩
          simp only [Act.put, List.setIfInBounds_toArray, List.set_cons_zero, List.set_cons_succ]
          with_reducible apply wpN_det
          · intro vals w1 hl hd
            obtain ⟨hc, hf⟩ := hl.cells
            unfold yieldsM
            go_simp
            with_reducible exact uponM_pure
          simp only [Act.put, List.setIfInBounds_toArray, List.set_cons_zero, List.set_cons_succ]
          with_reducible apply wpN_det
          · intro vals w1 hl hd
            obtain ⟨hc, hf⟩ := hl.cells
            unfold yieldsM
            go_simp
            with_reducible exact uponM_pure
          simp only [Act.put, List.setIfInBounds_toArray, List.set_cons_zero, List.set_cons_succ]
          with_reducible apply wpN_det
          · intro vals w1 hl hd
            obtain ⟨hc, hf⟩ := hl.cells
            unfold yieldsM
            go_simp
            with_reducible exact uponM_pure
          simp only [Act.put, List.setIfInBounds_toArray, List.set_cons_zero, List.set_cons_succ]
          with_reducible apply wpN_det
          · intro vals w1 hl hd
            obtain ⟨hc, hf⟩ := hl.cells
            unfold yieldsM
            go_simp
            with_reducible exact uponM_pure
          simp only [Act.put, List.setIfInBounds_toArray, List.set_cons_zero, List.set_cons_succ]
          with_reducible apply wpN_det
          · intro vals w1 hl hd
            obtain ⟨hc, hf⟩ := hl.cells
            unfold yieldsM
            go_simp
            with_reducible exact uponM_pure
          simp only [Act.put, List.setIfInBounds_toArray, List.set_cons_zero, List.set_cons_succ]
          with_reducible apply wpN_det
          · intro vals w1 hl hd
            obtain ⟨hc, hf⟩ := hl.cells
            unfold yieldsM
            go_simp
            with_reducible refine uponM_enter ?_
            refine (leq_any M c _).mono ?_; rintro e w5 ⟨rfl, hb⟩; exact ⟨.bool true, by rw [hmc], hb, rfl⟩
          simp only [Act.put, List.setIfInBounds_toArray, List.set_cons_zero, List.set_cons_succ]
          with_reducible apply wpN_det
          · intro vals w1 hl hd
            obtain ⟨hc, hf⟩ := hl.cells
            unfold yieldsM
            go_simp
            with_reducible exact uponM_pure
          simp only [Act.put, List.setIfInBounds_toArray, List.set_cons_zero, List.set_cons_succ]
          with_reducible apply wpN_det
          · intro vals w1 hl hd
            obtain ⟨hc, hf⟩ := hl.cells
            unfold yieldsM
            go_simp
            with_reducible exact uponM_pure
          simp only [Act.put, List.setIfInBounds_toArray, List.set_cons_zero, List.set_cons_succ]
          with_reducible apply wpN_det
          · intro vals w1 hl hd
            obtain ⟨hc, hf⟩ := hl.cells
            unfold yieldsM
            go_simp
            with_reducible exact uponM_pure
          simp only [Act.put, List.setIfInBounds_toArray, List.set_cons_zero, List.set_cons_succ]
          refine wpN_nil trivial ?_
          intro vals w1 hl hd
          have hd57 := hd 19 _ rfl
          clear hd
          have hbw := bstep HBW.out hl HBW.out.size
          have HBW := Lib.hid hbw
          clear hbw hl
          go_wp2_with fail
          refine bodyPost_ret (v := .bool true) (by simp [results, Tryd.results4, go_sem]) rfl ⟨rfl, HBW.out⟩
end
end Go.Proofs.YtmkpiekbpakigaaDoor
