/- Contracts of the functions of layer 7: Up. -/
import Derived.Test.YtmkpiekbpakigaaDoorLv4
set_option linter.unusedVariables false
set_option linter.unusedSimpArgs false
namespace Go.Proofs.YtmkpiekbpakigaaDoor
open Go.RowKit Go.Proofs.Base Go.Proofs.Mono

def Lv.up1 (p n : Int) : Int := if p = -1 then -1 else p + n
def Lv.up (l : Lv) (n : Int) : Lv × Bool :=
  if l.right = true ∧ 0 ≤ n ∧ n ≤ 100 - l.b then (⟨l.b + n, Lv.up1 l.p0 n, Lv.up1 l.p1 n, Lv.up1 l.p2 n, Lv.up1 l.p3 n⟩, true) else (⟨0, 0, 0, 0, 0⟩, false)

theorem Lv.right_bd {l : Lv} (h : l.right = true) : (-1 ≤ l.p0 ∧ l.p0 ≤ l.b) ∧ (-1 ≤ l.p1 ∧ l.p1 ≤ l.b) ∧ (-1 ≤ l.p2 ∧ l.p2 ≤ l.b) ∧ (-1 ≤ l.p3 ∧ l.p3 ≤ l.b) ∧ 0 ≤ l.b ∧ l.b ≤ 100 := by
  simpa [Lv.right] using h
theorem up1_yes {p n : Int} (h : p = -1) : Lv.up1 p n = p := by unfold Lv.up1; rw [if_pos h, h]
theorem up1_no {p n : Int} (h : ¬ p = -1) : Lv.up1 p n = p + n := by unfold Lv.up1; rw [if_neg h]

/-- What is read back of a result of type Level. -/
theorem ret_agg24 {w : World} {g : Nat} {c0 c1 c2 c3 c4 : Value} (h : Blk w g 24 #[c0, c1, c2, c3, c4]) : (loadVar 24 ⟨g, 0, none⟩).run Tryd.prog w = .ok (.agg #[c0, c1, c2, c3, c4]) w :=
  run_loadVar_row w g 24 24 _ _ _ h Tryd.underlying24 rfl (by kernel_rfl)

set_option maxHeartbeats 2000000 in
theorem up_no (b p0 p1 p2 p3 n : Int) (w : World) (h : ¬ (Lv.right ⟨b, p0, p1, p2, p3⟩ = true ∧ 0 ≤ n ∧ n ≤ 100 - b)) :
    Calls Tryd.prog 50 #[.agg #[.int .i64 b, .int .i64 p0, .int .i64 p1, .int .i64 p2, .int .i64 p3], .int .i64 n] w fun e w' =>
      e = .returned (.tuple #[.agg #[.int .i64 0, .int .i64 0, .int .i64 0, .int .i64 0, .int .i64 0], .bool false]) ∧ Below w.heap.size w w' := by
  cases hr : Lv.right ⟨b, p0, p1, p2, p3⟩
  · clear h
    go_enter Tryd.func50, Tryd.ntmps50
    go_wp2_with fail
    refine (right_any _ _ _ _ _ _).mono ?_
    rintro e w' ⟨rfl, hb⟩
    have hB2 := (Blk.new _ _ _).bel hb
    rw [World.size_alloc] at hB2
    obtain ⟨c0, c1, c2, c3, c4, cf⟩ := hB2.cells5
    have hBW := bstep (B := w.heap.size) (a := w) (by go_grown) hb (by simp; omega)
    have hz : w.heap.size + 1 < w'.heap.size := by have := hb.size; simp at this; omega
    clear hb hB2
    have HBW := Lib.hid hBW
    clear hBW
    go_wp2
    refine bodyPost_ret (v := .tuple #[.agg #[.int .i64 0, .int .i64 0, .int .i64 0, .int .i64 0, .int .i64 0], .bool false]) (by simp [results, Tryd.results50, go_sem, c0, c1, c2, c3, c4, hz]) rfl ⟨rfl, ?_⟩
    have := HBW.out
    go_grown
  · obtain ⟨⟨a1, a2⟩, ⟨a3, a4⟩, ⟨a5, a6⟩, ⟨a7, a8⟩, a9, a10⟩ := Lv.right_bd hr
    simp only at a1 a2 a3 a4 a5 a6 a7 a8 a9 a10
    have hn : n < 0 ∨ 100 - b < n := by
      rw [hr] at h
      simp only [true_and] at h
      omega
    clear h a1 a2 a3 a4 a5 a6 a7 a8
    rcases hn with hn | hn
    · go_enter Tryd.func50, Tryd.ntmps50
      go_wp2_with fail
      refine (right_any _ _ _ _ _ _).mono ?_
      rintro e w' ⟨rfl, hb⟩
      have hB2 := (Blk.new _ _ _).bel hb
      rw [World.size_alloc] at hB2
      obtain ⟨c0, c1, c2, c3, c4, cf⟩ := hB2.cells5
      have hBW := bstep (B := w.heap.size) (a := w) (by go_grown) hb (by simp; omega)
      have hz : w.heap.size + 1 < w'.heap.size := by have := hb.size; simp at this; omega
      clear hb hB2
      have HBW := Lib.hid hBW
      clear hBW
      go_wp2
      refine bodyPost_ret (v := .tuple #[.agg #[.int .i64 0, .int .i64 0, .int .i64 0, .int .i64 0, .int .i64 0], .bool false]) (by simp [results, Tryd.results50, go_sem, c0, c1, c2, c3, c4, hz]) rfl ⟨rfl, ?_⟩
      have := HBW.out
      go_grown
    · have hn0 : ¬ n < 0 := by omega
      go_enter Tryd.func50, Tryd.ntmps50
      go_wp2_with fail
      refine (right_any _ _ _ _ _ _).mono ?_
      rintro e w' ⟨rfl, hb⟩
      have hB1 := ((Blk.new _ _ _).alloc _).bel hb
      have hB2 := (Blk.new _ _ _).bel hb
      rw [World.size_alloc] at hB2
      obtain ⟨c0, c1, c2, c3, c4, cf⟩ := hB2.cells5
      have d0 := hB1.cell 0
      have hBW := bstep (B := w.heap.size) (a := w) (by go_grown) hb (by simp; omega)
      have hz : w.heap.size + 1 < w'.heap.size := by have := hb.size; simp at this; omega
      clear hb hB2 hB1
      have HBW := Lib.hid hBW
      clear hBW
      go_wp2
      refine bodyPost_ret (v := .tuple #[.agg #[.int .i64 0, .int .i64 0, .int .i64 0, .int .i64 0, .int .i64 0], .bool false]) (by simp [results, Tryd.results50, go_sem, c0, c1, c2, c3, c4, hz]) rfl ⟨rfl, ?_⟩
      have := HBW.out
      go_grown

set_option maxHeartbeats 2000000 in
theorem up_yes (b p0 p1 p2 p3 n : Int) (w : World) (hr : Lv.right ⟨b, p0, p1, p2, p3⟩ = true) (hn0 : 0 ≤ n) (hn1 : n ≤ 100 - b) :
    Calls Tryd.prog 50 #[.agg #[.int .i64 b, .int .i64 p0, .int .i64 p1, .int .i64 p2, .int .i64 p3], .int .i64 n] w fun e w' =>
      e = .returned (.tuple #[.agg #[.int .i64 (b + n), .int .i64 (Lv.up1 p0 n), .int .i64 (Lv.up1 p1 n), .int .i64 (Lv.up1 p2 n), .int .i64 (Lv.up1 p3 n)], .bool true]) ∧ Below w.heap.size w w' := by
  obtain ⟨⟨a1, a2⟩, ⟨a3, a4⟩, ⟨a5, a6⟩, ⟨a7, a8⟩, a9, a10⟩ := Lv.right_bd hr
  simp only at a1 a2 a3 a4 a5 a6 a7 a8 a9 a10
  go_enter Tryd.func50, Tryd.ntmps50
  go_wp2_with fail
  refine (right_any _ _ _ _ _ _).mono ?_
  rintro e w1 ⟨rfl, hb⟩
  have hB1 := ((Blk.new _ _ _).alloc _).bel hb
  have hB2 := (Blk.new _ _ _).bel hb
  rw [World.size_alloc] at hB2
  obtain ⟨d0, d1, d2, d3, d4, df⟩ := hB1.cells5
  have hBW := bstep (B := w.heap.size) (a := w) (by go_grown) hb (by simp; omega)
  have hz : w.heap.size + 1 < w1.heap.size := by have := hb.size; simp at this; omega
  clear hb
  have HBW := Lib.hid hBW
  have HB1 := Lib.hid hB1
  have HB2 := Lib.hid hB2
  clear hBW hB1 hB2
  go_wp2
  go_loopw [6, 27] (fun _ i wr => ∃ k : Nat, k ≤ 4 ∧ i = .int .i64 k ∧ Blk wr w.heap.size 24 #[.int .i64 (b + n), .int .i64 (if 0 < k then Lv.up1 p0 n else p0), .int .i64 (if 1 < k then Lv.up1 p1 n else p1), .int .i64 (if 2 < k then Lv.up1 p2 n else p2), .int .i64 (if 3 < k then Lv.up1 p3 n else p3)] ∧
         Blk wr (w.heap.size + 1) 24 #[.int .i64 0, .int .i64 0, .int .i64 0, .int .i64 0, .int .i64 0] ∧ Below w.heap.size w wr) (fun _ i _ => 4 - (intOf i).toNat)
  case atStart =>
    refine ⟨0, by omega, rfl, HB1.out.set_ 0 _, HB2.out.far (by simp) _, ?_⟩
    have := HBW.out
    go_grown
  case round =>
    clear d0 d1 d2 d3 d4 df
    obtain ⟨k, hk, rfl, hB1, hB2, hbw⟩ := hrel
    obtain ⟨d0, d1, d2, d3, d4, df⟩ := hB1.cells5
    have hz2 : w.heap.size + 1 < wr.heap.size := hB2.lt
    have HBr := Lib.hid hbw
    have HB1r := Lib.hid hB1
    have HB2r := Lib.hid hB2
    clear hbw hB1 hB2 hr
    match k, hk with
    | 0, _ =>
      simp only [Nat.lt_irrefl, if_false, if_true, Nat.not_lt_zero, show (0 < 4) = True by simp, show (0 < 1) = True by simp, show (0 < 2) = True by simp, show (0 < 3) = True by simp, show (1 < 2) = True by simp, show (1 < 3) = True by simp, show (2 < 3) = True by simp, show (2 < 1) = False by simp, show (3 < 1) = False by simp, show (3 < 2) = False by simp] at d0 d1 d2 d3 d4
      by_cases hp : p0 = -1
      · go_wp2
        refine ⟨⟨1, by omega, rfl, ?_, HB2r.out, HBr.out⟩, by simp [intOf]⟩
        simpa [up1_yes hp] using HB1r.out
      · go_wp2
        refine ⟨⟨1, by omega, rfl, ?_, HB2r.out.far (by simp) _, ?_⟩, by simp [intOf]⟩
        · simpa [up1_no hp] using HB1r.out.set_ 1 (.int .i64 (p0 + n))
        · have := HBr.out
          go_grown
    | 1, _ =>
      simp only [Nat.lt_irrefl, if_false, if_true, Nat.not_lt_zero, show (1 < 4) = True by simp, show (0 < 1) = True by simp, show (0 < 2) = True by simp, show (0 < 3) = True by simp, show (1 < 2) = True by simp, show (1 < 3) = True by simp, show (2 < 3) = True by simp, show (2 < 1) = False by simp, show (3 < 1) = False by simp, show (3 < 2) = False by simp] at d0 d1 d2 d3 d4
      by_cases hp : p1 = -1
      · go_wp2
        refine ⟨⟨2, by omega, rfl, ?_, HB2r.out, HBr.out⟩, by simp [intOf]⟩
        simpa [up1_yes hp] using HB1r.out
      · go_wp2
        refine ⟨⟨2, by omega, rfl, ?_, HB2r.out.far (by simp) _, ?_⟩, by simp [intOf]⟩
        · simpa [up1_no hp] using HB1r.out.set_ 2 (.int .i64 (p1 + n))
        · have := HBr.out
          go_grown
    | 2, _ =>
      simp only [Nat.lt_irrefl, if_false, if_true, Nat.not_lt_zero, show (2 < 4) = True by simp, show (0 < 1) = True by simp, show (0 < 2) = True by simp, show (0 < 3) = True by simp, show (1 < 2) = True by simp, show (1 < 3) = True by simp, show (2 < 3) = True by simp, show (2 < 1) = False by simp, show (3 < 1) = False by simp, show (3 < 2) = False by simp] at d0 d1 d2 d3 d4
      by_cases hp : p2 = -1
      · go_wp2
        refine ⟨⟨3, by omega, rfl, ?_, HB2r.out, HBr.out⟩, by simp [intOf]⟩
        simpa [up1_yes hp] using HB1r.out
      · go_wp2
        refine ⟨⟨3, by omega, rfl, ?_, HB2r.out.far (by simp) _, ?_⟩, by simp [intOf]⟩
        · simpa [up1_no hp] using HB1r.out.set_ 3 (.int .i64 (p2 + n))
        · have := HBr.out
          go_grown
    | 3, _ =>
      simp only [Nat.lt_irrefl, if_false, if_true, Nat.not_lt_zero, show (3 < 4) = True by simp, show (0 < 1) = True by simp, show (0 < 2) = True by simp, show (0 < 3) = True by simp, show (1 < 2) = True by simp, show (1 < 3) = True by simp, show (2 < 3) = True by simp, show (2 < 1) = False by simp, show (3 < 1) = False by simp, show (3 < 2) = False by simp] at d0 d1 d2 d3 d4
      by_cases hp : p3 = -1
      · go_wp2
        refine ⟨⟨4, by omega, rfl, ?_, HB2r.out, HBr.out⟩, by simp [intOf]⟩
        simpa [up1_yes hp] using HB1r.out
      · go_wp2
        refine ⟨⟨4, by omega, rfl, ?_, HB2r.out.far (by simp) _, ?_⟩, by simp [intOf]⟩
        · simpa [up1_no hp] using HB1r.out.set_ 4 (.int .i64 (p3 + n))
        · have := HBr.out
          go_grown
    | 4, _ =>
      simp only [if_true, show (0 < 4) = True by simp, show (1 < 4) = True by simp, show (2 < 4) = True by simp, show (3 < 4) = True by simp] at d0 d1 d2 d3 d4
      obtain ⟨f0, f1, f2, f3, f4, ff⟩ := HB2r.out.cells5
      go_wp2
      refine bodyPost_ret (v := .tuple #[.agg #[.int .i64 (b + n), .int .i64 (Lv.up1 p0 n), .int .i64 (Lv.up1 p1 n), .int .i64 (Lv.up1 p2 n), .int .i64 (Lv.up1 p3 n)], .bool true]) (by simp [results, Tryd.results50, go_sem, f0, f1, f2, f3, f4, hz2]) rfl ⟨rfl, ?_⟩
      have := HBr.out
      go_grown
    | k + 5, h => omega

theorem up_any (b p0 p1 p2 p3 n : Int) (w : World) :
    Calls Tryd.prog 50 #[.agg #[.int .i64 b, .int .i64 p0, .int .i64 p1, .int .i64 p2, .int .i64 p3], .int .i64 n] w fun e w' =>
      e = .returned (.tuple #[(Lv.up ⟨b, p0, p1, p2, p3⟩ n).1.val, .bool (Lv.up ⟨b, p0, p1, p2, p3⟩ n).2]) ∧ Below w.heap.size w w' := by
  by_cases h : Lv.right ⟨b, p0, p1, p2, p3⟩ = true ∧ 0 ≤ n ∧ n ≤ 100 - b
  · have e : Lv.up ⟨b, p0, p1, p2, p3⟩ n = (⟨b + n, Lv.up1 p0 n, Lv.up1 p1 n, Lv.up1 p2 n, Lv.up1 p3 n⟩, true) := by unfold Lv.up; rw [if_pos h]
    rw [e]
    exact up_yes b p0 p1 p2 p3 n w h.1 h.2.1 h.2.2
  · have e : Lv.up ⟨b, p0, p1, p2, p3⟩ n = (⟨0, 0, 0, 0, 0⟩, false) := by unfold Lv.up; rw [if_neg h]
    rw [e]
    exact up_no b p0 p1 p2 p3 n w h
end Go.Proofs.YtmkpiekbpakigaaDoor
