/- Contracts of the functions of layer 7: Inst, whole. -/
import Derived.Test.YtmkpiekbpakigaaDoorLv6
set_option linter.unusedVariables false
set_option linter.unusedSimpArgs false
namespace Go.Proofs.YtmkpiekbpakigaaDoor
open Go.RowKit Go.Proofs.Base Go.Proofs.Mono
section
variable (l : Lv) (A : Option Addr) (bs : List Lv) (c : Nat) (w : World)
set_option maxRecDepth 20000 in
set_option maxHeartbeats 4000000 in
theorem inst_no1 (hr : l.right = false) (n : Nat) :
    Calls Tryd.prog 18 #[.agg #[.int .i64 l.b, .int .i64 l.p0, .int .i64 l.p1, .int .i64 l.p2, .int .i64 l.p3], .slice A n c] w fun e w' =>
      e = .returned (.tuple #[.agg #[.int .i64 0, .int .i64 0, .int .i64 0, .int .i64 0, .int .i64 0], .bool false]) ∧ Below w.heap.size w w' := by
  have hr2 : Lv.right ⟨l.b, l.p0, l.p1, l.p2, l.p3⟩ = false := hr
  clear hr
  go_enter Tryd.func18, Tryd.ntmps18
  go_wp2_with fail
  refine (right_any _ _ _ _ _ _).mono ?_
  rintro e w1 ⟨rfl, hb⟩
  have hB2 := (Blk.new _ _ _).bel hb
  rw [World.size_alloc] at hB2
  have hbw := bstep (B := w.heap.size) (a := w) (by go_grown) hb (by simp; omega)
  obtain ⟨d0, d1, d2, d3, d4, df⟩ := hB2.cells5
  have hz : w.heap.size + 1 < w1.heap.size := hB2.lt
  have HBW := Lib.hid hbw
  clear hb hB2 hbw
  go_wp2
  refine bodyPost_ret (v := .tuple #[.agg #[.int .i64 0, .int .i64 0, .int .i64 0, .int .i64 0, .int .i64 0], .bool false]) (by simp [results, Tryd.results18, go_sem, d0, d1, d2, d3, d4, hz]) rfl ⟨rfl, ?_⟩
  have := HBW.out
  go_grown
set_option maxRecDepth 20000 in
set_option maxHeartbeats 4000000 in
theorem inst_no2 (hr : l.right = true) (n : Nat) (hw : (n : Int) < l.width) :
    Calls Tryd.prog 18 #[.agg #[.int .i64 l.b, .int .i64 l.p0, .int .i64 l.p1, .int .i64 l.p2, .int .i64 l.p3], .slice A n c] w fun e w' =>
      e = .returned (.tuple #[.agg #[.int .i64 0, .int .i64 0, .int .i64 0, .int .i64 0, .int .i64 0], .bool false]) ∧ Below w.heap.size w w' := by
  have hr2 : Lv.right ⟨l.b, l.p0, l.p1, l.p2, l.p3⟩ = true := hr
  have HW := Lib.hid hw
  clear hr hw
  go_enter Tryd.func18, Tryd.ntmps18
  go_wp2_with fail
  refine (right_any _ _ _ _ _ _).mono ?_
  rintro e w1 ⟨rfl, hb⟩
  have hB1 := ((Blk.new _ _ _).alloc _).bel hb
  have hB2 := (Blk.new _ _ _).bel hb
  rw [World.size_alloc] at hB2
  have hbw := bstep (B := w.heap.size) (a := w) (by go_grown) hb (by simp; omega)
  clear hb
  obtain ⟨d0, d1, d2, d3, d4, df⟩ := hB1.cells5
  have HB2 := Lib.hid hB2
  have HBW := Lib.hid hbw
  clear hB1 hB2 hbw
  go_wp2_with fail
  refine (width_any _ _ _ _ _ _).mono ?_
  rintro e w2 ⟨rfl, hb⟩
  have hB2 := HB2.out.bel hb
  have hbw := bstep HBW.out hb (by have := HBW.out.size; omega)
  clear hb d0 d1 d2 d3 d4 df HB2 HBW
  obtain ⟨d0, d1, d2, d3, d4, df⟩ := hB2.cells5
  have hz : w.heap.size + 1 < w2.heap.size := hB2.lt
  have HBW := Lib.hid hbw
  clear hB2 hbw
  have hwd : decide ((n : Int) < Lv.width ⟨l.b, l.p0, l.p1, l.p2, l.p3⟩) = true := decide_eq_true HW.out
  go_wp2
  refine bodyPost_ret (v := .tuple #[.agg #[.int .i64 0, .int .i64 0, .int .i64 0, .int .i64 0, .int .i64 0], .bool false]) (by simp [results, Tryd.results18, go_sem, d0, d1, d2, d3, d4, hz]) rfl ⟨rfl, ?_⟩
  have := HBW.out
  go_grown
theorem inst_any (n : Nat) (hn : n = bs.length) (hb : LvRow w A bs) :
    Calls Tryd.prog 18 #[.agg #[.int .i64 l.b, .int .i64 l.p0, .int .i64 l.p1, .int .i64 l.p2, .int .i64 l.p3], .slice A n c] w fun e w' =>
      e = .returned (.tuple #[(l.inst bs).1.val, .bool (l.inst bs).2]) ∧ Below w.heap.size w w' := by
  unfold Lv.inst
  subst hn
  by_cases h : l.right = true ∧ l.width ≤ bs.length
  · rw [if_pos h]
    exact inst_yes l A bs c w h.1 h.2 hb
  · rw [if_neg h]
    cases hr : l.right
    · exact inst_no1 l A c w hr bs.length
    · exact inst_no2 l A c w hr bs.length (by rw [hr] at h; simp only [true_and] at h; omega)
end
end Go.Proofs.YtmkpiekbpakigaaDoor
