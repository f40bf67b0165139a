/- Contracts of the functions of layer 7: Value, Param. -/
import Derived.Test.YtmkpiekbpakigaaDoorLv2
set_option linter.unusedVariables false
set_option linter.unusedSimpArgs false
namespace Go.Proofs.YtmkpiekbpakigaaDoor
open Go.RowKit Go.Proofs.Base Go.Proofs.Mono

def mni (x y : Int) : Int := if y < x then y else x
def clampv (v : Int) : Int := mni (mxi v 0) 1048576
theorem clampv_bd (v : Int) : 0 ≤ clampv v ∧ clampv v ≤ 1048576 := by
  unfold clampv mni mxi
  split <;> split <;> omega
def Lv.p (l : Lv) : Nat → Int | 0 => l.p0 | 1 => l.p1 | 2 => l.p2 | _ => l.p3
def Lv.valGo (l : Lv) (vals : List Int) : Nat → Int
  | 0 => l.b
  | k + 1 => if l.p k = -1 then Lv.valGo l vals k else mxi (Lv.valGo l vals k) (clampv (vals.getD k 0) + l.p k)
theorem valGo_pos (l : Lv) (vals : List Int) (k : Nat) (h : l.p k = -1) : l.valGo vals (k + 1) = l.valGo vals k := by
  rw [Lv.valGo, if_pos h]
theorem valGo_neg (l : Lv) (vals : List Int) (k : Nat) (h : ¬ l.p k = -1) : l.valGo vals (k + 1) = mxi (l.valGo vals k) (clampv (vals.getD k 0) + l.p k) := by
  rw [Lv.valGo, if_neg h]
def Lv.value (l : Lv) (vals : List Int) : Int := if l.right = true then l.valGo vals (min vals.length 4) else 0

def IntRow (w : World) (A : Option Addr) (xs : List Int) : Prop := xs.length ≤ 9223372036854775807 ∧ (0 < xs.length → ∃ b off, A = some ⟨b, off, none⟩ ∧ ∀ (j : Nat) x, xs[j]? = some x → w.cell? ⟨b, off + j, none⟩ = some (.int .i64 x))
theorem IntRow.below {w w1 : World} {A : Option Addr} {xs : List Int} (h : IntRow w A xs) (hb : Below w.heap.size w w1) : IntRow w1 A xs :=
  ⟨h.1, fun hp => let ⟨b, off, e, hc⟩ := h.2 hp; ⟨b, off, e, fun j l hl => cell_below hb (hc j l hl)⟩⟩

set_option maxHeartbeats 2000000 in
theorem value_no (b p0 p1 p2 p3 : Int) (s : Value) (w : World) (hr : Lv.right ⟨b, p0, p1, p2, p3⟩ = false) :
    Calls Tryd.prog 15 #[.agg #[.int .i64 b, .int .i64 p0, .int .i64 p1, .int .i64 p2, .int .i64 p3], s] w fun e w' => e = .returned (.int .i64 0) ∧ Below w.heap.size w w' := by
  go_enter Tryd.func15, Tryd.ntmps15
  go_wp2_with fail
  refine (right_any _ _ _ _ _ _).mono ?_
  rintro e w1 ⟨rfl, hb⟩
  have HB := Lib.hid hb
  clear hb
  go_wp2
  go_ret
  exact ⟨rfl, bstep (by go_grown) HB.out (by simp)⟩

set_option maxHeartbeats 2000000 in
theorem value_yes (b p0 p1 p2 p3 : Int) (A : Option Addr) (xs : List Int) (c : Nat) (w : World) (hr : Lv.right ⟨b, p0, p1, p2, p3⟩ = true) (hx : IntRow w A xs) (hc : xs.length ≤ c) (hc2 : c ≤ 9223372036854775807) :
    Calls Tryd.prog 15 #[.agg #[.int .i64 b, .int .i64 p0, .int .i64 p1, .int .i64 p2, .int .i64 p3], .slice A xs.length c] w fun e w' => e = .returned (.int .i64 (Lv.valGo ⟨b, p0, p1, p2, p3⟩ xs (min xs.length 4))) ∧ Below w.heap.size w w' := by
  obtain ⟨⟨a1, a2⟩, ⟨a3, a4⟩, ⟨a5, a6⟩, ⟨a7, a8⟩, a9, a10⟩ := Lv.right_bd hr
  simp only at a1 a2 a3 a4 a5 a6 a7 a8 a9 a10
  have HX := Lib.hid hx
  obtain ⟨m, hm1, hm2, hm3⟩ : ∃ m : Nat, m ≤ xs.length ∧ m ≤ 4 ∧ m = min xs.length 4 := ⟨_, by omega, by omega, rfl⟩
  have hmin : (if 4 < (xs.length : Int) then (4 : Int) else (xs.length : Int)) = (m : Int) := by split <;> omega
  have HM := Lib.hid hm3
  clear hx hm3
  go_enter Tryd.func15, Tryd.ntmps15
  go_wp2_with fail
  refine (right_any _ _ _ _ _ _).mono ?_
  rintro e w1 ⟨rfl, hb⟩
  obtain ⟨d0, d1, d2, d3, d4, df⟩ := ((Blk.new _ _ _).bel hb).cells5
  have HBW := Lib.hid (bstep (B := w.heap.size) (a := w) (by go_grown) hb (by simp))
  clear hb
  go_wp2
  go_loop [5, 19] (fun acc i => ∃ k : Nat, k ≤ m ∧ i = .int .i64 k ∧ acc = .int .i64 (Lv.valGo ⟨b, p0, p1, p2, p3⟩ xs k)) (fun _ i => m - (intOf i).toNat)
  case atStart => exact ⟨0, by omega, rfl, rfl⟩
  case round =>
    obtain ⟨k, hk, rfl, rfl⟩ := hrel
    by_cases hlt : k < m
    · obtain ⟨bb, off, rfl, hcell⟩ := HX.out.2 (by omega)
      obtain ⟨v, hv⟩ : ∃ v, xs[k]? = some v := ⟨xs[k]'(by omega), List.getElem?_eq_getElem (by omega)⟩
      have hc0 := cell_below (show Below w.heap.size w w1 from HBW.out) (hcell k v hv)
      have hmx : ∀ x y : Int, (if x < y then y else x) = mxi x y := fun _ _ => rfl
      have hmn : ∀ x y : Int, (if y < x then y else x) = mni x y := fun _ _ => rfl
      have hcl : mni (mxi v 0) 1048576 = clampv v := rfl
      obtain ⟨q1, q2⟩ := clampv_bd v
      have hgd : xs.getD k 0 = v := by rw [List.getD_eq_getElem?_getD, hv]; rfl
      have HGD := Lib.hid hgd
      clear hcell hv hgd
      generalize hacc : Lv.valGo ⟨b, p0, p1, p2, p3⟩ xs k = acc
      have HACC := Lib.hid hacc
      clear hacc
      have hc1 : k = 0 → w1.cell? ⟨bb, off, none⟩ = some (.int .i64 v) := by rintro rfl; exact hc0
      match k, hk, hlt with
      | 0, _, hlt =>
        have hc2 := hc1 rfl
        clear hc1
        by_cases hp : p0 = -1
        · go_wp2
          go_round
          case rel => exact ⟨1, by omega, rfl, by rw [valGo_pos ⟨b, p0, p1, p2, p3⟩ xs 0 hp, HACC.out]⟩
          case measure => simp [intOf]; omega
        · go_wp2
          go_round
          case rel => exact ⟨1, by omega, rfl, by rw [valGo_neg ⟨b, p0, p1, p2, p3⟩ xs 0 hp, HACC.out, HGD.out]; rfl⟩
          case measure => simp [intOf]; omega
      | 1, _, hlt =>
        skip
        clear hc1
        by_cases hp : p1 = -1
        · go_wp2
          go_round
          case rel => exact ⟨2, by omega, rfl, by rw [valGo_pos ⟨b, p0, p1, p2, p3⟩ xs 1 hp, HACC.out]⟩
          case measure => simp [intOf]; omega
        · go_wp2
          go_round
          case rel => exact ⟨2, by omega, rfl, by rw [valGo_neg ⟨b, p0, p1, p2, p3⟩ xs 1 hp, HACC.out, HGD.out]; rfl⟩
          case measure => simp [intOf]; omega
      | 2, _, hlt =>
        skip
        clear hc1
        by_cases hp : p2 = -1
        · go_wp2
          go_round
          case rel => exact ⟨3, by omega, rfl, by rw [valGo_pos ⟨b, p0, p1, p2, p3⟩ xs 2 hp, HACC.out]⟩
          case measure => simp [intOf]; omega
        · go_wp2
          go_round
          case rel => exact ⟨3, by omega, rfl, by rw [valGo_neg ⟨b, p0, p1, p2, p3⟩ xs 2 hp, HACC.out, HGD.out]; rfl⟩
          case measure => simp [intOf]; omega
      | 3, _, hlt =>
        skip
        clear hc1
        by_cases hp : p3 = -1
        · go_wp2
          go_round
          case rel => exact ⟨4, by omega, rfl, by rw [valGo_pos ⟨b, p0, p1, p2, p3⟩ xs 3 hp, HACC.out]⟩
          case measure => simp [intOf]; omega
        · go_wp2
          go_round
          case rel => exact ⟨4, by omega, rfl, by rw [valGo_neg ⟨b, p0, p1, p2, p3⟩ xs 3 hp, HACC.out, HGD.out]; rfl⟩
          case measure => simp [intOf]; omega
      | k + 4, _, hlt => omega
    · obtain rfl : k = m := by omega
      go_wp2
      go_ret
      exact ⟨congrArg (fun j => Ending.returned (.int .i64 (Lv.valGo ⟨b, p0, p1, p2, p3⟩ xs j))) HM.out, HBW.out⟩

theorem value_any (l : Lv) (A : Option Addr) (xs : List Int) (n c : Nat) (w : World) (hx : IntRow w A xs) (hn : n = xs.length) (hc : n ≤ c) (hc2 : c ≤ 9223372036854775807) :
    Calls Tryd.prog 15 #[.agg #[.int .i64 l.b, .int .i64 l.p0, .int .i64 l.p1, .int .i64 l.p2, .int .i64 l.p3], .slice A n c] w fun e w' => e = .returned (.int .i64 (l.value xs)) ∧ Below w.heap.size w w' := by
  subst hn
  unfold Lv.value
  cases hr : l.right
  · exact value_no l.b l.p0 l.p1 l.p2 l.p3 _ w hr
  · exact value_yes l.b l.p0 l.p1 l.p2 l.p3 A xs c w hr hx hc hc2

set_option maxHeartbeats 2000000 in
theorem param_00 (w : World) :
    Calls Tryd.prog 49 #[.int .i64 0, .int .i64 0] w fun e w' => e = .returned (.agg #[.int .i64 0, .int .i64 0, .int .i64 (-1), .int .i64 (-1), .int .i64 (-1)]) ∧ Below w.heap.size w w' := by
  go_enter Tryd.func49, Tryd.ntmps49
  go_wp2_with fail
  refine (num_any _ _).mono ?_
  rintro e w1 ⟨rfl, hb⟩
  have hB := (Blk.new _ _ _).bel hb
  have hB2 : Blk w1 w.heap.size 24 #[.int .i64 0, .int .i64 0, .int .i64 0, .int .i64 0, .int .i64 0] := hB
  obtain ⟨d0, d1, d2, d3, d4, df⟩ := hB2.cells5
  have hz : w.heap.size < w1.heap.size := hB2.lt
  have HBW := Lib.hid (bstep (B := w.heap.size) (a := w) (by go_grown) hb (by simp))
  clear hb hB hB2
  go_wp2
  refine bodyPost_ret (v := .agg #[.int .i64 0, .int .i64 0, .int .i64 (-1), .int .i64 (-1), .int .i64 (-1)]) (by simp [results, Tryd.results49, go_sem, d0, d1, d2, d3, d4, hz]) rfl ⟨rfl, ?_⟩
  have := HBW.out
  go_grown
end Go.Proofs.YtmkpiekbpakigaaDoor
