/- Contracts of the functions of layer 7: Max. -/
import Derived.Test.YtmkpiekbpakigaaDoorLv
import Derived.Test.YtmkpiekbpakigaaDoorMono
namespace Go.Proofs.YtmkpiekbpakigaaDoor
open Go.RowKit Go.Proofs.Base Go.Proofs.Mono

def mxi (x y : Int) : Int := if y > x then y else x
def Lv.max2 (a l : Lv) : Lv := ⟨mxi a.b l.b, mxi a.p0 l.p0, mxi a.p1 l.p1, mxi a.p2 l.p2, mxi a.p3 l.p3⟩
def Lv.num (n : Int) : Lv := ⟨n, -1, -1, -1, -1⟩
def Lv.maxl (ls : List Lv) : Lv := if ls.all Lv.right then ls.foldl Lv.max2 (Lv.num 0) else Lv.num (-1)

theorem Lv.maxl_not {ls : List Lv} {k : Nat} {l : Lv} (h : ls[k]? = some l) (hr : l.right = false) : Lv.maxl ls = Lv.num (-1) := by
  unfold Lv.maxl
  rw [if_neg]
  intro ha
  have := List.all_eq_true.1 ha l (List.mem_of_getElem? h)
  rw [hr] at this
  cases this
theorem Lv.maxl_yes {ls : List Lv} {k : Nat} (hk : k = ls.length) (h : (ls.take k).all Lv.right = true) : Lv.maxl ls = (ls.take k).foldl Lv.max2 (Lv.num 0) := by
  subst hk
  rw [List.take_length] at *
  unfold Lv.maxl
  rw [if_pos h]
theorem take_snoc' {α : Type} {ls : List α} {k : Nat} {l : α} (h : ls[k]? = some l) : ls.take (k + 1) = ls.take k ++ [l] := by
  rw [List.take_add_one, h]
  rfl

def LvAt (w : World) (b off : Nat) (l : Lv) : Prop := w.cell? ⟨b, off, none⟩ = some (.int .i64 l.b) ∧ w.cell? ⟨b, off + 1, none⟩ = some (.int .i64 l.p0) ∧ w.cell? ⟨b, off + 2, none⟩ = some (.int .i64 l.p1) ∧ w.cell? ⟨b, off + 3, none⟩ = some (.int .i64 l.p2) ∧ w.cell? ⟨b, off + 4, none⟩ = some (.int .i64 l.p3)
def LvRow (w : World) (A : Option Addr) (ls : List Lv) : Prop := ls.length ≤ 9223372036854775807 ∧ (0 < ls.length → ∃ b off, A = some ⟨b, off, none⟩ ∧ ∀ (j : Nat) l, ls[j]? = some l → LvAt w b (off + j * 5) l)

theorem cell_below {w w1 : World} (hb : Below w.heap.size w w1) {a : Addr} {v : Value} (hc : w.cell? a = some v) : w1.cell? a = some v := (hb.cell (World.block_lt_of_cell? w a hc)).trans hc
theorem LvAt.below {w w1 : World} {b off : Nat} {l : Lv} (h : LvAt w b off l) (hb : Below w.heap.size w w1) : LvAt w1 b off l :=
  ⟨cell_below hb h.1, cell_below hb h.2.1, cell_below hb h.2.2.1, cell_below hb h.2.2.2.1, cell_below hb h.2.2.2.2⟩
theorem LvRow.below {w w1 : World} {A : Option Addr} {ls : List Lv} (h : LvRow w A ls) (hb : Below w.heap.size w w1) : LvRow w1 A ls :=
  ⟨h.1, fun hp => let ⟨b, off, e, hc⟩ := h.2 hp; ⟨b, off, e, fun j l hl => (hc j l hl).below hb⟩⟩

set_option maxHeartbeats 2000000 in
theorem max_some (b off c : Nat) (ls : List Lv) (w : World) (hl : ls.length ≤ 9223372036854775807) (h : ∀ (j : Nat) l, ls[j]? = some l → LvAt w b (off + j * 5) l) :
    Calls Tryd.prog 17 #[.slice (some ⟨b, off, none⟩) ls.length c] w fun e w' => e = .returned (Lv.maxl ls).val ∧ Below w.heap.size w w' := by
  have H := Lib.hid h
  clear h
  go_enter Tryd.func17, Tryd.ntmps17
  go_wp2_with fail
  refine (num_any _ _).mono ?_
  rintro e w1 ⟨rfl, hb⟩
  have hB := (Blk.new _ _ _).bel hb
  have hBW := bstep (B := w.heap.size) (a := w) (by go_grown) hb (by simp)
  have hz : w.heap.size + 1 ≤ w1.heap.size := by have := hb.size; simpa using this
  clear hb
  have HBW := Lib.hid hBW
  clear hBW
  have hB2 : Blk w1 w.heap.size 24 #[.int .i64 0, .int .i64 0, .int .i64 0, .int .i64 0, .int .i64 0] := hB
  have HB2 := Lib.hid hB2
  clear hB2 hB
  go_wp2
  go_loopw [11] (fun i wr => ∃ k : Nat, k ≤ ls.length ∧ i = .int .i64 k ∧ (∃ a : Lv, a = (ls.take k).foldl Lv.max2 (Lv.num 0) ∧ (ls.take k).all Lv.right = true ∧ Blk wr w1.heap.size 24 #[.int .i64 a.b, .int .i64 a.p0, .int .i64 a.p1, .int .i64 a.p2, .int .i64 a.p3]) ∧
      Blk wr w.heap.size 24 #[.int .i64 0, .int .i64 0, .int .i64 0, .int .i64 0, .int .i64 0] ∧ Below w.heap.size w wr) (fun i _ => ls.length - (intOf i).toNat)
  case atStart =>
    refine ⟨0, by omega, rfl, ⟨Lv.num 0, rfl, rfl, Blk.new _ _ _⟩, HB2.out.alloc _, ?_⟩
    have := HBW.out
    go_grown
  case round =>
    obtain ⟨k, hk, rfl, ⟨a, ha, hall, hB3⟩, hB4, hbw⟩ := hrel
    have HBr := Lib.hid hbw
    clear hbw
    have HA := Lib.hid ha
    clear ha
    have HL := Lib.hid hall
    clear hall
    by_cases hlt : k < ls.length
    · obtain ⟨l, hl2⟩ : ∃ l, ls[k]? = some l := ⟨ls[k], List.getElem?_eq_getElem hlt⟩
      obtain ⟨e0, e1, e2, e3, e4⟩ := (H.out k l hl2).below HBr.out
      have HL2 := Lib.hid hl2
      clear hl2
      go_wp2_with fail
      refine (right_any _ _ _ _ _ _).mono ?_
      rintro e w2 ⟨rfl, hb⟩
      have hB5 := (Blk.new _ _ _).bel hb
      have hB6 := (hB3.alloc _).bel hb
      have hB7 := (hB4.alloc _).bel hb
      have hBW := bstep (B := w.heap.size) (HBr.out.alloc (by have := HBr.out.size; omega) _) hb (by have := HBr.out.size; simp; omega)
      have h1 : w1.heap.size < wr.heap.size := hB3.lt
      have h2 : w.heap.size < wr.heap.size := hB4.lt
      clear hb hB3 hB4
      have HBW2 := Lib.hid hBW
      clear hBW
      obtain ⟨c0, c1, c2, c3, c4, cf⟩ := hB6.cells5
      obtain ⟨d0, d1, d2, d3, d4, df⟩ := hB7.cells5
      obtain ⟨f0, f1, f2, f3, f4, ff⟩ := hB5.cells5
      have HB5 := Lib.hid hB5
      have HB6 := Lib.hid hB6
      have HB7 := Lib.hid hB7
      clear hB5 hB6 hB7 e0 e1 e2 e3 e4
      cases hr : Lv.right ⟨l.b, l.p0, l.p1, l.p2, l.p3⟩
      · go_wp2_with fail
        refine (num_any _ _).mono ?_
        rintro e w3 ⟨rfl, hb⟩
        obtain ⟨g0, g1, g2, g3, g4, gf⟩ := (HB7.out.bel hb).cells5
        have HBW3 := Lib.hid (bstep HBW2.out hb (by have := HBW2.out.size; omega))
        clear hb c0 c1 c2 c3 c4 cf d0 d1 d2 d3 d4 df f0 f1 f2 f3 f4 ff
        go_wp2
        refine bodyPost_ret (v := (Lv.num (-1)).val) (by simp [results, Tryd.results17, go_sem, g0, g1, g2, g3, g4]; rfl) rfl ⟨?_, ?_⟩
        · rw [Lv.maxl_not HL2.out hr]
        · have := HBW3.out
          go_grown
      · have i0 := fun w => (ix w l.p0 l.p1 l.p2 l.p3).1
        have i1 := fun w => (ix w l.p0 l.p1 l.p2 l.p3).2.1
        have i2 := fun w => (ix w l.p0 l.p1 l.p2 l.p3).2.2.1
        have i3 := fun w => (ix w l.p0 l.p1 l.p2 l.p3).2.2.2
        have hm : ∀ x y : Int, (if x < y then y else x) = mxi x y := fun _ _ => rfl
        go_wp2
        go_rounds 5
        refine ⟨⟨k + 1, by omega, by go_num, ⟨Lv.max2 a l, ?_, ?_, ?_⟩, ?_, ?_⟩, by simp [intOf]; omega⟩
        · rw [take_snoc' HL2.out, List.foldl_append, ← HA.out]; rfl
        · rw [take_snoc' HL2.out, List.all_append, HL.out]; simp [hr]
        · exact ((((HB6.out.set_ 0 _).set_ 1 _).set_ 2 _).set_ 3 _).set_ 4 _
        · exact (((((HB7.out.far (by simp; omega) _).far (by simp; omega) _).far (by simp; omega) _).far (by simp; omega) _).far (by simp; omega) _)
        · have := HBW2.out
          go_grown
    · have hk2 : k = ls.length := by omega
      have HK := Lib.hid hk2
      clear hk2
      obtain ⟨c0, c1, c2, c3, c4, cf⟩ := hB3.cells5
      obtain ⟨d0, d1, d2, d3, d4, df⟩ := hB4.cells5
      clear hB3 hB4
      go_wp2
      refine bodyPost_ret (v := a.val) (by simp [results, Tryd.results17, go_sem, d0, d1, d2, d3, d4]; rfl) rfl ⟨?_, ?_⟩
      · rw [Lv.maxl_yes HK.out HL.out, HA.out]
      · have := HBr.out
        go_grown

set_option maxHeartbeats 2000000 in
theorem max_zero (A : Option Addr) (c : Nat) (w : World) :
    Calls Tryd.prog 17 #[.slice A 0 c] w fun e w' => e = .returned (Lv.num 0).val ∧ Below w.heap.size w w' := by
  go_enter Tryd.func17, Tryd.ntmps17
  go_wp2_with fail
  refine (num_any _ _).mono ?_
  rintro e w1 ⟨rfl, hb⟩
  have hB := (Blk.new _ _ _).bel hb
  have hBW := bstep (B := w.heap.size) (a := w) (by go_grown) hb (by simp)
  have hz : w.heap.size < w1.heap.size := by have := hb.size; simp at this; omega
  clear hb
  have HBW := Lib.hid hBW
  clear hBW
  have hB2 : Blk w1 w.heap.size 24 #[.int .i64 0, .int .i64 0, .int .i64 0, .int .i64 0, .int .i64 0] := hB
  obtain ⟨d0, d1, d2, d3, d4, df⟩ := hB2.cells5
  clear hB2 hB
  go_wp2
  go_rounds 1
  refine bodyPost_ret (v := .agg #[.int .i64 0, .int .i64 (-1), .int .i64 (-1), .int .i64 (-1), .int .i64 (-1)]) (by simp [results, Tryd.results17, go_sem, d0, d1, d2, d3, d4, hz]) rfl ⟨rfl, ?_⟩
  have := HBW.out
  go_grown

theorem max_any (A : Option Addr) (c : Nat) (ls : List Lv) (w : World) (h : LvRow w A ls) (n : Nat) (hn : n = ls.length) :
    Calls Tryd.prog 17 #[.slice A n c] w fun e w' => e = .returned (Lv.maxl ls).val ∧ Below w.heap.size w w' := by
  subst hn
  rcases Nat.eq_zero_or_pos ls.length with h0 | h0
  · obtain rfl := List.eq_nil_of_length_eq_zero h0
    exact max_zero A c w
  · obtain ⟨b, off, rfl, hc⟩ := h.2 h0
    exact max_some b off c ls w h.1 hc

end Go.Proofs.YtmkpiekbpakigaaDoor
