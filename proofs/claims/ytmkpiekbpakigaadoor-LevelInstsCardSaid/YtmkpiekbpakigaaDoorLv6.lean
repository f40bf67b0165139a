/- Contracts of the functions of layer 7: Inst. -/
import Derived.Test.YtmkpiekbpakigaaDoorLv5
set_option linter.unusedVariables false
set_option linter.unusedSimpArgs false
namespace Go.Proofs.YtmkpiekbpakigaaDoor
open Go.RowKit Go.Proofs.Base Go.Proofs.Mono

def Lv.instGo (l : Lv) (bs : List Lv) : Nat → Option (List Lv)
  | 0 => some [Lv.num l.b]
  | k + 1 => match Lv.instGo l bs k, bs[k]? with
    | some ps, some b => if b.right = false then none else if 4 ≤ k ∨ l.p k = -1 then some ps else if (Lv.up b (l.p k)).2 = true then some (ps ++ [(Lv.up b (l.p k)).1]) else none
    | _, _ => none
def Lv.instFin (l : Lv) (bs : List Lv) : Lv × Bool := match l.instGo bs bs.length with
    | some ps => (Lv.maxl ps, true)
    | none => (⟨0, 0, 0, 0, 0⟩, false)
theorem instFin_none {l : Lv} {bs : List Lv} (h : l.instGo bs bs.length = none) : l.instFin bs = (⟨0, 0, 0, 0, 0⟩, false) := by
  unfold Lv.instFin
  rw [h]
theorem instFin_some {l : Lv} {bs ps : List Lv} (h : l.instGo bs bs.length = some ps) : l.instFin bs = (Lv.maxl ps, true) := by
  unfold Lv.instFin
  rw [h]
def Lv.inst (l : Lv) (bs : List Lv) : Lv × Bool :=
  if l.right = true ∧ l.width ≤ bs.length then l.instFin bs else (⟨0, 0, 0, 0, 0⟩, false)

section
variable {l b u : Lv} {bs ps : List Lv} {k : Nat}
theorem instGo_bad (hb : bs[k]? = some b) (hr : b.right = false) : l.instGo bs (k + 1) = none := by
  rw [Lv.instGo]
  cases h : l.instGo bs k with
  | none => rfl
  | some ps =>
    rw [hb]
    simp only
    rw [if_pos hr]
theorem instGo_skip (h : l.instGo bs k = some ps) (hb : bs[k]? = some b) (hr : b.right = true) (h4 : 4 ≤ k ∨ l.p k = -1) : l.instGo bs (k + 1) = some ps := by
  rw [Lv.instGo, h, hb]
  simp only
  rw [if_neg (by rw [hr]; decide), if_pos h4]
theorem instGo_add (h : l.instGo bs k = some ps) (hb : bs[k]? = some b) (hr : b.right = true) (hk : k < 4) (hp : ¬ l.p k = -1) (hu : Lv.up b (l.p k) = (u, true)) : l.instGo bs (k + 1) = some (ps ++ [u]) := by
  rw [Lv.instGo, h, hb]
  simp only
  rw [if_neg (by rw [hr]; decide), if_neg (by rintro (h | h); omega; exact hp h), hu]
  rfl
theorem instGo_stop (hb : bs[k]? = some b) (hr : b.right = true) (hk : k < 4) (hp : ¬ l.p k = -1) (hu : Lv.up b (l.p k) = (u, false)) : l.instGo bs (k + 1) = none := by
  rw [Lv.instGo]
  cases h : l.instGo bs k with
  | none => rfl
  | some ps =>
    rw [hb]
    simp only
    rw [if_neg (by rw [hr]; decide), if_neg (by rintro (h | h); omega; exact hp h), hu]
    rfl
end
theorem instGo_none (l : Lv) (bs : List Lv) {k : Nat} (h : l.instGo bs k = none) : ∀ m, k ≤ m → l.instGo bs m = none := by
  intro m
  induction m with
  | zero => intro hk; obtain rfl : k = 0 := by omega
            exact h
  | succ m ih =>
    intro hk
    by_cases hkm : k = m + 1
    · subst hkm; exact h
    · rw [Lv.instGo, ih (by omega)]
theorem instGo_len (l : Lv) (bs : List Lv) : ∀ k ps, l.instGo bs k = some ps → ps.length ≤ min k 4 + 1 := by
  intro k
  induction k with
  | zero => intro ps h; rw [Lv.instGo] at h; cases h; simp
  | succ k ih =>
    intro ps h
    rw [Lv.instGo] at h
    cases h1 : l.instGo bs k with
    | none => rw [h1] at h; simp at h
    | some qs =>
      have := ih qs h1
      rw [h1] at h
      cases h2 : bs[k]? with
      | none => rw [h2] at h; simp at h
      | some b =>
        rw [h2] at h
        simp only at h
        split at h
        · cases h
        · split at h
          · cases h; omega
          · rename_i h4
            split at h
            · cases h
              simp
              omega
            · cases h

def Lv.cells (l : Lv) : List Value := [.int .i64 l.b, .int .i64 l.p0, .int .i64 l.p1, .int .i64 l.p2, .int .i64 l.p3]
def lcells (ls : List Lv) : List Value := ls.flatMap Lv.cells
theorem lcells_len (ls : List Lv) : (lcells ls).length = ls.length * 5 := by
  induction ls with
  | nil => rfl
  | cons l ls ih => simp only [lcells, List.flatMap_cons, List.length_append, List.length_cons] at *; rw [ih]; simp [Lv.cells]; omega
theorem lcells_snoc (ls : List Lv) (l : Lv) : lcells (ls ++ [l]) = lcells ls ++ l.cells := by simp [lcells]
theorem lcells_at : ∀ (ls : List Lv) (j : Nat) (l : Lv), ls[j]? = some l → ∀ i, i < 5 → (lcells ls)[j * 5 + i]? = l.cells[i]?
  | [], j, l, h, _, _ => by simp at h
  | x :: ls, 0, l, h, i, hi => by
    obtain rfl : x = l := by simpa using h
    simp only [lcells, List.flatMap_cons, Nat.zero_mul, Nat.zero_add]
    rw [List.getElem?_append_left (by simpa [Lv.cells] using hi)]
  | x :: ls, j + 1, l, h, i, hi => by
    have h' : ls[j]? = some l := by simpa using h
    have := lcells_at ls j l h' i hi
    simp only [lcells, List.flatMap_cons] at this ⊢
    rw [List.getElem?_append_right (by simp [Lv.cells]; omega)]
    have e : (j + 1) * 5 + i - x.cells.length = j * 5 + i := by simp [Lv.cells]; omega
    rw [e, this]
theorem own_lvrow {w : World} {base : Nat} {v : Value} {ls : List Lv} (h : w.ownsRow base 24 5 v ls.length (lcells ls)) : ∃ A c, v = .slice A ls.length c ∧ LvRow w A ls := by
  rcases h.2 with ⟨rfl, h0⟩ | ⟨g, cap, cur, rfl, hb, hh, h1, h2, h3, h4⟩
  · exact ⟨none, 0, by rw [h0], by rw [h0]; omega, fun hp => by omega⟩
  · refine ⟨_, cap, rfl, by simp only [maxLen] at h2; omega, fun _ => ⟨g, 0, rfl, fun j l hj => ?_⟩⟩
    have hjl : j < ls.length := (List.getElem?_eq_some_iff.1 hj).1
    have key : ∀ i u, i < 5 → l.cells[i]? = some u → w.cell? ⟨g, 0 + j * 5 + i, none⟩ = some u := by
      intro i u hi hu
      have hc := h.cellAt (j * 5 + i) (by omega)
      rw [lcells_at ls j l hj i hi, hu] at hc
      simpa using hc
    exact ⟨key 0 _ (by decide) rfl, key 1 _ (by decide) rfl, key 2 _ (by decide) rfl, key 3 _ (by decide) rfl, key 4 _ (by decide) rfl⟩

theorem info24 : (Tryd.prog.info? 24).map (fun i => (i.zero, i.size, i.bytes)) = some (some (.agg #[.int .i64 0, .int .i64 0, .int .i64 0, .int .i64 0, .int .i64 0]), 5, 40) := by kernel_rfl

/-- What the loop keeps. -/
structure InstSt (w : World) (l : Lv) (bs : List Lv) (k : Nat) (v : Value) (wr : World) : Prop where
  go : ∃ ps, l.instGo bs k = some ps ∧ wr.ownsRow (w.heap.size + 2) 24 5 v ps.length (lcells ps)
  me : Blk wr w.heap.size 24 #[.int .i64 l.b, .int .i64 l.p0, .int .i64 l.p1, .int .i64 l.p2, .int .i64 l.p3]
  res : Blk wr (w.heap.size + 1) 24 #[.int .i64 0, .int .i64 0, .int .i64 0, .int .i64 0, .int .i64 0]
  bel : Below w.heap.size w wr

theorem p_cell {w : World} {g : Nat} {l : Lv} (h : Blk w g 24 #[.int .i64 l.b, .int .i64 l.p0, .int .i64 l.p1, .int .i64 l.p2, .int .i64 l.p3]) (k : Nat) (hk : k < 4) : w.cell? ⟨g, 1 + k, none⟩ = some (.int .i64 (l.p k)) := by
  match k, hk with
  | 0, _ => exact h.cell 1
  | 1, _ => exact h.cell 2
  | 2, _ => exact h.cell 3
  | 3, _ => exact h.cell 4

section
variable (l : Lv) (A : Option Addr) (bs : List Lv) (c : Nat) (w : World)
set_option maxRecDepth 20000 in
set_option maxHeartbeats 4000000 in
theorem inst_yes (hr : l.right = true) (hw : l.width ≤ (bs.length : Int)) (hb : LvRow w A bs) :
    Calls Tryd.prog 18 #[.agg #[.int .i64 l.b, .int .i64 l.p0, .int .i64 l.p1, .int .i64 l.p2, .int .i64 l.p3], .slice A bs.length c] w fun e w' =>
      e = .returned (.tuple #[(l.instFin bs).1.val, .bool (l.instFin bs).2]) ∧ Below w.heap.size w w' := by
  have hr2 : Lv.right ⟨l.b, l.p0, l.p1, l.p2, l.p3⟩ = true := hr
  have hlen := hb.1
  have HB := Lib.hid hb
  have HR := Lib.hid hr
  have HW := Lib.hid hw
  clear hb hr hw
  go_enter Tryd.func18, Tryd.ntmps18
  go_wp2_with fail
  refine (right_any _ _ _ _ _ _).mono ?_
  rintro e w1 ⟨rfl, hb⟩
  have hB1 := ((Blk.new _ _ _).alloc _).bel hb
  have hB2 := (Blk.new _ _ _).bel hb
  rw [World.size_alloc] at hB2
  have hbw := bstep (B := w.heap.size) (a := w) (by go_grown) hb (by simp; omega)
  clear hb
  obtain ⟨d0, d1, d2, d3, d4, df⟩ := hB1.cells5
  have HB1 := Lib.hid hB1
  have HB2 := Lib.hid hB2
  have HBW := Lib.hid hbw
  clear hB1 hB2 hbw
  go_wp2_with fail
  refine (width_any _ _ _ _ _ _).mono ?_
  rintro e w2 ⟨rfl, hb⟩
  have hB1 := HB1.out.bel hb
  have hB2 := HB2.out.bel hb
  have hbw := bstep HBW.out hb (by have := HBW.out.size; omega)
  clear hb d0 d1 d2 d3 d4 df HB1 HB2 HBW
  obtain ⟨d0, d1, d2, d3, d4, df⟩ := hB1.cells5
  have HB1 := Lib.hid hB1
  have HB2 := Lib.hid hB2
  have HBW := Lib.hid hbw
  clear hB1 hB2 hbw
  have hwd : decide ((bs.length : Int) < Lv.width ⟨l.b, l.p0, l.p1, l.p2, l.p3⟩) = false := decide_eq_false (by have := HW.out; exact Int.not_lt.2 this)
  go_wp2_with fail
  refine (num_any _ _).mono ?_
  rintro e w3 ⟨rfl, hb⟩
  have hB1 := HB1.out.bel hb
  have hB2 := HB2.out.bel hb
  have hbw := bstep HBW.out hb (by have := HBW.out.size; omega)
  clear hb d0 d1 d2 d3 d4 df HB1 HB2 HBW hwd
  have HB1 := Lib.hid hB1
  have HB2 := Lib.hid hB2
  have HBW := Lib.hid hbw
  clear hB1 hB2 hbw
  go_wp2
  have h0w : w.heap.size + 1 < w3.heap.size := HB2.out.lt
  go_loopw [6, 28] (fun v i wr => ∃ k : Nat, k ≤ bs.length ∧ i = .int .i64 k ∧ InstSt w l bs k v wr) (fun _ i _ => bs.length - (intOf i).toNat)
  case atStart =>
    refine ⟨0, by omega, rfl, ⟨⟨[Lv.num l.b], rfl, ?_⟩, HB1.out.alloc _, HB2.out.alloc _, ?_⟩⟩
    · exact World.ownsRow_lit (base := w.heap.size + 2) (e := 24) (size := 5) w3 #[.int .i64 l.b, .int .i64 (-1), .int .i64 (-1), .int .i64 (-1), .int .i64 (-1)] 1 (by omega) (by simp [maxLen]) rfl
    · have := HBW.out
      go_grown
  case round =>
    clear h0w HB1 HB2 HBW
    obtain ⟨k, hk, rfl, hst⟩ := hrel
    obtain ⟨d0, d1, d2, d3, d4, df⟩ := hst.me.cells5
    obtain ⟨f0, f1, f2, f3, f4, ff⟩ := hst.res.cells5
    have hz : w.heap.size + 1 < wr.heap.size := hst.res.lt
    by_cases hlt : k < bs.length
    · obtain ⟨b, hb2⟩ : ∃ b, bs[k]? = some b := ⟨bs[k], List.getElem?_eq_getElem hlt⟩
      obtain ⟨bb, off, rfl, hcell⟩ := HB.out.2 (by omega)
      obtain ⟨e0, e1, e2, e3, e4⟩ := (hcell k b hb2).below hst.bel
      have HK := Lib.hid hb2
      have HST := Lib.hid hst
      clear hb2 hst hcell
      go_wp2_with fail
      refine (right_any _ _ _ _ _ _).mono ?_
      rintro e w4 ⟨rfl, hb⟩
      have hB5 := (Blk.new _ _ _).bel hb
      have hB6 := (HST.out.me.alloc _).bel hb
      have hB7 := (HST.out.res.alloc _).bel hb
      have hbw := bstep (HST.out.bel.alloc (by omega) _) hb (by simp; omega)
      have hown : ∀ ps v, wr.ownsRow (w.heap.size + 2) 24 5 v ps (lcells []) → True := fun _ _ _ => trivial
      have hgr := Lib.hid hb
      clear e0 e1 e2 e3 e4 d0 d1 d2 d3 d4 df f0 f1 f2 f3 f4 ff hb hown
      obtain ⟨d0, d1, d2, d3, d4, df⟩ := hB6.cells5
      obtain ⟨f0, f1, f2, f3, f4, ff⟩ := hB7.cells5
      obtain ⟨g0, g1, g2, g3, g4, gf⟩ := hB5.cells5
      have hz2 : wr.heap.size < w4.heap.size := hB5.lt
      have hz3 : w.heap.size < w4.heap.size := by omega
      have hz4 : w.heap.size + 1 < w4.heap.size := by omega
      have HB5 := Lib.hid hB5
      have HB6 := Lib.hid hB6
      have HB7 := Lib.hid hB7
      have HBW := Lib.hid hbw
      clear hB5 hB6 hB7 hbw
      cases hrb : Lv.right ⟨b.b, b.p0, b.p1, b.p2, b.p3⟩
      · have hno : l.instGo bs (k + 1) = none := instGo_bad HK.out hrb
        have HNO := Lib.hid (instGo_none l bs hno bs.length (by omega))
        clear hno
        go_wp2
        refine bodyPost_ret (v := .tuple #[.agg #[.int .i64 0, .int .i64 0, .int .i64 0, .int .i64 0, .int .i64 0], .bool false]) (by simp [results, Tryd.results18, go_sem, f0, f1, f2, f3, f4, hz]) rfl ⟨by rw [instFin_none HNO.out]; rfl, ?_⟩
        have := HBW.out
        go_grown
      · have hcol : k < 4 → w4.cell? ⟨w.heap.size, 1 + k, none⟩ = some (.int .i64 (l.p k)) := fun h => p_cell HB6.out k h
        by_cases hk4 : k < 4
        · have hpk := hcol hk4
          clear hcol
          by_cases hp : l.p k = -1
          · have HP := Lib.hid hp
            go_wp2
            refine ⟨⟨k + 1, by omega, by go_num, ⟨?_, HB6.out, HB7.out, HBW.out⟩⟩, by simp [intOf]; omega⟩
            obtain ⟨ps, hps, hown⟩ := HST.out.go
            exact ⟨ps, instGo_skip hps HK.out hrb (.inr HP.out), own_bel (hown.alloc _) hgr.out⟩
          · have hp2 : (l.p k == -1) = false := by simpa using hp
            obtain ⟨u, ok, hu⟩ : ∃ u ok, Lv.up ⟨b.b, b.p0, b.p1, b.p2, b.p3⟩ (l.p k) = (u, ok) := ⟨_, _, rfl⟩
            have HU := Lib.hid hu
            have HP := Lib.hid hp
            clear hu hp
            go_wp2_with fail
            refine wp_region_lateAt 10 [8] (by kernel_rfl) (by kernel_rfl) (by kernel_rfl) (by decide) ?_
            simp only [List.take_succ_cons, List.take_zero, List.drop_succ_cons, List.drop_zero]
            with_reducible apply wpN_det
            · intro vals w1 hl hd
              obtain ⟨hc, hf⟩ := hl.cells
              unfold yieldsM
              go_simp
              with_reducible exact uponM_pure
            simp only [Act.put, List.setIfInBounds_toArray, List.set_cons_zero, List.set_cons_succ]
            with_reducible apply wpN_det
            · intro vals w1 hl hd
              obtain ⟨hc, hf⟩ := hl.cells
              unfold yieldsM
              go_simp
              with_reducible exact uponM_pure
            simp only [Act.put, List.setIfInBounds_toArray, List.set_cons_zero, List.set_cons_succ]
            with_reducible apply wpN_det
            · intro vals w1 hl hd
              obtain ⟨hc, hf⟩ := hl.cells
              unfold yieldsM
              go_simp
              with_reducible exact uponM_pure
            simp only [Act.put, List.setIfInBounds_toArray, List.set_cons_zero, List.set_cons_succ]
            with_reducible apply wpN_det
            · intro vals w1 hl hd
              obtain ⟨hc, hf⟩ := hl.cells
              unfold yieldsM
              go_simp
              with_reducible exact uponM_pure
            simp only [Act.put, List.setIfInBounds_toArray, List.set_cons_zero, List.set_cons_succ]
            with_reducible apply wpN_det
            · intro vals w1 hl hd
              obtain ⟨hc, hf⟩ := hl.cells
              unfold yieldsM
              go_simp
              with_reducible exact uponM_pure
            simp only [Act.put, List.setIfInBounds_toArray, List.set_cons_zero, List.set_cons_succ]
            with_reducible apply wpN_det
            · intro vals w1 hl hd
              obtain ⟨hc, hf⟩ := hl.cells
              unfold yieldsM
              go_simp
              with_reducible refine uponM_enter ?_
              refine (up_any _ _ _ _ _ _ _).mono ?_; rintro e w5 ⟨rfl, hb⟩; exact ⟨.tuple #[.agg #[.int .i64 u.b, .int .i64 u.p0, .int .i64 u.p1, .int .i64 u.p2, .int .i64 u.p3], .bool ok], by rw [HU.out]; rfl, hb, rfl⟩
            simp only [Act.put, List.setIfInBounds_toArray, List.set_cons_zero, List.set_cons_succ]
            with_reducible apply wpN_det
            · intro vals w1 hl hd
              obtain ⟨hc, hf⟩ := hl.cells
              unfold yieldsM
              go_simp
              with_reducible exact uponM_pure
            simp only [Act.put, List.setIfInBounds_toArray, List.set_cons_zero, List.set_cons_succ]
            with_reducible apply wpN_det
            · intro vals w1 hl hd
              obtain ⟨hc, hf⟩ := hl.cells
              unfold yieldsM
              go_simp
              with_reducible exact uponM_pure
            simp only [Act.put, List.setIfInBounds_toArray, List.set_cons_zero, List.set_cons_succ]
            with_reducible apply wpN_free
            · intro vals w1 hd
              go_simp
              first | (with_reducible exact rfl) | exact fun _ => rfl
            simp only [Act.put, List.setIfInBounds_toArray, List.set_cons_zero, List.set_cons_succ]
            refine wpN_mem (fun u w => ∃ g, u = .pointer (some ⟨g, 0, none⟩) ∧ w4.heap.size ≤ g ∧ Blk w g 24 #[.int .i64 0, .int .i64 0, .int .i64 0, .int .i64 0, .int .i64 0]) (fun u w w' hw ⟨g, e, hg, h⟩ => ⟨g, e, hg, h.bel hw⟩) ?_ ?_
            · intro vals w1 hl hd
              obtain ⟨hc, hf⟩ := hl.cells
              unfold yieldsM
              go_simp
              exact ⟨Below.alloc (Below.refl _ _) (Nat.le_refl _) _, _, rfl, Below.size hl, Blk.new _ _ _⟩
            simp only [Act.put, List.setIfInBounds_toArray, List.set_cons_zero, List.set_cons_succ]
            refine wpN_nil (by rfl) ?_
            intro vals w1 hl hd
            have hd9 := hd 9 _ rfl
            clear hd
            obtain ⟨g, hg, hgw, hB9⟩ := hd9; have hv : vals 9 = .pointer (some ⟨g, 0, none⟩) := hg; obtain ⟨q0, q1, q2, q3, q4, qf⟩ := hB9.cells5; have HL := Lib.hid hl; have HB9 := Lib.hid hB9; clear hl hB9 hg
            refine wpT_step (fun K hK => ?_)
            unfold yieldsM
            go_simp
            with_reducible refine uponM_skip ?_
            refine hK _ _ ?_
            clear hK K
            try simp only [Act.put, List.setIfInBounds_toArray, List.set_cons_zero, List.set_cons_succ]
            refine wpT_step (fun K hK => ?_)
            unfold yieldsM
            go_simp
            with_reducible refine uponM_value ?_
            refine hK _ _ ?_
            clear hK K
            try simp only [Act.put, List.setIfInBounds_toArray, List.set_cons_zero, List.set_cons_succ]
            refine wpT_nil ?_
            have hgz : w.heap.size < g := by omega
            have hgz1 : w.heap.size + 1 < g := by omega
            obtain ⟨ps, hps, hown⟩ := HST.out.go
            have hne : ∀ k, u6.ownBlock = some k → k ≠ g := fun k hk => by have := (hown.lt k hk).2; omega
            have hown2 := own_bel (own_bel (hown.alloc _) hgr.out) HL.out
            have hown3 := own_set (p := ⟨g, 4, none⟩) (own_set (p := ⟨g, 3, none⟩) (own_set (p := ⟨g, 2, none⟩) (own_set (p := ⟨g, 1, none⟩) (own_set (p := ⟨g, 0, none⟩) hown2 (.int .i64 u.b) hne) (.int .i64 u.p0) hne) (.int .i64 u.p1) hne) (.int .i64 u.p2) hne) (.int .i64 u.p3) hne
            have hBu := ((((HB9.out.set_ 0 (.int .i64 u.b)).set_ 1 (.int .i64 u.p0)).set_ 2 (.int .i64 u.p1)).set_ 3 (.int .i64 u.p2)).set_ 4 (.int .i64 u.p3)
            have h6 : w.heap.size ≠ g := by omega
            have h7 : w.heap.size + 1 ≠ g := by omega
            have hN7 := (((((HB7.out.bel HL.out).far (p := ⟨g, 0, none⟩) h7 (.int .i64 u.b)).far (p := ⟨g, 1, none⟩) h7 (.int .i64 u.p0)).far (p := ⟨g, 2, none⟩) h7 (.int .i64 u.p1)).far (p := ⟨g, 3, none⟩) h7 (.int .i64 u.p2)).far (p := ⟨g, 4, none⟩) h7 (.int .i64 u.p3)
            have hN6 := (((((HB6.out.bel HL.out).far (p := ⟨g, 0, none⟩) h6 (.int .i64 u.b)).far (p := ⟨g, 1, none⟩) h6 (.int .i64 u.p0)).far (p := ⟨g, 2, none⟩) h6 (.int .i64 u.p1)).far (p := ⟨g, 3, none⟩) h6 (.int .i64 u.p2)).far (p := ⟨g, 4, none⟩) h6 (.int .i64 u.p3)
            have hbw := ((((bstep HBW.out HL.out (by omega)).setCell (p := ⟨g, 0, none⟩) (Nat.le_of_lt hgz) (.int .i64 u.b)).setCell (p := ⟨g, 1, none⟩) (Nat.le_of_lt hgz) (.int .i64 u.p0)).setCell (p := ⟨g, 2, none⟩) (Nat.le_of_lt hgz) (.int .i64 u.p1)).setCell (p := ⟨g, 3, none⟩) (Nat.le_of_lt hgz) (.int .i64 u.p2) |>.setCell (p := ⟨g, 4, none⟩) (Nat.le_of_lt hgz) (.int .i64 u.p3)
            clear d0 d1 d2 d3 d4 df f0 f1 f2 f3 f4 ff g0 g1 g2 g3 g4 gf hpk HL HB9 q0 q1 q2 q3 q4 qf hown hown2 hne HB5 HB6 HB7 HBW hgr hgw
            generalize (((((w1.setCell ⟨g, 0, none⟩ (.int .i64 u.b)).setCell ⟨g, 1, none⟩ (.int .i64 u.p0)).setCell ⟨g, 2, none⟩ (.int .i64 u.p1)).setCell ⟨g, 3, none⟩ (.int .i64 u.p2)).setCell ⟨g, 4, none⟩ (.int .i64 u.p3)) = W at hown3 hBu hN7 hN6 hbw ⊢
            clear hz2 hz3 hz4 hz h6 h7 hgz hgz1
            have hgW : g < W.heap.size := hBu.lt
            have hz : w.heap.size + 1 < W.heap.size := hN7.lt
            have HBu := Lib.hid hBu
            have HN6 := Lib.hid hN6
            have HN7 := Lib.hid hN7
            have HBW := Lib.hid hbw
            have HOWN := Lib.hid hown3
            have HPS := Lib.hid hps
            clear hBu hN6 hN7 hbw hown3 hps
            cases ok
            · have HNO := Lib.hid (instGo_none l bs (instGo_stop HK.out hrb hk4 HP.out HU.out) bs.length (by omega))
              obtain ⟨f0, f1, f2, f3, f4, ff⟩ := HN7.out.cells5
              go_wp2
              refine bodyPost_ret (v := .tuple #[.agg #[.int .i64 0, .int .i64 0, .int .i64 0, .int .i64 0, .int .i64 0], .bool false]) (by simp [results, Tryd.results18, go_sem, f0, f1, f2, f3, f4, hz]) rfl ⟨by rw [instFin_none HNO.out]; rfl, ?_⟩
              have := HBW.out
              go_grown
            · obtain ⟨q0, q1, q2, q3, q4, qf⟩ := HBu.out.cells5
              have hpl := instGo_len l bs k ps HPS.out
              go_wp2_with (at_builtin; obtain ⟨i0, hi, hz0, hz1, hz2⟩ := info_parts info24; refine wpList_append_own _ rfl _ _ 32 rfl (w.heap.size + 2) 24 i0 (.agg #[.int .i64 0, .int .i64 0, .int .i64 0, .int .i64 0, .int .i64 0]) 5 40 Tryd.underlying32 hi hz0 hz1 hz2 rfl (by decide) _ _ _ rfl (HOWN.out.alloc _) ⟨W.heap.size, 0, none⟩ 1 1 [.int .i64 u.b, .int .i64 u.p0, .int .i64 u.p1, .int .i64 u.p2, .int .i64 u.p3] rfl rfl (news5 (Blk.new _ _ _)) (one5 _ _ _ _ _) ?_ ?_ ?_ ?_; (simp only [maxLen]; omega); omega; (rw [World.size_alloc]; omega); clear hi hz0 hz1 hz2 i0; intro v' w6 hown' hgrow _)
              have hN6 := HN6.out.alloc (.cells #[.int .i64 u.b, .int .i64 u.p0, .int .i64 u.p1, .int .i64 u.p2, .int .i64 u.p3] 24)
              have hN7 := HN7.out.alloc (.cells #[.int .i64 u.b, .int .i64 u.p0, .int .i64 u.p1, .int .i64 u.p2, .int .i64 u.p3] 24)
              have hrow : ∀ k, u6.ownBlock = some k → w.heap.size + 2 ≤ k := fun k hk => (HOWN.out.lt k hk).1
              refine ⟨⟨k + 1, by omega, by go_num, ⟨⟨ps ++ [u], instGo_add HPS.out HK.out hrb hk4 HP.out HU.out, ?_⟩, hN6.grown hgrow (fun e => by have := hrow _ e.symm; omega), hN7.grown hgrow (fun e => by have := hrow _ e.symm; omega), (HBW.out.alloc (by omega) _).grown hgrow (by rw [World.size_alloc]; omega) (fun k e => by have := hrow _ e; omega)⟩⟩, by simp [intOf]; omega⟩
              rw [lcells_snoc, List.length_append]
              exact hown'
        · have hge : (4 : Int) ≤ (k : Int) := by omega
          clear hcol
          go_wp2
          refine ⟨⟨k + 1, by omega, by go_num, ⟨?_, HB6.out, HB7.out, HBW.out⟩⟩, by simp [intOf]; omega⟩
          obtain ⟨ps, hps, hown⟩ := HST.out.go
          exact ⟨ps, instGo_skip hps HK.out hrb (.inl (by omega)), own_bel (hown.alloc _) hgr.out⟩
    · obtain rfl : k = bs.length := by omega
      obtain ⟨ps, hps, hown⟩ := hst.go
      obtain ⟨A2, c2, rfl, hrow⟩ := own_lvrow hown
      have HST := Lib.hid hst
      have HPS := Lib.hid hps
      clear hst hps hown
      go_wp2_with fail
      refine (max_any A2 c2 ps _ hrow _ rfl).mono ?_
      rintro e w4 ⟨rfl, hb⟩
      obtain ⟨q0, q1, q2, q3, q4, qf⟩ := (HST.out.res.bel hb).cells5
      have HBW := Lib.hid (bstep HST.out.bel hb (by omega))
      have hz4 : w.heap.size + 1 < w4.heap.size := by have := hb.size; omega
      clear hb d0 d1 d2 d3 d4 df f0 f1 f2 f3 f4 ff hrow
      have hval : (Lv.maxl ps).val = .agg #[.int .i64 (Lv.maxl ps).b, .int .i64 (Lv.maxl ps).p0, .int .i64 (Lv.maxl ps).p1, .int .i64 (Lv.maxl ps).p2, .int .i64 (Lv.maxl ps).p3] := rfl
      go_wp2
      refine bodyPost_ret (v := .tuple #[(Lv.maxl ps).val, .bool true]) (by simp [results, Tryd.results18, go_sem, q0, q1, q2, q3, q4, hz4, hval]) rfl ⟨by rw [instFin_some HPS.out], ?_⟩
      have := HBW.out
      go_grown
end
end Go.Proofs.YtmkpiekbpakigaaDoor
