/- What the claim needs of Lv6, Lv7, Shelf, Lv8, Lv11, Own, Own2, SymA, SymB, in one text. -/
import Derived.Shelf.Strings.Builder1
import Derived.Shelf.Strings.Builder2
import Derived.Shelf.Strings.OnBuilder
import Derived.Shelf.Strconv.Itoa0
import Derived.Shelf.Strconv.Itoa1
import Derived.Shelf.LaysM
import Derived.Shelf.Strconv.Itoa2
import Derived.Shelf.Strconv.Itoa3
import Derived.Shelf.Strings.Search1
import Derived.Shelf.Strings.Search2
import Derived.Shelf.Strings.Search3
import Derived.Shelf.Strings.Shaped
import Derived.Shelf.Unicode.Decode
import Derived.Shelf.Unicode.DecodeSlow
import Derived.Shelf.Unicode.DecodeAny
import Derived.Shelf.Slices.Turned
import Derived.Ground.SlbCloneProg
import Derived.Shelf.Bytes.SlClone
import Derived.Test.YtmkpiekbpakigaaDoorProg
import Derived.Lib.AppendIntMem
import Derived.Lib.ItoaLen
import Derived.WalkSmall
import Derived.Lib.LaidTab
import Derived.Laws.AppendOwnNone
import Derived.Test.YtmkpiekbpakigaaDoorCards
import Derived.Test.YtmkpiekbpakigaaDoorTie
import Derived.WalkKit
import Derived.ProofKit
import Derived.OpenShut
import Derived.Carry
import Derived.Deep.DeepHandedRow
import Derived.LaidSub
import Derived.Test.YtmkpiekbpakigaaDoorDoma
section
set_option linter.unusedVariables false
set_option linter.unusedSimpArgs false
namespace Go.Proofs.YtmkpiekbpakigaaDoor
open Go.RowKit Go.Proofs.Base Go.Proofs.Mono
def Lv.instGo (l : Lv) (bs : List Lv) : Nat -> Option (List Lv)
 | 0 => some [Lv.num l.b]
 | k + 1 => match Lv.instGo l bs k, bs[k]? with
  | some ps, some b => if b.right = false then none else if 4 <= k \/ l.p k = -1 then some ps else if (Lv.up b (l.p k)).2 = true then some (ps ++ [(Lv.up b (l.p k)).1]) else none
  | _, _ => none
def Lv.instFin (l : Lv) (bs : List Lv) : Lv × Bool := match l.instGo bs bs.length with
  | some ps => (Lv.maxl ps, true)
  | none => (⟨0, 0, 0, 0, 0⟩, false)
theorem zhx {l : Lv} {bs : List Lv} (h : l.instGo bs bs.length = none) : l.instFin bs = (⟨0, 0, 0, 0, 0⟩, false) := by
 unfold Lv.instFin
 rw [h]
theorem znc {l : Lv} {bs ps : List Lv} (h : l.instGo bs bs.length = some ps) : l.instFin bs = (Lv.maxl ps, true) := by
 unfold Lv.instFin
 rw [h]
def Lv.inst (l : Lv) (bs : List Lv) : Lv × Bool :=
 if l.right = true /\ l.width <= bs.length then l.instFin bs else (⟨0, 0, 0, 0, 0⟩, false)
section
variable {l b u : Lv} {bs ps : List Lv} {k : Nat}
theorem zrt (hb : bs[k]? = some b) (hr : b.right = false) : l.instGo bs (k + 1) = none := by
 rw [Lv.instGo]
 cases h : l.instGo bs k with
 | none => rfl
 | some ps =>
  rw [hb]
  simp only
  rw [if_pos hr]
theorem zjt (h : l.instGo bs k = some ps) (hb : bs[k]? = some b) (hr : b.right = true) (h4 : 4 <= k \/ l.p k = -1) : l.instGo bs (k + 1) = some ps := by
 rw [Lv.instGo, h, hb]
 simp only
 rw [if_neg (by rw [hr]; decide), if_pos h4]
theorem zrb (h : l.instGo bs k = some ps) (hb : bs[k]? = some b) (hr : b.right = true) (hk : k < 4) (hp : ¬ l.p k = -1) (hu : Lv.up b (l.p k) = (u, true)) : l.instGo bs (k + 1) = some (ps ++ [u]) := by
 rw [Lv.instGo, h, hb]
 simp only
 rw [if_neg (by rw [hr]; decide), if_neg (by rintro (h | h); omega; exact hp h), hu]
 rfl
theorem zoq (hb : bs[k]? = some b) (hr : b.right = true) (hk : k < 4) (hp : ¬ l.p k = -1) (hu : Lv.up b (l.p k) = (u, false)) : l.instGo bs (k + 1) = none := by
 rw [Lv.instGo]
 cases h : l.instGo bs k with
 | none => rfl
 | some ps =>
  rw [hb]
  simp only
  rw [if_neg (by rw [hr]; decide), if_neg (by rintro (h | h); omega; exact hp h), hu]
  rfl
end
theorem ziq (l : Lv) (bs : List Lv) {k : Nat} (h : l.instGo bs k = none) : ∀ m, k <= m -> l.instGo bs m = none := by
 intro m
 induction m with
 | zero =>
      intro hk; obtain rfl : k = 0 := by omega
      exact h
 | succ m ih =>
  intro hk
  by_cases hkm : k = m + 1
  ·subst hkm; exact h
  ·rw [Lv.instGo, ih (by omega)]
theorem zrn (l : Lv) (bs : List Lv) : ∀ k ps, l.instGo bs k = some ps -> ps.length <= min k 4 + 1 := by
 intro k
 induction k with
 | zero => intro ps h; rw [Lv.instGo] at h; cases h; simp
 | succ k ih =>
  intro ps h
  rw [Lv.instGo] at h
  cases h1 : l.instGo bs k with
  | none => rw [h1] at h; simp at h
  | some qs =>
   have := ih qs h1
   rw [h1] at h
   cases h2 : bs[k]? with
   | none => rw [h2] at h; simp at h
   | some b =>
    rw [h2] at h
    simp only at h
    split at h
    ·cases h
    ·split at h
     ·cases h; omega
     ·rename_i h4
      split at h
      ·cases h
       simp
       omega
      ·cases h
def Lv.cells (l : Lv) : List Value := [.int .i64 l.b, .int .i64 l.p0, .int .i64 l.p1, .int .i64 l.p2, .int .i64 l.p3]
def zg5 (ls : List Lv) : List Value := ls.flatMap Lv.cells
theorem zos (ls : List Lv) (l : Lv) : zg5 (ls ++ [l]) = zg5 ls ++ l.cells := by simp [zg5]
theorem znj : ∀ (ls : List Lv) (j : Nat) (l : Lv), ls[j]? = some l -> ∀ i, i < 5 -> (zg5 ls)[j * 5 + i]? = l.cells[i]?
 | [], j, l, h, _, _ => by simp at h
 | x :: ls, 0, l, h, i, hi => by
  obtain rfl : x = l := by simpa using h
  simp only [zg5, List.flatMap_cons, Nat.zero_mul, Nat.zero_add]
  rw [List.getElem?_append_left (by simpa [Lv.cells] using hi)]
 | x :: ls, j + 1, l, h, i, hi => by
  have h' : ls[j]? = some l := by simpa using h
  have := znj ls j l h' i hi
  simp only [zg5, List.flatMap_cons] at this ⊢
  rw [List.getElem?_append_right (by simp [Lv.cells]; omega)]
  have e : (j + 1) * 5 + i - x.cells.length = j * 5 + i := by simp [Lv.cells]; omega
  rw [e, this]
theorem zut {w : World} {base : Nat} {v : Value} {ls : List Lv} (h : w.ownsRow base 24 5 v ls.length (zg5 ls)) : ∃ A c, v = .slice A ls.length c /\ zcz w A ls := by
 rcases h.2 with ⟨rfl, h0⟩ | ⟨g, cap, cur, rfl, hb, hh, h1, h2, h3, h4⟩
 ·exact ⟨none, 0, by rw [h0], by rw [h0]; omega, fun hp => by omega⟩
 ·refine ⟨_, cap, rfl, by simp only [maxLen] at h2; omega, fun _ => ⟨g, 0, rfl, fun j l hj => ?_⟩⟩
  have hjl : j < ls.length := (List.getElem?_eq_some_iff.1 hj).1
  have key : ∀ i u, i < 5 -> l.cells[i]? = some u -> w.cell? ⟨g, 0 + j * 5 + i, none⟩ = some u := by
   intro i u hi hu
   have hc := h.cellAt (j * 5 + i) (by omega)
   rw [znj ls j l hj i hi, hu] at hc
   simpa using hc
  exact ⟨key 0 _ (by decide) rfl, key 1 _ (by decide) rfl, key 2 _ (by decide) rfl, key 3 _ (by decide) rfl, key 4 _ (by decide) rfl⟩
theorem zaa8 : (Tryd.prog.info? 24).map (fun i => (i.zero, i.size, i.bytes)) = some (some (.agg #[.int .i64 0, .int .i64 0, .int .i64 0, .int .i64 0, .int .i64 0]), 5, 40) := by kernel_rfl
structure zaag (w : World) (l : Lv) (bs : List Lv) (k : Nat) (v : Value) (wr : World) : Prop where
 go : ∃ ps, l.instGo bs k = some ps /\ wr.ownsRow (w.heap.size + 2) 24 5 v ps.length (zg5 ps)
 me : Blk wr w.heap.size 24 #[.int .i64 l.b, .int .i64 l.p0, .int .i64 l.p1, .int .i64 l.p2, .int .i64 l.p3]
 res : Blk wr (w.heap.size + 1) 24 #[.int .i64 0, .int .i64 0, .int .i64 0, .int .i64 0, .int .i64 0]
 bel : Below w.heap.size w wr
theorem zaaf {w : World} {g : Nat} {l : Lv} (h : Blk w g 24 #[.int .i64 l.b, .int .i64 l.p0, .int .i64 l.p1, .int .i64 l.p2, .int .i64 l.p3]) (k : Nat) (hk : k < 4) : w.cell? ⟨g, 1 + k, none⟩ = some (.int .i64 (l.p k)) := by
 match k, hk with
 | 0, _ => exact h.cell 1
 | 1, _ => exact h.cell 2
 | 2, _ => exact h.cell 3
 | 3, _ => exact h.cell 4
section
variable (l : Lv) (A : Option Addr) (bs : List Lv) (c : Nat) (w : World)
set_option maxRecDepth 20000 in
set_option maxHeartbeats 4000000 in
theorem zvn (hr : l.right = true) (hw : l.width <= (bs.length : Int)) (hb : zcz w A bs) :
  Calls Tryd.prog 18 #[.agg #[.int .i64 l.b, .int .i64 l.p0, .int .i64 l.p1, .int .i64 l.p2, .int .i64 l.p3], .slice A bs.length c] w fun e w' =>
   e = .returned (.tuple #[(l.instFin bs).1.val, .bool (l.instFin bs).2]) /\ Below w.heap.size w w' := by
 have hr2 : Lv.right ⟨l.b, l.p0, l.p1, l.p2, l.p3⟩ = true := hr
 have hlen := hb.1
 have HB := Lib.hid hb
 have HR := Lib.hid hr
 have HW := Lib.hid hw
 clear hb hr hw
 go_enter Tryd.func18, Tryd.ntmps18
 go_wp2_with fail
 refine (zcn _ _ _ _ _ _).mono ?_
 rintro e w1 ⟨rfl, hb⟩
 have hB1 := ((Blk.new _ _ _).alloc _).bel hb
 have hB2 := (Blk.new _ _ _).bel hb
 rw [World.size_alloc] at hB2
 have hbw := zfn (B := w.heap.size) (a := w) (by go_grown) hb (by simp; omega)
 clear hb
 obtain ⟨d0, d1, d2, d3, d4, df⟩ := hB1.cells5
 have HB1 := Lib.hid hB1
 have HB2 := Lib.hid hB2
 have HBW := Lib.hid hbw
 clear hB1 hB2 hbw
 go_wp2_with fail
 refine (zi8 _ _ _ _ _ _).mono ?_
 rintro e w2 ⟨rfl, hb⟩
 have hB1 := HB1.out.bel hb
 have hB2 := HB2.out.bel hb
 have hbw := zfn HBW.out hb (by have := HBW.out.size; omega)
 clear hb d0 d1 d2 d3 d4 df HB1 HB2 HBW
 obtain ⟨d0, d1, d2, d3, d4, df⟩ := hB1.cells5
 have HB1 := Lib.hid hB1
 have HB2 := Lib.hid hB2
 have HBW := Lib.hid hbw
 clear hB1 hB2 hbw
 have hwd : decide ((bs.length : Int) < Lv.width ⟨l.b, l.p0, l.p1, l.p2, l.p3⟩) = false := decide_eq_false (by have := HW.out; exact Int.not_lt.2 this)
 go_wp2_with fail
 refine (zkw _ _).mono ?_
 rintro e w3 ⟨rfl, hb⟩
 have hB1 := HB1.out.bel hb
 have hB2 := HB2.out.bel hb
 have hbw := zfn HBW.out hb (by have := HBW.out.size; omega)
 clear hb d0 d1 d2 d3 d4 df HB1 HB2 HBW hwd
 have HB1 := Lib.hid hB1
 have HB2 := Lib.hid hB2
 have HBW := Lib.hid hbw
 clear hB1 hB2 hbw
 go_wp2
 have h0w : w.heap.size + 1 < w3.heap.size := HB2.out.lt
 go_loopw [6, 28] (fun v i wr => ∃ k : Nat, k <= bs.length /\ i = .int .i64 k /\ zaag w l bs k v wr) (fun _ i _ => bs.length - (intOf i).toNat)
 case atStart =>
  refine ⟨0, by omega, rfl, ⟨⟨[Lv.num l.b], rfl, ?_⟩, HB1.out.alloc _, HB2.out.alloc _, ?_⟩⟩
  ·exact World.ownsRow_lit (base := w.heap.size + 2) (e := 24) (size := 5) w3 #[.int .i64 l.b, .int .i64 (-1), .int .i64 (-1), .int .i64 (-1), .int .i64 (-1)] 1 (by omega) (by simp [maxLen]) rfl
  ·have := HBW.out
   go_grown
 case round =>
  clear h0w HB1 HB2 HBW
  obtain ⟨k, hk, rfl, hst⟩ := hrel
  obtain ⟨d0, d1, d2, d3, d4, df⟩ := hst.me.cells5
  obtain ⟨f0, f1, f2, f3, f4, ff⟩ := hst.res.cells5
  have hz : w.heap.size + 1 < wr.heap.size := hst.res.lt
  by_cases hlt : k < bs.length
  ·obtain ⟨b, hb2⟩ : ∃ b, bs[k]? = some b := ⟨bs[k], List.getElem?_eq_getElem hlt⟩
   obtain ⟨bb, off, rfl, hcell⟩ := HB.out.2 (by omega)
   obtain ⟨e0, e1, e2, e3, e4⟩ := (hcell k b hb2).below hst.bel
   have HK := Lib.hid hb2
   have HST := Lib.hid hst
   clear hb2 hst hcell
   go_wp2_with fail
   refine (zcn _ _ _ _ _ _).mono ?_
   rintro e w4 ⟨rfl, hb⟩
   have hB5 := (Blk.new _ _ _).bel hb
   have hB6 := (HST.out.me.alloc _).bel hb
   have hB7 := (HST.out.res.alloc _).bel hb
   have hbw := zfn (HST.out.bel.alloc (by omega) _) hb (by simp; omega)
   have hown : ∀ ps v, wr.ownsRow (w.heap.size + 2) 24 5 v ps (zg5 []) -> True := fun _ _ _ => trivial
   have hgr := Lib.hid hb
   clear e0 e1 e2 e3 e4 d0 d1 d2 d3 d4 df f0 f1 f2 f3 f4 ff hb hown
   obtain ⟨d0, d1, d2, d3, d4, df⟩ := hB6.cells5
   obtain ⟨f0, f1, f2, f3, f4, ff⟩ := hB7.cells5
   obtain ⟨g0, g1, g2, g3, g4, gf⟩ := hB5.cells5
   have hz2 : wr.heap.size < w4.heap.size := hB5.lt
   have hz3 : w.heap.size < w4.heap.size := by omega
   have hz4 : w.heap.size + 1 < w4.heap.size := by omega
   have HB5 := Lib.hid hB5
   have HB6 := Lib.hid hB6
   have HB7 := Lib.hid hB7
   have HBW := Lib.hid hbw
   clear hB5 hB6 hB7 hbw
   cases hrb : Lv.right ⟨b.b, b.p0, b.p1, b.p2, b.p3⟩
   ·have hno : l.instGo bs (k + 1) = none := zrt HK.out hrb
    have HNO := Lib.hid (ziq l bs hno bs.length (by omega))
    clear hno
    go_wp2
    refine bodyPost_ret (v := .tuple #[.agg #[.int .i64 0, .int .i64 0, .int .i64 0, .int .i64 0, .int .i64 0], .bool false]) (by simp [results, Tryd.results18, go_sem, f0, f1, f2, f3, f4, hz]) rfl ⟨by rw [zhx HNO.out]; rfl, ?_⟩
    have := HBW.out
    go_grown
   ·have hcol : k < 4 -> w4.cell? ⟨w.heap.size, 1 + k, none⟩ = some (.int .i64 (l.p k)) := fun h => zaaf HB6.out k h
    by_cases hk4 : k < 4
    ·have hpk := hcol hk4
     clear hcol
     by_cases hp : l.p k = -1
     ·have HP := Lib.hid hp
      go_wp2
      refine ⟨⟨k + 1, by omega, by go_num, ⟨?_, HB6.out, HB7.out, HBW.out⟩⟩, by simp [intOf]; omega⟩
      obtain ⟨ps, hps, hown⟩ := HST.out.go
      exact ⟨ps, zjt hps HK.out hrb (.inr HP.out), zjs (hown.alloc _) hgr.out⟩
     ·have hp2 : (l.p k == -1) = false := by simpa using hp
      obtain ⟨u, ok, hu⟩ : ∃ u ok, Lv.up ⟨b.b, b.p0, b.p1, b.p2, b.p3⟩ (l.p k) = (u, ok) := ⟨_, _, rfl⟩
      have HU := Lib.hid hu
      have HP := Lib.hid hp
      clear hu hp
      go_wp2_with fail
      refine zh2 10 [8] (by kernel_rfl) (by kernel_rfl) (by kernel_rfl) (by decide) ?_
      simp only [List.take_succ_cons, List.take_zero, List.drop_succ_cons, List.drop_zero]
      with_reducible apply zfo
      ·intro vals w1 hl hd
       obtain ⟨hc, hf⟩ := hl.cells
       unfold za2
       go_simp
       with_reducible exact zc6
      simp only [Act.put, List.setIfInBounds_toArray, List.set_cons_zero, List.set_cons_succ]
      with_reducible apply zfo
      ·intro vals w1 hl hd
       obtain ⟨hc, hf⟩ := hl.cells
       unfold za2
       go_simp
       with_reducible exact zc6
      simp only [Act.put, List.setIfInBounds_toArray, List.set_cons_zero, List.set_cons_succ]
      with_reducible apply zfo
      ·intro vals w1 hl hd
       obtain ⟨hc, hf⟩ := hl.cells
       unfold za2
       go_simp
       with_reducible exact zc6
      simp only [Act.put, List.setIfInBounds_toArray, List.set_cons_zero, List.set_cons_succ]
      with_reducible apply zfo
      ·intro vals w1 hl hd
       obtain ⟨hc, hf⟩ := hl.cells
       unfold za2
       go_simp
       with_reducible exact zc6
      simp only [Act.put, List.setIfInBounds_toArray, List.set_cons_zero, List.set_cons_succ]
      with_reducible apply zfo
      ·intro vals w1 hl hd
       obtain ⟨hc, hf⟩ := hl.cells
       unfold za2
       go_simp
       with_reducible exact zc6
      simp only [Act.put, List.setIfInBounds_toArray, List.set_cons_zero, List.set_cons_succ]
      with_reducible apply zfo
      ·intro vals w1 hl hd
       obtain ⟨hc, hf⟩ := hl.cells
       unfold za2
       go_simp
       with_reducible refine zok ?_
       refine (zaaw _ _ _ _ _ _ _).mono ?_; rintro e w5 ⟨rfl, hb⟩; exact ⟨.tuple #[.agg #[.int .i64 u.b, .int .i64 u.p0, .int .i64 u.p1, .int .i64 u.p2, .int .i64 u.p3], .bool ok], by rw [HU.out]; rfl, hb, rfl⟩
      simp only [Act.put, List.setIfInBounds_toArray, List.set_cons_zero, List.set_cons_succ]
      with_reducible apply zfo
      ·intro vals w1 hl hd
       obtain ⟨hc, hf⟩ := hl.cells
       unfold za2
       go_simp
       with_reducible exact zc6
      simp only [Act.put, List.setIfInBounds_toArray, List.set_cons_zero, List.set_cons_succ]
      with_reducible apply zfo
      ·intro vals w1 hl hd
       obtain ⟨hc, hf⟩ := hl.cells
       unfold za2
       go_simp
       with_reducible exact zc6
      simp only [Act.put, List.setIfInBounds_toArray, List.set_cons_zero, List.set_cons_succ]
      with_reducible apply zw8
      ·intro vals w1 hd
       go_simp
       first | (with_reducible exact rfl) | exact fun _ => rfl
      simp only [Act.put, List.setIfInBounds_toArray, List.set_cons_zero, List.set_cons_succ]
      refine zym (fun u w => ∃ g, u = .pointer (some ⟨g, 0, none⟩) /\ w4.heap.size <= g /\ Blk w g 24 #[.int .i64 0, .int .i64 0, .int .i64 0, .int .i64 0, .int .i64 0]) (fun u w w' hw ⟨g, e, hg, h⟩ => ⟨g, e, hg, h.bel hw⟩) ?_ ?_
      ·intro vals w1 hl hd
       obtain ⟨hc, hf⟩ := hl.cells
       unfold za2
       go_simp
       exact ⟨Below.alloc (Below.refl _ _) (Nat.le_refl _) _, _, rfl, Below.size hl, Blk.new _ _ _⟩
      simp only [Act.put, List.setIfInBounds_toArray, List.set_cons_zero, List.set_cons_succ]
      refine zya (by rfl) ?_
      intro vals w1 hl hd
      have hd9 := hd 9 _ rfl
      clear hd
      obtain ⟨g, hg, hgw, hB9⟩ := hd9; have hv : vals 9 = .pointer (some ⟨g, 0, none⟩) := hg; obtain ⟨q0, q1, q2, q3, q4, qf⟩ := hB9.cells5; have HL := Lib.hid hl; have HB9 := Lib.hid hB9; clear hl hB9 hg
      refine zp1 (fun K hK => ?_)
      unfold za2
      go_simp
      with_reducible refine zra ?_
      refine hK _ _ ?_
      clear hK K
      try simp only [Act.put, List.setIfInBounds_toArray, List.set_cons_zero, List.set_cons_succ]
      refine zp1 (fun K hK => ?_)
      unfold za2
      go_simp
      with_reducible refine zn9 ?_
      refine hK _ _ ?_
      clear hK K
      try simp only [Act.put, List.setIfInBounds_toArray, List.set_cons_zero, List.set_cons_succ]
      refine zy6 ?_
      have hgz : w.heap.size < g := by omega
      have hgz1 : w.heap.size + 1 < g := by omega
      obtain ⟨ps, hps, hown⟩ := HST.out.go
      have hne : ∀ k, u6.ownBlock = some k -> k ≠ g := fun k hk => by have := (hown.lt k hk).2; omega
      have hown2 := zjs (zjs (hown.alloc _) hgr.out) HL.out
      have hown3 := zjj (p := ⟨g, 4, none⟩) (zjj (p := ⟨g, 3, none⟩) (zjj (p := ⟨g, 2, none⟩) (zjj (p := ⟨g, 1, none⟩) (zjj (p := ⟨g, 0, none⟩) hown2 (.int .i64 u.b) hne) (.int .i64 u.p0) hne) (.int .i64 u.p1) hne) (.int .i64 u.p2) hne) (.int .i64 u.p3) hne
      have hBu := ((((HB9.out.set_ 0 (.int .i64 u.b)).set_ 1 (.int .i64 u.p0)).set_ 2 (.int .i64 u.p1)).set_ 3 (.int .i64 u.p2)).set_ 4 (.int .i64 u.p3)
      have h6 : w.heap.size ≠ g := by omega
      have h7 : w.heap.size + 1 ≠ g := by omega
      have hN7 := (((((HB7.out.bel HL.out).far (p := ⟨g, 0, none⟩) h7 (.int .i64 u.b)).far (p := ⟨g, 1, none⟩) h7 (.int .i64 u.p0)).far (p := ⟨g, 2, none⟩) h7 (.int .i64 u.p1)).far (p := ⟨g, 3, none⟩) h7 (.int .i64 u.p2)).far (p := ⟨g, 4, none⟩) h7 (.int .i64 u.p3)
      have hN6 := (((((HB6.out.bel HL.out).far (p := ⟨g, 0, none⟩) h6 (.int .i64 u.b)).far (p := ⟨g, 1, none⟩) h6 (.int .i64 u.p0)).far (p := ⟨g, 2, none⟩) h6 (.int .i64 u.p1)).far (p := ⟨g, 3, none⟩) h6 (.int .i64 u.p2)).far (p := ⟨g, 4, none⟩) h6 (.int .i64 u.p3)
      have hbw := ((((zfn HBW.out HL.out (by omega)).setCell (p := ⟨g, 0, none⟩) (Nat.le_of_lt hgz) (.int .i64 u.b)).setCell (p := ⟨g, 1, none⟩) (Nat.le_of_lt hgz) (.int .i64 u.p0)).setCell (p := ⟨g, 2, none⟩) (Nat.le_of_lt hgz) (.int .i64 u.p1)).setCell (p := ⟨g, 3, none⟩) (Nat.le_of_lt hgz) (.int .i64 u.p2) |>.setCell (p := ⟨g, 4, none⟩) (Nat.le_of_lt hgz) (.int .i64 u.p3)
      clear d0 d1 d2 d3 d4 df f0 f1 f2 f3 f4 ff g0 g1 g2 g3 g4 gf hpk HL HB9 q0 q1 q2 q3 q4 qf hown hown2 hne HB5 HB6 HB7 HBW hgr hgw
      generalize (((((w1.setCell ⟨g, 0, none⟩ (.int .i64 u.b)).setCell ⟨g, 1, none⟩ (.int .i64 u.p0)).setCell ⟨g, 2, none⟩ (.int .i64 u.p1)).setCell ⟨g, 3, none⟩ (.int .i64 u.p2)).setCell ⟨g, 4, none⟩ (.int .i64 u.p3)) = W at hown3 hBu hN7 hN6 hbw ⊢
      clear hz2 hz3 hz4 hz h6 h7 hgz hgz1
      have hgW : g < W.heap.size := hBu.lt
      have hz : w.heap.size + 1 < W.heap.size := hN7.lt
      have HBu := Lib.hid hBu
      have HN6 := Lib.hid hN6
      have HN7 := Lib.hid hN7
      have HBW := Lib.hid hbw
      have HOWN := Lib.hid hown3
      have HPS := Lib.hid hps
      clear hBu hN6 hN7 hbw hown3 hps
      cases ok
      ·have HNO := Lib.hid (ziq l bs (zoq HK.out hrb hk4 HP.out HU.out) bs.length (by omega))
       obtain ⟨f0, f1, f2, f3, f4, ff⟩ := HN7.out.cells5
       go_wp2
       refine bodyPost_ret (v := .tuple #[.agg #[.int .i64 0, .int .i64 0, .int .i64 0, .int .i64 0, .int .i64 0], .bool false]) (by simp [results, Tryd.results18, go_sem, f0, f1, f2, f3, f4, hz]) rfl ⟨by rw [zhx HNO.out]; rfl, ?_⟩
       have := HBW.out
       go_grown
      ·obtain ⟨q0, q1, q2, q3, q4, qf⟩ := HBu.out.cells5
       have hpl := zrn l bs k ps HPS.out
       go_wp2_with (at_builtin; obtain ⟨i0, hi, hz0, hz1, hz2⟩ := info_parts zaa8; refine wpList_append_own _ rfl _ _ 32 rfl (w.heap.size + 2) 24 i0 (.agg #[.int .i64 0, .int .i64 0, .int .i64 0, .int .i64 0, .int .i64 0]) 5 40 Tryd.underlying32 hi hz0 hz1 hz2 rfl (by decide) _ _ _ rfl (HOWN.out.alloc _) ⟨W.heap.size, 0, none⟩ 1 1 [.int .i64 u.b, .int .i64 u.p0, .int .i64 u.p1, .int .i64 u.p2, .int .i64 u.p3] rfl rfl (zabe (Blk.new _ _ _)) (one5 _ _ _ _ _) ?_ ?_ ?_ ?_; (simp only [maxLen]; omega); omega; (rw [World.size_alloc]; omega); clear hi hz0 hz1 hz2 i0; intro v' w6 hown' hgrow _)
       have hN6 := HN6.out.alloc (.cells #[.int .i64 u.b, .int .i64 u.p0, .int .i64 u.p1, .int .i64 u.p2, .int .i64 u.p3] 24)
       have hN7 := HN7.out.alloc (.cells #[.int .i64 u.b, .int .i64 u.p0, .int .i64 u.p1, .int .i64 u.p2, .int .i64 u.p3] 24)
       have hrow : ∀ k, u6.ownBlock = some k -> w.heap.size + 2 <= k := fun k hk => (HOWN.out.lt k hk).1
       refine ⟨⟨k + 1, by omega, by go_num, ⟨⟨ps ++ [u], zrb HPS.out HK.out hrb hk4 HP.out HU.out, ?_⟩, hN6.grown hgrow (fun e => by have := hrow _ e.symm; omega), hN7.grown hgrow (fun e => by have := hrow _ e.symm; omega), (HBW.out.alloc (by omega) _).grown hgrow (by rw [World.size_alloc]; omega) (fun k e => by have := hrow _ e; omega)⟩⟩, by simp [intOf]; omega⟩
       rw [zos, List.length_append]
       exact hown'
    ·have hge : (4 : Int) <= (k : Int) := by omega
     clear hcol
     go_wp2
     refine ⟨⟨k + 1, by omega, by go_num, ⟨?_, HB6.out, HB7.out, HBW.out⟩⟩, by simp [intOf]; omega⟩
     obtain ⟨ps, hps, hown⟩ := HST.out.go
     exact ⟨ps, zjt hps HK.out hrb (.inl (by omega)), zjs (hown.alloc _) hgr.out⟩
  ·obtain rfl : k = bs.length := by omega
   obtain ⟨ps, hps, hown⟩ := hst.go
   obtain ⟨A2, c2, rfl, hrow⟩ := zut hown
   have HST := Lib.hid hst
   have HPS := Lib.hid hps
   clear hst hps hown
   go_wp2_with fail
   refine (zyw A2 c2 ps _ hrow _ rfl).mono ?_
   rintro e w4 ⟨rfl, hb⟩
   obtain ⟨q0, q1, q2, q3, q4, qf⟩ := (HST.out.res.bel hb).cells5
   have HBW := Lib.hid (zfn HST.out.bel hb (by omega))
   have hz4 : w.heap.size + 1 < w4.heap.size := by have := hb.size; omega
   clear hb d0 d1 d2 d3 d4 df f0 f1 f2 f3 f4 ff hrow
   have hval : (Lv.maxl ps).val = .agg #[.int .i64 (Lv.maxl ps).b, .int .i64 (Lv.maxl ps).p0, .int .i64 (Lv.maxl ps).p1, .int .i64 (Lv.maxl ps).p2, .int .i64 (Lv.maxl ps).p3] := rfl
   go_wp2
   refine bodyPost_ret (v := .tuple #[(Lv.maxl ps).val, .bool true]) (by simp [results, Tryd.results18, go_sem, q0, q1, q2, q3, q4, hz4, hval]) rfl ⟨by rw [znc HPS.out], ?_⟩
   have := HBW.out
   go_grown
end
end Go.Proofs.YtmkpiekbpakigaaDoor
end
section
set_option linter.unusedVariables false
set_option linter.unusedSimpArgs false
namespace Go.Proofs.YtmkpiekbpakigaaDoor
open Go.RowKit Go.Proofs.Base Go.Proofs.Mono
section
variable (l : Lv) (A : Option Addr) (bs : List Lv) (c : Nat) (w : World)
set_option maxRecDepth 20000 in
set_option maxHeartbeats 4000000 in
theorem zwt (hr : l.right = false) (n : Nat) :
  Calls Tryd.prog 18 #[.agg #[.int .i64 l.b, .int .i64 l.p0, .int .i64 l.p1, .int .i64 l.p2, .int .i64 l.p3], .slice A n c] w fun e w' =>
   e = .returned (.tuple #[.agg #[.int .i64 0, .int .i64 0, .int .i64 0, .int .i64 0, .int .i64 0], .bool false]) /\ Below w.heap.size w w' := by
 have hr2 : Lv.right ⟨l.b, l.p0, l.p1, l.p2, l.p3⟩ = false := hr
 clear hr
 go_enter Tryd.func18, Tryd.ntmps18
 go_wp2_with fail
 refine (zcn _ _ _ _ _ _).mono ?_
 rintro e w1 ⟨rfl, hb⟩
 have hB2 := (Blk.new _ _ _).bel hb
 rw [World.size_alloc] at hB2
 have hbw := zfn (B := w.heap.size) (a := w) (by go_grown) hb (by simp; omega)
 obtain ⟨d0, d1, d2, d3, d4, df⟩ := hB2.cells5
 have hz : w.heap.size + 1 < w1.heap.size := hB2.lt
 have HBW := Lib.hid hbw
 clear hb hB2 hbw
 go_wp2
 refine bodyPost_ret (v := .tuple #[.agg #[.int .i64 0, .int .i64 0, .int .i64 0, .int .i64 0, .int .i64 0], .bool false]) (by simp [results, Tryd.results18, go_sem, d0, d1, d2, d3, d4, hz]) rfl ⟨rfl, ?_⟩
 have := HBW.out
 go_grown
set_option maxRecDepth 20000 in
set_option maxHeartbeats 4000000 in
theorem zwv (hr : l.right = true) (n : Nat) (hw : (n : Int) < l.width) :
  Calls Tryd.prog 18 #[.agg #[.int .i64 l.b, .int .i64 l.p0, .int .i64 l.p1, .int .i64 l.p2, .int .i64 l.p3], .slice A n c] w fun e w' =>
   e = .returned (.tuple #[.agg #[.int .i64 0, .int .i64 0, .int .i64 0, .int .i64 0, .int .i64 0], .bool false]) /\ Below w.heap.size w w' := by
 have hr2 : Lv.right ⟨l.b, l.p0, l.p1, l.p2, l.p3⟩ = true := hr
 have HW := Lib.hid hw
 clear hr hw
 go_enter Tryd.func18, Tryd.ntmps18
 go_wp2_with fail
 refine (zcn _ _ _ _ _ _).mono ?_
 rintro e w1 ⟨rfl, hb⟩
 have hB1 := ((Blk.new _ _ _).alloc _).bel hb
 have hB2 := (Blk.new _ _ _).bel hb
 rw [World.size_alloc] at hB2
 have hbw := zfn (B := w.heap.size) (a := w) (by go_grown) hb (by simp; omega)
 clear hb
 obtain ⟨d0, d1, d2, d3, d4, df⟩ := hB1.cells5
 have HB2 := Lib.hid hB2
 have HBW := Lib.hid hbw
 clear hB1 hB2 hbw
 go_wp2_with fail
 refine (zi8 _ _ _ _ _ _).mono ?_
 rintro e w2 ⟨rfl, hb⟩
 have hB2 := HB2.out.bel hb
 have hbw := zfn HBW.out hb (by have := HBW.out.size; omega)
 clear hb d0 d1 d2 d3 d4 df HB2 HBW
 obtain ⟨d0, d1, d2, d3, d4, df⟩ := hB2.cells5
 have hz : w.heap.size + 1 < w2.heap.size := hB2.lt
 have HBW := Lib.hid hbw
 clear hB2 hbw
 have hwd : decide ((n : Int) < Lv.width ⟨l.b, l.p0, l.p1, l.p2, l.p3⟩) = true := decide_eq_true HW.out
 go_wp2
 refine bodyPost_ret (v := .tuple #[.agg #[.int .i64 0, .int .i64 0, .int .i64 0, .int .i64 0, .int .i64 0], .bool false]) (by simp [results, Tryd.results18, go_sem, d0, d1, d2, d3, d4, hz]) rfl ⟨rfl, ?_⟩
 have := HBW.out
 go_grown
theorem zvs (n : Nat) (hn : n = bs.length) (hb : zcz w A bs) :
  Calls Tryd.prog 18 #[.agg #[.int .i64 l.b, .int .i64 l.p0, .int .i64 l.p1, .int .i64 l.p2, .int .i64 l.p3], .slice A n c] w fun e w' =>
   e = .returned (.tuple #[(l.inst bs).1.val, .bool (l.inst bs).2]) /\ Below w.heap.size w w' := by
 unfold Lv.inst
 subst hn
 by_cases h : l.right = true /\ l.width <= bs.length
 ·rw [if_pos h]
  exact zvn l A bs c w h.1 h.2 hb
 ·rw [if_neg h]
  cases hr : l.right
  ·exact zwt l A c w hr bs.length
  ·exact zwv l A c w hr bs.length (by rw [hr] at h; simp only [true_and] at h; omega)
end
end Go.Proofs.YtmkpiekbpakigaaDoor
end
section
namespace Go.Proofs
open Go.Shelf
def Tryd.lays143_ren : Go.Shelf.Ren := ⟨fun | 143 => 148 | 219 => 166 | 217 => 176 | 225 => 177 | 224 => 178 | 267 => 179 | 266 => 184 | 314 => 185 | n => n, fun | 9 => 9 | 3 => 3 | 4 => 4 | 5 => 5 | 46 => 141 | 146 => 207 | 51 => 200 | n => n, fun | 1 => 1 | n => n⟩
theorem Tryd.lays143 : Go.Proofs.Lays.n143 Tryd.prog Tryd.lays143_ren := {
 mixed := by kernel_rfl
 f143 := Tryd.func148.trans (congrArg some (by kernel_rfl))
 f217 := Tryd.func176.trans (congrArg some (by kernel_rfl))
 f219 := Tryd.func166.trans (congrArg some (by kernel_rfl))
 f224 := Tryd.func178.trans (congrArg some (by kernel_rfl))
 f225 := Tryd.func177.trans (congrArg some (by kernel_rfl))
 f266 := Tryd.func184.trans (congrArg some (by kernel_rfl))
 f267 := Tryd.func179.trans (congrArg some (by kernel_rfl))
 f314 := Tryd.func185.trans (congrArg some (by kernel_rfl))
 t3 := Tryd.underlying3
 a3 := Tryd.isAgg3
 z3 := Tryd.sizeOf3
 v3 := Tryd.zeroValue3
 t4 := Tryd.underlying4
 a4 := Tryd.isAgg4
 z4 := Tryd.sizeOf4
 v4 := Tryd.zeroValue4
 t5 := Tryd.underlying5
 a5 := Tryd.isAgg5
 z5 := Tryd.sizeOf5
 v5 := Tryd.zeroValue5
 t9 := Tryd.underlying9
 a9 := Tryd.isAgg9
 z9 := Tryd.sizeOf9
 v9 := Tryd.zeroValue9
 t46 := Tryd.underlying141
 a46 := Tryd.isAgg141
 z46 := Tryd.sizeOf141
 v46 := Tryd.zeroValue141
 t51 := Tryd.underlying200
 a51 := Tryd.isAgg200
 z51 := Tryd.sizeOf200
 v51 := Tryd.zeroValue200
 t146 := Tryd.underlying207
 a146 := Tryd.isAgg207
 z146 := Tryd.sizeOf207
 v146 := Tryd.zeroValue207
 g1 := by kernel_rfl }
open Go.RowKit Go.Lib in
theorem Tryd.strings_Index_one (s : ByteArray) (c : UInt8) (w : World) :
  Calls Tryd.prog 148 #[.string s, .string ⟨#[c]⟩] w fun e w' => e = .returned (.int .i64 (Lib.indexByte s.data.toList c)) /\ w' = w := Any.strings_Index_one Tryd.lays143 s c w
def Tryd.lays144_ren : Go.Shelf.Ren := ⟨fun | 144 => 128 | 143 => 148 | 219 => 166 | 217 => 176 | 225 => 177 | 224 => 178 | 267 => 179 | 266 => 184 | 314 => 185 | n => n, fun | 9 => 9 | 4 => 4 | 3 => 3 | 5 => 5 | 46 => 141 | 146 => 207 | 51 => 200 | n => n, fun | 1 => 1 | n => n⟩
theorem Tryd.lays144 : Go.Proofs.Lays.n144 Tryd.prog Tryd.lays144_ren := {
 mixed := by kernel_rfl
 f143 := Tryd.func148.trans (congrArg some (by kernel_rfl))
 f144 := Tryd.func128.trans (congrArg some (by kernel_rfl))
 f217 := Tryd.func176.trans (congrArg some (by kernel_rfl))
 f219 := Tryd.func166.trans (congrArg some (by kernel_rfl))
 f224 := Tryd.func178.trans (congrArg some (by kernel_rfl))
 f225 := Tryd.func177.trans (congrArg some (by kernel_rfl))
 f266 := Tryd.func184.trans (congrArg some (by kernel_rfl))
 f267 := Tryd.func179.trans (congrArg some (by kernel_rfl))
 f314 := Tryd.func185.trans (congrArg some (by kernel_rfl))
 t3 := Tryd.underlying3
 a3 := Tryd.isAgg3
 z3 := Tryd.sizeOf3
 v3 := Tryd.zeroValue3
 t4 := Tryd.underlying4
 a4 := Tryd.isAgg4
 z4 := Tryd.sizeOf4
 v4 := Tryd.zeroValue4
 t5 := Tryd.underlying5
 a5 := Tryd.isAgg5
 z5 := Tryd.sizeOf5
 v5 := Tryd.zeroValue5
 t9 := Tryd.underlying9
 a9 := Tryd.isAgg9
 z9 := Tryd.sizeOf9
 v9 := Tryd.zeroValue9
 t46 := Tryd.underlying141
 a46 := Tryd.isAgg141
 z46 := Tryd.sizeOf141
 v46 := Tryd.zeroValue141
 t51 := Tryd.underlying200
 a51 := Tryd.isAgg200
 z51 := Tryd.sizeOf200
 v51 := Tryd.zeroValue200
 t146 := Tryd.underlying207
 a146 := Tryd.isAgg207
 z146 := Tryd.sizeOf207
 v146 := Tryd.zeroValue207
 g1 := by kernel_rfl }
open Go.RowKit Go.Lib in
theorem Tryd.strings_Contains (s sub : ByteArray) (m : Int) (w : World) (hs : s.size < 4294967281) (hm : w.cell? ⟨1, 0, none⟩ = some (.int .i64 m)) :
  Calls Tryd.prog 128 #[.string s, .string sub] w fun e w' => e = .returned (.bool (Lib.contains s.data.toList sub.data.toList)) /\ w' = w := Any.strings_Contains Tryd.lays144 s sub m w hs hm
end Go.Proofs
end
section
set_option linter.unusedVariables false
set_option linter.unusedSimpArgs false
namespace Go.Proofs.YtmkpiekbpakigaaDoor
open Go.RowKit Go.Proofs.Base Go.Proofs.Mono
def Tab (w : World) : Prop := Lib.TabIs Tryd.prog w "internal/strconv.uint64pow10" .u64 Lib.pow10Tab
def zabb (k : Nat) (p : Int) : List UInt8 := 117 :: (Lib.itoa k ++ if p = 0 then [] else 43 :: Lib.itoa p)
def Lv.partsGo (l : Lv) : Nat -> List (List UInt8)
 | 0 => []
 | k + 1 => if l.p k < 0 then l.partsGo k else l.partsGo k ++ [zabb k (l.p k)]
def strs (xs : List (List UInt8)) : List Value := xs.map fun x => .string ⟨x.toArray⟩
structure zab2 (w : World) (l : Lv) (k : Nat) (v : Value) (wr : World) : Prop where
 own : wr.ownsRow (w.heap.size + 1) 9 1 v (l.partsGo k).length (strs (l.partsGo k))
 me : Blk wr w.heap.size 24 #[.int .i64 l.b, .int .i64 l.p0, .int .i64 l.p1, .int .i64 l.p2, .int .i64 l.p3]
 bel : Below w.heap.size w wr
theorem u1 (x : List UInt8) : (⟨#[117]⟩ : ByteArray) ++ ⟨x.toArray⟩ = ⟨(117 :: x).toArray⟩ := ByteArray.mk_append_mk [117] x
theorem u2 (x y : List UInt8) : (⟨#[117]⟩ : ByteArray) ++ ⟨x.toArray⟩ ++ ⟨#[43]⟩ ++ ⟨y.toArray⟩ = ⟨(117 :: (x ++ 43 :: y)).toArray⟩ := by
 rw [u1]
 have h1 : (⟨(117 :: x).toArray⟩ : ByteArray) ++ ⟨#[43]⟩ = ⟨((117 :: x) ++ [43]).toArray⟩ := ByteArray.mk_append_mk (117 :: x) [43]
 rw [h1, ByteArray.mk_append_mk]
 simp
section
variable (l : Lv) (w : World)
end
end Go.Proofs.YtmkpiekbpakigaaDoor
end
section
set_option linter.unusedVariables false
set_option linter.unusedSimpArgs false
namespace Go.Proofs.YtmkpiekbpakigaaDoor
open Go.RowKit Go.Proofs.Base Go.Proofs.Mono
def Lv.below (a b : Lv) : Prop := a.b <= b.b /\ a.p0 <= b.p0 /\ a.p1 <= b.p1 /\ a.p2 <= b.p2 /\ a.p3 <= b.p3
section
variable (a b c : Lv) (A : Option Addr) (xs : List Int) (w : World)
end
end Go.Proofs.YtmkpiekbpakigaaDoor
end
section
set_option linter.unusedVariables false
set_option linter.unusedSimpArgs false
namespace Go.Proofs.YtmkpiekbpakigaaDoor
open Go.ChangeShapes Go.WideShapes Go.ChangeAt Go.RowKit Go.Proofs.Base
theorem own : ownKnob Tryd.prog.godebug = none := by kernel_rfl
theorem zz1 : laidOutB Tryd.prog = true := by kernel_rfl
section
variable {H : Type} {enc : TypeId × Value -> H} {w W W' : World} {base : Nat} {sp : Nat -> Bool} {held : Bool}
theorem zhe {P : Program} (hl : laidOutB P = true) (hb : Below W.heap.size W W') : ∀ {ts : List TypeId} {vs : List Value} {ds : List (DataW H)} {ps : List MemPlace},
  (∀ t ∈ ts, P.readableRec t = true /\ t < P.types.size) -> DataW.TrodAll enc P W 0 (fun _ => true) true ts vs ds ps -> (∀ x ∈ ps, x.block < W.heap.size) ->
  DataW.TrodAll enc P W' 0 (fun b => decide (b < W.heap.size)) true ts vs ds ps
 | [], [], [], _, _, h, _ => h
 | t :: ts, v :: vs, d :: ds, _, ht, ⟨p, q, h1, h2, e⟩, hlt =>
  have h0 := ht t (List.mem_cons.2 (Or.inl rfl))
  ⟨p, q, Below.trod hl h0.1 h0.2 h1 hb (fun x hx => hlt x (by rw [e]; exact List.mem_append_left _ hx)),
   zhe hl hb (fun t ht' => ht t (List.mem_cons.2 (Or.inr ht'))) h2 (fun x hx => hlt x (by rw [e]; exact List.mem_append_right _ hx)), e⟩
theorem zsk {f : Func} {s : ChangeSpec} {args : Array Value} {ds gs : List (DataW H)} {before : List MemPlace} {b : Nat}
  (hW : DataW.Whole enc Tryd.prog f.params.toList s.vars false W args.toList ds gs before) (hv : s.vars = []) (hr : f.resultTypes = #[b]) (ht : Tryd.prog.underlying b = some .bool)
  (hp : ∀ t ∈ f.params.toList, Tryd.prog.readableRec t = true /\ t < Tryd.prog.types.size)
  (hs : s.fn H (ds ++ gs) = { results := [.lit (.bool true)], args := ds }) (hb : Below W.heap.size W W') : s.post enc Tryd.prog f false true false false W args (.bool true) W' := by
 have hlt := fun x hx => hW.lt x hx
 have hW' := hW
 obtain ⟨p, q, hA, hV, rfl, hfz, hnd⟩ := hW
 rw [hv] at hV
 obtain ⟨rfl, rfl⟩ := trodVars_none hV
 refine ⟨ds, [], p ++ [], [], p, [], hW', ?_, ?_, ?_, hb.frame _, fun h => by cases h⟩
 ·rw [hs, hr]
  exact trodAll_cons_mk (shut_bool ht true) trodAll_mk0
 ·rw [hs]
  exact zhe zz1 hb hp hA (fun x hx => hlt x (List.mem_append_left _ hx))
 ·rw [hs, hv]
  exact rfl
def Lv.ok (l : Lv) : Prop := (Lit.int .i64 l.b).wf = true /\ (Lit.int .i64 l.p0).wf = true /\ (Lit.int .i64 l.p1).wf = true /\ (Lit.int .i64 l.p2).wf = true /\ (Lit.int .i64 l.p3).wf = true
def Lv.data (l : Lv) : DataW H := .agg [.lit (.int .i64 l.b), .agg [.lit (.int .i64 l.p0), .lit (.int .i64 l.p1), .lit (.int .i64 l.p2), .lit (.int .i64 l.p3)]]
theorem zoz : Tryd.prog.cellsOf 24 = 5 := by kernel_rfl
theorem zzu : Tryd.prog.cellsOf 22 = 4 := by kernel_rfl
theorem zuk : Tryd.prog.cellsOf 3 = 1 := by kernel_rfl
set_option maxRecDepth 100000 in
theorem zji {fuel : Nat} {cs : List Value} {x : DataW H × List MemPlace} (h : DataW.trod enc Tryd.prog w base sp held fuel 24 cs = some x) :
  ∃ l : Lv, cs = l.cells /\ x = (l.data, []) /\ l.ok := by
 obtain ⟨ys, m, _, hx, hl, hlen, hf⟩ := DataW.trod_struct Tryd.underlying24 h
 match ys, hlen with
 | [y0, y1], _ =>
  have h0 := hf 0 _ rfl
  have h1 := hf 1 _ rfl
  rw [zoz] at hl
  match cs, hl with
  | [c0, c1, c2, c3, c4], _ =>
   simp [zuk, zzu] at h0 h1
   obtain ⟨b, e, rfl, sb⟩ := DataW.trod_int Tryd.underlying3 h0
   obtain ⟨zs, m', _, hz, _, hzl, hg⟩ := DataW.trod_array Tryd.underlying22 h1
   match zs, hzl with
   | [z0, z1, z2, z3], _ =>
    have g0 := hg 0 (by omega)
    have g1 := hg 1 (by omega)
    have g2 := hg 2 (by omega)
    have g3 := hg 3 (by omega)
    simp [zuk] at g0 g1 g2 g3
    obtain ⟨p0, e0, rfl, s0⟩ := DataW.trod_int Tryd.underlying3 g0
    obtain ⟨p1, e1, rfl, s1⟩ := DataW.trod_int Tryd.underlying3 g1
    obtain ⟨p2, e2, rfl, s2⟩ := DataW.trod_int Tryd.underlying3 g2
    obtain ⟨p3, e3, rfl, s3⟩ := DataW.trod_int Tryd.underlying3 g3
    simp only [List.cons.injEq, and_true] at e e0 e1 e2 e3
    subst e e0 e1 e2 e3 hz hx
    exact ⟨⟨b, p0, p1, p2, p3⟩, rfl, by simp [Lv.data], sb, s0, s1, s2, s3⟩
end
def zxf (cs : Array Value) : Obj -> Obj
 | .cells _ t frozen => .cells cs t frozen
 | o => o
end Go.Proofs.YtmkpiekbpakigaaDoor
end
section
set_option linter.unusedVariables false
set_option linter.unusedSimpArgs false
namespace Go.Proofs.YtmkpiekbpakigaaDoor
open Go.ChangeShapes Go.WideShapes Go.ChangeAt Go.RowKit Go.Proofs.Base
section
variable {H : Type} {enc : TypeId × Value -> H} {w : World} {base : Nat} {sp : Nat -> Bool} {held : Bool}
theorem zgj {α : Type} {Q : Nat -> α -> Prop} : ∀ (n : Nat), (∀ j, j < n -> ∃ x, Q j x) -> ∃ ls : List α, ls.length = n /\ ∀ j x, ls[j]? = some x -> Q j x
 | 0, _ => ⟨[], rfl, fun j x h => by simp at h⟩
 | n + 1, h => by
  obtain ⟨ls, h1, h2⟩ := zgj n fun j hj => h j (by omega)
  obtain ⟨x, hx⟩ := h n (by omega)
  refine ⟨ls ++ [x], by simp [h1], fun j y hj => ?_⟩
  by_cases hjn : j < n
  ·rw [List.getElem?_append_left (by omega)] at hj
   exact h2 j y hj
  ·rw [List.getElem?_append_right (by omega)] at hj
   have : j = n := by
    have := (List.getElem?_eq_some_iff.1 hj).1
    simp at this
    omega
   subst this
   rw [h1, Nat.sub_self] at hj
   cases hj
   exact hx
end
end Go.Proofs.YtmkpiekbpakigaaDoor
end
section
set_option linter.unusedVariables false
set_option linter.unusedSimpArgs false
namespace Go.Proofs.Sym
open Go.RowKit Go.Proofs.Base Go.Proofs.Mono
def get {α : Type _} (i : Nat) : List (Nat × α) -> Option α
 | [] => none
 | (j, x) :: r => match Nat.beq i j with
  | true => some x
  | false => get i r
theorem za4 {α : Type _} (i : Nat) (x : α) (r : List (Nat × α)) : get i ((i, x) :: r) = some x := by simp [get]
theorem zbw {α : Type _} {i j : Nat} (h : i ≠ j) (x : α) (r : List (Nat × α)) : get i ((j, x) :: r) = get i r := by
 have : Nat.beq i j = false := by rw [<- Bool.not_eq_true, Nat.beq_eq]; exact h
 simp only [get, this]
theorem zah {α : Type _} {i j : Nat} {x y : α} {r : List (Nat × α)} (h : get i ((j, x) :: r) = some y) : (i = j /\ x = y) \/ (i ≠ j /\ get i r = some y) := by
 by_cases e : i = j
 ·subst e
  rw [za4] at h
  exact .inl ⟨rfl, Option.some.inj h⟩
 ·rw [zbw e] at h
  exact .inr ⟨e, h⟩
structure Env where
 blk : Nat -> Nat
 row : Nat -> Option Addr × Nat × Nat
def Env.rv (e : Env) (i : Nat) : Value := .slice (e.row i).1 (e.row i).2.1 (e.row i).2.2
inductive Cap where
 | p (i : Nat)
 | v (x : Value)
inductive SA where
 | v (x : Value)
 | p (i off : Nat)
 | sl (i off n c : Nat)
 | row (i : Nat)
 | q (i off : Nat)
 | fn (f : FuncId) (fs cs : List Cap)
inductive TV where
 | one (x : SA)
 | agg (xs : List SA)
inductive SV where
 | one (x : SA)
 | agg (xs : List SA)
 | tup (xs : List TV)
inductive LB where
 | dead
 | cells (t : TypeId) (cs : List SA)
 | own (E : TypeId) (size n : Nat) (xs : List Value)
structure St where
 s : List (Nat × SV)
 m : List (Nat × LB)
 k : Nat
 f : List (World -> Prop)
 b : Nat := 0
def Cap.real (e : Env) : Cap -> Value
 | .p i => .pointer (some ⟨e.blk i, 0, none⟩)
 | .v x => x
def SA.real (e : Env) : SA -> Value
 | .v x => x
 | .p i o => .pointer (some ⟨e.blk i, o, none⟩)
 | .sl i o n c => .slice (some ⟨e.blk i, o, none⟩) n c
 | .row i => e.rv i
 | .q i o => .pointer ((e.row i).1.map fun a => ⟨a.block, o, none⟩)
 | .fn f fs cs => .func (.func f) (fs.map (Cap.real e)).toArray (cs.map (Cap.real e)).toArray
def reals (e : Env) (xs : List SA) : List Value := xs.map (SA.real e)
def TV.real (e : Env) : TV -> Value
 | .one x => x.real e
 | .agg xs => .agg (reals e xs).toArray
def SV.real (e : Env) : SV -> Value
 | .one x => x.real e
 | .agg xs => .agg (reals e xs).toArray
 | .tup xs => .tuple (xs.map (TV.real e)).toArray
def Cap.lt (k : Nat) : Cap -> Prop
 | .p i => i < k
 | .v _ => True
def SA.lt (k : Nat) : SA -> Prop
 | .v x => x.oneCell' = true
 | .p i _ | .sl i _ _ _ | .row i | .q i _ => i < k
 | .fn _ fs cs => (∀ c ∈ fs, c.lt k) /\ ∀ c ∈ cs, c.lt k
def SA.lt0 (k : Nat) : SA -> Prop
 | .v _ => True
 | x => x.lt k
def TV.lt (k : Nat) : TV -> Prop
 | .one x => x.lt0 k
 | .agg xs => ∀ x ∈ xs, x.lt k
def SV.lt (k : Nat) : SV -> Prop
 | .one x => x.lt0 k
 | .agg xs => ∀ x ∈ xs, x.lt k
 | .tup xs => ∀ x ∈ xs, x.lt k
def LB.lt (k : Nat) : LB -> Prop
 | .cells _ cs => ∀ c ∈ cs, c.lt k
 | _ => True
def Env.eqTo (k : Nat) (e e' : Env) : Prop := ∀ i, i < k -> e'.blk i = e.blk i /\ e'.row i = e.row i
theorem Env.eqTo.refl (k : Nat) (e : Env) : e.eqTo k e := fun _ _ => ⟨rfl, rfl⟩
theorem Env.eqTo.trans {k : Nat} {a b c : Env} (h : a.eqTo k b) (h' : b.eqTo k c) : a.eqTo k c := fun i hi => ⟨(h' i hi).1.trans (h i hi).1, (h' i hi).2.trans (h i hi).2⟩
theorem Env.eqTo.mono {k k' : Nat} {a b : Env} (h : a.eqTo k b) (hk : k' <= k) : a.eqTo k' b := fun i hi => h i (by omega)
theorem Cap.real_eq {k : Nat} {e e' : Env} (h : e.eqTo k e') : ∀ {x : Cap}, x.lt k -> x.real e' = x.real e
 | .p i, hx => by simp only [Cap.real, (h i hx).1]
 | .v _, _ => rfl
theorem ztt {k : Nat} {e e' : Env} (h : e.eqTo k e') {xs : List Cap} (hx : ∀ x ∈ xs, x.lt k) : xs.map (Cap.real e') = xs.map (Cap.real e) :=
 List.map_congr_left fun x m => Cap.real_eq h (hx x m)
theorem SA.real_eq {k : Nat} {e e' : Env} (h : e.eqTo k e') : ∀ {x : SA}, x.lt k -> x.real e' = x.real e
 | .v _, _ => rfl
 | .p i o, hx => by simp only [SA.real, (h i hx).1]
 | .sl i o n c, hx => by simp only [SA.real, (h i hx).1]
 | .row i, hx => by simp only [SA.real, Env.rv, (h i hx).2]
 | .q i o, hx => by simp only [SA.real, (h i hx).2]
 | .fn f fs cs, hx => by simp only [SA.real, ztt h hx.1, ztt h hx.2]
theorem zdb {k : Nat} {e e' : Env} (h : e.eqTo k e') {xs : List SA} (hx : ∀ x ∈ xs, x.lt k) : reals e' xs = reals e xs :=
 List.map_congr_left fun x m => SA.real_eq h (hx x m)
theorem SA.lt0_of {k : Nat} : ∀ {x : SA}, x.lt k -> x.lt0 k
 | .v _, _ => trivial
 | .p _ _, hx => hx
 | .sl _ _ _ _, hx => hx
 | .row _, hx => hx
 | .q _ _, hx => hx
 | .fn _ _ _, hx => hx
theorem SA.real_eq0 {k : Nat} {e e' : Env} (h : e.eqTo k e') : ∀ {x : SA}, x.lt0 k -> x.real e' = x.real e
 | .v _, _ => rfl
 | .p i o, hx => SA.real_eq (x := .p i o) h hx
 | .sl i o n c, hx => SA.real_eq (x := .sl i o n c) h hx
 | .row i, hx => SA.real_eq (x := .row i) h hx
 | .q i o, hx => SA.real_eq (x := .q i o) h hx
 | .fn f fs cs, hx => SA.real_eq (x := .fn f fs cs) h hx
theorem TV.real_eq {k : Nat} {e e' : Env} (h : e.eqTo k e') : ∀ {x : TV}, x.lt k -> x.real e' = x.real e
 | .one x, hx => SA.real_eq0 (x := x) h hx
 | .agg xs, hx => by simp only [TV.real, zdb h hx]
theorem SV.real_eq {k : Nat} {e e' : Env} (h : e.eqTo k e') : ∀ {x : SV}, x.lt k -> x.real e' = x.real e
 | .one x, hx => SA.real_eq0 (x := x) h hx
 | .agg xs, hx => by simp only [SV.real, zdb h hx]
 | .tup xs, hx => by
  simp only [SV.real]
  rw [List.map_congr_left fun x m => TV.real_eq h (hx x m)]
theorem Cap.lt_mono {k k' : Nat} (hk : k <= k') : ∀ {x : Cap}, x.lt k -> x.lt k'
 | .p i, hx => Nat.lt_of_lt_of_le hx hk
 | .v _, _ => trivial
theorem SA.lt_mono {k k' : Nat} (hk : k <= k') : ∀ {x : SA}, x.lt k -> x.lt k'
 | .v _, hx => hx
 | .p i o, hx => Nat.lt_of_lt_of_le hx hk
 | .sl i o n c, hx => Nat.lt_of_lt_of_le hx hk
 | .row i, hx => Nat.lt_of_lt_of_le hx hk
 | .q i o, hx => Nat.lt_of_lt_of_le hx hk
 | .fn f fs cs, hx => ⟨fun c m => Cap.lt_mono hk (hx.1 c m), fun c m => Cap.lt_mono hk (hx.2 c m)⟩
theorem SA.lt0_mono {k k' : Nat} (hk : k <= k') : ∀ {x : SA}, x.lt0 k -> x.lt0 k'
 | .v _, _ => trivial
 | .p i o, hx => SA.lt_mono (x := .p i o) hk hx
 | .sl i o n c, hx => SA.lt_mono (x := .sl i o n c) hk hx
 | .row i, hx => SA.lt_mono (x := .row i) hk hx
 | .q i o, hx => SA.lt_mono (x := .q i o) hk hx
 | .fn f fs cs, hx => SA.lt_mono (x := .fn f fs cs) hk hx
theorem TV.lt_mono {k k' : Nat} (hk : k <= k') : ∀ {x : TV}, x.lt k -> x.lt k'
 | .one x, hx => SA.lt0_mono (x := x) hk hx
 | .agg xs, hx => fun x m => SA.lt_mono hk (hx x m)
theorem SV.lt_mono {k k' : Nat} (hk : k <= k') : ∀ {x : SV}, x.lt k -> x.lt k'
 | .one x, hx => SA.lt0_mono (x := x) hk hx
 | .agg xs, hx => fun x m => SA.lt_mono hk (hx x m)
 | .tup xs, hx => fun x m => TV.lt_mono hk (hx x m)
theorem LB.lt_mono {k k' : Nat} (hk : k <= k') : ∀ {x : LB}, x.lt k -> x.lt k'
 | .dead, _ => trivial
 | .own .., _ => trivial
 | .cells t cs, hx => fun x m => SA.lt_mono hk (hx x m)
def dum : Obj := .deferred none
open Classical in
noncomputable def hide (H : Nat -> Prop) (w : World) : World := { w with heap := w.heap.mapIdx fun g o => if H g then dum else o }
open Classical in
theorem zcx (H : Nat -> Prop) (w : World) (g : Nat) : (hide H w).heap[g]? = (w.heap[g]?).map fun o => if H g then dum else o := by
 simp [hide]
def Sub (w w' : World) : Prop := ∀ (g : Nat) (o : Obj), w.heap[g]? = some o -> o ≠ dum -> w'.heap[g]? = some o
theorem zik (H : Nat -> Prop) (w : World) : Sub (hide H w) w := by
 intro g o hg ho
 rw [zcx] at hg
 cases hw : w.heap[g]? with
 | none => rw [hw] at hg; simp at hg
 | some x =>
  rw [hw] at hg
  simp only [Option.map_some, Option.some.injEq] at hg
  split at hg
  ·exact absurd hg.symm ho
  ·rw [hg]
theorem zax {H H' : Nat -> Prop} {w w' : World} (h : ∀ (g : Nat) (o : Obj), w.heap[g]? = some o -> ¬ H g -> w'.heap[g]? = some o /\ ¬ H' g) : Sub (hide H w) (hide H' w') := by
 intro g o hg ho
 rw [zcx] at hg
 cases hw : w.heap[g]? with
 | none => rw [hw] at hg; simp at hg
 | some x =>
  rw [hw] at hg
  simp only [Option.map_some, Option.some.injEq] at hg
  split at hg
  ·exact absurd hg.symm ho
  ·rename_i hn
   subst hg
   obtain ⟨h1, h2⟩ := h g x hw hn
   rw [zcx, h1]
   simp [h2]
def Up (F : World -> Prop) : Prop := ∀ w w', Sub w w' -> F w -> F w'
theorem Up.true : Up fun _ => True := fun _ _ _ _ => trivial
theorem Up.pure (p : Prop) : Up fun _ => p := fun _ _ _ h => h
theorem Up.and {F G : World -> Prop} (hF : Up F) (hG : Up G) : Up fun w => F w /\ G w := fun w w' h x => ⟨hF w w' h x.1, hG w w' h x.2⟩
theorem Up.ex {α : Sort _} {F : α -> World -> Prop} (h : ∀ x, Up (F x)) : Up fun w => ∃ x, F x w := fun w w' hs ⟨x, hx⟩ => ⟨x, h x w w' hs hx⟩
theorem Sub.cell {w w' : World} (h : Sub w w') {a : Addr} {v : Value} (hc : w.cell? a = some v) : w'.cell? a = some v := by
 unfold World.cell? at *
 cases hg : w.heap[a.block]? with
 | none => rw [hg] at hc; simp at hc
 | some o =>
  rw [hg] at hc
  cases o with
  | cells c t fz => rw [h a.block _ hg (by intro e; cases e)]; exact hc
  | _ => simp at hc
theorem Up.cell (a : Addr) (v : Value) : Up fun w => w.cell? a = some v := fun _ _ h hc => h.cell hc
theorem Up.block (g : Nat) (o : Obj) (ho : o ≠ dum) : Up fun w => w.heap[g]? = some o := fun _ _ h hc => h g o hc ho
def AllF : List (World -> Prop) -> World -> Prop
 | [], _ => True
 | F :: r, w => F w /\ AllF r w
theorem zhd {f : List (World -> Prop)} {w : World} : AllF f w ↔ ∀ F ∈ f, F w := by
 induction f with
 | nil => simp [AllF]
 | cons F r ih => simp [AllF, ih]
def LB.block (e : Env) (i : Nat) : LB -> Option Nat
 | .dead => none
 | .cells _ _ => some (e.blk i)
 | .own .. => (e.rv i).ownBlock
def At (e : Env) (m : List (Nat × LB)) (i g : Nat) : Prop := ∃ b, get i m = some b /\ b.block e i = some g
def Own (e : Env) (m : List (Nat × LB)) (g : Nat) : Prop := ∃ i, At e m i g
structure Fr (G : Nat -> Prop) (w0 w : World) : Prop where
 os : w.os = w0.os
 tape : w.tape = w0.tape
 output : w.output = w0.output
 size : w0.heap.size <= w.heap.size
 block : ∀ g, g < w0.heap.size -> ¬ G g -> w.heap[g]? = w0.heap[g]?
theorem Fr.refl (G : Nat -> Prop) (w : World) : Fr G w w := ⟨rfl, rfl, rfl, Nat.le_refl _, fun _ _ _ => rfl⟩
theorem Fr.trans {G : Nat -> Prop} {G' : Nat -> Prop} {a b c : World} (h : Fr G a b) (h' : Fr G' b c) (hG : ∀ g, g < a.heap.size -> G' g -> G g) : Fr G a c :=
 ⟨h'.os.trans h.os, h'.tape.trans h.tape, h'.output.trans h.output, Nat.le_trans h.size h'.size, fun g hg hn => (h'.block g (Nat.lt_of_lt_of_le hg h.size) (fun x => hn (hG g hg x))).trans (h.block g hg hn)⟩
theorem Fr.below {w0 w : World} (h : Fr (fun _ => False) w0 w) : Below w0.heap.size w0 w := ⟨h.os, h.tape, h.output, h.size, fun g hg => h.block g hg id⟩
theorem Fr.of_below {G : Nat -> Prop} {w0 w : World} (h : Below w0.heap.size w0 w) : Fr G w0 w := ⟨h.os, h.tape, h.output, h.size, fun g hg _ => h.block g hg⟩
structure Cx where
 w0 : World
 G : Nat -> Prop
 H : Nat -> Prop
 hH : ∀ g, H g -> g < w0.heap.size
 hG : ∀ g, G g -> ¬ H g
 e0 : Env
 n0 : Nat
 n : Nat
 d : List Deferred
structure Mem (cx : Cx) (e : Env) (m : List (Nat × LB)) (k : Nat) (f : List (World -> Prop)) (w : World) : Prop where
 fr : Fr cx.G cx.w0 w
 ids : ∀ i, i < cx.n0 -> e.blk i = cx.e0.blk i
 low : cx.n0 <= k
 cells : ∀ i t cs, get i m = some (.cells t cs) -> Blk w (e.blk i) t (reals e cs).toArray
 own : ∀ i E z n xs, get i m = some (.own E z n xs) -> w.ownsRow 0 E z (e.rv i) n xs
 sc : ∀ i b, get i m = some b -> i < k /\ b.lt k
 free : ∀ i g, At e m i g -> cx.w0.heap.size <= g \/ cx.G g
 apart : ∀ i j g, At e m i g -> At e m j g -> i = j
 up : ∀ F ∈ f, Up F
 facts : ∀ F ∈ f, F (hide (fun g => cx.H g \/ Own e m g) w)
structure Sat (cx : Cx) (e : Env) (st : St) (a : Act) (w : World) : Prop where
 base : cx.n0 = st.b
 size : a.tmps.size = cx.n
 defers : a.defers = cx.d
 slots : ∀ i v, get i st.s = some v -> v.lt st.k /\ a.tmps[i]? = some (v.real e)
 mem : Mem cx e st.m st.k st.f w
section
variable {cx : Cx} {e : Env} {m : List (Nat × LB)} {k : Nat} {f : List (World -> Prop)} {w w' : World}
theorem Mem.lt (h : Mem cx e m k f w) {i g : Nat} (hg : At e m i g) : g < w.heap.size := by
 obtain ⟨b, hb, hg⟩ := hg
 cases b with
 | dead => cases hg
 | cells t cs => cases hg; exact (h.cells i t cs hb).lt
 | own E z n xs => exact ((h.own i E z n xs hb).lt g hg).2
theorem Mem.fact (h : Mem cx e m k f w) : AllF f w := by
 rw [zhd]
 exact fun F hF => h.up F hF _ _ (zik _ w) (h.facts F hF)
theorem Mem.hidden (h : Mem cx e m k f w) : AllF f (hide (fun g => cx.H g \/ Own e m g) w) := by
 rw [zhd]
 exact h.facts
theorem Mem.later (h : Mem cx e m k f w) (hl : zbr w w') : Mem cx e m k f w' := by
 refine ⟨h.fr.trans (G' := fun _ => False) (.of_below hl) (fun _ _ x => x.elim), h.ids, h.low, fun i t cs hi => (h.cells i t cs hi).bel hl, fun i E z n xs hi => zjs (h.own i E z n xs hi) hl, h.sc, h.free, h.apart, h.up, fun F hF => ?_⟩
 refine h.up F hF _ _ (zax fun g o hg hn => ⟨?_, hn⟩) (h.facts F hF)
 rw [hl.block g (Array.getElem?_eq_some_iff.1 hg).1, hg]
theorem Mem.add (h : Mem cx e m k f w) {F : World -> Prop} (hu : Up F) (hF : F (hide (fun g => cx.H g \/ Own e m g) w)) : Mem cx e m k (F :: f) w := by
 refine ⟨h.fr, h.ids, h.low, h.cells, h.own, h.sc, h.free, h.apart, fun G hG => ?_, fun G hG => ?_⟩
 ·rcases List.mem_cons.1 hG with rfl | hG
  ·exact hu
  ·exact h.up G hG
 ·rcases List.mem_cons.1 hG with rfl | hG
  ·exact hF
  ·exact h.facts G hG
theorem Mem.next (h : Mem cx e m k f w) {k' : Nat} (hk : k <= k') : Mem cx e m k' f w :=
 ⟨h.fr, h.ids, Nat.le_trans h.low hk, h.cells, h.own, fun i b hi => ⟨Nat.lt_of_lt_of_le (h.sc i b hi).1 hk, LB.lt_mono hk (h.sc i b hi).2⟩, h.free, h.apart, h.up, h.facts⟩
def Env.setBlk (e : Env) (i g : Nat) : Env := { e with blk := fun j => if j = i then g else e.blk j }
def Env.setRow (e : Env) (i : Nat) (v : Option Addr × Nat × Nat) : Env := { e with row := fun j => if j = i then v else e.row j }
theorem Env.eqTo_blk (e : Env) (k g : Nat) : e.eqTo k (e.setBlk k g) := fun i hi => ⟨by simp [Env.setBlk, Nat.ne_of_lt hi], rfl⟩
theorem Env.eqTo_row (e : Env) (k : Nat) (v : Option Addr × Nat × Nat) : e.eqTo k (e.setRow k v) := fun i hi => ⟨rfl, by simp [Env.setRow, Nat.ne_of_lt hi]⟩
theorem Env.setBlk_self (e : Env) (k g : Nat) : (e.setBlk k g).blk k = g := by simp [Env.setBlk]
theorem Env.setRow_self (e : Env) (k : Nat) (v : Option Addr × Nat × Nat) : (e.setRow k v).rv k = .slice v.1 v.2.1 v.2.2 := by simp [Env.setRow, Env.rv]
theorem LB.block_eq {e e' : Env} {k i : Nat} (h : e.eqTo k e') (hi : i < k) : ∀ b : LB, b.block e' i = b.block e i
 | .dead => rfl
 | .cells _ _ => by simp only [LB.block, (h i hi).1]
 | .own .. => by simp only [LB.block, Env.rv, (h i hi).2]
theorem Mem.at_eq (h : Mem cx e m k f w) {e' : Env} (he : e.eqTo k e') {i g : Nat} : At e' m i g ↔ At e m i g := by
 constructor
 ·rintro ⟨b, hb, hg⟩
  exact ⟨b, hb, by rw [<- LB.block_eq he (h.sc i b hb).1]; exact hg⟩
 ·rintro ⟨b, hb, hg⟩
  exact ⟨b, hb, by rw [LB.block_eq he (h.sc i b hb).1]; exact hg⟩
theorem Mem.env (h : Mem cx e m k f w) {e' : Env} (he : e.eqTo k e') : Mem cx e' m k f w := by
 refine ⟨h.fr, fun i hi => ((he i (Nat.lt_of_lt_of_le hi h.low)).1).trans (h.ids i hi), h.low, fun i t cs hi => ?_, fun i E z n xs hi => ?_, h.sc, fun i g hg => h.free i g ((h.at_eq he).1 hg), fun i j g hi hj => h.apart i j g ((h.at_eq he).1 hi) ((h.at_eq he).1 hj), h.up, fun F hF => ?_⟩
 ·rw [(he i (h.sc i _ hi).1).1, zdb he (h.sc i _ hi).2]
  exact h.cells i t cs hi
 ·simp only [Env.rv, (he i (h.sc i _ hi).1).2]
  exact h.own i E z n xs hi
 ·refine h.up F hF _ _ (zax fun g o hg hn => ⟨hg, fun hx => hn ?_⟩) (h.facts F hF)
  rcases hx with hx | ⟨i, hx⟩
  ·exact .inl hx
  ·exact .inr ⟨i, (h.at_eq he).1 hx⟩
theorem Mem.new (h : Mem cx e m k f w) (t : TypeId) (cs : List SA) (hc : ∀ c ∈ cs, c.lt k) :
  Mem cx (e.setBlk k w.heap.size) ((k, .cells t cs) :: m) (k + 1) f (w.alloc (.cells (reals e cs).toArray t)) := by
 have hl : zbr w (w.alloc (.cells (reals e cs).toArray t)) := Below.alloc (Below.refl _ _) (Nat.le_refl _) _
 have h1 := ((h.later hl).env (e.eqTo_blk k w.heap.size)).next (Nat.le_succ k)
 have hfree : ∀ {i b}, get i m = some b -> i ≠ k := fun hi => Nat.ne_of_lt (h.sc _ _ hi).1
 have hat : ∀ {i g}, At (e.setBlk k w.heap.size) ((k, LB.cells t cs) :: m) i g -> (i = k /\ g = w.heap.size) \/ (i ≠ k /\ At (e.setBlk k w.heap.size) m i g) := by
  rintro i g ⟨b, hb, hg⟩
  rcases zah hb with ⟨rfl, rfl⟩ | ⟨hne, hb⟩
  ·simp only [LB.block, Env.setBlk_self, Option.some.injEq] at hg
   exact .inl ⟨rfl, hg.symm⟩
  ·exact .inr ⟨hne, b, hb, hg⟩
 have hold : ∀ {i g}, At (e.setBlk k w.heap.size) m i g -> g < w.heap.size := fun hg => h.lt ((h.at_eq (e.eqTo_blk k _)).1 hg)
 refine ⟨h1.fr, h1.ids, h1.low, fun i t' cs' hi => ?_, fun i E z n xs hi => ?_, fun i b hi => ?_, fun i g hg => ?_, fun i j g hi hj => ?_, h1.up, fun F hF => ?_⟩
 ·rcases zah hi with ⟨rfl, e1⟩ | ⟨hne, hi⟩
  ·cases e1
   rw [Env.setBlk_self, zdb (e.eqTo_blk i _) hc]
   exact Blk.new _ _ _
  ·exact h1.cells i t' cs' hi
 ·rcases zah hi with ⟨rfl, e1⟩ | ⟨hne, hi⟩
  ·cases e1
  ·exact h1.own i E z n xs hi
 ·rcases zah hi with ⟨rfl, e1⟩ | ⟨hne, hi⟩
  ·subst e1
   exact ⟨Nat.lt_succ_self _, fun c hm => SA.lt_mono (Nat.le_succ _) (hc c hm)⟩
  ·exact h1.sc i b hi
 ·rcases hat hg with ⟨rfl, rfl⟩ | ⟨hne, hg⟩
  ·exact .inl h.fr.size
  ·exact h1.free i g hg
 ·rcases hat hi with ⟨rfl, rfl⟩ | ⟨hne, hi⟩
  ·rcases hat hj with ⟨rfl, _⟩ | ⟨_, hj⟩
   ·rfl
   ·have := hold hj; omega
  ·rcases hat hj with ⟨rfl, rfl⟩ | ⟨_, hj⟩
   ·have := hold hi; omega
   ·exact h1.apart i j g hi hj
 ·refine h.up F hF _ _ (zax fun g o hg hn => ?_) (h.facts F hF)
  have hgs := (Array.getElem?_eq_some_iff.1 hg).1
  refine ⟨by rw [hl.block g hgs, hg], fun hx => hn ?_⟩
  rcases hx with hx | ⟨i, hx⟩
  ·exact .inl hx
  ·rcases hat hx with ⟨rfl, rfl⟩ | ⟨_, hx⟩
   ·omega
   ·exact .inr ⟨i, (h.at_eq (e.eqTo_blk k _)).1 hx⟩
theorem Mem.set (h : Mem cx e m k f w) {i : Nat} {t : TypeId} {cs cs' : List SA} (hi : get i m = some (.cells t cs)) (hc : ∀ c ∈ cs', c.lt k)
  (hb : Blk w' (e.blk i) t (reals e cs').toArray) (hk : ∀ g, g ≠ e.blk i -> w'.heap[g]? = w.heap[g]?) (hos : w'.os = w.os) (htp : w'.tape = w.tape) (hout : w'.output = w.output) (hsz : w'.heap.size = w.heap.size) :
  Mem cx e ((i, .cells t cs') :: m) k f w' := by
 have hat : ∀ {j g}, At e ((i, LB.cells t cs') :: m) j g ↔ At e m j g := by
  intro j g
  constructor
  ·rintro ⟨b, hb, hg⟩
   rcases zah hb with ⟨rfl, rfl⟩ | ⟨hne, hb⟩
   ·exact ⟨_, hi, hg⟩
   ·exact ⟨b, hb, hg⟩
  ·rintro ⟨b, hb2, hg⟩
   by_cases e1 : j = i
   ·subst e1
    rw [hi] at hb2
    cases hb2
    exact ⟨_, za4 _ _ _, hg⟩
   ·exact ⟨b, by rw [zbw e1]; exact hb2, hg⟩
 have hme : At e m i (e.blk i) := ⟨_, hi, rfl⟩
 have hother : ∀ {j b g}, j ≠ i -> get j m = some b -> b.block e j = some g -> w'.heap[g]? = w.heap[g]? := fun hj hb hg => hk _ fun e1 => hj (h.apart _ _ _ ⟨_, hb, hg⟩ (e1 ▸ hme))
 refine ⟨⟨hos.trans h.fr.os, htp.trans h.fr.tape, hout.trans h.fr.output, by rw [hsz]; exact h.fr.size, fun g hg hn => ?_⟩, h.ids, h.low, fun j t' cs2 hj => ?_, fun j E z n xs hj => ?_, fun j b hj => ?_, fun j g hg => h.free j g (hat.1 hg), fun j l g hj hl => h.apart j l g (hat.1 hj) (hat.1 hl), h.up, fun F hF => ?_⟩
 ·rw [hk g fun e1 => ?_]
  ·exact h.fr.block g hg hn
  ·rcases h.free i g (e1 ▸ hme) with h1 | h1
   ·omega
   ·exact hn h1
 ·rcases zah hj with ⟨rfl, e1⟩ | ⟨hne, hj⟩
  ·cases e1
   exact hb
  ·exact (hother hne hj rfl).trans (h.cells j t' cs2 hj)
 ·rcases zah hj with ⟨rfl, e1⟩ | ⟨hne, hj⟩
  ·cases e1
  ·exact zd4 (h.own j E z n xs hj) fun g hg => hother hne hj hg
 ·rcases zah hj with ⟨rfl, e1⟩ | ⟨hne, hj⟩
  ·subst e1
   exact ⟨(h.sc _ _ hi).1, hc⟩
  ·exact h.sc j b hj
 ·refine h.up F hF _ _ (zax fun g o hg hn => ?_) (h.facts F hF)
  refine ⟨by rw [hk g (fun e1 => hn (.inr ⟨i, e1 ▸ hme⟩)), hg], fun hx => hn ?_⟩
  rcases hx with hx | ⟨j, hx⟩
  ·exact .inl hx
  ·exact .inr ⟨j, hat.1 hx⟩
theorem Mem.setr (h : Mem cx e m k f w) {i E z n : Nat} {xs xs' : List Value} (hi : get i m = some (.own E z n xs)) (hb : w'.ownsRow 0 E z (e.rv i) n xs')
  (hk : ∀ g, (e.rv i).ownBlock ≠ some g -> w'.heap[g]? = w.heap[g]?) (hos : w'.os = w.os) (htp : w'.tape = w.tape) (hout : w'.output = w.output) (hsz : w'.heap.size = w.heap.size) :
  Mem cx e ((i, .own E z n xs') :: m) k f w' := by
 have hat : ∀ {j g}, At e ((i, LB.own E z n xs') :: m) j g ↔ At e m j g := by
  intro j g
  constructor
  ·rintro ⟨b, hb, hg⟩
   rcases zah hb with ⟨rfl, rfl⟩ | ⟨hne, hb⟩
   ·exact ⟨_, hi, hg⟩
   ·exact ⟨b, hb, hg⟩
  ·rintro ⟨b, hb2, hg⟩
   by_cases e1 : j = i
   ·subst e1
    rw [hi] at hb2
    cases hb2
    exact ⟨_, za4 _ _ _, hg⟩
   ·exact ⟨b, by rw [zbw e1]; exact hb2, hg⟩
 have hme : ∀ {g}, (e.rv i).ownBlock = some g -> At e m i g := fun hg => ⟨_, hi, hg⟩
 have hother : ∀ {j b g}, j ≠ i -> get j m = some b -> b.block e j = some g -> w'.heap[g]? = w.heap[g]? := fun hj hb hg => hk _ fun e1 => hj (h.apart _ _ _ ⟨_, hb, hg⟩ (hme e1))
 refine ⟨⟨hos.trans h.fr.os, htp.trans h.fr.tape, hout.trans h.fr.output, by rw [hsz]; exact h.fr.size, fun g hg hn => ?_⟩, h.ids, h.low, fun j t' cs2 hj => ?_, fun j E' z' n' xs2 hj => ?_, fun j b hj => ?_, fun j g hg => h.free j g (hat.1 hg), fun j l g hj hl => h.apart j l g (hat.1 hj) (hat.1 hl), h.up, fun F hF => ?_⟩
 ·rw [hk g fun e1 => ?_]
  ·exact h.fr.block g hg hn
  ·rcases h.free i g (hme e1) with h1 | h1
   ·omega
   ·exact hn h1
 ·rcases zah hj with ⟨rfl, e1⟩ | ⟨hne, hj⟩
  ·cases e1
  ·exact (hother hne hj rfl).trans (h.cells j t' cs2 hj)
 ·rcases zah hj with ⟨rfl, e1⟩ | ⟨hne, hj⟩
  ·cases e1
   exact hb
  ·exact zd4 (h.own j E' z' n' xs2 hj) fun g hg => hother hne hj hg
 ·rcases zah hj with ⟨rfl, e1⟩ | ⟨hne, hj⟩
  ·subst e1
   exact ⟨(h.sc _ _ hi).1, trivial⟩
  ·exact h.sc j b hj
 ·refine h.up F hF _ _ (zax fun g o hg hn => ?_) (h.facts F hF)
  refine ⟨by rw [hk g (fun e1 => hn (.inr ⟨i, hme e1⟩)), hg], fun hx => hn ?_⟩
  rcases hx with hx | ⟨j, hx⟩
  ·exact .inl hx
  ·exact .inr ⟨j, hat.1 hx⟩
def kill : Option Nat -> List (Nat × LB) -> List (Nat × LB)
 | some i, m => (i, LB.dead) :: m
 | none, m => m
def ze2 (e : Env) (m : List (Nat × LB)) : Option Nat -> Option Nat
 | none => none
 | some i => (get i m).bind fun b => b.block e i
theorem Mem.grow (h : Mem cx e m k f w) {v : Option Addr × Nat × Nat} {E : TypeId} {z n : Nat} {xs : List Value} (old : Option Nat) (hold : ∀ i, old = some i -> i < k)
  (hg : w.grownBy w' (ze2 e m old)) (hown : w'.ownsRow 0 E z (.slice v.1 v.2.1 v.2.2) n xs)
  (hnew : ∀ g, (Value.slice v.1 v.2.1 v.2.2).ownBlock = some g -> w.heap.size <= g \/ ze2 e m old = some g) :
  Mem cx (e.setRow k v) ((k, .own E z n xs) :: kill old m) (k + 1) f w' := by
 obtain ⟨m1, hm1⟩ : ∃ m1, m1 = kill old m := ⟨_, rfl⟩
 rw [<- hm1]
 have hsub : ∀ {j b}, get j m1 = some b -> b = .dead \/ (get j m = some b /\ old ≠ some j) := by
  intro j b hj
  cases old with
  | none => simp only [kill] at hm1; subst hm1; exact .inr ⟨hj, fun x => by cases x⟩
  | some i =>
   simp only [kill] at hm1
   subst hm1
   rcases zah hj with ⟨rfl, rfl⟩ | ⟨hne, hj⟩
   ·exact .inl rfl
   ·exact .inr ⟨hj, fun x => hne (Option.some.inj x).symm⟩
 have hscd : ∀ {j b}, get j m1 = some b -> j < k := by
  intro j b hj
  cases old with
  | none => simp only [kill] at hm1; subst hm1; exact (h.sc _ _ hj).1
  | some i =>
   simp only [kill] at hm1
   subst hm1
   rcases zah hj with ⟨rfl, rfl⟩ | ⟨hne, hj⟩
   ·exact hold j rfl
   ·exact (h.sc _ _ hj).1
 have hrow : ∀ {g}, ze2 e m old = some g -> ∃ i, old = some i /\ At e m i g := by
  intro g h1
  cases old with
  | none => cases h1
  | some i =>
   simp only [ze2] at h1
   cases hb : get i m with
   | none => rw [hb] at h1; cases h1
   | some b =>
    rw [hb] at h1
    exact ⟨i, rfl, b, hb, h1⟩
 have heq := e.eqTo_row k v
 have hat1 : ∀ {j g}, At (e.setRow k v) m1 j g -> At e m j g /\ old ≠ some j := by
  rintro j g ⟨b, hb, hg⟩
  rcases hsub hb with rfl | ⟨hb, hne⟩
  ·cases hg
  ·exact ⟨(h.at_eq heq).1 ⟨b, hb, hg⟩, hne⟩
 have hat : ∀ {j g}, At (e.setRow k v) ((k, LB.own E z n xs) :: m1) j g -> (j = k /\ (Value.slice v.1 v.2.1 v.2.2).ownBlock = some g) \/ (j ≠ k /\ At e m j g /\ old ≠ some j) := by
  rintro j g ⟨b, hb, hg⟩
  rcases zah hb with ⟨rfl, rfl⟩ | ⟨hne, hb⟩
  ·simp only [LB.block, Env.setRow_self] at hg
   exact .inl ⟨rfl, hg⟩
  ·exact .inr ⟨hne, hat1 ⟨b, hb, hg⟩⟩
 have hkeep : ∀ {j g}, At e m j g -> old ≠ some j -> w'.heap[g]? = w.heap[g]? := by
  intro j g hj hne
  refine hg.block g (h.lt hj) fun e1 => ?_
  obtain ⟨i, hi, hi2⟩ := hrow e1.symm
  exact hne (hi.trans (congrArg some (h.apart _ _ _ hi2 hj)))
 refine ⟨⟨hg.os.trans h.fr.os, hg.tape.trans h.fr.tape, hg.output.trans h.fr.output, Nat.le_trans h.fr.size hg.size, fun g hgs hn => ?_⟩, fun i hi => ((heq i (Nat.lt_of_lt_of_le hi h.low)).1).trans (h.ids i hi), Nat.le_succ_of_le h.low, fun j t cs hj => ?_, fun j E' z' n' xs' hj => ?_, fun j b hj => ?_, fun j g hj => ?_, fun j l g hj hl => ?_, h.up, fun F hF => ?_⟩
 ·rw [hg.block g (Nat.lt_of_lt_of_le hgs h.fr.size) fun e1 => ?_]
  ·exact h.fr.block g hgs hn
  ·obtain ⟨i, hi, hi2⟩ := hrow e1.symm
   rcases h.free i g hi2 with h1 | h1
   ·omega
   ·exact hn h1
 ·rcases zah hj with ⟨rfl, e1⟩ | ⟨hne, hj⟩
  ·cases e1
  ·rcases hsub hj with h1 | ⟨hj, hno⟩
   ·cases h1
   ·rw [(heq j (h.sc j _ hj).1).1, zdb heq (h.sc j _ hj).2]
    exact (hkeep ⟨_, hj, rfl⟩ hno).trans (h.cells j t cs hj)
 ·rcases zah hj with ⟨rfl, e1⟩ | ⟨hne, hj⟩
  ·cases e1
   rw [Env.setRow_self]
   exact hown
  ·rcases hsub hj with h1 | ⟨hj, hno⟩
   ·cases h1
   ·simp only [Env.rv, (heq j (h.sc j _ hj).1).2]
    exact zd4 (h.own j _ _ _ _ hj) fun g hg2 => hkeep ⟨_, hj, hg2⟩ hno
 ·rcases zah hj with ⟨rfl, e1⟩ | ⟨hne, hj⟩
  ·subst e1
   exact ⟨Nat.lt_succ_self _, trivial⟩
  ·refine ⟨Nat.lt_succ_of_lt (hscd hj), ?_⟩
   rcases hsub hj with rfl | ⟨hj, _⟩
   ·trivial
   ·exact LB.lt_mono (Nat.le_succ _) (h.sc j b hj).2
 ·rcases hat hj with ⟨rfl, hv⟩ | ⟨_, hj, _⟩
  ·rcases hnew g hv with h1 | h1
   ·exact .inl (Nat.le_trans h.fr.size h1)
   ·obtain ⟨i, _, hi2⟩ := hrow h1
    exact h.free i g hi2
  ·exact h.free j g hj
 ·rcases hat hj with ⟨hj0, hv⟩ | ⟨hj0, hj1, hjo⟩
  ·rcases hat hl with ⟨hl0, _⟩ | ⟨hl0, hl1, hlo⟩
   ·rw [hj0, hl0]
   ·rcases hnew g hv with h1 | h1
    ·have := h.lt hl1; omega
    ·obtain ⟨i, hi, hi2⟩ := hrow h1
     exact absurd (hi.trans (congrArg some (h.apart _ _ _ hi2 hl1))) hlo
  ·rcases hat hl with ⟨hl0, hv⟩ | ⟨hl0, hl1, hlo⟩
   ·rcases hnew g hv with h1 | h1
    ·have := h.lt hj1; omega
    ·obtain ⟨i, hi, hi2⟩ := hrow h1
     exact absurd (hi.trans (congrArg some (h.apart _ _ _ hi2 hj1))) hjo
   ·exact h.apart j l g hj1 hl1
 ·refine h.up F hF _ _ (zax fun g o hgo hn => ?_) (h.facts F hF)
  have hgs := (Array.getElem?_eq_some_iff.1 hgo).1
  refine ⟨?_, fun hx => hn ?_⟩
  ·rw [hg.block g hgs fun e1 => ?_, hgo]
   obtain ⟨i, _, hi2⟩ := hrow e1.symm
   exact hn (.inr ⟨i, hi2⟩)
  ·rcases hx with hx | ⟨j, hx⟩
   ·exact .inl hx
   ·rcases hat hx with ⟨rfl, hv⟩ | ⟨_, hx, _⟩
    ·rcases hnew g hv with h1 | h1
     ·omega
     ·obtain ⟨i, _, hi2⟩ := hrow h1
      exact .inr ⟨i, hi2⟩
    ·exact .inr ⟨j, hx⟩
end
end Go.Proofs.Sym
end
section
set_option linter.unusedVariables false
set_option linter.unusedSimpArgs false
namespace Go.Proofs.Sym
open Go.RowKit Go.Proofs.Base Go.Proofs.Mono
structure TyI where
 size : Nat
 bytes : Nat
 agg : Bool
 zero : List Value
def TyI.val (i : TyI) : Value := match i.agg with
 | true => .agg i.zero.toArray
 | false => i.zero.headD undef
structure Tab where
 ty : List (Nat × TyI)
 u : List (Nat × TypeDesc)
 fld : List (Nat × List (Nat × Nat))
 eqs : List (Nat × Nat)
def zxl : TypeDesc -> Bool
 | .struct _ => true
 | .array _ _ => true
 | _ => false
def zkk : TypeDesc -> Bool
 | .interface _ => true
 | _ => false
def zf8 : List Value -> List Value -> Option Bool
 | [], [] => some true
 | .int .i64 a :: xs, .int .i64 b :: ys => match zf8 xs ys with
  | some r => some (decide (a = b) && r)
  | none => none
 | _, _ => none
structure Tab.Ok (P : Program) (T : Tab) : Prop where
 mixed : P.follows .mixedOrders = true
 ty : ∀ p ∈ T.ty, (P.info? p.1).map (fun f => (f.size, f.bytes, f.zero)) = some (p.2.size, p.2.bytes, some p.2.val) /\ (P.underlying p.1).map zxl = some p.2.agg /\ p.2.zero.length = p.2.size /\ (p.2.agg = false -> p.2.size = 1) /\ (∀ v ∈ p.2.zero, v.oneCell' = true)
 u : ∀ p ∈ T.u, P.underlying p.1 = some p.2
 fld : ∀ p ∈ T.fld, ∃ gs, P.underlying p.1 = some (.struct gs) /\ gs.toList.map (fun f => (f.offset, f.type)) = p.2
 eqs : ∀ p ∈ T.eqs, ∀ (xs ys : List Value) (r : Bool) (w : World) (x y : Operand), xs.length = p.2 -> zf8 xs ys = some r ->
  (do eqGuard .eql p.1 x y (.agg xs.toArray) (.agg ys.toArray); binOp .eql p.1 (.agg xs.toArray) (.agg ys.toArray) : Sem Value).run P w = .ok (.bool r) w /\
  (do eqGuard .neq p.1 x y (.agg xs.toArray) (.agg ys.toArray); binOp .neq p.1 (.agg xs.toArray) (.agg ys.toArray) : Sem Value).run P w = .ok (.bool !r) w
theorem zak {α : Type _} {i : Nat} {x : α} : ∀ {l : List (Nat × α)}, get i l = some x -> (i, x) ∈ l
 | [], h => by cases h
 | (j, y) :: r, h => by
  rcases zah h with ⟨rfl, rfl⟩ | ⟨_, h⟩
  ·exact List.mem_cons_self
  ·exact List.mem_cons_of_mem _ (zak h)
section
variable {P : Program} {T : Tab} (hT : T.Ok P)
include hT
theorem Tab.Ok.size {t : Nat} {i : TyI} (h : get t T.ty = some i) (w : World) : (sizeOf t).run P w = .ok i.size w := by
 have := (hT.ty _ (zak h)).1
 cases hi : P.info? t with
 | none => rw [hi] at this; simp at this
 | some f =>
  rw [hi] at this
  simp only [Option.map_some, Option.some.injEq, Prod.mk.injEq] at this
  simp [sizeOf, typeInfo, hi, this.1]
theorem Tab.Ok.zero {t : Nat} {i : TyI} (h : get t T.ty = some i) (w : World) : (zeroValue t).run P w = .ok i.val w := by
 have := (hT.ty _ (zak h)).1
 cases hi : P.info? t with
 | none => rw [hi] at this; simp at this
 | some f =>
  rw [hi] at this
  simp only [Option.map_some, Option.some.injEq, Prod.mk.injEq] at this
  simp [zeroValue, typeInfo, hi, this.2.2]
theorem Tab.Ok.info {t : Nat} {i : TyI} (h : get t T.ty = some i) : ∃ f, P.info? t = some f /\ f.size = i.size /\ f.bytes = i.bytes /\ f.zero = some i.val := by
 have := (hT.ty _ (zak h)).1
 cases hi : P.info? t with
 | none => rw [hi] at this; simp at this
 | some f =>
  rw [hi] at this
  simp only [Option.map_some, Option.some.injEq, Prod.mk.injEq] at this
  exact ⟨f, rfl, this⟩
theorem Tab.Ok.isAgg {t : Nat} {i : TyI} (h : get t T.ty = some i) (w : World) : (isAgg t).run P w = .ok i.agg w := by
 have := (hT.ty _ (zak h)).2.1
 cases hi : P.underlying t with
 | none => rw [hi] at this; simp at this
 | some d =>
  rw [hi] at this
  simp only [Option.map_some, Option.some.injEq] at this
  rw [<- this]
  simp only [Go.isAgg, Sem.run_bind, run_underlying hi, Result.andThen_ok]
  cases d <;> rfl
theorem Tab.Ok.cells {t : Nat} {i : TyI} (h : get t T.ty = some i) : i.val.cells = i.zero.toArray := by
 obtain ⟨_, _, h3, h4, h5⟩ := hT.ty _ (zak h)
 unfold TyI.val
 cases ha : i.agg with
 | true => rfl
 | false =>
  have hl := h3.trans (h4 ha)
  match hz : i.zero, hl with
  | [z], _ =>
   have h1 := h5 z (by simp [hz])
   cases z <;> simp_all [Value.cells, Value.oneCell']
end
def ev (s : List (Nat × SV)) : Operand -> Option SV
 | .tmp t => get t s
 | .const v => some (.one (.v v))
 | .global g => some (.one (.v (.pointer (some ⟨g, 0, none⟩))))
 | .func f => some (.one (.fn f [] []))
section
variable {cx : Cx} {e : Env} {st : St} {a : Act} {w : World}
theorem Sat.ev (h : Sat cx e st a w) {x : Operand} {v : SV} (hv : ev st.s x = some v) : v.lt st.k /\ a.eval x = v.real e := by
 cases x with
 | tmp t =>
  obtain ⟨h1, h2⟩ := h.slots t v hv
  exact ⟨h1, by simp [Act.eval, Array.getD_eq_getD_getElem?, h2]⟩
 | const u => cases hv; exact ⟨trivial, rfl⟩
 | global g => cases hv; exact ⟨trivial, rfl⟩
 | func f => cases hv; exact ⟨⟨by simp, by simp⟩, rfl⟩
end
def zo6 : SV -> Option (List SA)
 | .agg xs => some xs
 | .one (.v (.agg cs)) => match cs.toList.all Value.oneCell' with
  | true => some (cs.toList.map SA.v)
  | false => none
 | _ => none
def cellsOf (v : SV) : Option (List SA) := match v with
 | .one (.v (.agg cs)) => match cs.toList.all Value.oneCell' with
  | true => some (cs.toList.map SA.v)
  | false => none
 | .one (.v (.tuple _)) => none
 | .one x => some [x]
 | .agg xs => some xs
 | .tup _ => none
theorem zbd (e : Env) (cs : List Value) : reals e (cs.map SA.v) = cs := by
 simp only [reals, List.map_map]
 exact (List.map_congr_left (fun x _ => rfl)).trans (List.map_id _)
theorem zgz {v : SV} {xs : List SA} (h : zo6 v = some xs) (e : Env) {k : Nat} (hl : v.lt k) : v.real e = .agg (reals e xs).toArray /\ ∀ x ∈ xs, x.lt k := by
 match v, h with
 | .agg ys, h => cases h; exact ⟨rfl, hl⟩
 | .one (.v (.agg cs)), h =>
  simp only [zo6] at h
  split at h
  ·rename_i hone
   cases h
   refine ⟨by rw [zbd]; rfl, fun x hx => ?_⟩
   obtain ⟨u, hu, rfl⟩ := List.mem_map.1 hx
   exact List.all_eq_true.1 hone u hu
  ·cases h
theorem zf0 {v : SV} {xs : List SA} (h : cellsOf v = some xs) (e : Env) {k : Nat} (hl : v.lt k) : (v.real e).cells = (reals e xs).toArray /\ ∀ x ∈ xs, x.lt k := by
 match v, h with
 | .agg ys, h => cases h; exact ⟨rfl, hl⟩
 | .one (.v y), h =>
  cases y with
  | agg cs =>
   simp only [cellsOf] at h
   split at h
   ·rename_i hone
    cases h
    refine ⟨by rw [zbd]; rfl, fun x hx => ?_⟩
    obtain ⟨u, hu, rfl⟩ := List.mem_map.1 hx
    exact List.all_eq_true.1 hone u hu
   ·cases h
  | tuple ts => simp [cellsOf] at h
  | _ =>
   simp only [cellsOf, Option.some.injEq] at h
   subst h
   exact ⟨rfl, fun x hx => by rw [List.mem_singleton.1 hx]; rfl⟩
 | .one (.p i o), h =>
  simp only [cellsOf, Option.some.injEq] at h; subst h
  exact ⟨rfl, fun x hx => by rw [List.mem_singleton.1 hx]; exact hl⟩
 | .one (.sl i o n c), h =>
  simp only [cellsOf, Option.some.injEq] at h; subst h
  exact ⟨rfl, fun x hx => by rw [List.mem_singleton.1 hx]; exact hl⟩
 | .one (.row i), h =>
  simp only [cellsOf, Option.some.injEq] at h; subst h
  exact ⟨rfl, fun x hx => by rw [List.mem_singleton.1 hx]; exact hl⟩
 | .one (.q i o), h =>
  simp only [cellsOf, Option.some.injEq] at h; subst h
  exact ⟨rfl, fun x hx => by rw [List.mem_singleton.1 hx]; exact hl⟩
 | .one (.fn f fs cs), h =>
  simp only [cellsOf, Option.some.injEq] at h; subst h
  exact ⟨rfl, fun x hx => by rw [List.mem_singleton.1 hx]; exact hl⟩
theorem zqp (e : Env) {k : Nat} : ∀ {x : SA}, x.lt k -> (x.real e).oneCell' = true
 | .v _, h => h
 | .p _ _, _ => rfl
 | .sl _ _ _ _, _ => rfl
 | .row _, _ => rfl
 | .q _ _, _ => rfl
 | .fn _ _ _, _ => rfl
def zcp : List SA -> Option (List Value)
 | [] => some []
 | .v x :: r => match zcp r with
  | some xs => some (x :: xs)
  | none => none
 | _ :: _ => none
theorem zbn (e : Env) : ∀ {xs : List SA} {vs : List Value}, zcp xs = some vs -> reals e xs = vs
 | [], vs, h => by cases h; rfl
 | .v x :: r, vs, h => by
  simp only [zcp] at h
  split at h
  ·rename_i xs hx
   cases h
   simp [reals, SA.real, <- zbn e hx]
  ·cases h
structure Ch where
 n : Nat := 0
 m : Nat := 0
 v : Value := undef
 cs : List Value := []
 b : ByteArray := ⟨#[]⟩
 u : Option SV := none
inductive Sig where
 | bad
 | det (v : SV)
 | new (v : SV) (t : TypeId) (cs : List SA)
 | pick (ob : Ch -> Prop) (v : Ch -> SV)
 | set (i : Nat) (t : TypeId) (cs : List SA)
 | setr (ob : Prop) (i E z n : Nat) (xs : List Value)
 | ask (R : Value -> Prop) (F : Value -> World -> Prop)
 | grow (ob : Ch -> Prop) (old : Option Nat) (E z : Nat) (n : Ch -> Nat) (xs : Ch -> List Value)
 | call (f : FuncId) (args : List SV)
 | pan (v : Value)
structure zt5 (P : Program) (e : Env) (m : List (Nat × LB)) (w w' : World) (v : Option Addr × Nat × Nat) (old : Option Nat) (E z n : Nat) (xs : List Value) : Prop where
 g : w.grownBy w' (ze2 e m old)
 own : w'.ownsRow 0 E z (.slice v.1 v.2.1 v.2.2) n xs
 new : ∀ g, (Value.slice v.1 v.2.1 v.2.2).ownBlock = some g -> w.heap.size <= g \/ ze2 e m old = some g
structure zabp (e : Env) (w w' : World) (i : Nat) (t : TypeId) (cs : List SA) : Prop where
 blk : Blk w' (e.blk i) t (reals e cs).toArray
 far : ∀ g, g ≠ e.blk i -> w'.heap[g]? = w.heap[g]?
 os : w'.os = w.os
 tape : w'.tape = w.tape
 out : w'.output = w.output
 size : w'.heap.size = w.heap.size
structure zaac (e : Env) (w w' : World) (i E z n : Nat) (xs : List Value) : Prop where
 own : w'.ownsRow 0 E z (e.rv i) n xs
 far : ∀ g, (e.rv i).ownBlock ≠ some g -> w'.heap[g]? = w.heap[g]?
 os : w'.os = w.os
 tape : w'.tape = w.tape
 out : w'.output = w.output
 size : w'.heap.size = w.heap.size
def zcy (P : Program) (e : Env) (st : St) (o : Oper) (a : Act) (w : World) : Sig -> Prop
 | .bad => True
 | .det v => v.lt st.k /\ (execOp a.eval o).run P w = .ok (.value (v.real e)) w
 | .new v t cs => v.lt (st.k + 1) /\ (∀ c ∈ cs, c.lt st.k) /\ (execOp a.eval o).run P w = .ok (.value (v.real (e.setBlk st.k w.heap.size))) (w.alloc (.cells (reals e cs).toArray t))
 | .pick ob v => ∀ c, ob c -> (v c).lt st.k /\ (execOp a.eval o).run P w = .ok (.value ((v c).real e)) w
 | .set i t cs => (∃ cs0, get i st.m = some (.cells t cs0)) /\ (∀ c ∈ cs, c.lt st.k) /\ ∃ w', (execOp a.eval o).run P w = .ok .skip w' /\ zabp e w w' i t cs
 | .setr ob i E z n xs => ob -> (∃ xs0, get i st.m = some (.own E z n xs0)) /\ ∃ w', (execOp a.eval o).run P w = .ok .skip w' /\ zaac e w w' i E z n xs
 | .ask R F => ∀ H : Nat -> Prop, (∀ g, H g -> g < w.heap.size) -> ∃ u w', (execOp a.eval o).run P w = .ok (.value u) w' /\ zbr w w' /\ R u /\ (∀ u, Up (F u)) /\ F u (hide H w')
 | .grow ob old E z n xs => (∀ i, old = some i -> i < st.k) /\ ∀ c, ob c -> ∃ v w', (execOp a.eval o).run P w = .ok (.value (.slice v.1 v.2.1 v.2.2)) w' /\ zt5 P e st.m w w' v old E z (n c) (xs c)
 | .call f args => (∀ x ∈ args, x.lt st.k) /\ ((∃ fn, P.funcs[f]? = some fn /\ (fn.name == "runtime.NumGoroutine") = false /\ fn.body.isNone = false) -> (execOp a.eval o).run P w = .ok (.enter f (args.map (SV.real e)).toArray) w)
 | .pan v => (execOp a.eval o).run P w = .halt (.panic v) w
def ze8 (st : St) (x : Operand) : Sig := match ev st.s x with
 | some v => .det v
 | none => .bad
def zn6 (st : St) (c x y : Operand) : Sig := match ev st.s c with
 | some (.one (.v (.bool true))) => ze8 st x
 | some (.one (.v (.bool false))) => ze8 st y
 | _ => .bad
def zlv (T : Tab) (st : St) (t : TypeId) : Sig := match get t T.ty with
 | some i => .new (.one (.p st.k 0)) t (i.zero.map SA.v)
 | none => .bad
def zse (st : St) (t : TypeId) (x : Operand) : Sig := match ev st.s x with
 | some v => match cellsOf v with
  | some cs => .new (.one (.p st.k 0)) t cs
  | none => .bad
 | none => .bad
def ze3 (i : TyI) (cs : List SA) (o : Nat) : Option SV := match i.agg with
 | true => match Nat.ble (o + i.size) cs.length with
  | true => some (.agg ((cs.drop o).take i.size))
  | false => none
 | false => match cs[o]? with
  | some c => some (.one c)
  | none => none
def zox (T : Tab) (st : St) (t : TypeId) (x : Operand) : Sig := match get t T.ty with
 | none => .bad
 | some i => match ev st.s x with
  | some (.one (.p j o)) => match get j st.m with
   | some (.cells _ cs) => match ze3 i cs o with
    | some v => .det v
    | none => .bad
   | _ => .bad
  | some (.one (.q j o)) => match get j st.m with
   | some (.own _ _ n xs) => match i.agg with
    | true => .pick (fun c => 0 < n /\ (∀ v ∈ c.cs, v.oneCell' = true) /\ c.cs.length = i.size /\ ∀ l u, c.cs[l]? = some u -> xs[o + l]? = some u) (fun c => .agg (c.cs.map SA.v))
    | false => .pick (fun c => xs[o]? = some c.v) (fun c => .one (.v c.v))
   | _ => .bad
  | some (.one (.v y)) => match i.agg with
   | true => .pick (fun c => (∀ v ∈ c.cs, v.oneCell' = true) /\ c.cs.length = i.size /\ ∀ w, AllF st.f w -> ∃ a, y = .pointer (some a) /\ ∀ l u, c.cs[l]? = some u -> w.cell? (a.add l) = some u) (fun c => .agg (c.cs.map SA.v))
   | false => .pick (fun c => ∀ w, AllF st.f w -> ∃ a, y = .pointer (some a) /\ w.cell? a = some c.v) (fun c => .one (.v c.v))
  | _ => .bad
def zl1 (T : Tab) (st : St) (t : TypeId) (x y : Operand) : Sig := match get t T.ty, ev st.s x, ev st.s y with
 | some ti, some (.one (.p i o)), some v => match get i st.m with
  | some (.cells t' cs) => match cellsOf v with
   | some vs => match Nat.beq vs.length ti.size, Nat.ble (o + vs.length) cs.length with
    | true, true => .set i t' (cs.take o ++ (vs ++ cs.drop (o + vs.length)))
    | _, _ => .bad
   | none => .bad
  | _ => .bad
 | some ti, some (.one (.q i o)), some v => match get i st.m with
  | some (.own E z n xs) => match cellsOf v with
   | some vs => match zcp vs with
    | some us => .setr (us.length = ti.size /\ 0 < us.length /\ o + us.length <= xs.length /\ ∀ u ∈ us, u.oneCell' = true) i E z n (xs.take o ++ (us ++ xs.drop (o + us.length)))
    | none => .bad
   | none => .bad
  | _ => .bad
 | _, _, _ => .bad
def zfq (T : Tab) (st : St) (t : TypeId) (x : Operand) (j : Nat) : Sig := match get t T.fld with
 | none => .bad
 | some fs => match fs[j]? with
  | none => .bad
  | some (off, ft) => match get ft T.ty with
   | none => .bad
   | some ti => match ti.size, ev st.s x with
    | _ + 1, some (.one (.p i o)) => .det (.one (.p i (o + off)))
    | _ + 1, some (.one (.v (.pointer (some a)))) => .det (.one (.v (.pointer (some (a.add off)))))
    | _, _ => .bad
def zle (T : Tab) (st : St) (t : TypeId) (x : Operand) (j : Nat) : Sig := match get t T.fld with
 | none => .bad
 | some fs => match fs[j]? with
  | none => .bad
  | some (off, ft) => match get ft T.ty, ev st.s x with
   | some ti, some v => match zo6 v with
    | some cs => match ze3 ti cs off with
     | some u => .det u
     | none => .bad
    | none => .bad
   | _, _ => .bad
def ze7 (T : Tab) (st : St) (t : TypeId) (x ix : Operand) : Sig := match get t T.u with
 | some (.slice E) => match get E T.ty, ev st.s x, ev st.s ix with
  | some ti, some (.one (.v (.slice A n c))), some (.one (.v (.int k i))) => .pick (fun ch => i = (ch.n : Int) /\ ch.n < n /\ ∀ w, AllF st.f w -> A.isSome = true) (fun ch => .one (.v (.pointer (A.map fun a => a.add (ch.n * ti.size)))))
  | some ti, some (.one (.sl j o n c)), some (.one (.v (.int k i))) => .pick (fun ch => i = (ch.n : Int) /\ ch.n < n) (fun ch => .one (.p j (o + ch.n * ti.size)))
  | some ti, some (.one (.row j)), some (.one (.v (.int k i))) => match get j st.m with
   | some (.own E' z n xs) => .pick (fun ch => i = (ch.n : Int) /\ ch.n < n /\ z = ti.size) (fun ch => .one (.q j (ch.n * z)))
   | _ => .bad
  | _, _, _ => .bad
 | some (.array n E) => match get E T.ty, ev st.s x, ev st.s ix with
  | some ti, some (.one (.p j o)), some (.one (.v (.int k i))) => .pick (fun ch => i = (ch.n : Int) /\ ch.n < n) (fun ch => .one (.p j (o + ch.n * ti.size)))
  | _, _, _ => .bad
 | _ => .bad
def ixOb (ti : TyI) (cs : List SA) (ch : Ch) : Prop := match ch.u with
 | none => (ze3 ti cs (ch.n * ti.size)).isSome = true
 | some u => ze3 ti cs (ch.n * ti.size) = some u
def ixV (ti : TyI) (cs : List SA) (ch : Ch) : SV := match ch.u with
 | none => (ze3 ti cs (ch.n * ti.size)).getD (.one (.v undef))
 | some u => u
theorem zabu {ti : TyI} {cs : List SA} {ch : Ch} (h : ixOb ti cs ch) : ∃ u, ze3 ti cs (ch.n * ti.size) = some u /\ ixV ti cs ch = u := by
 unfold ixOb at h
 unfold ixV
 cases hcu : ch.u with
 | none =>
  rw [hcu] at h
  obtain ⟨u, hu2⟩ := Option.isSome_iff_exists.1 h
  exact ⟨u, hu2, by simp [hu2]⟩
 | some u =>
  rw [hcu] at h
  exact ⟨u, h, rfl⟩
def zly (T : Tab) (st : St) (t : TypeId) (x ix : Operand) : Sig := match get t T.u, ev st.s x, ev st.s ix with
 | some (.array n E), some v, some (.one (.v (.int k i))) => match get E T.ty, zo6 v with
  | some ti, some cs => .pick (fun ch => i = (ch.n : Int) /\ ch.n < n /\ ixOb ti cs ch) (fun ch => ixV ti cs ch)
  | _, _ => .bad
 | some .string, some (.one (.v (.string s))), some (.one (.v (.int k i))) => .pick (fun ch => i = (ch.n : Int) /\ ch.n < s.size) (fun ch => .one (.v (.int .u8 ((s.data.toList.getD ch.n 0).toNat : Int))))
 | _, _, _ => .bad
end Go.Proofs.Sym
end
