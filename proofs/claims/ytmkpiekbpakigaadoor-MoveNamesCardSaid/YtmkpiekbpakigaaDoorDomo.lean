/- What the claim needs of Re, Rf, Mb1, Mb2, Nm4, Nm5, Own9, in one text. -/
import Derived.Test.YtmkpiekbpakigaaDoorDomh
import Derived.Test.YtmkpiekbpakigaaDoorDomi
import Derived.Test.YtmkpiekbpakigaaDoorDomj
import Derived.Test.YtmkpiekbpakigaaDoorDomn
section
set_option linter.unusedVariables false
set_option linter.unusedSimpArgs false
namespace Go.Proofs.YtmkpiekbpakigaaDoor
open Go.RowKit Go.Proofs.Base Go.Proofs.Sym
theorem zr7 (k n : Int) (s : ByteArray) (ls : List Lv) (len p v d ar lv : Int) (nm wb : Bool) (har : zg2 k = ar) (hlv : znn k = lv) (hnm : (decide (k = 4) || decide (k = 9)) = nm) (hwb : zcd s = wb) :
  zc8 k n s ls len p v d = (!(((((decide (k < 1) || decide (9 < k)) || decide (200 < d)) || !decide (len = ar)) || (decide (0 <= lv) && !decide ((ls.length : Int) = lv))) || decide (4 < (ls.length : Int))) && (!ls.any (zbp p) && (!(((nm && !wb) || (!nm && !zfm s)) || decide (n < 0)) && !(((decide (k = 1) && decide (v <= n)) || (decide (k = 9) && decide (31 < n))) || ((!decide (k = 1) && !decide (k = 9)) && !decide (n = 0)))))) := by
 subst har hlv hnm
 unfold zc8 zbb zci
 rw [hwb]
 obtain ⟨e, he⟩ : ∃ e, zfm s = e := ⟨_, rfl⟩
 obtain ⟨y, hy⟩ : ∃ y, ls.any (zbp p) = y := ⟨_, rfl⟩
 obtain ⟨L, hL⟩ : ∃ L, ls.length = L := ⟨_, rfl⟩
 rw [he, hy, hL]
 clear he hy hL hwb
 by_cases hk : 1 <= k /\ k <= 9
 ·have hkk : k = 1 \/ k = 2 \/ k = 3 \/ k = 4 \/ k = 5 \/ k = 6 \/ k = 7 \/ k = 8 \/ k = 9 := by omega
  rw [Bool.eq_iff_iff]
  rcases hkk with rfl | rfl | rfl | rfl | rfl | rfl | rfl | rfl | rfl <;> cases e <;> cases y <;> cases wb <;> simp [zg2, znn, zh5] <;> omega
 ·rw [Bool.eq_iff_iff]
  have h1 : (decide (k < 1) || decide (9 < k)) = true := by simp; omega
  rw [h1]
  simp
  omega
theorem oneB {x y : Bool} (h : x = y) : SV.one (SA.v (.bool x)) = SV.one (SA.v (.bool y)) := by rw [h]
set_option maxHeartbeats 4000000 in
theorem zug (p v d : Int) (t : TT) : PCall Tryd.prog 96 [t.val, .int .i64 p, .int .i64 v, .int .i64 d] (fun w => TTIn w t) (fun r => r = .bool (allT p v d t.tm)) (fun _ _ => True) := by
 induction hsz : SizeOf.sizeOf t using Nat.strongRecOn generalizing t v d with
 | _ z ih =>
 obtain ⟨k, n, s, la, lc, ls, aa, ac, us⟩ := t
 subst hsz
 by_cases hal : us.length <= 9223372036854775807 /\ ls.length <= 9223372036854775807
 rotate_left
 ·refine ⟨zhz Tryd.func96 (by kernel_rfl) (by kernel_rfl), fun _ => Up.true, fun w H hH hp => ?_⟩
  have := hp.node
  have h1 := this.hac
  have h2 := this.ham
  have h3 := this.hlc
  have h4 := this.hlm
  simp only [maxLen] at h2 h4
  omega
 obtain ⟨hal, hll⟩ := hal
 have hspec : allT p v d (TT.mk k n s la lc ls aa ac us).tm = (zc8 k n s ls us.length p v d && zcj k p v d 0 (us.map TT.tm)) := by
  rw [zbs, allT, List.length_map]
 have hshape := zvq k
 have hword := zqb s
 obtain ⟨ar, har⟩ : ∃ x, zg2 k = x := ⟨_, rfl⟩
 obtain ⟨lv, hlv⟩ : ∃ x, znn k = x := ⟨_, rfl⟩
 obtain ⟨nm, hnm⟩ : ∃ x, (decide (k = 4) || decide (k = 9)) = x := ⟨_, rfl⟩
 obtain ⟨wb, hwb⟩ : ∃ x, zcd s = x := ⟨_, rfl⟩
 have hsplit := zr7 k n s ls us.length p v d ar lv nm wb har hlv hnm hwb
 rw [har, hlv] at hshape
 rw [hwb] at hword
 obtain ⟨Z, hZ⟩ : ∃ Z, allT p v d (TT.mk k n s la lc ls aa ac us).tm = Z := ⟨_, rfl⟩
 obtain ⟨D, hD⟩ : ∃ D, zc8 k n s ls us.length p v d = D := ⟨_, rfl⟩
 rw [hZ, hD] at hspec
 rw [hD] at hsplit
 rw [hZ]
 clear hZ hD har hlv hwb
 have hno : D = false -> Z = false := fun h => by rw [hspec, h]; rfl
 refine zar zac 169 [.tmp 8] Tryd.func96 rfl rfl (by kernel_rfl) rfl _ (leB rfl) (TTIn.upS _) (fun _ => Up.true) ?_
 refine zaf zac [2] _ _ _ ?_
 refine zae hshape (fun _ => rfl) (fun _ _ => trivial) ?_
 rintro r rfl
 refine zai.ent (st' := { s := [(9, .one (.v (.int .i64 ar))), (10, .one (.v (.int .i64 lv))), (1, .one (.v (.int .i64 p))), (2, .one (.v (.int .i64 v))), (3, .one (.v (.int .i64 d))), (4, .one (.p 0 0))], m := [(0, .cells 41 ((TT.mk k n s la lc ls aa ac us).cells.map SA.v))], k := 1, f := [fun w => TTIn w (TT.mk k n s la lc ls aa ac us)] }) (zaa [(0, .blk 0)] rfl rfl rfl rfl (leB rfl) (rs rfl rfl) (rm rfl rfl) ⟨⟨TTIn.upS _, fun w h => h.2.1⟩, trivial⟩) ?_
 refine zai.seq (zai.seq (zai.parts ?_))
 refine zbo.step zac 9 (X := Bool) (fun b => b = (decide (k < 1) || decide (9 < k))) (fun b => { s := [(29, .one (.v (.bool b))), (9, .one (.v (.int .i64 ar))), (10, .one (.v (.int .i64 lv))), (1, .one (.v (.int .i64 p))), (2, .one (.v (.int .i64 v))), (3, .one (.v (.int .i64 d))), (4, .one (.p 0 0))], m := [(0, .cells 41 ((TT.mk k n s la lc ls aa ac us).cells.map SA.v))], k := 1, f := [fun w => TTIn w (TT.mk k n s la lc ls aa ac us)] }) ?_ (fun b0 hb0 => ?_)
 ·refine zad (fun h => ?_) (fun h => ?_)
  ·have h : decide (k < 1) = true := h
   exact ⟨true, by rw [h]; rfl, zaa [(0, .blk 0)] rfl rfl rfl rfl (leB rfl) (rs rfl rfl) (rm rfl rfl) ⟨⟨TTIn.upS _, fun w h => h.1⟩, trivial⟩⟩
  ·have h : decide (k < 1) = false := h
   exact ⟨decide (9 < k), by rw [h]; rfl, zaa [(0, .blk 0)] rfl rfl rfl rfl (leB rfl) (rs rfl rfl) (rm rfl rfl) ⟨⟨TTIn.upS _, fun w h => h.1⟩, trivial⟩⟩
 refine zbo.step zac 4 (X := Bool) (fun b => b = ((decide (k < 1) || decide (9 < k)) || decide (200 < d))) (fun b => { s := [(33, .one (.v (.bool b))), (9, .one (.v (.int .i64 ar))), (10, .one (.v (.int .i64 lv))), (1, .one (.v (.int .i64 p))), (2, .one (.v (.int .i64 v))), (3, .one (.v (.int .i64 d))), (4, .one (.p 0 0))], m := [(0, .cells 41 ((TT.mk k n s la lc ls aa ac us).cells.map SA.v))], k := 1, f := [fun w => TTIn w (TT.mk k n s la lc ls aa ac us)] }) ?_ (fun b1 hb1 => ?_)
 ·refine zad (fun h => ?_) (fun h => ?_)
  ·exact ⟨true, by rw [<- hb0, h]; rfl, zaa [(0, .blk 0)] rfl rfl rfl rfl (leB rfl) (rs rfl rfl) (rm rfl rfl) ⟨⟨TTIn.upS _, fun w h => h.1⟩, trivial⟩⟩
  ·exact ⟨decide (200 < d), by rw [<- hb0, h]; rfl, zaa [(0, .blk 0)] rfl rfl rfl rfl (leB rfl) (rs rfl rfl) (rm rfl rfl) ⟨⟨TTIn.upS _, fun w h => h.1⟩, trivial⟩⟩
 refine zbo.step zac 7 (X := Bool) (fun b => b = (((decide (k < 1) || decide (9 < k)) || decide (200 < d)) || !decide ((us.length : Int) = ar))) (fun b => { s := [(40, .one (.v (.bool b))), (9, .one (.v (.int .i64 ar))), (10, .one (.v (.int .i64 lv))), (1, .one (.v (.int .i64 p))), (2, .one (.v (.int .i64 v))), (3, .one (.v (.int .i64 d))), (4, .one (.p 0 0))], m := [(0, .cells 41 ((TT.mk k n s la lc ls aa ac us).cells.map SA.v))], k := 1, f := [fun w => TTIn w (TT.mk k n s la lc ls aa ac us)] }) ?_ (fun b2 hb2 => ?_)
 ·refine zad (fun h => ?_) (fun h => ?_)
  ·exact ⟨true, by rw [<- hb1, h]; rfl, zaa [(0, .blk 0)] rfl rfl rfl rfl (leB rfl) (rs rfl rfl) (rm rfl rfl) ⟨⟨TTIn.upS _, fun w h => h.1⟩, trivial⟩⟩
  ·exact ⟨!decide ((us.length : Int) = ar), by rw [<- hb1, h]; rfl, zaa [(0, .blk 0)] rfl rfl rfl rfl (leB rfl) (rs rfl rfl) (rm rfl rfl) ⟨⟨TTIn.upS _, fun w h => h.1⟩, trivial⟩⟩
 refine zbo.step zac 11 (X := Bool) (fun b => b = ((((decide (k < 1) || decide (9 < k)) || decide (200 < d)) || !decide ((us.length : Int) = ar)) || (decide (0 <= lv) && !decide ((ls.length : Int) = lv)))) (fun b => { s := [(51, .one (.v (.bool b))), (9, .one (.v (.int .i64 ar))), (10, .one (.v (.int .i64 lv))), (1, .one (.v (.int .i64 p))), (2, .one (.v (.int .i64 v))), (3, .one (.v (.int .i64 d))), (4, .one (.p 0 0))], m := [(0, .cells 41 ((TT.mk k n s la lc ls aa ac us).cells.map SA.v))], k := 1, f := [fun w => TTIn w (TT.mk k n s la lc ls aa ac us)] }) ?_ (fun b3 hb3 => ?_)
 ·refine zad (fun h => ?_) (fun h => ?_)
  ·exact ⟨true, by rw [<- hb2, h]; rfl, zaa [(0, .blk 0)] rfl rfl rfl rfl (leB rfl) (rs rfl rfl) (rm rfl rfl) ⟨⟨TTIn.upS _, fun w h => h.1⟩, trivial⟩⟩
  ·refine zad (fun h2 => ?_) (fun h2 => ?_)
   ·have h2 : decide (0 <= lv) = true := h2
    exact ⟨!decide ((ls.length : Int) = lv), by rw [<- hb2, h, h2]; rfl, zaa [(0, .blk 0)] rfl rfl rfl rfl (leB rfl) (rs rfl rfl) (rm rfl rfl) ⟨⟨TTIn.upS _, fun w h => h.1⟩, trivial⟩⟩
   ·have h2 : decide (0 <= lv) = false := h2
    exact ⟨false, by rw [<- hb2, h, h2]; rfl, zaa [(0, .blk 0)] rfl rfl rfl rfl (leB rfl) (rs rfl rfl) (rm rfl rfl) ⟨⟨TTIn.upS _, fun w h => h.1⟩, trivial⟩⟩
 refine zbo.step zac 5 (X := Bool) (fun b => b = (((((decide (k < 1) || decide (9 < k)) || decide (200 < d)) || !decide ((us.length : Int) = ar)) || (decide (0 <= lv) && !decide ((ls.length : Int) = lv))) || decide (4 < (ls.length : Int)))) (fun b => { s := [(56, .one (.v (.bool b))), (9, .one (.v (.int .i64 ar))), (10, .one (.v (.int .i64 lv))), (1, .one (.v (.int .i64 p))), (2, .one (.v (.int .i64 v))), (3, .one (.v (.int .i64 d))), (4, .one (.p 0 0))], m := [(0, .cells 41 ((TT.mk k n s la lc ls aa ac us).cells.map SA.v))], k := 1, f := [fun w => TTIn w (TT.mk k n s la lc ls aa ac us)] }) ?_ (fun b4 hb4 => ?_)
 ·refine zad (fun h => ?_) (fun h => ?_)
  ·exact ⟨true, by rw [<- hb3, h]; rfl, zaa [(0, .blk 0)] rfl rfl rfl rfl (leB rfl) (rs rfl rfl) (rm rfl rfl) ⟨⟨TTIn.upS _, fun w h => h.1⟩, trivial⟩⟩
  ·exact ⟨decide (4 < (ls.length : Int)), by rw [<- hb3, h]; rfl, zaa [(0, .blk 0)] rfl rfl rfl rfl (leB rfl) (rs rfl rfl) (rm rfl rfl) ⟨⟨TTIn.upS _, fun w h => h.1⟩, trivial⟩⟩
 refine zbo.done ?_
 rw [<- hb4] at hsplit
 refine zaf zac [4] _ _ _ ?_
 refine zad (fun h => ?_) (fun h => ?_)
 ·have h : b4 = true := h
  rw [h] at hsplit
  exact ⟨_, rfl, Told.val (by rw [hno hsplit])⟩
 have h : b4 = false := h
 rw [h] at hsplit
 clear h hb0 hb1 hb2 hb3 hb4 b0 b1 b2 b3
 refine zai.ent (st' := { s := [(1, .one (.v (.int .i64 p))), (2, .one (.v (.int .i64 v))), (3, .one (.v (.int .i64 d))), (4, .one (.p 0 0))], m := [(0, .cells 41 ((TT.mk k n s la lc ls aa ac us).cells.map SA.v))], k := 1, f := [fun w => TTIn w (TT.mk k n s la lc ls aa ac us)] }) (zaa [(0, .blk 0)] rfl rfl rfl rfl (leB rfl) (rs rfl rfl) (rm rfl rfl) ⟨⟨TTIn.upS _, fun w h => h.1⟩, trivial⟩) ?_
 refine zai.cutX (X := Unit) (fun _ => ls.any (zbp p) = false) (fun _ => { s := [(1, .one (.v (.int .i64 p))), (2, .one (.v (.int .i64 v))), (3, .one (.v (.int .i64 d))), (4, .one (.p 0 0))], m := [(0, .cells 41 ((TT.mk k n s la lc ls aa ac us).cells.map SA.v))], k := 1, f := [fun w => TTIn w (TT.mk k n s la lc ls aa ac us)] }) ?_ (fun _ hany => ?_)
 ·refine zaf zac [] _ _ _ ?_
  refine ⟨⟨Nat, fun j => j <= ls.length /\ (ls.take j).any (zbp p) = false, fun j => { s := [(11, .one (.v (.int .i64 (j : Int)))), (1, .one (.v (.int .i64 p))), (2, .one (.v (.int .i64 v))), (3, .one (.v (.int .i64 d))), (4, .one (.p 0 0))], m := [(0, .cells 41 ((TT.mk k n s la lc ls aa ac us).cells.map SA.v))], k := 1, f := [fun w => TTIn w (TT.mk k n s la lc ls aa ac us)] }, fun j => ls.length - j, ⟨0, ⟨Nat.zero_le _, rfl⟩, zaa [(0, .blk 0)] rfl rfl rfl rfl (leB rfl) (rs rfl rfl) (rm rfl rfl) ⟨⟨TTIn.upS _, fun w h => h.1⟩, trivial⟩⟩, ?_⟩⟩
  rintro j ⟨hj, hA⟩
  refine zad (fun hlt => ?_) (fun hge => ?_)
  rotate_left
  ·have hge : ls.length <= j := by
    have h : decide ((j : Int) < (ls.length : Int)) = false := hge
    have := of_decide_eq_false h
    omega
   rw [List.take_of_length_le hge] at hA
   exact ⟨(), hA, zaa [(0, .blk 0)] rfl rfl rfl rfl (leB rfl) (rs rfl rfl) (rm rfl rfl) ⟨⟨TTIn.upS _, fun w h => h.1⟩, trivial⟩⟩
  have hlt : j < ls.length := by
   have h : decide ((j : Int) < (ls.length : Int)) = true := hlt
   have := of_decide_eq_true h
   omega
  obtain ⟨l, hl⟩ : ∃ l, ls[j]? = some l := ⟨_, List.getElem?_eq_getElem hlt⟩
  have hr := zow l
  have hw := znv l
  have hwr : zbp p l = (!l.right || decide (p < l.width)) := rfl
  have hstep : (ls.take (j + 1)).any (zbp p) = zbp p l := by
   rw [List.take_add_one, hl, List.any_append, hA]
   simp
  have hbad : zbp p l = true -> Z = false := fun h => hno (by
   rw [hsplit, show ls.any (zbp p) = true from List.any_eq_true.2 ⟨l, List.mem_of_getElem? hl, h⟩]
   rfl)
  obtain ⟨r1, hr1⟩ : ∃ r, l.right = r := ⟨_, rfl⟩
  obtain ⟨w1, hw1⟩ : ∃ r, l.width = r := ⟨_, rfl⟩
  rw [hr1] at hr hwr
  rw [hw1] at hw hwr
  refine ⟨{ n := j }, ⟨rfl, hlt, fun w h => ?_⟩, ?_⟩
  ·obtain ⟨a, ha, _⟩ := zck h.1.node.hls hl
   rw [ha]; rfl
  refine ⟨{ cs := zbh l }, ⟨zca l, rfl, fun w h => ?_⟩, ?_⟩
  ·obtain ⟨a, ha, hc⟩ := zck h.1.node.hls hl
   exact ⟨_, by rw [ha]; rfl, hc⟩
  refine zae hr (fun _ => rfl) (fun _ _ => trivial) ?_
  rintro r rfl
  cases r1 with
  | false => exact ⟨_, rfl, Told.val (by rw [hbad hwr])⟩
  | true =>
  refine ⟨{ n := j }, ⟨rfl, hlt, fun w h => ?_⟩, ?_⟩
  ·obtain ⟨a, ha, _⟩ := zck h.2.1.node.hls hl
   rw [ha]; rfl
  refine ⟨{ cs := zbh l }, ⟨zca l, rfl, fun w h => ?_⟩, ?_⟩
  ·obtain ⟨a, ha, hc⟩ := zck h.2.1.node.hls hl
   exact ⟨_, by rw [ha]; rfl, hc⟩
  refine zae hw (fun _ => rfl) (fun _ _ => trivial) ?_
  rintro r rfl
  refine zad (fun h => ?_) (fun h => ?_)
  ·have h : decide (p < w1) = true := h
   rw [h] at hwr
   exact ⟨_, rfl, Told.val (by rw [hbad hwr])⟩
  ·have h : decide (p < w1) = false := h
   rw [h] at hwr
   exact ⟨j + 1, ⟨hlt, hstep.trans hwr⟩, by simp only; omega, zaa [(0, .blk 0)] rfl rfl rfl rfl (leB rfl) ⟨⟨_, rfl, oneI (za9 (by omega) (by omega))⟩, ⟨_, rfl, rfl⟩, ⟨_, rfl, rfl⟩, ⟨_, rfl, rfl⟩, ⟨_, rfl, rfl⟩, trivial⟩ ⟨⟨_, rfl, rfl⟩, trivial⟩ ⟨⟨TTIn.upS _, fun w h => h.2.2.1⟩, trivial⟩⟩
 rw [hany] at hsplit
 refine zai.cut ({ s := [(12, .one (.v (.bool nm))), (1, .one (.v (.int .i64 p))), (2, .one (.v (.int .i64 v))), (3, .one (.v (.int .i64 d))), (4, .one (.p 0 0))], m := [(0, .cells 41 ((TT.mk k n s la lc ls aa ac us).cells.map SA.v))], k := 1, f := [fun w => TTIn w (TT.mk k n s la lc ls aa ac us)] }) ?_ ?_
 ·refine zaf zac [] _ _ _ ?_
  refine zad (fun h => ?_) (fun h => ?_)
  ·have h : decide (k = 4) = true := h
   exact zaa [(0, .blk 0)] rfl rfl rfl rfl (leB rfl) ⟨⟨_, rfl, oneB (by rw [<- hnm, h]; rfl)⟩, ⟨_, rfl, rfl⟩, ⟨_, rfl, rfl⟩, ⟨_, rfl, rfl⟩, ⟨_, rfl, rfl⟩, trivial⟩ ⟨⟨_, rfl, rfl⟩, trivial⟩ ⟨⟨TTIn.upS _, fun w h => h.1⟩, trivial⟩
  ·have h : decide (k = 4) = false := h
   exact zaa [(0, .blk 0)] rfl rfl rfl rfl (leB rfl) ⟨⟨_, rfl, oneB (by rw [<- hnm, h]; rfl)⟩, ⟨_, rfl, rfl⟩, ⟨_, rfl, rfl⟩, ⟨_, rfl, rfl⟩, ⟨_, rfl, rfl⟩, trivial⟩ ⟨⟨_, rfl, rfl⟩, trivial⟩ ⟨⟨TTIn.upS _, fun w h => h.1⟩, trivial⟩
 refine zai.seq (zai.seq (zai.parts ?_))
 refine zbo.step zac 8 (X := Bool) (fun b => b = (nm && !wb)) (fun b => { s := [(96, .one (.v (.bool b))), (12, .one (.v (.bool nm))), (1, .one (.v (.int .i64 p))), (2, .one (.v (.int .i64 v))), (3, .one (.v (.int .i64 d))), (4, .one (.p 0 0))], m := [(0, .cells 41 ((TT.mk k n s la lc ls aa ac us).cells.map SA.v))], k := 1, f := [fun w => TTIn w (TT.mk k n s la lc ls aa ac us)] }) ?_ (fun b0 hb0 => ?_)
 ·refine zad (fun h => ?_) (fun h => ?_)
  ·have h : nm = true := h
   refine zae hword (fun _ => rfl) (fun _ _ => trivial) ?_
   rintro r rfl
   exact ⟨!wb, by rw [h]; rfl, zaa [(0, .blk 0)] rfl rfl rfl rfl (leB rfl) (rs rfl rfl) (rm rfl rfl) ⟨⟨TTIn.upS _, fun w h => h.2.1⟩, trivial⟩⟩
  ·have h : nm = false := h
   exact ⟨false, by rw [h]; rfl, zaa [(0, .blk 0)] rfl rfl rfl rfl (leB rfl) (rs rfl rfl) (rm rfl rfl) ⟨⟨TTIn.upS _, fun w h => h.1⟩, trivial⟩⟩
 refine zbo.step zac 9 (X := Bool) (fun b => b = ((nm && !wb) || (!nm && !zfm s))) (fun b => { s := [(105, .one (.v (.bool b))), (12, .one (.v (.bool nm))), (1, .one (.v (.int .i64 p))), (2, .one (.v (.int .i64 v))), (3, .one (.v (.int .i64 d))), (4, .one (.p 0 0))], m := [(0, .cells 41 ((TT.mk k n s la lc ls aa ac us).cells.map SA.v))], k := 1, f := [fun w => TTIn w (TT.mk k n s la lc ls aa ac us)] }) ?_ (fun b1 hb1 => ?_)
 ·refine zad (fun h => ?_) (fun h => ?_)
  ·exact ⟨true, by rw [<- hb0, h]; rfl, zaa [(0, .blk 0)] rfl rfl rfl rfl (leB rfl) (rs rfl rfl) (rm rfl rfl) ⟨⟨TTIn.upS _, fun w h => h.1⟩, trivial⟩⟩
  ·refine zad (fun h2 => ?_) (fun h2 => ?_)
   ·have h2 : (!nm) = true := h2
    exact ⟨!zfm s, by rw [<- hb0, h, h2]; rfl, zaa [(0, .blk 0)] rfl rfl rfl rfl (leB rfl) (rs rfl rfl) (rm rfl rfl) ⟨⟨TTIn.upS _, fun w h => h.1⟩, trivial⟩⟩
   ·have h2 : (!nm) = false := h2
    exact ⟨false, by rw [<- hb0, h, h2]; rfl, zaa [(0, .blk 0)] rfl rfl rfl rfl (leB rfl) (rs rfl rfl) (rm rfl rfl) ⟨⟨TTIn.upS _, fun w h => h.1⟩, trivial⟩⟩
 refine zbo.step zac 4 (X := Bool) (fun b => b = (((nm && !wb) || (!nm && !zfm s)) || decide (n < 0))) (fun b => { s := [(109, .one (.v (.bool b))), (12, .one (.v (.bool nm))), (1, .one (.v (.int .i64 p))), (2, .one (.v (.int .i64 v))), (3, .one (.v (.int .i64 d))), (4, .one (.p 0 0))], m := [(0, .cells 41 ((TT.mk k n s la lc ls aa ac us).cells.map SA.v))], k := 1, f := [fun w => TTIn w (TT.mk k n s la lc ls aa ac us)] }) ?_ (fun b2 hb2 => ?_)
 ·refine zad (fun h => ?_) (fun h => ?_)
  ·exact ⟨true, by rw [<- hb1, h]; rfl, zaa [(0, .blk 0)] rfl rfl rfl rfl (leB rfl) (rs rfl rfl) (rm rfl rfl) ⟨⟨TTIn.upS _, fun w h => h.1⟩, trivial⟩⟩
  ·exact ⟨decide (n < 0), by rw [<- hb1, h]; rfl, zaa [(0, .blk 0)] rfl rfl rfl rfl (leB rfl) (rs rfl rfl) (rm rfl rfl) ⟨⟨TTIn.upS _, fun w h => h.1⟩, trivial⟩⟩
 refine zbo.done ?_
 rw [<- hb2] at hsplit
 refine zaf zac [12] _ _ _ ?_
 refine zad (fun h => ?_) (fun h => ?_)
 ·have h : b2 = true := h
  rw [h] at hsplit
  exact ⟨_, rfl, Told.val (by rw [hno hsplit])⟩
 have h : b2 = false := h
 rw [h] at hsplit
 clear h hb0 hb1 hb2 b0 b1
 refine zai.ent (st' := { s := [(1, .one (.v (.int .i64 p))), (2, .one (.v (.int .i64 v))), (3, .one (.v (.int .i64 d))), (4, .one (.p 0 0))], m := [(0, .cells 41 ((TT.mk k n s la lc ls aa ac us).cells.map SA.v))], k := 1, f := [fun w => TTIn w (TT.mk k n s la lc ls aa ac us)] }) (zaa [(0, .blk 0)] rfl rfl rfl rfl (leB rfl) (rs rfl rfl) (rm rfl rfl) ⟨⟨TTIn.upS _, fun w h => h.1⟩, trivial⟩) ?_
 refine zai.seq (zai.seq (zai.parts ?_))
 refine zbo.step zac 10 (X := Bool) (fun b => b = (decide (k = 1) && decide (v <= n))) (fun b => { s := [(119, .one (.v (.bool b))), (1, .one (.v (.int .i64 p))), (2, .one (.v (.int .i64 v))), (3, .one (.v (.int .i64 d))), (4, .one (.p 0 0))], m := [(0, .cells 41 ((TT.mk k n s la lc ls aa ac us).cells.map SA.v))], k := 1, f := [fun w => TTIn w (TT.mk k n s la lc ls aa ac us)] }) ?_ (fun b0 hb0 => ?_)
 ·refine zad (fun h => ?_) (fun h => ?_)
  ·have h : decide (k = 1) = true := h
   exact ⟨decide (v <= n), by rw [h]; rfl, zaa [(0, .blk 0)] rfl rfl rfl rfl (leB rfl) (rs rfl rfl) (rm rfl rfl) ⟨⟨TTIn.upS _, fun w h => h.1⟩, trivial⟩⟩
  ·have h : decide (k = 1) = false := h
   exact ⟨false, by rw [h]; rfl, zaa [(0, .blk 0)] rfl rfl rfl rfl (leB rfl) (rs rfl rfl) (rm rfl rfl) ⟨⟨TTIn.upS _, fun w h => h.1⟩, trivial⟩⟩
 refine zbo.step zac 10 (X := Bool) (fun b => b = ((decide (k = 1) && decide (v <= n)) || (decide (k = 9) && decide (31 < n)))) (fun b => { s := [(129, .one (.v (.bool b))), (1, .one (.v (.int .i64 p))), (2, .one (.v (.int .i64 v))), (3, .one (.v (.int .i64 d))), (4, .one (.p 0 0))], m := [(0, .cells 41 ((TT.mk k n s la lc ls aa ac us).cells.map SA.v))], k := 1, f := [fun w => TTIn w (TT.mk k n s la lc ls aa ac us)] }) ?_ (fun b1 hb1 => ?_)
 ·refine zad (fun h => ?_) (fun h => ?_)
  ·exact ⟨true, by rw [<- hb0, h]; rfl, zaa [(0, .blk 0)] rfl rfl rfl rfl (leB rfl) (rs rfl rfl) (rm rfl rfl) ⟨⟨TTIn.upS _, fun w h => h.1⟩, trivial⟩⟩
  ·refine zad (fun h2 => ?_) (fun h2 => ?_)
   ·have h2 : decide (k = 9) = true := h2
    exact ⟨decide (31 < n), by rw [<- hb0, h, h2]; rfl, zaa [(0, .blk 0)] rfl rfl rfl rfl (leB rfl) (rs rfl rfl) (rm rfl rfl) ⟨⟨TTIn.upS _, fun w h => h.1⟩, trivial⟩⟩
   ·have h2 : decide (k = 9) = false := h2
    exact ⟨false, by rw [<- hb0, h, h2]; rfl, zaa [(0, .blk 0)] rfl rfl rfl rfl (leB rfl) (rs rfl rfl) (rm rfl rfl) ⟨⟨TTIn.upS _, fun w h => h.1⟩, trivial⟩⟩
 refine zbo.step zac 14 (X := Bool) (fun b => b = (((decide (k = 1) && decide (v <= n)) || (decide (k = 9) && decide (31 < n))) || ((!decide (k = 1) && !decide (k = 9)) && !decide (n = 0)))) (fun b => { s := [(143, .one (.v (.bool b))), (1, .one (.v (.int .i64 p))), (2, .one (.v (.int .i64 v))), (3, .one (.v (.int .i64 d))), (4, .one (.p 0 0))], m := [(0, .cells 41 ((TT.mk k n s la lc ls aa ac us).cells.map SA.v))], k := 1, f := [fun w => TTIn w (TT.mk k n s la lc ls aa ac us)] }) ?_ (fun b2 hb2 => ?_)
 ·refine zad (fun h => ?_) (fun h => ?_)
  ·exact ⟨true, by rw [<- hb1, h]; rfl, zaa [(0, .blk 0)] rfl rfl rfl rfl (leB rfl) (rs rfl rfl) (rm rfl rfl) ⟨⟨TTIn.upS _, fun w h => h.1⟩, trivial⟩⟩
  ·refine zad (fun h2 => ?_) (fun h2 => ?_)
   ·have h2 : (!decide (k = 1)) = true := h2
    refine zad (fun h3 => ?_) (fun h3 => ?_)
    ·have h3 : (!decide (k = 9)) = true := h3
     exact ⟨!decide (n = 0), by rw [<- hb1, h, h2, h3]; rfl, zaa [(0, .blk 0)] rfl rfl rfl rfl (leB rfl) (rs rfl rfl) (rm rfl rfl) ⟨⟨TTIn.upS _, fun w h => h.1⟩, trivial⟩⟩
    ·have h3 : (!decide (k = 9)) = false := h3
     exact ⟨false, by rw [<- hb1, h, h2, h3]; rfl, zaa [(0, .blk 0)] rfl rfl rfl rfl (leB rfl) (rs rfl rfl) (rm rfl rfl) ⟨⟨TTIn.upS _, fun w h => h.1⟩, trivial⟩⟩
   ·have h2 : (!decide (k = 1)) = false := h2
    exact ⟨false, by rw [<- hb1, h, h2]; rfl, zaa [(0, .blk 0)] rfl rfl rfl rfl (leB rfl) (rs rfl rfl) (rm rfl rfl) ⟨⟨TTIn.upS _, fun w h => h.1⟩, trivial⟩⟩
 refine zbo.done ?_
 rw [<- hb2] at hsplit
 refine zaf zac [14] _ _ _ ?_
 refine zad (fun h => ?_) (fun h => ?_)
 ·have h : b2 = true := h
  rw [h] at hsplit
  exact ⟨_, rfl, Told.val (by rw [hno hsplit])⟩
 have h : b2 = false := h
 rw [h] at hsplit
 clear h hb0 hb1 hb2 b0 b1
 have hZ2 : zcj k p v d 0 (us.map TT.tm) = Z := by rw [hspec, hsplit]; rfl
 refine zai.ent (st' := { s := [(1, .one (.v (.int .i64 p))), (2, .one (.v (.int .i64 v))), (3, .one (.v (.int .i64 d))), (4, .one (.p 0 0))], m := [(0, .cells 41 ((TT.mk k n s la lc ls aa ac us).cells.map SA.v))], k := 1, f := [fun w => TTIn w (TT.mk k n s la lc ls aa ac us)] }) (zaa [(0, .blk 0)] rfl rfl rfl rfl (leB rfl) (rs rfl rfl) (rm rfl rfl) ⟨⟨TTIn.upS _, fun w h => h.1⟩, trivial⟩) ?_
 refine zaf zac [] _ _ _ ?_
 refine ⟨⟨Nat, fun j => j <= us.length /\ zcj k p v d j ((us.map TT.tm).drop j) = Z, fun j => { s := [(13, .one (.v (.int .i64 (j : Int)))), (1, .one (.v (.int .i64 p))), (2, .one (.v (.int .i64 v))), (3, .one (.v (.int .i64 d))), (4, .one (.p 0 0))], m := [(0, .cells 41 ((TT.mk k n s la lc ls aa ac us).cells.map SA.v))], k := 1, f := [fun w => TTIn w (TT.mk k n s la lc ls aa ac us)] }, fun j => us.length - j, ⟨0, ⟨Nat.zero_le _, hZ2⟩, zaa [(0, .blk 0)] rfl rfl rfl rfl (leB rfl) (rs rfl rfl) (rm rfl rfl) ⟨⟨TTIn.upS _, fun w h => h.1⟩, trivial⟩⟩, ?_⟩⟩
 rintro j ⟨hj, hA⟩
 refine zad (fun hlt => ?_) (fun hge => ?_)
 rotate_left
 ·have hge : us.length <= j := by
   have h : decide ((j : Int) < (us.length : Int)) = false := hge
   have := of_decide_eq_false h
   omega
  exact ⟨_, rfl, Told.val (by rw [<- hA, List.drop_eq_nil_of_le (by simpa using hge)]; simp [zcj])⟩
 have hlt : j < us.length := by
  have h : decide ((j : Int) < (us.length : Int)) = true := hlt
  have := of_decide_eq_true h
  omega
 obtain ⟨u, hu⟩ : ∃ u, us[j]? = some u := ⟨_, List.getElem?_eq_getElem hlt⟩
 have hmem := List.mem_of_getElem? hu
 have hrec := ih _ (zd5 hmem) (IntKind.i64.wrap (v + zbi k j)) (IntKind.i64.wrap (d + zbi k j)) u rfl
 have hstep : Z = (allT p (IntKind.i64.wrap (v + zbi k j)) (IntKind.i64.wrap (d + zbi k j)) u.tm && zcj k p v d (j + 1) ((us.map TT.tm).drop (j + 1))) := by
  rw [<- hA, List.drop_eq_getElem_cons (by simpa using hlt), zcj]
  simp [(List.getElem?_eq_some_iff.1 hu).2]
 obtain ⟨uk, un, uname, ula, ulc, uls, uaa, uac, uus⟩ := u
 obtain ⟨b, hb⟩ : ∃ b, allT p (IntKind.i64.wrap (v + zbi k j)) (IntKind.i64.wrap (d + zbi k j)) (TT.mk uk un uname ula ulc uls uaa uac uus).tm = b := ⟨_, rfl⟩
 rw [hb] at hrec hstep
 have hbi := zwi k j
 have hdi : zbi k j = 0 \/ zbi k j = 1 := by unfold zbi; split <;> simp
 rw [zur (Int.natCast_nonneg j)] at hbi
 clear hb
 obtain ⟨dI, hdI⟩ : ∃ x, zbi k j = x := ⟨_, rfl⟩
 rw [hdI] at hbi hdi hrec
 rcases hdi with rfl | rfl
 ·rw [show decide ((0 : Int) = 1) = false from rfl] at hbi
  refine zae hbi (fun _ => rfl) (fun _ _ => trivial) ?_
  rintro r rfl
  refine ⟨{ n := j }, ⟨rfl, hlt, fun w h => ?_⟩, ?_⟩
  ·obtain ⟨⟨a, ha, _⟩, _⟩ := h.2.1.arg hu
   rw [ha]
   rfl
  refine ⟨{ cs := (TT.mk uk un uname ula ulc uls uaa uac uus).cells }, ⟨TT.cells_one (TT.mk uk un uname ula ulc uls uaa uac uus), rfl, fun w h => ?_⟩, ?_⟩
  ·obtain ⟨⟨a, ha, hc⟩, _⟩ := h.2.1.arg hu
   exact ⟨_, by rw [ha]; rfl, hc⟩
  refine zae hrec (fun _ => rfl) (fun w h => (h.2.1.arg hu).2) ?_
  rintro r rfl
  cases b with
  | false => exact ⟨_, rfl, Told.val (by rw [hstep]; rfl)⟩
  | true =>
   refine ⟨j + 1, ⟨hlt, by rw [hstep]; rfl⟩, by simp only; omega, ?_⟩
   exact zaa [(0, .blk 0)] rfl rfl rfl rfl (leB rfl) ⟨⟨_, rfl, oneI (za9 (by omega) (by omega))⟩, ⟨_, rfl, rfl⟩, ⟨_, rfl, rfl⟩, ⟨_, rfl, rfl⟩, ⟨_, rfl, rfl⟩, trivial⟩ ⟨⟨_, rfl, rfl⟩, trivial⟩ ⟨⟨TTIn.upS _, fun w h => h.2.2.1⟩, trivial⟩
 ·rw [show decide ((1 : Int) = 1) = true from rfl] at hbi
  refine zae hbi (fun _ => rfl) (fun _ _ => trivial) ?_
  rintro r rfl
  refine ⟨{ n := j }, ⟨rfl, hlt, fun w h => ?_⟩, ?_⟩
  ·obtain ⟨⟨a, ha, _⟩, _⟩ := h.2.1.arg hu
   rw [ha]
   rfl
  refine ⟨{ cs := (TT.mk uk un uname ula ulc uls uaa uac uus).cells }, ⟨TT.cells_one (TT.mk uk un uname ula ulc uls uaa uac uus), rfl, fun w h => ?_⟩, ?_⟩
  ·obtain ⟨⟨a, ha, hc⟩, _⟩ := h.2.1.arg hu
   exact ⟨_, by rw [ha]; rfl, hc⟩
  refine zae hrec (fun _ => rfl) (fun w h => (h.2.1.arg hu).2) ?_
  rintro r rfl
  cases b with
  | false => exact ⟨_, rfl, Told.val (by rw [hstep]; rfl)⟩
  | true =>
   refine ⟨j + 1, ⟨hlt, by rw [hstep]; rfl⟩, by simp only; omega, ?_⟩
   exact zaa [(0, .blk 0)] rfl rfl rfl rfl (leB rfl) ⟨⟨_, rfl, oneI (za9 (by omega) (by omega))⟩, ⟨_, rfl, rfl⟩, ⟨_, rfl, rfl⟩, ⟨_, rfl, rfl⟩, ⟨_, rfl, rfl⟩, trivial⟩ ⟨⟨_, rfl, rfl⟩, trivial⟩ ⟨⟨TTIn.upS _, fun w h => h.2.2.1⟩, trivial⟩
end Go.Proofs.YtmkpiekbpakigaaDoor
end
section
set_option linter.unusedVariables false
set_option linter.unusedSimpArgs false
namespace Go.Proofs.YtmkpiekbpakigaaDoor
open Go.RowKit Go.Proofs.Base Go.Proofs.Sym
mutual
theorem znb : ∀ (t : TT) (p v d : Int), allT p v d t.tm = true -> zdu 3000 t = if cntT t.tm <= 3000 then cntT t.tm else 3001
 | .mk k n s la lc ls aa ac us, p, v, d, h => by
  rw [zbs] at h ⊢
  unfold allT at h
  rw [Bool.and_eq_true] at h
  obtain ⟨_, _, _, _, _, hl⟩ := zgi h.1
  have hl := (zek hl).1
  have hl4 := (zky k).2
  rw [zdu, za9 (n := 1 + (ls.length : Int)) (by omega) (by omega), cntT]
  rcases zmf us 0 (1 + ls.length) k p v d h.2 (by omega) (by omega) with ⟨g1, g2⟩ | ⟨g1, g2⟩
  ·rw [if_neg (by omega), if_pos g1, g2]
  ·rw [if_neg (show ¬ (1 + (ls.length : Int) + ze4 (us.map TT.tm) <= 3000) by omega)]
   split <;> omega
theorem zmf : ∀ (us : List TT) (i : Nat) (n k p v d : Int), zcj k p v d i (us.map TT.tm) = true -> 0 <= n -> n <= 6001 ->
  (n + ze4 (us.map TT.tm) <= 3000 /\ zee 3000 us n = n + ze4 (us.map TT.tm)) \/ (3000 < n + ze4 (us.map TT.tm) /\ 3000 < zee 3000 us n)
 | [], i, n, k, p, v, d, h, h0, h1 => by
  rw [List.map_nil, ze4, zee]
  omega
 | t :: r, i, n, k, p, v, d, h, h0, h1 => by
  rw [List.map_cons] at h ⊢
  rw [zcj, Bool.and_eq_true] at h
  have h2 := znb t _ _ _ h.1
  have h3 := zib t.tm
  have h4 := zfl (r.map TT.tm)
  rw [ze4, zee]
  by_cases hn : n <= 3000
  ·rw [if_pos hn]
   have hb : 0 <= zdu 3000 t /\ zdu 3000 t <= 3001 := by rw [h2]; split <;> omega
   rw [za9 (by omega) (by omega)]
   have ih := zmf r (i + 1) (n + zdu 3000 t) k p v d h.2 (by omega) (by omega)
   rw [h2] at ih ⊢
   split at ih
   ·rename_i hc
    rw [if_pos hc]
    omega
   ·rename_i hc
    rw [if_neg hc]
    omega
  ·rw [if_neg hn]
   omega
end
mutual
theorem zxk (p v d : Int) : ∀ (t : Tm) (c : Int), allT p v d t = true -> 0 <= c -> c <= 3000 -> (visT c t).1 <= c + cntT t
 | .mk k n s ls args, c, h, h0, h1 => by
  unfold allT at h
  rw [Bool.and_eq_true] at h
  obtain ⟨_, _, _, _, _, hl⟩ := zgi h.1
  have hl := (zek hl).1
  have hl4 := (zky k).2
  have hc := zue (ls := ls) h0 h1 (by omega)
  have hp := zfl args
  unfold visT cntT
  by_cases hle : cntB c ls <= 3000
  ·have hd : decide (cntB c ls <= 3000) = true := decide_eq_true hle
   simp only [hd]
   rw [hc] at hle ⊢
   have := zuw k p v d args 0 (c + (1 + ls.length)) h.2 (by omega) hle
   omega
  ·have hd : decide (cntB c ls <= 3000) = false := decide_eq_false hle
   simp only [hd]
   omega
theorem zuw (k p v d : Int) : ∀ (ts : List Tm) (i : Nat) (c : Int), zcj k p v d i ts = true -> 0 <= c -> c <= 3000 -> (zdk c ts).1 <= c + ze4 ts
 | [], i, c, _, h0, h1 => by
  unfold zdk ze4
  simp
 | t :: r, i, c, h, h0, h1 => by
  unfold zcj at h
  rw [Bool.and_eq_true] at h
  unfold zdk ze4
  have hle := zxk p _ _ t c h.1 h0 h1
  have hp := zfl r
  have hp2 := zib t
  rcases ztu p _ _ t c h.1 h0 h1 with ⟨g1, g2, g3⟩ | ⟨g1, g2⟩
  ·rw [g1]
   simp only
   rw [g2]
   have := zuw k p v d r (i + 1) (c + cntT t) h.2 (by omega) g3
   omega
  ·rw [g1]
   simp only
   omega
end
theorem zvv {p v : Int} {t : TT} (h : allT p v 0 t.tm = true) : decide (zdu 3000 t <= 3000) = decide (zcb t.tm <= 3000) := by
 rw [decide_eq_decide, znb t _ _ _ h]
 unfold zcb
 rcases ztu p v 0 t.tm 0 h (by omega) (by omega) with ⟨g1, g2, g3⟩ | ⟨g1, g2⟩
 ·rw [g2]
  repeat' split
  all_goals omega
 ·have hc : ¬ cntT t.tm <= 3000 := by
   intro hc
   have := zxk p v 0 t.tm 0 h (by omega) (by omega)
   omega
  rw [if_neg hc]
  split <;> omega
theorem zwp (p v : Int) (t : TT) : zbm p v t.tm = (decide (0 <= p) && (decide (p <= 4) && (decide (0 <= v) && (decide (v <= 1099511627776) && (decide (zdu 3000 t <= 3000) && allT p v 0 t.tm))))) := by
 unfold zbm
 cases h : allT p v 0 t.tm with
 | false => simp
 | true => rw [zvv h]
theorem zt6 (p v : Int) (t : TT) : PCall Tryd.prog 47 [t.val, .int .i64 p, .int .i64 v] (fun w => TTIn w t) (fun r => r = .bool (zbm p v t.tm)) (fun _ _ => True) := by
 have hn := zpk 3000 (by omega) (by omega) t
 have ha := zug p v 0 t
 have hs := zwp p v t
 obtain ⟨Z, hZ⟩ : ∃ Z, zbm p v t.tm = Z := ⟨_, rfl⟩
 rw [hZ] at hs ⊢
 clear hZ
 obtain ⟨nr, hnr⟩ : ∃ x, zdu 3000 t = x := ⟨_, rfl⟩
 obtain ⟨a, hae⟩ : ∃ x, allT p v 0 t.tm = x := ⟨_, rfl⟩
 rw [hnr] at hn hs
 rw [hae] at ha hs
 obtain ⟨k, n, s, la, lc, ls, aa, ac, us⟩ := t
 refine zar zac 32 [.tmp 6] Tryd.func47 rfl rfl (by kernel_rfl) rfl _ (leB rfl) (TTIn.upS _) (fun _ => Up.true) ?_
 refine zaf zac [] _ _ _ ?_
 refine zad (fun h1 => ?_) (fun h1 => ?_)
 rotate_left
 ·exact ⟨_, rfl, Told.val (by rw [hs, show decide (0 <= p) = false from h1]; rfl)⟩
 refine zad (fun h2 => ?_) (fun h2 => ?_)
 rotate_left
 ·exact ⟨_, rfl, Told.val (by rw [hs, show decide (0 <= p) = true from h1, show decide (p <= 4) = false from h2]; rfl)⟩
 refine zad (fun h3 => ?_) (fun h3 => ?_)
 rotate_left
 ·exact ⟨_, rfl, Told.val (by rw [hs, show decide (0 <= p) = true from h1, show decide (p <= 4) = true from h2, show decide (0 <= v) = false from h3]; rfl)⟩
 refine zad (fun h4 => ?_) (fun h4 => ?_)
 rotate_left
 ·exact ⟨_, rfl, Told.val (by rw [hs, show decide (0 <= p) = true from h1, show decide (p <= 4) = true from h2, show decide (0 <= v) = true from h3, show decide (v <= 1099511627776) = false from h4]; rfl)⟩
 rw [show decide (0 <= p) = true from h1, show decide (p <= 4) = true from h2, show decide (0 <= v) = true from h3, show decide (v <= 1099511627776) = true from h4] at hs
 refine zae hn (fun _ => rfl) (fun w h => h.1) ?_
 rintro r rfl
 refine zad (fun h5 => ?_) (fun h5 => ?_)
 rotate_left
 ·exact ⟨_, rfl, Told.val (by rw [hs, show decide (nr <= 3000) = false from h5]; rfl)⟩
 rw [show decide (nr <= 3000) = true from h5] at hs
 refine zae ha (fun _ => rfl) (fun w h => h.2.1) ?_
 rintro r rfl
 exact ⟨_, rfl, Told.val (by rw [hs]; rfl)⟩
theorem zzh (t : TT) : PCall Tryd.prog 37 [t.val] (fun w => TTIn w t) (fun r => r = .bool (zbm 4 1099511627776 t.tm)) (fun _ _ => True) := by
 have hr := zt6 4 1099511627776 t
 obtain ⟨Z, hZ⟩ : ∃ Z, zbm 4 1099511627776 t.tm = Z := ⟨_, rfl⟩
 rw [hZ] at hr ⊢
 obtain ⟨k, n, s, la, lc, ls, aa, ac, us⟩ := t
 refine zar zac 5 [.tmp 2] Tryd.func37 rfl rfl (by kernel_rfl) rfl _ (leB rfl) (TTIn.upS _) (fun _ => Up.true) ?_
 refine zaf zac [] _ _ _ ?_
 refine zae hr (fun _ => rfl) (fun w h => h.1) ?_
 rintro r rfl
 exact ⟨_, rfl, Told.val rfl⟩
end Go.Proofs.YtmkpiekbpakigaaDoor
end
section
set_option linter.unusedVariables false
set_option linter.unusedSimpArgs false
namespace Go.Proofs.YtmkpiekbpakigaaDoor
open Go.RowKit Go.Proofs.Base Go.Proofs.Sym
def mxI (a b : Int) : Int := if b > a then b else a
mutual
def loW : Tm -> Int -> Int
 | .mk k n _ _ us, d => if k = 1 then mxI (IntKind.i64.wrap (IntKind.i64.wrap (n - d) + 1)) 0 else loWs k 0 us d 0
def loWs (k : Int) : Nat -> List Tm -> Int -> Int -> Int
 | _, [], _, acc => acc
 | j, u :: r, d, acc => loWs k (j + 1) r d (mxI acc (loW u (IntKind.i64.wrap (d + zbi k j))))
end
def zz5 (t : Tm) : Int := if zbe t = true then loW t 0 else 0
end Go.Proofs.YtmkpiekbpakigaaDoor
end
section
set_option linter.unusedVariables false
set_option linter.unusedSimpArgs false
namespace Go.Proofs.YtmkpiekbpakigaaDoor
open Go.RowKit Go.Proofs.Base Go.Proofs.Sym
mutual
def wfT : Tm -> Int -> Prop
 | .mk k n s ls us, d => (zc8 k n s ls us.length 4 (1099511627776 + d) d = true /\ 0 <= d /\ d <= 200) /\ wfTs k 0 us d
def wfTs (k : Int) : Int -> List Tm -> Int -> Prop
 | _, [], _ => True
 | j, u :: r, d => wfT u (d + zbi k j) /\ wfTs k (j + 1) r d
end
theorem zwr {k n : Int} {s : ByteArray} {ls : List Lv} {len p v d : Int} (h : zc8 k n s ls len p v d = true) : d <= 200 := by
 unfold zc8 at h
 simp only [Bool.and_eq_true, Bool.not_eq_true', decide_eq_false_iff_not] at h
 omega
mutual
theorem zaak : ∀ (t : Tm) (d : Int), 0 <= d -> allT 4 (1099511627776 + d) d t = true -> wfT t d
 | .mk k n s ls us, d, hd, h => by
  unfold allT at h
  rw [Bool.and_eq_true] at h
  have h2 := zwr h.1
  unfold wfT
  exact ⟨⟨h.1, hd, h2⟩, zx4 k us 0 d hd h2 h.2⟩
theorem zx4 (k : Int) : ∀ (us : List Tm) (i : Nat) (d : Int), 0 <= d -> d <= 200 -> zcj k 4 (1099511627776 + d) d i us = true -> wfTs k i us d
 | [], i, d, hd, h2, h => by
  unfold wfTs
  trivial
 | u :: r, i, d, hd, h2, h => by
  have h01 := zpv k i
  unfold zcj at h
  rw [Bool.and_eq_true, za9 (n := d + zbi k i) (by omega) (by omega), za9 (n := 1099511627776 + d + zbi k i) (by omega) (by omega), Int.add_assoc] at h
  unfold wfTs
  exact ⟨zaak u _ (by omega) h.1, zx4 k r (i + 1) d hd h2 h.2⟩
end
mutual
theorem zaap : ∀ (t : Tm) (d : Int), wfT t d -> allT 4 (1099511627776 + d) d t = true
 | .mk k n s ls us, d, h => by
  unfold wfT at h
  unfold allT
  rw [Bool.and_eq_true]
  exact ⟨h.1.1, zxj k us 0 d h.1.2.1 h.1.2.2 h.2⟩
theorem zxj (k : Int) : ∀ (us : List Tm) (i : Nat) (d : Int), 0 <= d -> d <= 200 -> wfTs k i us d -> zcj k 4 (1099511627776 + d) d i us = true
 | [], i, d, hd, h2, h => by unfold zcj; rfl
 | u :: r, i, d, hd, h2, h => by
  have h01 := zpv k i
  unfold wfTs at h
  unfold zcj
  rw [Bool.and_eq_true, za9 (n := d + zbi k i) (by omega) (by omega), za9 (n := 1099511627776 + d + zbi k i) (by omega) (by omega), Int.add_assoc]
  exact ⟨zaap u _ h.1, zxj k r (i + 1) d hd h2 h.2⟩
end
theorem zqv {t : Tm} (h : zbe t = true) : wfT t 0 := by
 unfold zbe zbm at h
 simp only [Bool.and_eq_true] at h
 exact zaak t 0 (Int.le_refl _) h.2.2.2.2.2
theorem zwz {t : Tm} (h : wfT t 0) (hs : za8 t <= 3000) : zbe t = true := by
 unfold zbe zbm
 rw [zi5 (zc2 t hs), if_pos hs]
 simp only [Bool.and_eq_true, decide_eq_true_eq]
 exact ⟨by decide, by decide, by decide, by decide, by omega, zaap t 0 h⟩
section
variable {t : Tm} (hr : zbe t = true) (hB : tmB t) (hl : zz5 t <= 549755813888)
include hr hB hl
end
end Go.Proofs.YtmkpiekbpakigaaDoor
end
section
set_option linter.unusedVariables false
set_option linter.unusedSimpArgs false
namespace Go.Proofs.YtmkpiekbpakigaaDoor
open Go.RowKit Go.Proofs.Base Go.Proofs.Sym
theorem zqt {a b : ByteArray} {k : Int} {s : ByteArray} (h : a ∉ ze0 k s) : renN a b k s = s := by
 unfold renN
 split
 ·rename_i hc
  rw [Bool.and_eq_true, Bool.or_eq_true, decide_eq_true_eq, decide_eq_true_eq, decide_eq_true_eq] at hc
  unfold ze0 at h
  rw [if_pos hc.1, hc.2] at h
  simp at h
 ·rfl
theorem zvf {a b : ByteArray} {k : Int} {s : ByteArray} (h : b ∉ ze0 k s) : renN b a k (renN a b k s) = s := by
 by_cases hc : ((decide (k = 4) || decide (k = 9)) && decide (s = a)) = true
 ·have e : renN a b k s = b := by
   unfold renN
   rw [hc]
  rw [e]
  rw [Bool.and_eq_true, decide_eq_true_eq] at hc
  unfold renN
  rw [hc.1, decide_eq_true rfl]
  exact hc.2.symm
 ·have e : renN a b k s = s := by
   unfold renN
   rw [Bool.not_eq_true] at hc
   rw [hc]
  rw [e]
  exact zqt h
mutual
theorem zpu {a b : ByteArray} : ∀ t : Tm, a ∉ zb2 t -> renM a b t = t
 | .mk k n s ls us, h => by
  rw [zb2, List.mem_append, not_or] at h
  rw [renM, zqt h.1, znh us h.2]
theorem znh {a b : ByteArray} : ∀ us : List Tm, a ∉ zb6 us -> zdp a b us = us
 | [], _ => by rw [zdp]
 | u :: r, h => by
  rw [zb6, List.mem_append, not_or] at h
  rw [zdp, zpu u h.1, znh r h.2]
end
mutual
theorem zpe {a b : ByteArray} : ∀ t : Tm, b ∉ zb2 t -> renM b a (renM a b t) = t
 | .mk k n s ls us, h => by
  rw [zb2, List.mem_append, not_or] at h
  rw [renM, renM, zvf h.1, zms us h.2]
theorem zms {a b : ByteArray} : ∀ us : List Tm, b ∉ zb6 us -> zdp b a (zdp a b us) = us
 | [], _ => by rw [zdp, zdp]
 | u :: r, h => by
  rw [zb6, List.mem_append, not_or] at h
  rw [zdp, zdp, zpe u h.1, zms r h.2]
end
theorem zm2 (a b : ByteArray) : ∀ us : List Tm, (zdp a b us).length = us.length
 | [] => by rw [zdp]
 | u :: r => by rw [zdp, List.length_cons, List.length_cons, zm2 a b r]
mutual
theorem zpt (a b : ByteArray) : ∀ t : Tm, za8 (renM a b t) = za8 t
 | .mk k n s ls us => by rw [renM, za8, za8, zmm a b us]
theorem zmm (a b : ByteArray) : ∀ us : List Tm, zbf (zdp a b us) = zbf us
 | [] => by rw [zdp]
 | u :: r => by rw [zdp, zbf, zbf, zpt a b u, zmm a b r]
end
theorem zml {a b : ByteArray} {k n v : Int} {s : ByteArray} (hb : zcd b = true) (h : zbb k n s v = true) : zbb k n (renN a b k s) v = true := by
 unfold renN
 split
 ·rename_i hc
  rw [Bool.and_eq_true, Bool.or_eq_true, decide_eq_true_eq, decide_eq_true_eq] at hc
  unfold zbb at h ⊢
  rcases hc.1 with rfl | rfl
  ·rw [if_neg (by decide), if_pos rfl, Bool.and_eq_true] at h ⊢
   exact ⟨h.1, hb⟩
  ·rw [if_neg (by decide), if_neg (by decide), if_pos rfl, Bool.and_eq_true, Bool.and_eq_true] at h ⊢
   exact ⟨h.1, h.2.1, hb⟩
 ·exact h
mutual
theorem zxo {a b : ByteArray} (hb : zcd b = true) : ∀ (t : Tm) (d : Int), wfT t d -> wfT (renM a b t) d
 | .mk k n s ls us, d, h => by
  unfold wfT at h
  rw [renM]
  unfold wfT
  rw [zm2]
  refine ⟨⟨?_, h.1.2⟩, zvc hb k us 0 d h.2⟩
  have h1 := h.1.1
  unfold zc8 at h1 ⊢
  simp only [Bool.and_eq_true] at h1 ⊢
  exact ⟨h1.1, h1.2.1, h1.2.2.1, h1.2.2.2.1, zml hb h1.2.2.2.2.1, h1.2.2.2.2.2⟩
theorem zvc {a b : ByteArray} (hb : zcd b = true) (k : Int) : ∀ (us : List Tm) (j d : Int), wfTs k j us d -> wfTs k j (zdp a b us) d
 | [], j, d, _ => by rw [zdp]; unfold wfTs; trivial
 | u :: r, j, d, h => by
  unfold wfTs at h
  rw [zdp]
  unfold wfTs
  exact ⟨zxo hb u _ h.1, zvc hb k r _ d h.2⟩
end
mutual
theorem zkh : ∀ (t : Tm) (d : Int), wfT t d -> ∀ s ∈ zb2 t, zcd s = true
 | .mk k n s ls us, d, h, x, hx => by
  unfold wfT at h
  rw [zb2, List.mem_append] at hx
  rcases hx with hx | hx
  ·have h1 := h.1.1
   unfold zc8 at h1
   simp only [Bool.and_eq_true] at h1
   have h2 := zj6 h1.2.2.2.2.1
   unfold ze0 at hx
   split at hx
   ·rename_i hk
    rw [List.mem_singleton.1 hx]
    rcases hk with hk | hk
    ·exact (h2.2.1 hk).2
    ·exact (h2.2.2.1 hk).2.2
   ·cases hx
  ·exact zis k us 0 d h.2 x hx
theorem zis (k : Int) : ∀ (us : List Tm) (j d : Int), wfTs k j us d -> ∀ s ∈ zb6 us, zcd s = true
 | [], j, d, _, x, hx => by rw [zb6] at hx; cases hx
 | u :: r, j, d, h, x, hx => by
  unfold wfTs at h
  rw [zb6, List.mem_append] at hx
  rcases hx with hx | hx
  ·exact zkh u _ h.1 x hx
  ·exact zis k r _ d h.2 x hx
end
section
variable {t : Tm} (hr : zbe t = true) (hB : tmB t)
include hr
theorem zv6 {a b : ByteArray} (hb : zcd b = true) : zjx a b t = some (renM a b t) := by
 unfold zjx
 rw [hr, hb]
 rfl
include hB
theorem zzi {a b : ByteArray} (hb : zcd b = true) (ha : a ∈ zb2 t) (hn : b ∉ zb2 t) : zjx b a (renM a b t) = some t /\ tmB (renM a b t) := by
 have hs := zin hB hr
 have hs2 : za8 (renM a b t) <= 3000 := by rw [zpt]; exact hs
 have h1 : zbe (renM a b t) = true := zwz (zxo hb t 0 (zqv hr)) hs2
 have h2 := zkh t 0 (zqv hr) a ha
 refine ⟨?_, zc2 _ hs2⟩
 rw [zv6 h1 h2, zpe t hn]
end
end Go.Proofs.YtmkpiekbpakigaaDoor
end
section
set_option linter.unusedVariables false
set_option linter.unusedSimpArgs false
namespace Go.Proofs.YtmkpiekbpakigaaDoor
open Go.RowKit Go.Proofs.Base Go.Proofs.Sym
set_option maxHeartbeats 8000000 in
theorem zne (t : TT) (a b : ByteArray) (hB : tmB t.tm) : PCall Tryd.prog 11 [t.val, .string a, .string b] (amG [t]) (fun r => r = .bool true) (fun _ _ => True) := by
 have hg8 := zuv t
 obtain ⟨g8, hg8e⟩ : ∃ B, decide (3600 < zdu 3600 t) = B := ⟨_, rfl⟩
 rw [hg8e] at hg8
 clear hg8e
 have hany := zzh t
 obtain ⟨ab, hab⟩ : ∃ b, zbm 4 1099511627776 t.tm = b := ⟨_, rfl⟩
 rw [hab] at hany
 have hwp := zqb b
 obtain ⟨wb, hwb⟩ : ∃ w, zcd b = w := ⟨_, rfl⟩
 rw [hwb] at hwp
 obtain ⟨xtk, xtn, xts, xtla, xtlc, xtls, xtaa, xtac, xtus⟩ := t
 refine zar zac 93 [.tmp 6] Tryd.func11 rfl rfl (by kernel_rfl) rfl _ (leB rfl) (amG.up _) (fun _ => Up.true) ?_
 refine zaf zac [3] _ _ _ ?_
 refine zae zs9 (fun _ => rfl) (fun w h => h.1.1) ?_
 rintro r rfl
 refine zai.ent (st' := { s := [(3, .one (.p 0 0)), (1, .one (.v (.string a))), (2, .one (.v (.string b)))], m := [(0, .cells 41 ((TT.mk xtk xtn xts xtla xtlc xtls xtaa xtac xtus).cells.map SA.v))], k := 1, f := [amG [(TT.mk xtk xtn xts xtla xtlc xtls xtaa xtac xtus)]] }) (zaa [(0, .blk 0)] rfl rfl rfl rfl (leB rfl) (rs rfl rfl) (rm rfl rfl) ⟨⟨amG.up _, fun w h => h.2.1⟩, trivial⟩) ?_
 refine zaf zac [5] _ _ _ ?_
 refine zae hg8 (fun _ => rfl) (fun w h => h.1.get 0 rfl) ?_
 rintro r rfl
 cases g8 with
 | true => exact ⟨_, rfl, Told.val rfl⟩
 | false =>
 refine zae hany (fun _ => rfl) (fun w h => h.2.1.get 0 rfl) ?_
 rintro r rfl
 cases ab with
 | false => exact ⟨_, rfl, Told.val rfl⟩
 | true =>
 have hright : zbe (TT.mk xtk xtn xts xtla xtlc xtls xtaa xtac xtus).tm = true := hab
 refine zad (fun h => ?_) (fun hn0 => ?_)
 ·exact ⟨_, rfl, Told.val rfl⟩
 have hb0 : a.size <= 40 := by
  have h : decide (40 < (a.size : Int)) = false := hn0
  have := of_decide_eq_false h
  omega
 clear hn0
 refine zad (fun h => ?_) (fun hn1 => ?_)
 ·exact ⟨_, rfl, Told.val rfl⟩
 have hb1 : b.size <= 40 := by
  have h : decide (40 < (b.size : Int)) = false := hn1
  have := of_decide_eq_false h
  omega
 clear hn1
 refine zai.ent (st' := { s := [(3, .one (.p 0 0)), (1, .one (.v (.string a))), (2, .one (.v (.string b)))], m := [(0, .cells 41 ((TT.mk xtk xtn xts xtla xtlc xtls xtaa xtac xtus).cells.map SA.v))], k := 1, f := [amG [(TT.mk xtk xtn xts xtla xtlc xtls xtaa xtac xtus)]] }) (zaa [(0, .blk 0)] rfl rfl rfl rfl (leB rfl) (rs rfl rfl) (rm rfl rfl) ⟨⟨amG.up _, fun w h => h.2.2.1⟩, trivial⟩) ?_
 have l1 := (zix (TT.mk xtk xtn xts xtla xtlc xtls xtaa xtac xtus) a b hB (by simp only [maxLen]; omega)).q
 have e1 : zjx a b (TT.mk xtk xtn xts xtla xtlc xtls xtaa xtac xtus).tm = zrl (renM a b (TT.mk xtk xtn xts xtla xtlc xtls xtaa xtac xtus).tm) wb := by unfold zjx; rw [hright, Bool.true_and, hwb]
 rw [e1] at l1
 refine zaf zac [6] _ _ _ ?_
 refine zab [] l1 rfl trivial rfl rfl (fun w h => ⟨h.1.1, h.1.get 0 rfl⟩) (fun q _ => ?_) (fun q hq => ?_)
 ·obtain ⟨q1, xvk, xvn, xvs, xvla, xvlc, xvls, xvaa, xvac, xvus⟩ := q
  exact ⟨rfl, rfl⟩
 obtain ⟨q1, xxk, xxn, xxs, xxla, xxlc, xxls, xxaa, xxac, xxus⟩ := q
 have hq : qOk _ (q1, (TT.mk xxk xxn xxs xxla xxlc xxls xxaa xxac xxus)) := hq
 have key : q1 = wb /\ (wb = true -> (TT.mk xxk xxn xxs xxla xxlc xxls xxaa xxac xxus).tm = renM a b (TT.mk xtk xtn xts xtla xtlc xtls xtaa xtac xtus).tm) := by
  cases wb with
  | false =>
   have hq : (q1, (TT.mk xxk xxn xxs xxla xxlc xxls xxaa xxac xxus)) = (false, zT) := hq
   injection hq with h1 _
   exact ⟨h1, fun h => by cases h⟩
  | true => exact ⟨hq.1, fun _ => hq.2⟩
 obtain ⟨hq1, hx⟩ := key
 subst hq1
 clear hq e1 l1
 refine zai.ent (st' := { s := [(3, .one (.p 0 0)), (7, .one (.p 1 0)), (8, .one (.v (.bool q1))), (1, .one (.v (.string a))), (2, .one (.v (.string b)))], m := [(0, .cells 41 ((TT.mk xtk xtn xts xtla xtlc xtls xtaa xtac xtus).cells.map SA.v)), (1, .cells 41 ((TT.mk xxk xxn xxs xxla xxlc xxls xxaa xxac xxus).cells.map SA.v))], k := 2, f := [amG [(TT.mk xtk xtn xts xtla xtlc xtls xtaa xtac xtus), (TT.mk xxk xxn xxs xxla xxlc xxls xxaa xxac xxus)]] }) (zaa [(0, .blk 0), (1, .blk 1)] rfl rfl rfl rfl (leB rfl) (rs rfl rfl) (rm rfl rfl) ⟨⟨amG.up _, fun w h => h.2.1.snoc h.1⟩, trivial⟩) ?_
 have lc := zvi (TT.mk xtk xtn xts xtla xtlc xtls xtaa xtac xtus) (zin hB hright)
 obtain ⟨N, hN⟩ : ∃ N, zb2 (TT.mk xtk xtn xts xtla xtlc xtls xtaa xtac xtus).tm = N := ⟨_, rfl⟩
 rw [hN] at lc
 refine zaf zac [8, 16] _ _ _ ?_
 refine zae hwp (fun _ => rfl) (fun _ _ => trivial) ?_
 rintro r rfl
 refine zad (fun h => ?_) (fun hne => ?_)
 ·have h : (!(q1 == q1)) = true := h
  simp at h
 clear hne
 refine zai.ent (st' := { s := [(3, .one (.p 0 0)), (7, .one (.p 1 0)), (8, .one (.v (.bool q1))), (1, .one (.v (.string a))), (2, .one (.v (.string b)))], m := [(0, .cells 41 ((TT.mk xtk xtn xts xtla xtlc xtls xtaa xtac xtus).cells.map SA.v)), (1, .cells 41 ((TT.mk xxk xxn xxs xxla xxlc xxls xxaa xxac xxus).cells.map SA.v))], k := 2, f := [amG [(TT.mk xtk xtn xts xtla xtlc xtls xtaa xtac xtus), (TT.mk xxk xxn xxs xxla xxlc xxls xxaa xxac xxus)]] }) (zaa [(0, .blk 0), (1, .blk 1)] rfl rfl rfl rfl (leB rfl) (rs rfl rfl) (rm rfl rfl) ⟨⟨amG.up _, fun w h => h.2.1⟩, trivial⟩) ?_
 refine zaf zac [16] _ _ _ ?_
 refine zab [] lc rfl trivial rfl rfl (fun w h => h.1.get 0 rfl) (fun _ _ => ⟨rfl, rfl⟩) (fun out hout2 => ?_)
 obtain ⟨hout, hol⟩ := hout2
 refine ⟨⟨Nat × Bool, fun q => q.1 <= out.length /\ b ∉ out.take q.1 /\ (q.2 = true ↔ a ∈ out.take q.1), fun q => { s := [(3, .one (.p 0 0)), (7, .one (.p 1 0)), (8, .one (.v (.bool q1))), (1, .one (.v (.string a))), (2, .one (.v (.string b))), (9, .one (.row 2)), (10, .one (.v (.bool q.2))), (11, .one (.v (.int .i64 (q.1 : Int))))], m := [(0, .cells 41 ((TT.mk xtk xtn xts xtla xtlc xtls xtaa xtac xtus).cells.map SA.v)), (1, .cells 41 ((TT.mk xxk xxn xxs xxla xxlc xxls xxaa xxac xxus).cells.map SA.v)), (2, .own 9 1 out.length (strC out))], k := 3, f := [amG [(TT.mk xtk xtn xts xtla xtlc xtls xtaa xtac xtus), (TT.mk xxk xxn xxs xxla xxlc xxls xxaa xxac xxus)]] }, fun q => out.length - q.1, ⟨(0, false), ⟨Nat.zero_le _, by simp, by simp⟩, zaa [(0, .blk 0), (1, .blk 1), (2, .own 2)] rfl rfl rfl rfl (leB rfl) (rs rfl rfl) ⟨⟨_, rfl, rfl⟩, ⟨_, rfl, rfl⟩, ⟨_, _, rfl, rfl, rfl⟩, trivial⟩ ⟨⟨amG.up _, fun w h => h.2.1⟩, trivial⟩⟩, ?_⟩⟩
 rintro ⟨i, v⟩ ⟨hi0, hto0, hv0⟩
 have hi : i <= out.length := hi0
 have hto : b ∉ out.take i := hto0
 have hv : v = true ↔ a ∈ out.take i := hv0
 clear hi0 hto0 hv0
 refine zad (fun hlt0 => ?_) (fun hge0 => ?_)
 rotate_left
 ·have hge : out.length <= i := by
   have h : decide ((i : Int) < (out.length : Int)) = false := hge0
   have := of_decide_eq_false h
   omega
  rw [List.take_of_length_le hge, hout, <- hN] at hto hv
  refine zai.ent (st' := { s := [(3, .one (.p 0 0)), (7, .one (.p 1 0)), (8, .one (.v (.bool q1))), (1, .one (.v (.string a))), (2, .one (.v (.string b))), (10, .one (.v (.bool v)))], m := [(0, .cells 41 ((TT.mk xtk xtn xts xtla xtlc xtls xtaa xtac xtus).cells.map SA.v)), (1, .cells 41 ((TT.mk xxk xxn xxs xxla xxlc xxls xxaa xxac xxus).cells.map SA.v))], k := 2, f := [amG [(TT.mk xtk xtn xts xtla xtlc xtls xtaa xtac xtus), (TT.mk xxk xxn xxs xxla xxlc xxls xxaa xxac xxus)]] }) (zaa [(0, .blk 0), (1, .blk 1)] rfl rfl rfl rfl (leB rfl) (rs rfl rfl) (rm rfl rfl) ⟨⟨amG.up _, fun w h => h.1⟩, trivial⟩) ?_
  refine zaf zac [18] _ _ _ ?_
  cases q1 with
  | false => exact ⟨_, rfl, Told.val rfl⟩
  | true =>
  have hx := hx rfl
  cases v with
  | false =>
   have hna : a ∉ zb2 (TT.mk xtk xtn xts xtla xtlc xtls xtaa xtac xtus).tm := fun h => by have := hv.2 h; cases this
   rw [zpu _ hna] at hx
   refine zae (zhj (TT.mk xxk xxn xxs xxla xxlc xxls xxaa xxac xxus) (TT.mk xtk xtn xts xtla xtlc xtls xtaa xtac xtus) hx) (fun _ => rfl) (fun w h => ⟨h.1.get 1 rfl, h.1.get 0 rfl⟩) ?_
   rintro r rfl
   exact ⟨_, rfl, Told.val rfl⟩
  | true =>
  have ha := hv.1 rfl
  obtain ⟨e2, hxB⟩ := zzi hright hB hwb ha hto
  have l2 := zix (TT.mk xxk xxn xxs xxla xxlc xxls xxaa xxac xxus) b a (by rw [hx]; exact hxB) (by simp only [maxLen]; omega)
  rw [hx, e2] at l2
  refine zai.ent (st' := { s := [(3, .one (.p 0 0)), (7, .one (.p 1 0)), (8, .one (.v (.bool true))), (1, .one (.v (.string a))), (2, .one (.v (.string b)))], m := [(0, .cells 41 ((TT.mk xtk xtn xts xtla xtlc xtls xtaa xtac xtus).cells.map SA.v)), (1, .cells 41 ((TT.mk xxk xxn xxs xxla xxlc xxls xxaa xxac xxus).cells.map SA.v))], k := 2, f := [amG [(TT.mk xtk xtn xts xtla xtlc xtls xtaa xtac xtus), (TT.mk xxk xxn xxs xxla xxlc xxls xxaa xxac xxus)]] }) (zaa [(0, .blk 0), (1, .blk 1)] rfl rfl rfl rfl (leB rfl) (rs rfl rfl) (rm rfl rfl) ⟨⟨amG.up _, fun w h => h.1⟩, trivial⟩) ?_
  refine zaf zac [19] _ _ _ ?_
  refine zab [] l2 rfl trivial rfl rfl (fun w h => ⟨h.1.1, h.1.get 1 rfl⟩) (fun x _ => ?_) (fun x hy => ?_)
  ·obtain ⟨xvk, xvn, xvs, xvla, xvlc, xvls, xvaa, xvac, xvus⟩ := x
   exact ⟨rfl, rfl⟩
  obtain ⟨xyk, xyn, xys, xyla, xylc, xyls, xyaa, xyac, xyus⟩ := x
  have hy : (TT.mk xyk xyn xys xyla xylc xyls xyaa xyac xyus).tm = (TT.mk xtk xtn xts xtla xtlc xtls xtaa xtac xtus).tm := hy
  refine zai.ent (st' := { s := [(3, .one (.p 0 0)), (7, .one (.p 1 0)), (12, .one (.p 2 0)), (8, .one (.v (.bool true))), (13, .one (.v (.bool true))), (1, .one (.v (.string a))), (2, .one (.v (.string b)))], m := [(0, .cells 41 ((TT.mk xtk xtn xts xtla xtlc xtls xtaa xtac xtus).cells.map SA.v)), (1, .cells 41 ((TT.mk xxk xxn xxs xxla xxlc xxls xxaa xxac xxus).cells.map SA.v)), (2, .cells 41 ((TT.mk xyk xyn xys xyla xylc xyls xyaa xyac xyus).cells.map SA.v))], k := 3, f := [amG [(TT.mk xtk xtn xts xtla xtlc xtls xtaa xtac xtus), (TT.mk xxk xxn xxs xxla xxlc xxls xxaa xxac xxus), (TT.mk xyk xyn xys xyla xylc xyls xyaa xyac xyus)]] }) (zaa [(0, .blk 0), (1, .blk 1), (2, .blk 2)] rfl rfl rfl rfl (leB rfl) (rs rfl rfl) (rm rfl rfl) ⟨⟨amG.up _, fun w h => h.2.1.snoc h.1⟩, trivial⟩) ?_
  refine zaf zac [] _ _ _ ?_
  refine zae (zhj (TT.mk xyk xyn xys xyla xylc xyls xyaa xyac xyus) (TT.mk xtk xtn xts xtla xtlc xtls xtaa xtac xtus) hy) (fun _ => rfl) (fun w h => ⟨h.1.get 2 rfl, h.1.get 0 rfl⟩) ?_
  rintro r rfl
  exact ⟨_, rfl, Told.val rfl⟩
 have hlt : i < out.length := by
  have h : decide ((i : Int) < (out.length : Int)) = true := hlt0
  have := of_decide_eq_true h
  omega
 clear hlt0
 obtain ⟨x, hxi⟩ : ∃ x, out[i]? = some x := ⟨_, List.getElem?_eq_getElem hlt⟩
 have htk : out.take (i + 1) = out.take i ++ [x] := by rw [List.take_add_one, hxi]; rfl
 have hcx : (strC out)[i * 1]? = some (.string x) := by rw [Nat.mul_one]; unfold strC; rw [List.getElem?_map, hxi]; rfl
 refine ⟨{ n := i }, ⟨rfl, hlt, rfl⟩, ?_⟩
 refine ⟨{ v := .string x }, hcx, ?_⟩
 refine zad (fun h => ?_) (fun hxb0 => ?_)
 ·exact ⟨_, rfl, Told.val rfl⟩
 have hxb : b ∉ out.take (i + 1) := by
  have h : decide (x = b) = false := hxb0
  have := of_decide_eq_false h
  rw [htk, List.mem_append, not_or]
  exact ⟨hto, fun h => this (List.mem_singleton.1 h).symm⟩
 clear hxb0
 refine zad (fun hv1 => ?_) (fun hv1 => ?_)
 ·have hv1 : v = true := hv1
  exact ⟨(i + 1, true), ⟨hlt, hxb, by rw [htk]; simp [hv.1 hv1]⟩, by simp only; omega, zaa [(0, .blk 0), (1, .blk 1), (2, .own 2)] rfl rfl rfl rfl (leB rfl) ⟨⟨_, rfl, rfl⟩, ⟨_, rfl, rfl⟩, ⟨_, rfl, rfl⟩, ⟨_, rfl, rfl⟩, ⟨_, rfl, rfl⟩, ⟨_, rfl, rfl⟩, ⟨_, rfl, rfl⟩, ⟨_, rfl, oneI (za9 (by omega) (by omega))⟩, trivial⟩ ⟨⟨_, rfl, rfl⟩, ⟨_, rfl, rfl⟩, ⟨_, _, rfl, rfl, rfl⟩, trivial⟩ ⟨⟨amG.up _, fun w h => h.1⟩, trivial⟩⟩
 have hv1 : v = false := hv1
 refine ⟨{ n := i }, ⟨rfl, hlt, rfl⟩, ?_⟩
 refine ⟨{ v := .string x }, hcx, ?_⟩
 exact ⟨(i + 1, decide (x = a)), ⟨hlt, hxb, by rw [htk, List.mem_append, <- hv, hv1]; simp [eq_comm]⟩, by simp only; omega, zaa [(0, .blk 0), (1, .blk 1), (2, .own 2)] rfl rfl rfl rfl (leB rfl) ⟨⟨_, rfl, rfl⟩, ⟨_, rfl, rfl⟩, ⟨_, rfl, rfl⟩, ⟨_, rfl, rfl⟩, ⟨_, rfl, rfl⟩, ⟨_, rfl, rfl⟩, ⟨_, rfl, rfl⟩, ⟨_, rfl, oneI (za9 (by omega) (by omega))⟩, trivial⟩ ⟨⟨_, rfl, rfl⟩, ⟨_, rfl, rfl⟩, ⟨_, _, rfl, rfl, rfl⟩, trivial⟩ ⟨⟨amG.up _, fun w h => h.1⟩, trivial⟩⟩
end Go.Proofs.YtmkpiekbpakigaaDoor
end
section
set_option linter.unusedVariables false
set_option linter.unusedSimpArgs false
namespace Go.Proofs.YtmkpiekbpakigaaDoor
open Go.ChangeShapes Go.WideShapes Go.ChangeAt Go.RowKit Go.Proofs.Base Go.Proofs.Sym
theorem zj3 (t : TT) (a b : ByteArray) (ht : TTB t) (w : World) (hp : amG [t] w) : Calls Tryd.prog 11 #[t.val, .string a, .string b] w fun e w' => e = .returned (.bool true) /\ Below w.heap.size w w' :=
 zzn (zne t a b (zu2 t ht)) (amG.up _) w hp
end Go.Proofs.YtmkpiekbpakigaaDoor
end
