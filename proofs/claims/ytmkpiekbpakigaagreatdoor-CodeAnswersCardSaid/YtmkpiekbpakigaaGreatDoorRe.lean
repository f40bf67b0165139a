/- The reference's right (104): are all nodes right? -/
import Derived.Test.YtmkpiekbpakigaaGreatDoorRd0
set_option linter.unusedVariables false
set_option linter.unusedSimpArgs false
namespace Go.Proofs.YtmkpiekbpakigaaGreatDoor
open Go.RowKit Go.Proofs.Base Go.Proofs.Sym

theorem node_split (k n : Int) (s : ByteArray) (ls : List Lv) (len p v d ar lv : Int) (nm wb : Bool) (har : argOf k = ar) (hlv : lvlOf k = lv) (hnm : (decide (k = 4) || decide (k = 9)) = nm) (hwb : wordB s = wb) :
    nodeB k n s ls len p v d = (!(((((decide (k < 1) || decide (9 < k)) || decide (200 < d)) || !decide (len = ar)) || (decide (0 ≤ lv) && !decide ((ls.length : Int) = lv))) || decide (4 < (ls.length : Int))) && (!ls.any (lvWrong p) && (!(((nm && !wb) || (!nm && !noText s)) || decide (n < 0)) && !(((decide (k = 1) && decide (v ≤ n)) || (decide (k = 9) && decide (31 < n))) || ((!decide (k = 1) && !decide (k = 9)) && !decide (n = 0)))))) := by
  subst har hlv hnm
  unfold nodeB numberedB leveledB
  rw [hwb]
  obtain ⟨e, he⟩ : ∃ e, noText s = e := ⟨_, rfl⟩
  obtain ⟨y, hy⟩ : ∃ y, ls.any (lvWrong p) = y := ⟨_, rfl⟩
  obtain ⟨L, hL⟩ : ∃ L, ls.length = L := ⟨_, rfl⟩
  rw [he, hy, hL]
  clear he hy hL hwb
  by_cases hk : 1 ≤ k ∧ k ≤ 9
  · have hkk : k = 1 ∨ k = 2 ∨ k = 3 ∨ k = 4 ∨ k = 5 ∨ k = 6 ∨ k = 7 ∨ k = 8 ∨ k = 9 := by omega
    rw [Bool.eq_iff_iff]
    rcases hkk with rfl | rfl | rfl | rfl | rfl | rfl | rfl | rfl | rfl <;> cases e <;> cases y <;> cases wb <;> simp [argOf, lvlOf, levOf] <;> omega
  · rw [Bool.eq_iff_iff]
    have h1 : (decide (k < 1) || decide (9 < k)) = true := by simp; omega
    rw [h1]
    simp
    omega
theorem oneB {x y : Bool} (h : x = y) : SV.one (SA.v (.bool x)) = SV.one (SA.v (.bool y)) := by rw [h]
set_option maxHeartbeats 4000000 in
theorem rightR_pc (p v d : Int) (t : TT) : PCall Tryz.prog 104 [t.val, .int .i64 p, .int .i64 v, .int .i64 d] (fun w => TTIn w t) (fun r => r = .bool (allT p v d t.tm)) (fun _ _ => True) := by
  induction hsz : SizeOf.sizeOf t using Nat.strongRecOn generalizing t v d with
  | _ z ih =>
  obtain ⟨k, n, s, la, lc, ls, aa, ac, us⟩ := t
  subst hsz
  by_cases hal : us.length ≤ 9223372036854775807 ∧ ls.length ≤ 9223372036854775807
  rotate_left
  · refine ⟨enters Tryz.func104 (by kernel_rfl) (by kernel_rfl), fun _ => Up.true, fun w H hH hp => ?_⟩
    have := hp.node
    have h1 := this.hac
    have h2 := this.ham
    have h3 := this.hlc
    have h4 := this.hlm
    simp only [maxLen] at h2 h4
    omega
  obtain ⟨hal, hll⟩ := hal
  have hspec : allT p v d (TT.mk k n s la lc ls aa ac us).tm = (nodeB k n s ls us.length p v d && allTs k p v d 0 (us.map TT.tm)) := by
    rw [tt_tm, allT, List.length_map]
  have hshape := shape_pc k
  have hword := WordR_pc s
  obtain ⟨ar, har⟩ : ∃ x, argOf k = x := ⟨_, rfl⟩
  obtain ⟨lv, hlv⟩ : ∃ x, lvlOf k = x := ⟨_, rfl⟩
  obtain ⟨nm, hnm⟩ : ∃ x, (decide (k = 4) || decide (k = 9)) = x := ⟨_, rfl⟩
  obtain ⟨wb, hwb⟩ : ∃ x, wordB s = x := ⟨_, rfl⟩
  have hsplit := node_split k n s ls us.length p v d ar lv nm wb har hlv hnm hwb
  rw [har, hlv] at hshape
  rw [hwb] at hword
  obtain ⟨Z, hZ⟩ : ∃ Z, allT p v d (TT.mk k n s la lc ls aa ac us).tm = Z := ⟨_, rfl⟩
  obtain ⟨D, hD⟩ : ∃ D, nodeB k n s ls us.length p v d = D := ⟨_, rfl⟩
  rw [hZ, hD] at hspec
  rw [hD] at hsplit
  rw [hZ]
  clear hZ hD har hlv hwb
  have hno : D = false → Z = false := fun h => by rw [hspec, h]; rfl
  refine pcall_of tabOk 169 [.tmp 8] Tryz.func104 rfl rfl (by kernel_rfl) rfl _ (Nat.le_of_ble_eq_true rfl) (TTIn.upS _) (fun _ => Up.true) ?_
  refine svc_ok tabOk [2] _ _ _ ?_
  refine callVC_plain hshape (fun _ => rfl) (fun _ _ => trivial) ?_
  rintro r rfl
  refine Walks.ent (st' := { s := [(9, .one (.v (.int .i64 ar))), (10, .one (.v (.int .i64 lv))), (1, .one (.v (.int .i64 p))), (2, .one (.v (.int .i64 v))), (3, .one (.v (.int .i64 d))), (4, .one (.p 0 0))], m := [(0, .cells 25 ((TT.mk k n s la lc ls aa ac us).cells.map SA.v))], k := 1, f := [fun w => TTIn w (TT.mk k n s la lc ls aa ac us)] }) (ent_ren [(0, .blk 0)] rfl rfl rfl rfl (Nat.le_of_ble_eq_true rfl) ⟨⟨_, rfl, rfl⟩, ⟨_, rfl, rfl⟩, ⟨_, rfl, rfl⟩, ⟨_, rfl, rfl⟩, ⟨_, rfl, rfl⟩, ⟨_, rfl, rfl⟩, trivial⟩ ⟨⟨_, rfl, rfl⟩, trivial⟩ ⟨⟨TTIn.upS _, fun w h => h.2.1⟩, trivial⟩) ?_
  refine Walks.seq (Walks.seq (Walks.parts ?_))
  refine SWalks.step tabOk 9 (X := Bool) (fun b => b = (decide (k < 1) || decide (9 < k))) (fun b => { s := [(29, .one (.v (.bool b))), (9, .one (.v (.int .i64 ar))), (10, .one (.v (.int .i64 lv))), (1, .one (.v (.int .i64 p))), (2, .one (.v (.int .i64 v))), (3, .one (.v (.int .i64 d))), (4, .one (.p 0 0))], m := [(0, .cells 25 ((TT.mk k n s la lc ls aa ac us).cells.map SA.v))], k := 1, f := [fun w => TTIn w (TT.mk k n s la lc ls aa ac us)] }) ?_ (fun b0 hb0 => ?_)
  · refine bsplit_i (fun h => ?_) (fun h => ?_)
    · have h : decide (k < 1) = true := h
      exact ⟨true, by rw [h]; rfl, ent_ren [(0, .blk 0)] rfl rfl rfl rfl (Nat.le_of_ble_eq_true rfl) ⟨⟨_, rfl, rfl⟩, ⟨_, rfl, rfl⟩, ⟨_, rfl, rfl⟩, ⟨_, rfl, rfl⟩, ⟨_, rfl, rfl⟩, ⟨_, rfl, rfl⟩, ⟨_, rfl, rfl⟩, trivial⟩ ⟨⟨_, rfl, rfl⟩, trivial⟩ ⟨⟨TTIn.upS _, fun w h => h.1⟩, trivial⟩⟩
    · have h : decide (k < 1) = false := h
      exact ⟨decide (9 < k), by rw [h]; rfl, ent_ren [(0, .blk 0)] rfl rfl rfl rfl (Nat.le_of_ble_eq_true rfl) ⟨⟨_, rfl, rfl⟩, ⟨_, rfl, rfl⟩, ⟨_, rfl, rfl⟩, ⟨_, rfl, rfl⟩, ⟨_, rfl, rfl⟩, ⟨_, rfl, rfl⟩, ⟨_, rfl, rfl⟩, trivial⟩ ⟨⟨_, rfl, rfl⟩, trivial⟩ ⟨⟨TTIn.upS _, fun w h => h.1⟩, trivial⟩⟩
  refine SWalks.step tabOk 4 (X := Bool) (fun b => b = ((decide (k < 1) || decide (9 < k)) || decide (200 < d))) (fun b => { s := [(33, .one (.v (.bool b))), (9, .one (.v (.int .i64 ar))), (10, .one (.v (.int .i64 lv))), (1, .one (.v (.int .i64 p))), (2, .one (.v (.int .i64 v))), (3, .one (.v (.int .i64 d))), (4, .one (.p 0 0))], m := [(0, .cells 25 ((TT.mk k n s la lc ls aa ac us).cells.map SA.v))], k := 1, f := [fun w => TTIn w (TT.mk k n s la lc ls aa ac us)] }) ?_ (fun b1 hb1 => ?_)
  · refine bsplit_i (fun h => ?_) (fun h => ?_)
    · exact ⟨true, by rw [← hb0, h]; rfl, ent_ren [(0, .blk 0)] rfl rfl rfl rfl (Nat.le_of_ble_eq_true rfl) ⟨⟨_, rfl, rfl⟩, ⟨_, rfl, rfl⟩, ⟨_, rfl, rfl⟩, ⟨_, rfl, rfl⟩, ⟨_, rfl, rfl⟩, ⟨_, rfl, rfl⟩, ⟨_, rfl, rfl⟩, trivial⟩ ⟨⟨_, rfl, rfl⟩, trivial⟩ ⟨⟨TTIn.upS _, fun w h => h.1⟩, trivial⟩⟩
    · exact ⟨decide (200 < d), by rw [← hb0, h]; rfl, ent_ren [(0, .blk 0)] rfl rfl rfl rfl (Nat.le_of_ble_eq_true rfl) ⟨⟨_, rfl, rfl⟩, ⟨_, rfl, rfl⟩, ⟨_, rfl, rfl⟩, ⟨_, rfl, rfl⟩, ⟨_, rfl, rfl⟩, ⟨_, rfl, rfl⟩, ⟨_, rfl, rfl⟩, trivial⟩ ⟨⟨_, rfl, rfl⟩, trivial⟩ ⟨⟨TTIn.upS _, fun w h => h.1⟩, trivial⟩⟩
  refine SWalks.step tabOk 7 (X := Bool) (fun b => b = (((decide (k < 1) || decide (9 < k)) || decide (200 < d)) || !decide ((us.length : Int) = ar))) (fun b => { s := [(40, .one (.v (.bool b))), (9, .one (.v (.int .i64 ar))), (10, .one (.v (.int .i64 lv))), (1, .one (.v (.int .i64 p))), (2, .one (.v (.int .i64 v))), (3, .one (.v (.int .i64 d))), (4, .one (.p 0 0))], m := [(0, .cells 25 ((TT.mk k n s la lc ls aa ac us).cells.map SA.v))], k := 1, f := [fun w => TTIn w (TT.mk k n s la lc ls aa ac us)] }) ?_ (fun b2 hb2 => ?_)
  · refine bsplit_i (fun h => ?_) (fun h => ?_)
    · exact ⟨true, by rw [← hb1, h]; rfl, ent_ren [(0, .blk 0)] rfl rfl rfl rfl (Nat.le_of_ble_eq_true rfl) ⟨⟨_, rfl, rfl⟩, ⟨_, rfl, rfl⟩, ⟨_, rfl, rfl⟩, ⟨_, rfl, rfl⟩, ⟨_, rfl, rfl⟩, ⟨_, rfl, rfl⟩, ⟨_, rfl, rfl⟩, trivial⟩ ⟨⟨_, rfl, rfl⟩, trivial⟩ ⟨⟨TTIn.upS _, fun w h => h.1⟩, trivial⟩⟩
    · exact ⟨!decide ((us.length : Int) = ar), by rw [← hb1, h]; rfl, ent_ren [(0, .blk 0)] rfl rfl rfl rfl (Nat.le_of_ble_eq_true rfl) ⟨⟨_, rfl, rfl⟩, ⟨_, rfl, rfl⟩, ⟨_, rfl, rfl⟩, ⟨_, rfl, rfl⟩, ⟨_, rfl, rfl⟩, ⟨_, rfl, rfl⟩, ⟨_, rfl, rfl⟩, trivial⟩ ⟨⟨_, rfl, rfl⟩, trivial⟩ ⟨⟨TTIn.upS _, fun w h => h.1⟩, trivial⟩⟩
  refine SWalks.step tabOk 11 (X := Bool) (fun b => b = ((((decide (k < 1) || decide (9 < k)) || decide (200 < d)) || !decide ((us.length : Int) = ar)) || (decide (0 ≤ lv) && !decide ((ls.length : Int) = lv)))) (fun b => { s := [(51, .one (.v (.bool b))), (9, .one (.v (.int .i64 ar))), (10, .one (.v (.int .i64 lv))), (1, .one (.v (.int .i64 p))), (2, .one (.v (.int .i64 v))), (3, .one (.v (.int .i64 d))), (4, .one (.p 0 0))], m := [(0, .cells 25 ((TT.mk k n s la lc ls aa ac us).cells.map SA.v))], k := 1, f := [fun w => TTIn w (TT.mk k n s la lc ls aa ac us)] }) ?_ (fun b3 hb3 => ?_)
  · refine bsplit_i (fun h => ?_) (fun h => ?_)
    · exact ⟨true, by rw [← hb2, h]; rfl, ent_ren [(0, .blk 0)] rfl rfl rfl rfl (Nat.le_of_ble_eq_true rfl) ⟨⟨_, rfl, rfl⟩, ⟨_, rfl, rfl⟩, ⟨_, rfl, rfl⟩, ⟨_, rfl, rfl⟩, ⟨_, rfl, rfl⟩, ⟨_, rfl, rfl⟩, ⟨_, rfl, rfl⟩, trivial⟩ ⟨⟨_, rfl, rfl⟩, trivial⟩ ⟨⟨TTIn.upS _, fun w h => h.1⟩, trivial⟩⟩
    · refine bsplit_i (fun h2 => ?_) (fun h2 => ?_)
      · have h2 : decide (0 ≤ lv) = true := h2
        exact ⟨!decide ((ls.length : Int) = lv), by rw [← hb2, h, h2]; rfl, ent_ren [(0, .blk 0)] rfl rfl rfl rfl (Nat.le_of_ble_eq_true rfl) ⟨⟨_, rfl, rfl⟩, ⟨_, rfl, rfl⟩, ⟨_, rfl, rfl⟩, ⟨_, rfl, rfl⟩, ⟨_, rfl, rfl⟩, ⟨_, rfl, rfl⟩, ⟨_, rfl, rfl⟩, trivial⟩ ⟨⟨_, rfl, rfl⟩, trivial⟩ ⟨⟨TTIn.upS _, fun w h => h.1⟩, trivial⟩⟩
      · have h2 : decide (0 ≤ lv) = false := h2
        exact ⟨false, by rw [← hb2, h, h2]; rfl, ent_ren [(0, .blk 0)] rfl rfl rfl rfl (Nat.le_of_ble_eq_true rfl) ⟨⟨_, rfl, rfl⟩, ⟨_, rfl, rfl⟩, ⟨_, rfl, rfl⟩, ⟨_, rfl, rfl⟩, ⟨_, rfl, rfl⟩, ⟨_, rfl, rfl⟩, ⟨_, rfl, rfl⟩, trivial⟩ ⟨⟨_, rfl, rfl⟩, trivial⟩ ⟨⟨TTIn.upS _, fun w h => h.1⟩, trivial⟩⟩
  refine SWalks.step tabOk 5 (X := Bool) (fun b => b = (((((decide (k < 1) || decide (9 < k)) || decide (200 < d)) || !decide ((us.length : Int) = ar)) || (decide (0 ≤ lv) && !decide ((ls.length : Int) = lv))) || decide (4 < (ls.length : Int)))) (fun b => { s := [(56, .one (.v (.bool b))), (9, .one (.v (.int .i64 ar))), (10, .one (.v (.int .i64 lv))), (1, .one (.v (.int .i64 p))), (2, .one (.v (.int .i64 v))), (3, .one (.v (.int .i64 d))), (4, .one (.p 0 0))], m := [(0, .cells 25 ((TT.mk k n s la lc ls aa ac us).cells.map SA.v))], k := 1, f := [fun w => TTIn w (TT.mk k n s la lc ls aa ac us)] }) ?_ (fun b4 hb4 => ?_)
  · refine bsplit_i (fun h => ?_) (fun h => ?_)
    · exact ⟨true, by rw [← hb3, h]; rfl, ent_ren [(0, .blk 0)] rfl rfl rfl rfl (Nat.le_of_ble_eq_true rfl) ⟨⟨_, rfl, rfl⟩, ⟨_, rfl, rfl⟩, ⟨_, rfl, rfl⟩, ⟨_, rfl, rfl⟩, ⟨_, rfl, rfl⟩, ⟨_, rfl, rfl⟩, ⟨_, rfl, rfl⟩, trivial⟩ ⟨⟨_, rfl, rfl⟩, trivial⟩ ⟨⟨TTIn.upS _, fun w h => h.1⟩, trivial⟩⟩
    · exact ⟨decide (4 < (ls.length : Int)), by rw [← hb3, h]; rfl, ent_ren [(0, .blk 0)] rfl rfl rfl rfl (Nat.le_of_ble_eq_true rfl) ⟨⟨_, rfl, rfl⟩, ⟨_, rfl, rfl⟩, ⟨_, rfl, rfl⟩, ⟨_, rfl, rfl⟩, ⟨_, rfl, rfl⟩, ⟨_, rfl, rfl⟩, ⟨_, rfl, rfl⟩, trivial⟩ ⟨⟨_, rfl, rfl⟩, trivial⟩ ⟨⟨TTIn.upS _, fun w h => h.1⟩, trivial⟩⟩
  refine SWalks.done ?_
  rw [← hb4] at hsplit
  refine svc_ok tabOk [4] _ _ _ ?_
  refine bsplit_i (fun h => ?_) (fun h => ?_)
  · have h : b4 = true := h
    rw [h] at hsplit
    exact ⟨_, rfl, Told.val (by rw [hno hsplit])⟩
  have h : b4 = false := h
  rw [h] at hsplit
  clear h hb0 hb1 hb2 hb3 hb4 b0 b1 b2 b3
  refine Walks.ent (st' := { s := [(1, .one (.v (.int .i64 p))), (2, .one (.v (.int .i64 v))), (3, .one (.v (.int .i64 d))), (4, .one (.p 0 0))], m := [(0, .cells 25 ((TT.mk k n s la lc ls aa ac us).cells.map SA.v))], k := 1, f := [fun w => TTIn w (TT.mk k n s la lc ls aa ac us)] }) (ent_ren [(0, .blk 0)] rfl rfl rfl rfl (Nat.le_of_ble_eq_true rfl) ⟨⟨_, rfl, rfl⟩, ⟨_, rfl, rfl⟩, ⟨_, rfl, rfl⟩, ⟨_, rfl, rfl⟩, trivial⟩ ⟨⟨_, rfl, rfl⟩, trivial⟩ ⟨⟨TTIn.upS _, fun w h => h.1⟩, trivial⟩) ?_
  refine Walks.cutX (X := Unit) (fun _ => ls.any (lvWrong p) = false) (fun _ => { s := [(1, .one (.v (.int .i64 p))), (2, .one (.v (.int .i64 v))), (3, .one (.v (.int .i64 d))), (4, .one (.p 0 0))], m := [(0, .cells 25 ((TT.mk k n s la lc ls aa ac us).cells.map SA.v))], k := 1, f := [fun w => TTIn w (TT.mk k n s la lc ls aa ac us)] }) ?_ (fun _ hany => ?_)
  · refine svc_ok tabOk [] _ _ _ ?_
    refine ⟨⟨Nat, fun j => j ≤ ls.length ∧ (ls.take j).any (lvWrong p) = false, fun j => { s := [(11, .one (.v (.int .i64 (j : Int)))), (1, .one (.v (.int .i64 p))), (2, .one (.v (.int .i64 v))), (3, .one (.v (.int .i64 d))), (4, .one (.p 0 0))], m := [(0, .cells 25 ((TT.mk k n s la lc ls aa ac us).cells.map SA.v))], k := 1, f := [fun w => TTIn w (TT.mk k n s la lc ls aa ac us)] }, fun j => ls.length - j, ⟨0, ⟨Nat.zero_le _, rfl⟩, ent_ren [(0, .blk 0)] rfl rfl rfl rfl (Nat.le_of_ble_eq_true rfl) ⟨⟨_, rfl, rfl⟩, ⟨_, rfl, rfl⟩, ⟨_, rfl, rfl⟩, ⟨_, rfl, rfl⟩, ⟨_, rfl, rfl⟩, trivial⟩ ⟨⟨_, rfl, rfl⟩, trivial⟩ ⟨⟨TTIn.upS _, fun w h => h.1⟩, trivial⟩⟩, ?_⟩⟩
    rintro j ⟨hj, hA⟩
    refine bsplit_i (fun hlt => ?_) (fun hge => ?_)
    rotate_left
    · have hge : ls.length ≤ j := by
        have h : decide ((j : Int) < (ls.length : Int)) = false := hge
        have := of_decide_eq_false h
        omega
      rw [List.take_of_length_le hge] at hA
      exact ⟨(), hA, ent_ren [(0, .blk 0)] rfl rfl rfl rfl (Nat.le_of_ble_eq_true rfl) ⟨⟨_, rfl, rfl⟩, ⟨_, rfl, rfl⟩, ⟨_, rfl, rfl⟩, ⟨_, rfl, rfl⟩, trivial⟩ ⟨⟨_, rfl, rfl⟩, trivial⟩ ⟨⟨TTIn.upS _, fun w h => h.1⟩, trivial⟩⟩
    have hlt : j < ls.length := by
      have h : decide ((j : Int) < (ls.length : Int)) = true := hlt
      have := of_decide_eq_true h
      omega
    obtain ⟨l, hl⟩ : ∃ l, ls[j]? = some l := ⟨_, List.getElem?_eq_getElem hlt⟩
    have hr := lvRightR_pc l
    have hw := lvWidthR_pc l
    have hwr : lvWrong p l = (!l.right || decide (p < l.width)) := rfl
    have hstep : (ls.take (j + 1)).any (lvWrong p) = lvWrong p l := by
      rw [List.take_add_one, hl, List.any_append, hA]
      simp
    have hbad : lvWrong p l = true → Z = false := fun h => hno (by
      rw [hsplit, show ls.any (lvWrong p) = true from List.any_eq_true.2 ⟨l, List.mem_of_getElem? hl, h⟩]
      rfl)
    obtain ⟨r1, hr1⟩ : ∃ r, l.right = r := ⟨_, rfl⟩
    obtain ⟨w1, hw1⟩ : ∃ r, l.width = r := ⟨_, rfl⟩
    rw [hr1] at hr hwr
    rw [hw1] at hw hwr
    refine ⟨{ n := j }, ⟨rfl, hlt, fun w h => ?_⟩, ?_⟩
    · obtain ⟨a, ha, _⟩ := lvRow_at h.1.node.hls hl
      rw [ha]; rfl
    refine ⟨{ cs := lvCells l }, ⟨lvCells_one l, rfl, fun w h => ?_⟩, ?_⟩
    · obtain ⟨a, ha, hc⟩ := lvRow_at h.1.node.hls hl
      exact ⟨_, by rw [ha]; rfl, hc⟩
    refine callVC_plain hr (fun _ => rfl) (fun _ _ => trivial) ?_
    rintro r rfl
    cases r1 with
    | false => exact ⟨_, rfl, Told.val (by rw [hbad hwr])⟩
    | true =>
    refine ⟨{ n := j }, ⟨rfl, hlt, fun w h => ?_⟩, ?_⟩
    · obtain ⟨a, ha, _⟩ := lvRow_at h.2.1.node.hls hl
      rw [ha]; rfl
    refine ⟨{ cs := lvCells l }, ⟨lvCells_one l, rfl, fun w h => ?_⟩, ?_⟩
    · obtain ⟨a, ha, hc⟩ := lvRow_at h.2.1.node.hls hl
      exact ⟨_, by rw [ha]; rfl, hc⟩
    refine callVC_plain hw (fun _ => rfl) (fun _ _ => trivial) ?_
    rintro r rfl
    refine bsplit_i (fun h => ?_) (fun h => ?_)
    · have h : decide (p < w1) = true := h
      rw [h] at hwr
      exact ⟨_, rfl, Told.val (by rw [hbad hwr])⟩
    · have h : decide (p < w1) = false := h
      rw [h] at hwr
      exact ⟨j + 1, ⟨hlt, hstep.trans hwr⟩, by simp only; omega, ent_ren [(0, .blk 0)] rfl rfl rfl rfl (Nat.le_of_ble_eq_true rfl) ⟨⟨_, rfl, oneI (wrapI (by omega) (by omega))⟩, ⟨_, rfl, rfl⟩, ⟨_, rfl, rfl⟩, ⟨_, rfl, rfl⟩, ⟨_, rfl, rfl⟩, trivial⟩ ⟨⟨_, rfl, rfl⟩, trivial⟩ ⟨⟨TTIn.upS _, fun w h => h.2.2.1⟩, trivial⟩⟩
  rw [hany] at hsplit
  refine Walks.cut ({ s := [(12, .one (.v (.bool nm))), (1, .one (.v (.int .i64 p))), (2, .one (.v (.int .i64 v))), (3, .one (.v (.int .i64 d))), (4, .one (.p 0 0))], m := [(0, .cells 25 ((TT.mk k n s la lc ls aa ac us).cells.map SA.v))], k := 1, f := [fun w => TTIn w (TT.mk k n s la lc ls aa ac us)] }) ?_ ?_
  · refine svc_ok tabOk [] _ _ _ ?_
    refine bsplit_i (fun h => ?_) (fun h => ?_)
    · have h : decide (k = 4) = true := h
      exact ent_ren [(0, .blk 0)] rfl rfl rfl rfl (Nat.le_of_ble_eq_true rfl) ⟨⟨_, rfl, oneB (by rw [← hnm, h]; rfl)⟩, ⟨_, rfl, rfl⟩, ⟨_, rfl, rfl⟩, ⟨_, rfl, rfl⟩, ⟨_, rfl, rfl⟩, trivial⟩ ⟨⟨_, rfl, rfl⟩, trivial⟩ ⟨⟨TTIn.upS _, fun w h => h.1⟩, trivial⟩
    · have h : decide (k = 4) = false := h
      exact ent_ren [(0, .blk 0)] rfl rfl rfl rfl (Nat.le_of_ble_eq_true rfl) ⟨⟨_, rfl, oneB (by rw [← hnm, h]; rfl)⟩, ⟨_, rfl, rfl⟩, ⟨_, rfl, rfl⟩, ⟨_, rfl, rfl⟩, ⟨_, rfl, rfl⟩, trivial⟩ ⟨⟨_, rfl, rfl⟩, trivial⟩ ⟨⟨TTIn.upS _, fun w h => h.1⟩, trivial⟩
  refine Walks.seq (Walks.seq (Walks.parts ?_))
  refine SWalks.step tabOk 8 (X := Bool) (fun b => b = (nm && !wb)) (fun b => { s := [(96, .one (.v (.bool b))), (12, .one (.v (.bool nm))), (1, .one (.v (.int .i64 p))), (2, .one (.v (.int .i64 v))), (3, .one (.v (.int .i64 d))), (4, .one (.p 0 0))], m := [(0, .cells 25 ((TT.mk k n s la lc ls aa ac us).cells.map SA.v))], k := 1, f := [fun w => TTIn w (TT.mk k n s la lc ls aa ac us)] }) ?_ (fun b0 hb0 => ?_)
  · refine bsplit_i (fun h => ?_) (fun h => ?_)
    · have h : nm = true := h
      refine callVC_plain hword (fun _ => rfl) (fun _ _ => trivial) ?_
      rintro r rfl
      exact ⟨!wb, by rw [h]; rfl, ent_ren [(0, .blk 0)] rfl rfl rfl rfl (Nat.le_of_ble_eq_true rfl) ⟨⟨_, rfl, rfl⟩, ⟨_, rfl, rfl⟩, ⟨_, rfl, rfl⟩, ⟨_, rfl, rfl⟩, ⟨_, rfl, rfl⟩, ⟨_, rfl, rfl⟩, trivial⟩ ⟨⟨_, rfl, rfl⟩, trivial⟩ ⟨⟨TTIn.upS _, fun w h => h.2.1⟩, trivial⟩⟩
    · have h : nm = false := h
      exact ⟨false, by rw [h]; rfl, ent_ren [(0, .blk 0)] rfl rfl rfl rfl (Nat.le_of_ble_eq_true rfl) ⟨⟨_, rfl, rfl⟩, ⟨_, rfl, rfl⟩, ⟨_, rfl, rfl⟩, ⟨_, rfl, rfl⟩, ⟨_, rfl, rfl⟩, ⟨_, rfl, rfl⟩, trivial⟩ ⟨⟨_, rfl, rfl⟩, trivial⟩ ⟨⟨TTIn.upS _, fun w h => h.1⟩, trivial⟩⟩
  refine SWalks.step tabOk 9 (X := Bool) (fun b => b = ((nm && !wb) || (!nm && !noText s))) (fun b => { s := [(105, .one (.v (.bool b))), (12, .one (.v (.bool nm))), (1, .one (.v (.int .i64 p))), (2, .one (.v (.int .i64 v))), (3, .one (.v (.int .i64 d))), (4, .one (.p 0 0))], m := [(0, .cells 25 ((TT.mk k n s la lc ls aa ac us).cells.map SA.v))], k := 1, f := [fun w => TTIn w (TT.mk k n s la lc ls aa ac us)] }) ?_ (fun b1 hb1 => ?_)
  · refine bsplit_i (fun h => ?_) (fun h => ?_)
    · exact ⟨true, by rw [← hb0, h]; rfl, ent_ren [(0, .blk 0)] rfl rfl rfl rfl (Nat.le_of_ble_eq_true rfl) ⟨⟨_, rfl, rfl⟩, ⟨_, rfl, rfl⟩, ⟨_, rfl, rfl⟩, ⟨_, rfl, rfl⟩, ⟨_, rfl, rfl⟩, ⟨_, rfl, rfl⟩, trivial⟩ ⟨⟨_, rfl, rfl⟩, trivial⟩ ⟨⟨TTIn.upS _, fun w h => h.1⟩, trivial⟩⟩
    · refine bsplit_i (fun h2 => ?_) (fun h2 => ?_)
      · have h2 : (!nm) = true := h2
        exact ⟨!noText s, by rw [← hb0, h, h2]; rfl, ent_ren [(0, .blk 0)] rfl rfl rfl rfl (Nat.le_of_ble_eq_true rfl) ⟨⟨_, rfl, rfl⟩, ⟨_, rfl, rfl⟩, ⟨_, rfl, rfl⟩, ⟨_, rfl, rfl⟩, ⟨_, rfl, rfl⟩, ⟨_, rfl, rfl⟩, trivial⟩ ⟨⟨_, rfl, rfl⟩, trivial⟩ ⟨⟨TTIn.upS _, fun w h => h.1⟩, trivial⟩⟩
      · have h2 : (!nm) = false := h2
        exact ⟨false, by rw [← hb0, h, h2]; rfl, ent_ren [(0, .blk 0)] rfl rfl rfl rfl (Nat.le_of_ble_eq_true rfl) ⟨⟨_, rfl, rfl⟩, ⟨_, rfl, rfl⟩, ⟨_, rfl, rfl⟩, ⟨_, rfl, rfl⟩, ⟨_, rfl, rfl⟩, ⟨_, rfl, rfl⟩, trivial⟩ ⟨⟨_, rfl, rfl⟩, trivial⟩ ⟨⟨TTIn.upS _, fun w h => h.1⟩, trivial⟩⟩
  refine SWalks.step tabOk 4 (X := Bool) (fun b => b = (((nm && !wb) || (!nm && !noText s)) || decide (n < 0))) (fun b => { s := [(109, .one (.v (.bool b))), (12, .one (.v (.bool nm))), (1, .one (.v (.int .i64 p))), (2, .one (.v (.int .i64 v))), (3, .one (.v (.int .i64 d))), (4, .one (.p 0 0))], m := [(0, .cells 25 ((TT.mk k n s la lc ls aa ac us).cells.map SA.v))], k := 1, f := [fun w => TTIn w (TT.mk k n s la lc ls aa ac us)] }) ?_ (fun b2 hb2 => ?_)
  · refine bsplit_i (fun h => ?_) (fun h => ?_)
    · exact ⟨true, by rw [← hb1, h]; rfl, ent_ren [(0, .blk 0)] rfl rfl rfl rfl (Nat.le_of_ble_eq_true rfl) ⟨⟨_, rfl, rfl⟩, ⟨_, rfl, rfl⟩, ⟨_, rfl, rfl⟩, ⟨_, rfl, rfl⟩, ⟨_, rfl, rfl⟩, ⟨_, rfl, rfl⟩, trivial⟩ ⟨⟨_, rfl, rfl⟩, trivial⟩ ⟨⟨TTIn.upS _, fun w h => h.1⟩, trivial⟩⟩
    · exact ⟨decide (n < 0), by rw [← hb1, h]; rfl, ent_ren [(0, .blk 0)] rfl rfl rfl rfl (Nat.le_of_ble_eq_true rfl) ⟨⟨_, rfl, rfl⟩, ⟨_, rfl, rfl⟩, ⟨_, rfl, rfl⟩, ⟨_, rfl, rfl⟩, ⟨_, rfl, rfl⟩, ⟨_, rfl, rfl⟩, trivial⟩ ⟨⟨_, rfl, rfl⟩, trivial⟩ ⟨⟨TTIn.upS _, fun w h => h.1⟩, trivial⟩⟩
  refine SWalks.done ?_
  rw [← hb2] at hsplit
  refine svc_ok tabOk [12] _ _ _ ?_
  refine bsplit_i (fun h => ?_) (fun h => ?_)
  · have h : b2 = true := h
    rw [h] at hsplit
    exact ⟨_, rfl, Told.val (by rw [hno hsplit])⟩
  have h : b2 = false := h
  rw [h] at hsplit
  clear h hb0 hb1 hb2 b0 b1
  refine Walks.ent (st' := { s := [(1, .one (.v (.int .i64 p))), (2, .one (.v (.int .i64 v))), (3, .one (.v (.int .i64 d))), (4, .one (.p 0 0))], m := [(0, .cells 25 ((TT.mk k n s la lc ls aa ac us).cells.map SA.v))], k := 1, f := [fun w => TTIn w (TT.mk k n s la lc ls aa ac us)] }) (ent_ren [(0, .blk 0)] rfl rfl rfl rfl (Nat.le_of_ble_eq_true rfl) ⟨⟨_, rfl, rfl⟩, ⟨_, rfl, rfl⟩, ⟨_, rfl, rfl⟩, ⟨_, rfl, rfl⟩, trivial⟩ ⟨⟨_, rfl, rfl⟩, trivial⟩ ⟨⟨TTIn.upS _, fun w h => h.1⟩, trivial⟩) ?_
  refine Walks.seq (Walks.seq (Walks.parts ?_))
  refine SWalks.step tabOk 10 (X := Bool) (fun b => b = (decide (k = 1) && decide (v ≤ n))) (fun b => { s := [(119, .one (.v (.bool b))), (1, .one (.v (.int .i64 p))), (2, .one (.v (.int .i64 v))), (3, .one (.v (.int .i64 d))), (4, .one (.p 0 0))], m := [(0, .cells 25 ((TT.mk k n s la lc ls aa ac us).cells.map SA.v))], k := 1, f := [fun w => TTIn w (TT.mk k n s la lc ls aa ac us)] }) ?_ (fun b0 hb0 => ?_)
  · refine bsplit_i (fun h => ?_) (fun h => ?_)
    · have h : decide (k = 1) = true := h
      exact ⟨decide (v ≤ n), by rw [h]; rfl, ent_ren [(0, .blk 0)] rfl rfl rfl rfl (Nat.le_of_ble_eq_true rfl) ⟨⟨_, rfl, rfl⟩, ⟨_, rfl, rfl⟩, ⟨_, rfl, rfl⟩, ⟨_, rfl, rfl⟩, ⟨_, rfl, rfl⟩, trivial⟩ ⟨⟨_, rfl, rfl⟩, trivial⟩ ⟨⟨TTIn.upS _, fun w h => h.1⟩, trivial⟩⟩
    · have h : decide (k = 1) = false := h
      exact ⟨false, by rw [h]; rfl, ent_ren [(0, .blk 0)] rfl rfl rfl rfl (Nat.le_of_ble_eq_true rfl) ⟨⟨_, rfl, rfl⟩, ⟨_, rfl, rfl⟩, ⟨_, rfl, rfl⟩, ⟨_, rfl, rfl⟩, ⟨_, rfl, rfl⟩, trivial⟩ ⟨⟨_, rfl, rfl⟩, trivial⟩ ⟨⟨TTIn.upS _, fun w h => h.1⟩, trivial⟩⟩
  refine SWalks.step tabOk 10 (X := Bool) (fun b => b = ((decide (k = 1) && decide (v ≤ n)) || (decide (k = 9) && decide (31 < n)))) (fun b => { s := [(129, .one (.v (.bool b))), (1, .one (.v (.int .i64 p))), (2, .one (.v (.int .i64 v))), (3, .one (.v (.int .i64 d))), (4, .one (.p 0 0))], m := [(0, .cells 25 ((TT.mk k n s la lc ls aa ac us).cells.map SA.v))], k := 1, f := [fun w => TTIn w (TT.mk k n s la lc ls aa ac us)] }) ?_ (fun b1 hb1 => ?_)
  · refine bsplit_i (fun h => ?_) (fun h => ?_)
    · exact ⟨true, by rw [← hb0, h]; rfl, ent_ren [(0, .blk 0)] rfl rfl rfl rfl (Nat.le_of_ble_eq_true rfl) ⟨⟨_, rfl, rfl⟩, ⟨_, rfl, rfl⟩, ⟨_, rfl, rfl⟩, ⟨_, rfl, rfl⟩, ⟨_, rfl, rfl⟩, trivial⟩ ⟨⟨_, rfl, rfl⟩, trivial⟩ ⟨⟨TTIn.upS _, fun w h => h.1⟩, trivial⟩⟩
    · refine bsplit_i (fun h2 => ?_) (fun h2 => ?_)
      · have h2 : decide (k = 9) = true := h2
        exact ⟨decide (31 < n), by rw [← hb0, h, h2]; rfl, ent_ren [(0, .blk 0)] rfl rfl rfl rfl (Nat.le_of_ble_eq_true rfl) ⟨⟨_, rfl, rfl⟩, ⟨_, rfl, rfl⟩, ⟨_, rfl, rfl⟩, ⟨_, rfl, rfl⟩, ⟨_, rfl, rfl⟩, trivial⟩ ⟨⟨_, rfl, rfl⟩, trivial⟩ ⟨⟨TTIn.upS _, fun w h => h.1⟩, trivial⟩⟩
      · have h2 : decide (k = 9) = false := h2
        exact ⟨false, by rw [← hb0, h, h2]; rfl, ent_ren [(0, .blk 0)] rfl rfl rfl rfl (Nat.le_of_ble_eq_true rfl) ⟨⟨_, rfl, rfl⟩, ⟨_, rfl, rfl⟩, ⟨_, rfl, rfl⟩, ⟨_, rfl, rfl⟩, ⟨_, rfl, rfl⟩, trivial⟩ ⟨⟨_, rfl, rfl⟩, trivial⟩ ⟨⟨TTIn.upS _, fun w h => h.1⟩, trivial⟩⟩
  refine SWalks.step tabOk 14 (X := Bool) (fun b => b = (((decide (k = 1) && decide (v ≤ n)) || (decide (k = 9) && decide (31 < n))) || ((!decide (k = 1) && !decide (k = 9)) && !decide (n = 0)))) (fun b => { s := [(143, .one (.v (.bool b))), (1, .one (.v (.int .i64 p))), (2, .one (.v (.int .i64 v))), (3, .one (.v (.int .i64 d))), (4, .one (.p 0 0))], m := [(0, .cells 25 ((TT.mk k n s la lc ls aa ac us).cells.map SA.v))], k := 1, f := [fun w => TTIn w (TT.mk k n s la lc ls aa ac us)] }) ?_ (fun b2 hb2 => ?_)
  · refine bsplit_i (fun h => ?_) (fun h => ?_)
    · exact ⟨true, by rw [← hb1, h]; rfl, ent_ren [(0, .blk 0)] rfl rfl rfl rfl (Nat.le_of_ble_eq_true rfl) ⟨⟨_, rfl, rfl⟩, ⟨_, rfl, rfl⟩, ⟨_, rfl, rfl⟩, ⟨_, rfl, rfl⟩, ⟨_, rfl, rfl⟩, trivial⟩ ⟨⟨_, rfl, rfl⟩, trivial⟩ ⟨⟨TTIn.upS _, fun w h => h.1⟩, trivial⟩⟩
    · refine bsplit_i (fun h2 => ?_) (fun h2 => ?_)
      · have h2 : (!decide (k = 1)) = true := h2
        refine bsplit_i (fun h3 => ?_) (fun h3 => ?_)
        · have h3 : (!decide (k = 9)) = true := h3
          exact ⟨!decide (n = 0), by rw [← hb1, h, h2, h3]; rfl, ent_ren [(0, .blk 0)] rfl rfl rfl rfl (Nat.le_of_ble_eq_true rfl) ⟨⟨_, rfl, rfl⟩, ⟨_, rfl, rfl⟩, ⟨_, rfl, rfl⟩, ⟨_, rfl, rfl⟩, ⟨_, rfl, rfl⟩, trivial⟩ ⟨⟨_, rfl, rfl⟩, trivial⟩ ⟨⟨TTIn.upS _, fun w h => h.1⟩, trivial⟩⟩
        · have h3 : (!decide (k = 9)) = false := h3
          exact ⟨false, by rw [← hb1, h, h2, h3]; rfl, ent_ren [(0, .blk 0)] rfl rfl rfl rfl (Nat.le_of_ble_eq_true rfl) ⟨⟨_, rfl, rfl⟩, ⟨_, rfl, rfl⟩, ⟨_, rfl, rfl⟩, ⟨_, rfl, rfl⟩, ⟨_, rfl, rfl⟩, trivial⟩ ⟨⟨_, rfl, rfl⟩, trivial⟩ ⟨⟨TTIn.upS _, fun w h => h.1⟩, trivial⟩⟩
      · have h2 : (!decide (k = 1)) = false := h2
        exact ⟨false, by rw [← hb1, h, h2]; rfl, ent_ren [(0, .blk 0)] rfl rfl rfl rfl (Nat.le_of_ble_eq_true rfl) ⟨⟨_, rfl, rfl⟩, ⟨_, rfl, rfl⟩, ⟨_, rfl, rfl⟩, ⟨_, rfl, rfl⟩, ⟨_, rfl, rfl⟩, trivial⟩ ⟨⟨_, rfl, rfl⟩, trivial⟩ ⟨⟨TTIn.upS _, fun w h => h.1⟩, trivial⟩⟩
  refine SWalks.done ?_
  rw [← hb2] at hsplit
  refine svc_ok tabOk [14] _ _ _ ?_
  refine bsplit_i (fun h => ?_) (fun h => ?_)
  · have h : b2 = true := h
    rw [h] at hsplit
    exact ⟨_, rfl, Told.val (by rw [hno hsplit])⟩
  have h : b2 = false := h
  rw [h] at hsplit
  clear h hb0 hb1 hb2 b0 b1
  have hZ2 : allTs k p v d 0 (us.map TT.tm) = Z := by rw [hspec, hsplit]; rfl
  refine Walks.ent (st' := { s := [(1, .one (.v (.int .i64 p))), (2, .one (.v (.int .i64 v))), (3, .one (.v (.int .i64 d))), (4, .one (.p 0 0))], m := [(0, .cells 25 ((TT.mk k n s la lc ls aa ac us).cells.map SA.v))], k := 1, f := [fun w => TTIn w (TT.mk k n s la lc ls aa ac us)] }) (ent_ren [(0, .blk 0)] rfl rfl rfl rfl (Nat.le_of_ble_eq_true rfl) ⟨⟨_, rfl, rfl⟩, ⟨_, rfl, rfl⟩, ⟨_, rfl, rfl⟩, ⟨_, rfl, rfl⟩, trivial⟩ ⟨⟨_, rfl, rfl⟩, trivial⟩ ⟨⟨TTIn.upS _, fun w h => h.1⟩, trivial⟩) ?_
  refine svc_ok tabOk [] _ _ _ ?_
  refine ⟨⟨Nat, fun j => j ≤ us.length ∧ allTs k p v d j ((us.map TT.tm).drop j) = Z, fun j => { s := [(13, .one (.v (.int .i64 (j : Int)))), (1, .one (.v (.int .i64 p))), (2, .one (.v (.int .i64 v))), (3, .one (.v (.int .i64 d))), (4, .one (.p 0 0))], m := [(0, .cells 25 ((TT.mk k n s la lc ls aa ac us).cells.map SA.v))], k := 1, f := [fun w => TTIn w (TT.mk k n s la lc ls aa ac us)] }, fun j => us.length - j, ⟨0, ⟨Nat.zero_le _, hZ2⟩, ent_ren [(0, .blk 0)] rfl rfl rfl rfl (Nat.le_of_ble_eq_true rfl) ⟨⟨_, rfl, rfl⟩, ⟨_, rfl, rfl⟩, ⟨_, rfl, rfl⟩, ⟨_, rfl, rfl⟩, ⟨_, rfl, rfl⟩, trivial⟩ ⟨⟨_, rfl, rfl⟩, trivial⟩ ⟨⟨TTIn.upS _, fun w h => h.1⟩, trivial⟩⟩, ?_⟩⟩
  rintro j ⟨hj, hA⟩
  refine bsplit_i (fun hlt => ?_) (fun hge => ?_)
  rotate_left
  · have hge : us.length ≤ j := by
      have h : decide ((j : Int) < (us.length : Int)) = false := hge
      have := of_decide_eq_false h
      omega
    exact ⟨_, rfl, Told.val (by rw [← hA, List.drop_eq_nil_of_le (by simpa using hge)]; simp [allTs])⟩
  have hlt : j < us.length := by
    have h : decide ((j : Int) < (us.length : Int)) = true := hlt
    have := of_decide_eq_true h
    omega
  obtain ⟨u, hu⟩ : ∃ u, us[j]? = some u := ⟨_, List.getElem?_eq_getElem hlt⟩
  have hmem := List.mem_of_getElem? hu
  have hrec := ih _ (tt_size hmem) (IntKind.i64.wrap (v + deepI k j)) (IntKind.i64.wrap (d + deepI k j)) u rfl
  have hstep : Z = (allT p (IntKind.i64.wrap (v + deepI k j)) (IntKind.i64.wrap (d + deepI k j)) u.tm && allTs k p v d (j + 1) ((us.map TT.tm).drop (j + 1))) := by
    rw [← hA, List.drop_eq_getElem_cons (by simpa using hlt), allTs]
    simp [(List.getElem?_eq_some_iff.1 hu).2]
  obtain ⟨uk, un, uname, ula, ulc, uls, uaa, uac, uus⟩ := u
  obtain ⟨b, hb⟩ : ∃ b, allT p (IntKind.i64.wrap (v + deepI k j)) (IntKind.i64.wrap (d + deepI k j)) (TT.mk uk un uname ula ulc uls uaa uac uus).tm = b := ⟨_, rfl⟩
  rw [hb] at hrec hstep
  have hbi := binds_pc k j
  have hdi : deepI k j = 0 ∨ deepI k j = 1 := by unfold deepI; split <;> simp
  rw [bindsB_eq (Int.natCast_nonneg j)] at hbi
  clear hb
  obtain ⟨dI, hdI⟩ : ∃ x, deepI k j = x := ⟨_, rfl⟩
  rw [hdI] at hbi hdi hrec
  rcases hdi with rfl | rfl
  · rw [show decide ((0 : Int) = 1) = false from rfl] at hbi
    refine callVC_plain hbi (fun _ => rfl) (fun _ _ => trivial) ?_
    rintro r rfl
    refine ⟨{ n := j }, ⟨rfl, hlt, fun w h => ?_⟩, ?_⟩
    · obtain ⟨⟨a, ha, _⟩, _⟩ := h.2.1.arg hu
      rw [ha]
      rfl
    refine ⟨{ cs := (TT.mk uk un uname ula ulc uls uaa uac uus).cells }, ⟨TT.cells_one (TT.mk uk un uname ula ulc uls uaa uac uus), rfl, fun w h => ?_⟩, ?_⟩
    · obtain ⟨⟨a, ha, hc⟩, _⟩ := h.2.1.arg hu
      exact ⟨_, by rw [ha]; rfl, hc⟩
    refine callVC_plain hrec (fun _ => rfl) (fun w h => (h.2.1.arg hu).2) ?_
    rintro r rfl
    cases b with
    | false => exact ⟨_, rfl, Told.val (by rw [hstep]; rfl)⟩
    | true =>
      refine ⟨j + 1, ⟨hlt, by rw [hstep]; rfl⟩, by simp only; omega, ?_⟩
      exact ent_ren [(0, .blk 0)] rfl rfl rfl rfl (Nat.le_of_ble_eq_true rfl) ⟨⟨_, rfl, oneI (wrapI (by omega) (by omega))⟩, ⟨_, rfl, rfl⟩, ⟨_, rfl, rfl⟩, ⟨_, rfl, rfl⟩, ⟨_, rfl, rfl⟩, trivial⟩ ⟨⟨_, rfl, rfl⟩, trivial⟩ ⟨⟨TTIn.upS _, fun w h => h.2.2.1⟩, trivial⟩
  · rw [show decide ((1 : Int) = 1) = true from rfl] at hbi
    refine callVC_plain hbi (fun _ => rfl) (fun _ _ => trivial) ?_
    rintro r rfl
    refine ⟨{ n := j }, ⟨rfl, hlt, fun w h => ?_⟩, ?_⟩
    · obtain ⟨⟨a, ha, _⟩, _⟩ := h.2.1.arg hu
      rw [ha]
      rfl
    refine ⟨{ cs := (TT.mk uk un uname ula ulc uls uaa uac uus).cells }, ⟨TT.cells_one (TT.mk uk un uname ula ulc uls uaa uac uus), rfl, fun w h => ?_⟩, ?_⟩
    · obtain ⟨⟨a, ha, hc⟩, _⟩ := h.2.1.arg hu
      exact ⟨_, by rw [ha]; rfl, hc⟩
    refine callVC_plain hrec (fun _ => rfl) (fun w h => (h.2.1.arg hu).2) ?_
    rintro r rfl
    cases b with
    | false => exact ⟨_, rfl, Told.val (by rw [hstep]; rfl)⟩
    | true =>
      refine ⟨j + 1, ⟨hlt, by rw [hstep]; rfl⟩, by simp only; omega, ?_⟩
      exact ent_ren [(0, .blk 0)] rfl rfl rfl rfl (Nat.le_of_ble_eq_true rfl) ⟨⟨_, rfl, oneI (wrapI (by omega) (by omega))⟩, ⟨_, rfl, rfl⟩, ⟨_, rfl, rfl⟩, ⟨_, rfl, rfl⟩, ⟨_, rfl, rfl⟩, trivial⟩ ⟨⟨_, rfl, rfl⟩, trivial⟩ ⟨⟨TTIn.upS _, fun w h => h.2.2.1⟩, trivial⟩
end Go.Proofs.YtmkpiekbpakigaaGreatDoor
