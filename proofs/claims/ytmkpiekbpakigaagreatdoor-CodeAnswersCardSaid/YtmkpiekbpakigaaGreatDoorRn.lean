/- The reference's CopyTerm (30). -/
import Derived.Test.YtmkpiekbpakigaaGreatDoorOwn5
set_option linter.unusedVariables false
set_option linter.unusedSimpArgs false
namespace Go.Proofs.YtmkpiekbpakigaaGreatDoor
open Go.RowKit Go.Proofs.Base Go.Proofs.Sym

def cF (t : TT) (LA : Option Addr) (ls : List Lv) (w : World) : Prop := TTIn w t ∧ LvRow w LA ls
theorem cF.up (t : TT) (LA : Option Addr) (ls : List Lv) : Up (cF t LA ls) := (TTIn.upS _).and (LvRow.up _ _)
def cG (t : TT) (LA : Option Addr) (ls : List Lv) (xs : List TT) (w : World) : Prop := cF t LA ls w ∧ ∀ x ∈ xs, TTIn w x
theorem cG.up (t : TT) (LA : Option Addr) (ls : List Lv) (xs : List TT) : Up (cG t LA ls xs) := (cF.up _ _ _).and fun w w' h hh x hx => TTIn.up h x (hh x hx)
theorem lvsC_take {ls : List Lv} {j : Nat} {l : Lv} (h : ls[j]? = some l) : lvsC (ls.take (j + 1)) = lvsC (ls.take j) ++ lvCells l := by
  rw [List.take_add_one, h]
  simp [lvsC]
def copyRes (x : TT) : LRes := { v := ttA x, m := [], k := 0, F := fun w => TTIn w x }
set_option maxHeartbeats 8000000 in
theorem copyTerm_lc (t : TT) (hB : TTB t) : LCall Tryz.prog 30 [ttA t] [] 0 (fun w => TTIn w t) (fun x : TT => x.tm = t.tm) copyRes := by
  induction hsz : SizeOf.sizeOf t using Nat.strongRecOn generalizing t with
  | _ z ih =>
  obtain ⟨k, n, s, la, lc, ls, aa, ac, us⟩ := t
  subst hsz
  unfold TTB at hB
  obtain ⟨hB1, hB2, hB3⟩ := hB
  have hls : ls.length ≤ 3518437208883 := by
    have : reachBytes = 140737488351232 := rfl
    omega
  have hus : us.length ≤ 1759218604390 := by
    have : reachBytes = 140737488351232 := rfl
    omega
  have htm : (TT.mk k n s la lc ls aa ac us).tm = .mk k n s ls (us.map TT.tm) := tt_tm _ _ _ _ _ _ _ _ _
  rw [htm]
  refine lcall_of tabOk 49 [.cell 2 25] Tryz.func30 rfl rfl (by kernel_rfl) rfl _ (Nat.le_of_ble_eq_true rfl) (TTIn.upS _) ?_
  refine svc_ok tabOk [2] _ _ _ ?_
  refine Walks.ent (st' := { s := [(1, .one (.p 0 0)), (2, .one (.p 1 0)), (3, .one (.p 2 0))], m := [(0, .cells 25 ((TT.mk k n s la lc ls aa ac us).cells.map SA.v)), (1, .cells 25 zero5), (2, .cells 25 [.v (.int .i64 k), .v (.int .i64 n), .v (.string s), .v (.slice none 0 0), .v (.slice none 0 0)])], k := 3, f := [fun w => TTIn w (TT.mk k n s la lc ls aa ac us)] }) (ent_ren [(0, .blk 0), (1, .blk 1), (2, .blk 2)] rfl rfl rfl rfl (Nat.le_of_ble_eq_true rfl) ⟨⟨_, rfl, rfl⟩, ⟨_, rfl, rfl⟩, ⟨_, rfl, rfl⟩, trivial⟩ ⟨⟨_, rfl, rfl⟩, ⟨_, rfl, rfl⟩, ⟨_, rfl, rfl⟩, trivial⟩ ⟨⟨TTIn.upS _, fun w h => h.1⟩, trivial⟩) ?_
  refine Walks.ent (ent_freshC 2 102 5 ([.v (.int .i64 k), .v (.int .i64 n), .v (.string s), .row 3, .v (.slice none 0 0)]) rfl (fun e he => ?_) (fun h => ?_)) ?_
  · show _ :: _ :: _ :: [e.rv 3, _] = _
    rw [show e.rv 3 = Value.slice none 0 0 from he]
    rfl
  · intro c hc
    simp only [List.mem_cons, List.not_mem_nil, or_false] at hc
    rcases hc with rfl | rfl | rfl | rfl | rfl
    · rfl
    · rfl
    · rfl
    · exact Nat.lt_succ_self _
    · rfl
  refine svc_ok tabOk [5, 6] _ _ _ ?_
  refine ⟨⟨Nat, fun j => j ≤ ls.length, fun j => { s := [(4, .one (.v (.int .i64 (j : Int)))), (1, .one (.p 0 0)), (2, .one (.p 1 0)), (3, .one (.p 2 0))], m := [(0, .cells 25 ((TT.mk k n s la lc ls aa ac us).cells.map SA.v)), (1, .cells 25 zero5), (2, .cells 25 [.v (.int .i64 k), .v (.int .i64 n), .v (.string s), .row 3, .v (.slice none 0 0)]), (3, .own 102 5 j (lvsC (ls.take j)))], k := 4, f := [fun w => TTIn w (TT.mk k n s la lc ls aa ac us)] }, fun j => ls.length - j, ⟨0, Nat.zero_le _, ent_ren [(0, .blk 0), (1, .blk 1), (2, .blk 2), (3, .own 3)] rfl rfl rfl rfl (Nat.le_of_ble_eq_true rfl) ⟨⟨_, rfl, rfl⟩, ⟨_, rfl, rfl⟩, ⟨_, rfl, rfl⟩, ⟨_, rfl, rfl⟩, trivial⟩ ⟨⟨_, rfl, rfl⟩, ⟨_, rfl, rfl⟩, ⟨_, rfl, rfl⟩, ⟨_, _, rfl, rfl, by simp [lvsC]⟩, trivial⟩ ⟨⟨TTIn.upS _, fun w h => h.1⟩, trivial⟩⟩, ?_⟩⟩
  rintro j hj
  refine bsplit_i (fun hlt0 => ?_) (fun hge0 => ?_)
  · have hlt : j < ls.length := by
      have h : decide ((j : Int) < (ls.length : Int)) = true := hlt0
      have := of_decide_eq_true h
      omega
    clear hlt0
    obtain ⟨l, hl⟩ : ∃ l, ls[j]? = some l := ⟨_, List.getElem?_eq_getElem hlt⟩
    have htk := lvsC_take hl
    refine Walks.ent (st' := { s := [(4, .one (.v (.int .i64 (j : Int)))), (1, .one (.p 0 0)), (2, .one (.p 1 0)), (3, .one (.p 2 0))], m := [(0, .cells 25 ((TT.mk k n s la lc ls aa ac us).cells.map SA.v)), (1, .cells 25 zero5), (2, .cells 25 [.v (.int .i64 k), .v (.int .i64 n), .v (.string s), .row 3, .v (.slice none 0 0)]), (3, .own 102 5 j (lvsC (ls.take j)))], k := 4, f := [fun w => TTIn w (TT.mk k n s la lc ls aa ac us)] }) (ent_ren [(0, .blk 0), (1, .blk 1), (2, .blk 2), (3, .own 3)] rfl rfl rfl rfl (Nat.le_of_ble_eq_true rfl) ⟨⟨_, rfl, rfl⟩, ⟨_, rfl, rfl⟩, ⟨_, rfl, rfl⟩, ⟨_, rfl, rfl⟩, trivial⟩ ⟨⟨_, rfl, rfl⟩, ⟨_, rfl, rfl⟩, ⟨_, rfl, rfl⟩, ⟨_, _, rfl, rfl, rfl⟩, trivial⟩ ⟨⟨TTIn.upS _, fun w h => h.1⟩, trivial⟩) ?_
    refine Walks.told (p := ∃ a, la = some a) (fun w h => ?_) ?_
    · obtain ⟨a, ha, _⟩ := lvRow_at h.1.node.hls hl
      exact ⟨a, ha⟩
    rintro ⟨a0, rfl⟩
    refine svc_ok tabOk [] _ _ _ ?_
    refine .inr ⟨[0, 1, 0, 4, 0, 28, 60, 124, 255, 511, 1023], [5, 6, 7, 8, 10], [(0, { dst := some 20, v := .one (.p 2 3), p := none, f := none }), (1, { dst := some 21, v := .one (.row 3), p := none, f := none }), (2, { dst := some 22, v := .one (.p 0 3), p := none, f := none }), (3, { dst := some 23, v := .one (.v (.slice (some a0) ls.length lc)), p := none, f := none }), (4, { dst := some 24, v := .one (.v (.int .i64 (j : Int))), p := none, f := none }), (9, { dst := some 29, v := .one (.p 2 3), p := none, f := none })], by kernel_rfl, rfl, by kernel_rfl, by kernel_rfl, rfl, rfl, rfl, rfl, ?_⟩
    refine cgo_go ({ s := [(4, .one (.v (.int .i64 (j : Int)))), (1, .one (.p 0 0)), (2, .one (.p 1 0)), (3, .one (.p 2 0))], m := [(0, .cells 25 ((TT.mk k n s (some a0) lc ls aa ac us).cells.map SA.v)), (1, .cells 25 zero5), (2, .cells 25 [.v (.int .i64 k), .v (.int .i64 n), .v (.string s), .row 3, .v (.slice none 0 0)]), (3, .own 102 5 j (lvsC (ls.take j)))], k := 4, f := [fun w => TTIn w (TT.mk k n s (some a0) lc ls aa ac us)] }) [5] rfl (by kernel_rfl) (by kernel_rfl) ⟨⟨rfl, rfl⟩, ⟨rfl, rfl⟩, ⟨rfl, rfl⟩, ⟨rfl, rfl⟩, ⟨rfl, rfl⟩, ⟨rfl, rfl⟩, trivial⟩ ⟨?_, trivial⟩
    refine ⟨_, rfl, rfl, _, rfl, ?_⟩
    refine ⟨{ n := j }, ⟨rfl, hlt, fun w h => rfl⟩, ?_⟩
    refine cgo_go ({ s := [(25, .one (.v (.pointer (some (a0.add (j * 5)))))), (4, .one (.v (.int .i64 (j : Int)))), (1, .one (.p 0 0)), (2, .one (.p 1 0)), (3, .one (.p 2 0))], m := [(0, .cells 25 ((TT.mk k n s (some a0) lc ls aa ac us).cells.map SA.v)), (1, .cells 25 zero5), (2, .cells 25 [.v (.int .i64 k), .v (.int .i64 n), .v (.string s), .row 3, .v (.slice none 0 0)]), (3, .own 102 5 j (lvsC (ls.take j)))], k := 4, f := [fun w => TTIn w (TT.mk k n s (some a0) lc ls aa ac us)] }) [6] rfl (by kernel_rfl) (by kernel_rfl) ⟨⟨rfl, rfl⟩, ⟨rfl, rfl⟩, ⟨rfl, trivial⟩, ⟨rfl, trivial⟩, ⟨rfl, trivial⟩, ⟨rfl, rfl⟩, trivial⟩ ⟨?_, trivial⟩
    refine ⟨_, rfl, rfl, _, rfl, ?_⟩
    refine ⟨{ cs := lvCells l }, ⟨lvCells_one l, rfl, fun w h => ?_⟩, ?_⟩
    · obtain ⟨a, ha, hc⟩ := lvRow_at h.1.node.hls hl
      cases ha
      exact ⟨_, rfl, hc⟩
    refine cgo_go ({ s := [(26, .agg ((lvCells l).map SA.v)), (25, .one (.v (.pointer (some (a0.add (j * 5)))))), (4, .one (.v (.int .i64 (j : Int)))), (1, .one (.p 0 0)), (2, .one (.p 1 0)), (3, .one (.p 2 0))], m := [(0, .cells 25 ((TT.mk k n s (some a0) lc ls aa ac us).cells.map SA.v)), (1, .cells 25 zero5), (2, .cells 25 [.v (.int .i64 k), .v (.int .i64 n), .v (.string s), .row 3, .v (.slice none 0 0)]), (3, .own 102 5 j (lvsC (ls.take j)))], k := 4, f := [fun w => TTIn w (TT.mk k n s (some a0) lc ls aa ac us)] }) [7] rfl (by kernel_rfl) (by kernel_rfl) ⟨⟨rfl, rfl⟩, ⟨rfl, rfl⟩, ⟨rfl, trivial⟩, ⟨rfl, trivial⟩, ⟨rfl, trivial⟩, ⟨rfl, rfl⟩, trivial⟩ ⟨?_, trivial⟩
    refine ⟨_, rfl, rfl, _, rfl, ?_⟩
    refine cgo_go ({ s := [(27, .one (.sl 4 0 1 1)), (26, .agg ((lvCells l).map SA.v)), (25, .one (.v (.pointer (some (a0.add (j * 5)))))), (4, .one (.v (.int .i64 (j : Int)))), (1, .one (.p 0 0)), (2, .one (.p 1 0)), (3, .one (.p 2 0))], m := [(4, .cells 102 ((lvCells l).map SA.v)), (0, .cells 25 ((TT.mk k n s (some a0) lc ls aa ac us).cells.map SA.v)), (1, .cells 25 zero5), (2, .cells 25 [.v (.int .i64 k), .v (.int .i64 n), .v (.string s), .row 3, .v (.slice none 0 0)]), (3, .own 102 5 j (lvsC (ls.take j)))], k := 5, f := [fun w => TTIn w (TT.mk k n s (some a0) lc ls aa ac us)] }) [8] rfl (by kernel_rfl) (by kernel_rfl) ⟨⟨rfl, rfl⟩, ⟨rfl, rfl⟩, ⟨rfl, trivial⟩, ⟨rfl, trivial⟩, ⟨rfl, trivial⟩, ⟨rfl, rfl⟩, trivial⟩ ⟨?_, trivial⟩
    refine ⟨_, rfl, rfl, _, rfl, ?_⟩
    refine ⟨{}, ⟨trivial, by decide, .inr rfl, ?_, ?_⟩, ?_⟩
    · show j + 1 ≤ maxLen
      simp only [maxLen]; omega
    · show (j + 1) * 40 ≤ 140737488355328
      omega
    refine cgo_go ({ s := [(28, .one (.row 5)), (27, .one (.sl 4 0 1 1)), (26, .agg ((lvCells l).map SA.v)), (25, .one (.v (.pointer (some (a0.add (j * 5)))))), (4, .one (.v (.int .i64 (j : Int)))), (1, .one (.p 0 0)), (2, .one (.p 1 0)), (3, .one (.p 2 0))], m := [(5, .own 102 5 (j + 1) (lvsC (ls.take j) ++ lvCells l)), (3, .dead), (4, .cells 102 ((lvCells l).map SA.v)), (0, .cells 25 ((TT.mk k n s (some a0) lc ls aa ac us).cells.map SA.v)), (1, .cells 25 zero5), (2, .cells 25 [.v (.int .i64 k), .v (.int .i64 n), .v (.string s), .row 3, .v (.slice none 0 0)]), (3, .own 102 5 j (lvsC (ls.take j)))], k := 6, f := [fun w => TTIn w (TT.mk k n s (some a0) lc ls aa ac us)] }) [10] rfl (by kernel_rfl) (by kernel_rfl) ⟨⟨rfl, trivial⟩, ⟨rfl, trivial⟩, ⟨rfl, trivial⟩, ⟨rfl, trivial⟩, ⟨rfl, trivial⟩, ⟨rfl, rfl⟩, trivial⟩ ⟨?_, trivial⟩
    refine ⟨_, rfl, rfl, _, rfl, ?_⟩
    refine cgo_end _ rfl (by kernel_rfl) ⟨⟨rfl, trivial⟩, ⟨rfl, trivial⟩, ⟨rfl, trivial⟩, ⟨rfl, trivial⟩, ⟨rfl, trivial⟩, ⟨rfl, trivial⟩, trivial⟩ ?_
    refine ⟨j + 1, hlt, by simp only; omega, ?_⟩
    exact ent_ren [(0, .blk 0), (1, .blk 1), (2, .blk 2), (3, .own 5)] rfl rfl rfl rfl (Nat.le_of_ble_eq_true rfl) ⟨⟨_, rfl, oneI (wrapI (by omega) (by omega))⟩, ⟨_, rfl, rfl⟩, ⟨_, rfl, rfl⟩, ⟨_, rfl, rfl⟩, trivial⟩ ⟨⟨_, rfl, rfl⟩, ⟨_, rfl, rfl⟩, ⟨_, rfl, rfl⟩, ⟨_, _, rfl, rfl, by rw [htk]⟩, trivial⟩ ⟨⟨TTIn.upS _, fun w h => h.1⟩, trivial⟩
  have hge : ls.length = j := by
    have h : decide ((j : Int) < (ls.length : Int)) = false := hge0
    have := of_decide_eq_false h
    omega
  clear hge0
  subst hge
  refine Walks.freeze2 3 rfl (fun LA LC g0 g1 g2 g3 => ?_)
  refine Walks.ent (st' := { s := [(1, .one (.p 0 0)), (2, .one (.p 1 0)), (3, .one (.p 2 0))], m := [(0, .cells 25 ((TT.mk k n s la lc ls aa ac us).cells.map SA.v)), (1, .cells 25 zero5), (2, .cells 25 [.v (.int .i64 k), .v (.int .i64 n), .v (.string s), .v (.slice LA ls.length LC), .v (.slice none 0 0)])], k := 3, f := [cF (TT.mk k n s la lc ls aa ac us) LA ls] }) (ent_ren [(0, .blk 0), (1, .blk 1), (2, .blk 2)] rfl rfl rfl rfl (Nat.le_of_ble_eq_true rfl) ⟨⟨_, rfl, rfl⟩, ⟨_, rfl, rfl⟩, ⟨_, rfl, rfl⟩, trivial⟩ ⟨⟨_, rfl, rfl⟩, ⟨_, rfl, rfl⟩, ⟨_, rfl, rfl⟩, trivial⟩ ⟨⟨cF.up _ _ _, fun w h => ⟨h.2.1, lvRow_of (by omega) g0 (by have h1 := h.1; rw [List.take_of_length_le (Nat.le_refl _)] at h1; exact h1)⟩⟩, trivial⟩) ?_
  refine Walks.ent (ent_freshC 2 25 5 ([.v (.int .i64 k), .v (.int .i64 n), .v (.string s), .v (.slice LA ls.length LC), .row 3]) rfl (fun e he => ?_) (fun h => ?_)) ?_
  · show _ :: _ :: _ :: _ :: [e.rv 3] = _
    rw [show e.rv 3 = Value.slice none 0 0 from he]
    rfl
  · intro c hc
    simp only [List.mem_cons, List.not_mem_nil, or_false] at hc
    rcases hc with rfl | rfl | rfl | rfl | rfl
    · rfl
    · rfl
    · rfl
    · rfl
    · exact Nat.lt_succ_self _
  refine svc_ok tabOk [9, 10] _ _ _ ?_
  refine ⟨⟨List TT, fun xs => xs.length ≤ us.length ∧ xs.map TT.tm = (us.map TT.tm).take xs.length, fun xs => { s := [(5, .one (.v (.int .i64 (xs.length : Int)))), (1, .one (.p 0 0)), (2, .one (.p 1 0)), (3, .one (.p 2 0))], m := [(0, .cells 25 ((TT.mk k n s la lc ls aa ac us).cells.map SA.v)), (1, .cells 25 zero5), (2, .cells 25 [.v (.int .i64 k), .v (.int .i64 n), .v (.string s), .v (.slice LA ls.length LC), .row 3]), (3, .own 25 5 xs.length (ttsC xs))], k := 4, f := [cG (TT.mk k n s la lc ls aa ac us) LA ls xs] }, fun xs => us.length - xs.length, ⟨[], ⟨Nat.zero_le _, rfl⟩, ent_ren [(0, .blk 0), (1, .blk 1), (2, .blk 2), (3, .own 3)] rfl rfl rfl rfl (Nat.le_of_ble_eq_true rfl) ⟨⟨_, rfl, rfl⟩, ⟨_, rfl, rfl⟩, ⟨_, rfl, rfl⟩, ⟨_, rfl, rfl⟩, trivial⟩ ⟨⟨_, rfl, rfl⟩, ⟨_, rfl, rfl⟩, ⟨_, rfl, rfl⟩, ⟨_, _, rfl, rfl, rfl⟩, trivial⟩ ⟨⟨cG.up _ _ _ _, fun w h => ⟨h.1, fun x hx => by cases hx⟩⟩, trivial⟩⟩, ?_⟩⟩
  rintro xs ⟨hj, hxs⟩
  refine bsplit_i (fun hlt0 => ?_) (fun hge0 => ?_)
  rotate_left
  · have hge : us.length = xs.length := by
      have h : decide ((xs.length : Int) < (us.length : Int)) = false := hge0
      have := of_decide_eq_false h
      omega
    refine Walks.freeze 3 rfl (fun B cp f1 f2 f3 => ?_)
    refine svc_ok tabOk [] _ _ _ ?_
    refine ⟨_, rfl, TT.mk k n s LA LC ls B cp xs, ?_, rfl, ?_⟩
    · show (TT.mk k n s LA LC ls B cp xs).tm = _
      rw [tt_tm, hxs, ← hge, List.take_of_length_le (by simp)]
    exact ent_ren [] rfl rfl rfl rfl (Nat.zero_le _) ⟨⟨_, rfl, rfl⟩, trivial⟩ trivial ⟨⟨TTIn.upS _, fun w h => by
      have hn := h.2.1.1.1.node
      show TTIn w (TT.mk k n s LA LC ls B cp xs)
      unfold TTIn
      refine ⟨⟨hn.hkind, hn.hn, hn.hname, h.2.1.1.2, g1, g2, g3, f1, f2, f3⟩, tts_of xs 0 (fun i u hi => ?_) h.2.1.2⟩
      rw [Nat.zero_mul, Nat.zero_add]
      exact h.1 i u hi⟩, trivial⟩
  have hlt : xs.length < us.length := by
    have h : decide ((xs.length : Int) < (us.length : Int)) = true := hlt0
    have := of_decide_eq_true h
    omega
  clear hlt0
  obtain ⟨u, hu⟩ : ∃ u, us[xs.length]? = some u := ⟨_, List.getElem?_eq_getElem hlt⟩
  have hmem := List.mem_of_getElem? hu
  have hrec := ih _ (tt_size hmem) u (ttbs_mem hB3 hmem) rfl
  have htk : (us.map TT.tm).take (xs.length + 1) = xs.map TT.tm ++ [u.tm] := by
    rw [List.take_add_one, ← hxs, List.getElem?_map, hu]
    rfl
  refine Walks.ent (st' := { s := [(5, .one (.v (.int .i64 (xs.length : Int)))), (1, .one (.p 0 0)), (2, .one (.p 1 0)), (3, .one (.p 2 0))], m := [(0, .cells 25 ((TT.mk k n s la lc ls aa ac us).cells.map SA.v)), (1, .cells 25 zero5), (2, .cells 25 [.v (.int .i64 k), .v (.int .i64 n), .v (.string s), .v (.slice LA ls.length LC), .row 3]), (3, .own 25 5 xs.length (ttsC xs))], k := 4, f := [cG (TT.mk k n s la lc ls aa ac us) LA ls xs] }) (ent_ren [(0, .blk 0), (1, .blk 1), (2, .blk 2), (3, .own 3)] rfl rfl rfl rfl (Nat.le_of_ble_eq_true rfl) ⟨⟨_, rfl, rfl⟩, ⟨_, rfl, rfl⟩, ⟨_, rfl, rfl⟩, ⟨_, rfl, rfl⟩, trivial⟩ ⟨⟨_, rfl, rfl⟩, ⟨_, rfl, rfl⟩, ⟨_, rfl, rfl⟩, ⟨_, _, rfl, rfl, rfl⟩, trivial⟩ ⟨⟨cG.up _ _ _ _, fun w h => h.1⟩, trivial⟩) ?_
  refine Walks.told (p := ∃ a, aa = some a) (fun w h => ?_) ?_
  · obtain ⟨⟨a, ha, _⟩, _⟩ := h.1.1.1.arg hu
    exact ⟨a, ha⟩
  rintro ⟨b0, rfl⟩
  obtain ⟨ut, hut⟩ : ∃ x, u.tm = x := ⟨_, rfl⟩
  rw [hut] at hrec htk
  obtain ⟨uk, un, unm, ula, ulc, uls, uaa, uac, uus⟩ := u
  refine svc_ok tabOk [] _ _ _ ?_
  refine .inr ⟨[0, 1, 0, 4, 0, 28, 60, 124, 252, 511, 1023, 2047], [5, 6, 7, 8, 9, 11], [(0, { dst := some 37, v := .one (.p 2 4), p := none, f := none }), (1, { dst := some 38, v := .one (.row 3), p := none, f := none }), (2, { dst := some 39, v := .one (.p 0 4), p := none, f := none }), (3, { dst := some 40, v := .one (.v (.slice (some b0) us.length ac)), p := none, f := none }), (4, { dst := some 41, v := .one (.v (.int .i64 (xs.length : Int))), p := none, f := none }), (10, { dst := some 47, v := .one (.p 2 4), p := none, f := none })], by kernel_rfl, rfl, by kernel_rfl, by kernel_rfl, rfl, rfl, rfl, rfl, ?_⟩
  refine cgo_go ({ s := [(5, .one (.v (.int .i64 (xs.length : Int)))), (1, .one (.p 0 0)), (2, .one (.p 1 0)), (3, .one (.p 2 0))], m := [(0, .cells 25 ((TT.mk k n s la lc ls (some b0) ac us).cells.map SA.v)), (1, .cells 25 zero5), (2, .cells 25 [.v (.int .i64 k), .v (.int .i64 n), .v (.string s), .v (.slice LA ls.length LC), .row 3]), (3, .own 25 5 xs.length (ttsC xs))], k := 4, f := [cG (TT.mk k n s la lc ls (some b0) ac us) LA ls xs] }) [5] rfl (by kernel_rfl) (by kernel_rfl) ⟨⟨rfl, rfl⟩, ⟨rfl, rfl⟩, ⟨rfl, rfl⟩, ⟨rfl, rfl⟩, ⟨rfl, rfl⟩, ⟨rfl, rfl⟩, trivial⟩ ⟨?_, trivial⟩
  refine ⟨_, rfl, rfl, _, rfl, ?_⟩
  refine ⟨{ n := xs.length }, ⟨rfl, hlt, fun w h => rfl⟩, ?_⟩
  refine cgo_go ({ s := [(42, .one (.v (.pointer (some (b0.add (xs.length * 5)))))), (5, .one (.v (.int .i64 (xs.length : Int)))), (1, .one (.p 0 0)), (2, .one (.p 1 0)), (3, .one (.p 2 0))], m := [(0, .cells 25 ((TT.mk k n s la lc ls (some b0) ac us).cells.map SA.v)), (1, .cells 25 zero5), (2, .cells 25 [.v (.int .i64 k), .v (.int .i64 n), .v (.string s), .v (.slice LA ls.length LC), .row 3]), (3, .own 25 5 xs.length (ttsC xs))], k := 4, f := [cG (TT.mk k n s la lc ls (some b0) ac us) LA ls xs] }) [6] rfl (by kernel_rfl) (by kernel_rfl) ⟨⟨rfl, rfl⟩, ⟨rfl, rfl⟩, ⟨rfl, trivial⟩, ⟨rfl, trivial⟩, ⟨rfl, trivial⟩, ⟨rfl, rfl⟩, trivial⟩ ⟨?_, trivial⟩
  refine ⟨_, rfl, rfl, _, rfl, ?_⟩
  refine ⟨{ cs := (TT.mk uk un unm ula ulc uls uaa uac uus).cells }, ⟨TT.cells_one (TT.mk uk un unm ula ulc uls uaa uac uus), rfl, fun w h => ?_⟩, ?_⟩
  · obtain ⟨⟨a, ha, hc⟩, _⟩ := h.1.1.1.arg hu
    cases ha
    exact ⟨_, rfl, hc⟩
  refine cgo_go ({ s := [(43, .agg ((TT.mk uk un unm ula ulc uls uaa uac uus).cells.map SA.v)), (42, .one (.v (.pointer (some (b0.add (xs.length * 5)))))), (5, .one (.v (.int .i64 (xs.length : Int)))), (1, .one (.p 0 0)), (2, .one (.p 1 0)), (3, .one (.p 2 0))], m := [(0, .cells 25 ((TT.mk k n s la lc ls (some b0) ac us).cells.map SA.v)), (1, .cells 25 zero5), (2, .cells 25 [.v (.int .i64 k), .v (.int .i64 n), .v (.string s), .v (.slice LA ls.length LC), .row 3]), (3, .own 25 5 xs.length (ttsC xs))], k := 4, f := [cG (TT.mk k n s la lc ls (some b0) ac us) LA ls xs] }) [7] rfl (by kernel_rfl) (by kernel_rfl) ⟨⟨rfl, rfl⟩, ⟨rfl, rfl⟩, ⟨rfl, trivial⟩, ⟨rfl, trivial⟩, ⟨rfl, trivial⟩, ⟨rfl, rfl⟩, trivial⟩ ⟨?_, trivial⟩
  refine ⟨_, rfl, rfl, _, rfl, ?_⟩
  refine callVC_lend [] hrec rfl trivial rfl rfl (fun w h => (h.1.1.1.arg hu).2) (fun x _ => ?_) (fun x hx => ?_)
  · obtain ⟨vk, vn, vnm, vla, vlc, vls, vaa, vac, vus⟩ := x
    exact ⟨rfl, rfl⟩
  have hx : x.tm = ut := hx
  obtain ⟨xt, hxt⟩ : ∃ y, x.tm = y := ⟨_, rfl⟩
  have hxm : (xs ++ [x]).map TT.tm = (us.map TT.tm).take (xs.length + 1) := by
    rw [List.map_append, htk, List.map_cons, hx]
    rfl
  clear hxt hx
  obtain ⟨vk, vn, vnm, vla, vlc, vls, vaa, vac, vus⟩ := x
  refine cgo_go ({ s := [(44, ttA (TT.mk vk vn vnm vla vlc vls vaa vac vus)), (43, .agg ((TT.mk uk un unm ula ulc uls uaa uac uus).cells.map SA.v)), (42, .one (.v (.pointer (some (b0.add (xs.length * 5)))))), (5, .one (.v (.int .i64 (xs.length : Int)))), (1, .one (.p 0 0)), (2, .one (.p 1 0)), (3, .one (.p 2 0))], m := [(0, .cells 25 ((TT.mk k n s la lc ls (some b0) ac us).cells.map SA.v)), (1, .cells 25 zero5), (2, .cells 25 [.v (.int .i64 k), .v (.int .i64 n), .v (.string s), .v (.slice LA ls.length LC), .row 3]), (3, .own 25 5 xs.length (ttsC xs))], k := 4, f := [fun w => TTIn w (TT.mk vk vn vnm vla vlc vls vaa vac vus), cG (TT.mk k n s la lc ls (some b0) ac us) LA ls xs] }) [8] rfl (by kernel_rfl) (by kernel_rfl) ⟨⟨rfl, rfl⟩, ⟨rfl, rfl⟩, ⟨rfl, trivial⟩, ⟨rfl, trivial⟩, ⟨rfl, trivial⟩, ⟨rfl, rfl⟩, trivial⟩ ⟨?_, trivial⟩
  refine ⟨_, rfl, rfl, _, rfl, ?_⟩
  refine cgo_go ({ s := [(45, .one (.sl 4 0 1 1)), (44, ttA (TT.mk vk vn vnm vla vlc vls vaa vac vus)), (43, .agg ((TT.mk uk un unm ula ulc uls uaa uac uus).cells.map SA.v)), (42, .one (.v (.pointer (some (b0.add (xs.length * 5)))))), (5, .one (.v (.int .i64 (xs.length : Int)))), (1, .one (.p 0 0)), (2, .one (.p 1 0)), (3, .one (.p 2 0))], m := [(4, .cells 25 ((TT.mk vk vn vnm vla vlc vls vaa vac vus).cells.map SA.v)), (0, .cells 25 ((TT.mk k n s la lc ls (some b0) ac us).cells.map SA.v)), (1, .cells 25 zero5), (2, .cells 25 [.v (.int .i64 k), .v (.int .i64 n), .v (.string s), .v (.slice LA ls.length LC), .row 3]), (3, .own 25 5 xs.length (ttsC xs))], k := 5, f := [fun w => TTIn w (TT.mk vk vn vnm vla vlc vls vaa vac vus), cG (TT.mk k n s la lc ls (some b0) ac us) LA ls xs] }) [9] rfl (by kernel_rfl) (by kernel_rfl) ⟨⟨rfl, rfl⟩, ⟨rfl, rfl⟩, ⟨rfl, trivial⟩, ⟨rfl, trivial⟩, ⟨rfl, trivial⟩, ⟨rfl, rfl⟩, trivial⟩ ⟨?_, trivial⟩
  refine ⟨_, rfl, rfl, _, rfl, ?_⟩
  refine ⟨{}, ⟨trivial, by decide, .inr rfl, ?_, ?_⟩, ?_⟩
  · show xs.length + 1 ≤ maxLen
    simp only [maxLen]; omega
  · show (xs.length + 1) * 80 ≤ 140737488355328
    omega
  refine cgo_go ({ s := [(46, .one (.row 5)), (45, .one (.sl 4 0 1 1)), (44, ttA (TT.mk vk vn vnm vla vlc vls vaa vac vus)), (43, .agg ((TT.mk uk un unm ula ulc uls uaa uac uus).cells.map SA.v)), (42, .one (.v (.pointer (some (b0.add (xs.length * 5)))))), (5, .one (.v (.int .i64 (xs.length : Int)))), (1, .one (.p 0 0)), (2, .one (.p 1 0)), (3, .one (.p 2 0))], m := [(5, .own 25 5 (xs.length + 1) (ttsC xs ++ (TT.mk vk vn vnm vla vlc vls vaa vac vus).cells)), (3, .dead), (4, .cells 25 ((TT.mk vk vn vnm vla vlc vls vaa vac vus).cells.map SA.v)), (0, .cells 25 ((TT.mk k n s la lc ls (some b0) ac us).cells.map SA.v)), (1, .cells 25 zero5), (2, .cells 25 [.v (.int .i64 k), .v (.int .i64 n), .v (.string s), .v (.slice LA ls.length LC), .row 3]), (3, .own 25 5 xs.length (ttsC xs))], k := 6, f := [fun w => TTIn w (TT.mk vk vn vnm vla vlc vls vaa vac vus), cG (TT.mk k n s la lc ls (some b0) ac us) LA ls xs] }) [11] rfl (by kernel_rfl) (by kernel_rfl) ⟨⟨rfl, trivial⟩, ⟨rfl, trivial⟩, ⟨rfl, trivial⟩, ⟨rfl, trivial⟩, ⟨rfl, trivial⟩, ⟨rfl, rfl⟩, trivial⟩ ⟨?_, trivial⟩
  refine ⟨_, rfl, rfl, _, rfl, ?_⟩
  refine cgo_end _ rfl (by kernel_rfl) ⟨⟨rfl, trivial⟩, ⟨rfl, trivial⟩, ⟨rfl, trivial⟩, ⟨rfl, trivial⟩, ⟨rfl, trivial⟩, ⟨rfl, trivial⟩, trivial⟩ ?_
  refine ⟨xs ++ [(TT.mk vk vn vnm vla vlc vls vaa vac vus)], ⟨by simp only [List.length_append, List.length_singleton]; omega, by rw [hxm]; simp only [List.length_append, List.length_singleton]⟩, by simp only [List.length_append, List.length_singleton]; omega, ?_⟩
  exact ent_ren [(0, .blk 0), (1, .blk 1), (2, .blk 2), (3, .own 5)] rfl rfl rfl rfl (Nat.le_of_ble_eq_true rfl) ⟨⟨_, rfl, by simp only [List.length_append, List.length_singleton]; exact oneI (wrapI (by omega) (by omega))⟩, ⟨_, rfl, rfl⟩, ⟨_, rfl, rfl⟩, ⟨_, rfl, rfl⟩, trivial⟩ ⟨⟨_, rfl, rfl⟩, ⟨_, rfl, rfl⟩, ⟨_, rfl, rfl⟩, ⟨_, _, rfl, by simp, by simp [ttsC]⟩, trivial⟩ ⟨⟨cG.up _ _ _ _, fun w h => ⟨h.2.1.1, fun x hx => (List.mem_append.1 hx).elim (h.2.1.2 x) (fun hx => by rw [List.mem_singleton.1 hx]; exact h.1)⟩⟩, trivial⟩
end Go.Proofs.YtmkpiekbpakigaaGreatDoor
