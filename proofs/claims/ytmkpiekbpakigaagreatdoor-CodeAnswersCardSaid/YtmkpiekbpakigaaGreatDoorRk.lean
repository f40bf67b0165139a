/- The reference's Formed (20). -/
import Derived.Test.YtmkpiekbpakigaaGreatDoorRj
set_option linter.unusedVariables false
set_option linter.unusedSimpArgs false
namespace Go.Proofs.YtmkpiekbpakigaaGreatDoor
open Go.RowKit Go.Proofs.Base Go.Proofs.Sym

theorem same_zero (t : TT) : sameT t zeroT = emptyT t.tm := by
  obtain ⟨k, n, s, la, lc, ls, aa, ac, us⟩ := t
  rw [tt_tm, emptyT, zeroT, sameT]
  have h1 : decide (ls = []) = decide ((ls.length : Int) = 0) := by
    rw [decide_eq_decide]
    constructor
    · rintro rfl; rfl
    · intro h
      exact List.eq_nil_of_length_eq_zero (by omega)
  have h2 : sameTs us [] = decide (((us.map TT.tm).length : Int) = 0) := by
    cases us with
    | nil => unfold sameTs; rfl
    | cons a r => unfold sameTs; simp; omega
  rw [h1, h2]
  rfl
theorem formed_split (d : DM) (b1 b2 b3 b4 vb : Bool) (h1 : wordB d.name = b1) (h2 : rightB d.params 0 d.ty = b2) (h3 : rightB d.params 0 d.val = b3) (h4 : emptyT d.val = b4) (hv : valB d.kind = vb) :
    formedB d = (!((((decide (d.kind < 1) || decide (4 < d.kind)) || !b1)) || !b2) && (!((vb && !b3) || (!vb && !b4)) && (if d.kind = 4 then (!((decide (d.fixed < 0) || decide (16 < d.fixed)) || decide (8 < (d.cts.length : Int))) && !d.cts.any (wrongC d.params)) else (decide (d.fixed = 0) && decide ((d.cts.length : Int) = 0))))) := by
  unfold formedB
  rw [h1, h2, h3, h4, hv]
  obtain ⟨y, hy⟩ : ∃ y, d.cts.any (wrongC d.params) = y := ⟨_, rfl⟩
  rw [hy]
  by_cases c1 : d.kind < 1
  · simp [c1]
  by_cases c2 : 4 < d.kind
  · simp [c1, c2]
  by_cases c4 : d.kind = 4
  · rw [Bool.eq_iff_iff]
    cases b1 <;> cases b2 <;> cases b3 <;> cases b4 <;> cases vb <;> simp [c4] <;> first | omega | (cases y <;> simp <;> omega) | grind
  · cases b1 <;> cases b2 <;> cases b3 <;> cases b4 <;> cases vb <;> simp [c1, c2, c4]
set_option maxHeartbeats 4000000 in
theorem FormedR_pc (d : DD) : PCall Tryz.prog 20 [d.dv] (fun w => DDIn w d) (fun r => r = .bool (formedB d.dm)) (fun _ _ => True) := by
  have hw := WordR_pc d.name
  have hr1 := RightR_pc d.params 0 d.ty
  have hr2 := RightR_pc d.params 0 d.val
  have hs := same_pc d.val zeroT
  rw [same_zero] at hs
  obtain ⟨b1, e1⟩ : ∃ x, wordB d.name = x := ⟨_, rfl⟩
  obtain ⟨b2, e2⟩ : ∃ x, rightB d.params 0 d.ty.tm = x := ⟨_, rfl⟩
  obtain ⟨b3, e3⟩ : ∃ x, rightB d.params 0 d.val.tm = x := ⟨_, rfl⟩
  obtain ⟨b4, e4⟩ : ∃ x, emptyT d.val.tm = x := ⟨_, rfl⟩
  obtain ⟨vb, ev⟩ : ∃ x, valB d.kind = x := ⟨_, rfl⟩
  have hsplit := formed_split d.dm b1 b2 b3 b4 vb e1 e2 e3 e4 ev
  rw [e1] at hw
  rw [e2] at hr1
  rw [e3] at hr2
  rw [e4] at hs
  obtain ⟨Z, hZ⟩ : ∃ Z, formedB d.dm = Z := ⟨_, rfl⟩
  rw [hZ] at hsplit ⊢
  clear hZ e1 e2 e3 e4
  have hany : d.dm.cts.any (wrongC d.dm.params) = d.cts.any (fun c => wrongC d.params (ctM c)) := by
    show (d.cts.map ctM).any _ = _
    rw [List.any_map]
    rfl
  have hlen : d.dm.cts.length = d.cts.length := by
    show (d.cts.map ctM).length = _
    rw [List.length_map]
  rw [hany, hlen] at hsplit
  clear hany hlen
  obtain ⟨k, p, nm, ⟨ak, an, anm, ala, alc, als, aaa, aac, aus⟩, ⟨bk, bn, bnm, bla, blc, bls, baa, bac, bus⟩, fx, ca, cc, cts⟩ := d
  have hsplit : Z = (!(((decide (k < 1) || decide (4 < k)) || !b1) || !b2) && (!((vb && !b3) || (!vb && !b4)) && (if k = 4 then (!((decide (fx < 0) || decide (16 < fx)) || decide (8 < (cts.length : Int))) && !cts.any (fun c => wrongC p (ctM c))) else (decide (fx = 0) && decide ((cts.length : Int) = 0))))) := hsplit
  have ev : (decide (k = 2) || decide (k = 3)) = vb := ev
  refine pcall_of tabOk 110 [.tmp 2] Tryz.func20 rfl rfl (by kernel_rfl) rfl _ (Nat.le_of_ble_eq_true rfl) (DDIn.up _) (fun _ => Up.true) ?_
  refine svc_ok tabOk [1] _ _ _ ?_
  refine Walks.ent (st' := { s := [(1, .one (.p 0 0))], m := [(0, .cells 38 (dA k p nm (.mk ak an anm ala alc als aaa aac aus) (.mk bk bn bnm bla blc bls baa bac bus) fx ca cc cts))], k := 1, f := [fun w => DDIn w (DD.mk k p nm (.mk ak an anm ala alc als aaa aac aus) (.mk bk bn bnm bla blc bls baa bac bus) fx ca cc cts)] }) (ent_ren [(0, .blk 0)] rfl rfl rfl rfl (Nat.le_of_ble_eq_true rfl) ⟨⟨_, rfl, rfl⟩, trivial⟩ ⟨⟨_, rfl, rfl⟩, trivial⟩ ⟨⟨DDIn.up _, fun w h => h.1⟩, trivial⟩) ?_
  refine Walks.seq (Walks.seq (Walks.parts ?_))
  refine SWalks.step tabOk 9 (X := Bool) (fun b => b = (decide (k < 1) || decide (4 < k))) (fun b => { s := [(14, .one (.v (.bool b))), (1, .one (.p 0 0))], m := [(0, .cells 38 (dA k p nm (.mk ak an anm ala alc als aaa aac aus) (.mk bk bn bnm bla blc bls baa bac bus) fx ca cc cts))], k := 1, f := [fun w => DDIn w (DD.mk k p nm (.mk ak an anm ala alc als aaa aac aus) (.mk bk bn bnm bla blc bls baa bac bus) fx ca cc cts)] }) ?_ (fun b0 hb0 => ?_)
  · refine bsplit_i (fun h => ?_) (fun h => ?_)
    · have h : decide (k < 1) = true := h
      exact ⟨true, by rw [h]; rfl, ent_ren [(0, .blk 0)] rfl rfl rfl rfl (Nat.le_of_ble_eq_true rfl) ⟨⟨_, rfl, rfl⟩, ⟨_, rfl, rfl⟩, trivial⟩ ⟨⟨_, rfl, rfl⟩, trivial⟩ ⟨⟨DDIn.up _, fun w h => h.1⟩, trivial⟩⟩
    · have h : decide (k < 1) = false := h
      exact ⟨decide (4 < k), by rw [h]; rfl, ent_ren [(0, .blk 0)] rfl rfl rfl rfl (Nat.le_of_ble_eq_true rfl) ⟨⟨_, rfl, rfl⟩, ⟨_, rfl, rfl⟩, trivial⟩ ⟨⟨_, rfl, rfl⟩, trivial⟩ ⟨⟨DDIn.up _, fun w h => h.1⟩, trivial⟩⟩
  refine SWalks.step tabOk 6 (X := Bool) (fun b => b = ((decide (k < 1) || decide (4 < k)) || !b1)) (fun b => { s := [(20, .one (.v (.bool b))), (1, .one (.p 0 0))], m := [(0, .cells 38 (dA k p nm (.mk ak an anm ala alc als aaa aac aus) (.mk bk bn bnm bla blc bls baa bac bus) fx ca cc cts))], k := 1, f := [fun w => DDIn w (DD.mk k p nm (.mk ak an anm ala alc als aaa aac aus) (.mk bk bn bnm bla blc bls baa bac bus) fx ca cc cts)] }) ?_ (fun b1_ hb1 => ?_)
  · refine bsplit_i (fun h => ?_) (fun h => ?_)
    · exact ⟨true, by rw [← hb0, h]; rfl, ent_ren [(0, .blk 0)] rfl rfl rfl rfl (Nat.le_of_ble_eq_true rfl) ⟨⟨_, rfl, rfl⟩, ⟨_, rfl, rfl⟩, trivial⟩ ⟨⟨_, rfl, rfl⟩, trivial⟩ ⟨⟨DDIn.up _, fun w h => h.1⟩, trivial⟩⟩
    · refine callVC_plain hw (fun _ => rfl) (fun _ _ => trivial) ?_
      rintro r rfl
      exact ⟨!b1, by rw [← hb0, h]; rfl, ent_ren [(0, .blk 0)] rfl rfl rfl rfl (Nat.le_of_ble_eq_true rfl) ⟨⟨_, rfl, rfl⟩, ⟨_, rfl, rfl⟩, trivial⟩ ⟨⟨_, rfl, rfl⟩, trivial⟩ ⟨⟨DDIn.up _, fun w h => h.2.1⟩, trivial⟩⟩
  refine SWalks.step tabOk 7 (X := Bool) (fun b => b = (((decide (k < 1) || decide (4 < k)) || !b1) || !b2)) (fun b => { s := [(27, .one (.v (.bool b))), (1, .one (.p 0 0))], m := [(0, .cells 38 (dA k p nm (.mk ak an anm ala alc als aaa aac aus) (.mk bk bn bnm bla blc bls baa bac bus) fx ca cc cts))], k := 1, f := [fun w => DDIn w (DD.mk k p nm (.mk ak an anm ala alc als aaa aac aus) (.mk bk bn bnm bla blc bls baa bac bus) fx ca cc cts)] }) ?_ (fun b2_ hb2 => ?_)
  · refine bsplit_i (fun h => ?_) (fun h => ?_)
    · exact ⟨true, by rw [← hb1, h]; rfl, ent_ren [(0, .blk 0)] rfl rfl rfl rfl (Nat.le_of_ble_eq_true rfl) ⟨⟨_, rfl, rfl⟩, ⟨_, rfl, rfl⟩, trivial⟩ ⟨⟨_, rfl, rfl⟩, trivial⟩ ⟨⟨DDIn.up _, fun w h => h.1⟩, trivial⟩⟩
    · refine callVC_plain hr1 (fun _ => rfl) (fun w h => h.1.hty) ?_
      rintro r rfl
      exact ⟨!b2, by rw [← hb1, h]; rfl, ent_ren [(0, .blk 0)] rfl rfl rfl rfl (Nat.le_of_ble_eq_true rfl) ⟨⟨_, rfl, rfl⟩, ⟨_, rfl, rfl⟩, trivial⟩ ⟨⟨_, rfl, rfl⟩, trivial⟩ ⟨⟨DDIn.up _, fun w h => h.2.1⟩, trivial⟩⟩
  refine SWalks.done ?_
  rw [← hb2] at hsplit
  refine svc_ok tabOk [4] _ _ _ ?_
  refine bsplit_i (fun h => ?_) (fun h => ?_)
  · have h : b2_ = true := h
    rw [h] at hsplit
    exact ⟨_, rfl, Told.val (by rw [hsplit]; rfl)⟩
  have h : b2_ = false := h
  rw [h] at hsplit
  clear h hb0 hb1 hb2 b0 b1_
  refine svc_ok tabOk [4] _ _ _ ?_
  refine callVC_plain hs (fun _ => rfl) (fun w h => ⟨h.1.hval, zeroT_in w⟩) ?_
  rintro r rfl
  refine Walks.ent (st' := { s := [(3, .one (.v (.bool b4))), (1, .one (.p 0 0))], m := [(0, .cells 38 (dA k p nm (.mk ak an anm ala alc als aaa aac aus) (.mk bk bn bnm bla blc bls baa bac bus) fx ca cc cts))], k := 1, f := [fun w => DDIn w (DD.mk k p nm (.mk ak an anm ala alc als aaa aac aus) (.mk bk bn bnm bla blc bls baa bac bus) fx ca cc cts)] }) (ent_ren [(0, .blk 0)] rfl rfl rfl rfl (Nat.le_of_ble_eq_true rfl) ⟨⟨_, rfl, rfl⟩, ⟨_, rfl, rfl⟩, trivial⟩ ⟨⟨_, rfl, rfl⟩, trivial⟩ ⟨⟨DDIn.up _, fun w h => h.2.1⟩, trivial⟩) ?_
  refine Walks.cut ({ s := [(4, .one (.v (.bool vb))), (3, .one (.v (.bool b4))), (1, .one (.p 0 0))], m := [(0, .cells 38 (dA k p nm (.mk ak an anm ala alc als aaa aac aus) (.mk bk bn bnm bla blc bls baa bac bus) fx ca cc cts))], k := 1, f := [fun w => DDIn w (DD.mk k p nm (.mk ak an anm ala alc als aaa aac aus) (.mk bk bn bnm bla blc bls baa bac bus) fx ca cc cts)] }) ?_ ?_
  · refine svc_ok tabOk [] _ _ _ ?_
    refine bsplit_i (fun h => ?_) (fun h => ?_)
    · have h : decide (k = 2) = true := h
      exact ent_ren [(0, .blk 0)] rfl rfl rfl rfl (Nat.le_of_ble_eq_true rfl) ⟨⟨_, rfl, oneB (by rw [← ev, h]; rfl)⟩, ⟨_, rfl, rfl⟩, ⟨_, rfl, rfl⟩, trivial⟩ ⟨⟨_, rfl, rfl⟩, trivial⟩ ⟨⟨DDIn.up _, fun w h => h.1⟩, trivial⟩
    · have h : decide (k = 2) = false := h
      exact ent_ren [(0, .blk 0)] rfl rfl rfl rfl (Nat.le_of_ble_eq_true rfl) ⟨⟨_, rfl, oneB (by rw [← ev, h]; rfl)⟩, ⟨_, rfl, rfl⟩, ⟨_, rfl, rfl⟩, trivial⟩ ⟨⟨_, rfl, rfl⟩, trivial⟩ ⟨⟨DDIn.up _, fun w h => h.1⟩, trivial⟩
  refine Walks.seq (Walks.seq (Walks.parts ?_))
  refine SWalks.step tabOk 10 (X := Bool) (fun b => b = (vb && !b3)) (fun b => { s := [(49, .one (.v (.bool b))), (3, .one (.v (.bool b4))), (4, .one (.v (.bool vb))), (1, .one (.p 0 0))], m := [(0, .cells 38 (dA k p nm (.mk ak an anm ala alc als aaa aac aus) (.mk bk bn bnm bla blc bls baa bac bus) fx ca cc cts))], k := 1, f := [fun w => DDIn w (DD.mk k p nm (.mk ak an anm ala alc als aaa aac aus) (.mk bk bn bnm bla blc bls baa bac bus) fx ca cc cts)] }) ?_ (fun b0 hb0 => ?_)
  · refine bsplit_i (fun h => ?_) (fun h => ?_)
    · have h : vb = true := h
      refine callVC_plain hr2 (fun _ => rfl) (fun w h => h.1.hval) ?_
      rintro r rfl
      exact ⟨!b3, by rw [h]; rfl, ent_ren [(0, .blk 0)] rfl rfl rfl rfl (Nat.le_of_ble_eq_true rfl) ⟨⟨_, rfl, rfl⟩, ⟨_, rfl, rfl⟩, ⟨_, rfl, rfl⟩, ⟨_, rfl, rfl⟩, trivial⟩ ⟨⟨_, rfl, rfl⟩, trivial⟩ ⟨⟨DDIn.up _, fun w h => h.2.1⟩, trivial⟩⟩
    · have h : vb = false := h
      exact ⟨false, by rw [h]; rfl, ent_ren [(0, .blk 0)] rfl rfl rfl rfl (Nat.le_of_ble_eq_true rfl) ⟨⟨_, rfl, rfl⟩, ⟨_, rfl, rfl⟩, ⟨_, rfl, rfl⟩, ⟨_, rfl, rfl⟩, trivial⟩ ⟨⟨_, rfl, rfl⟩, trivial⟩ ⟨⟨DDIn.up _, fun w h => h.1⟩, trivial⟩⟩
  refine SWalks.step tabOk 7 (X := Bool) (fun b => b = ((vb && !b3) || (!vb && !b4))) (fun b => { s := [(56, .one (.v (.bool b))), (3, .one (.v (.bool b4))), (4, .one (.v (.bool vb))), (1, .one (.p 0 0))], m := [(0, .cells 38 (dA k p nm (.mk ak an anm ala alc als aaa aac aus) (.mk bk bn bnm bla blc bls baa bac bus) fx ca cc cts))], k := 1, f := [fun w => DDIn w (DD.mk k p nm (.mk ak an anm ala alc als aaa aac aus) (.mk bk bn bnm bla blc bls baa bac bus) fx ca cc cts)] }) ?_ (fun b1_ hb1 => ?_)
  · refine bsplit_i (fun h => ?_) (fun h => ?_)
    · exact ⟨true, by rw [← hb0, h]; rfl, ent_ren [(0, .blk 0)] rfl rfl rfl rfl (Nat.le_of_ble_eq_true rfl) ⟨⟨_, rfl, rfl⟩, ⟨_, rfl, rfl⟩, ⟨_, rfl, rfl⟩, ⟨_, rfl, rfl⟩, trivial⟩ ⟨⟨_, rfl, rfl⟩, trivial⟩ ⟨⟨DDIn.up _, fun w h => h.1⟩, trivial⟩⟩
    · refine bsplit_i (fun h2 => ?_) (fun h2 => ?_)
      · have h2 : (!vb) = true := h2
        exact ⟨!b4, by rw [← hb0, h, h2]; rfl, ent_ren [(0, .blk 0)] rfl rfl rfl rfl (Nat.le_of_ble_eq_true rfl) ⟨⟨_, rfl, rfl⟩, ⟨_, rfl, rfl⟩, ⟨_, rfl, rfl⟩, ⟨_, rfl, rfl⟩, trivial⟩ ⟨⟨_, rfl, rfl⟩, trivial⟩ ⟨⟨DDIn.up _, fun w h => h.1⟩, trivial⟩⟩
      · have h2 : (!vb) = false := h2
        exact ⟨false, by rw [← hb0, h, h2]; rfl, ent_ren [(0, .blk 0)] rfl rfl rfl rfl (Nat.le_of_ble_eq_true rfl) ⟨⟨_, rfl, rfl⟩, ⟨_, rfl, rfl⟩, ⟨_, rfl, rfl⟩, ⟨_, rfl, rfl⟩, trivial⟩ ⟨⟨_, rfl, rfl⟩, trivial⟩ ⟨⟨DDIn.up _, fun w h => h.1⟩, trivial⟩⟩
  refine SWalks.done ?_
  rw [← hb1] at hsplit
  refine svc_ok tabOk [7] _ _ _ ?_
  refine bsplit_i (fun h => ?_) (fun h => ?_)
  · have h : b1_ = true := h
    rw [h] at hsplit
    exact ⟨_, rfl, Told.val (by rw [hsplit]; rfl)⟩
  have h : b1_ = false := h
  rw [h] at hsplit
  clear h hb0 hb1 b0
  refine Walks.ent (st' := { s := [(1, .one (.p 0 0))], m := [(0, .cells 38 (dA k p nm (.mk ak an anm ala alc als aaa aac aus) (.mk bk bn bnm bla blc bls baa bac bus) fx ca cc cts))], k := 1, f := [fun w => DDIn w (DD.mk k p nm (.mk ak an anm ala alc als aaa aac aus) (.mk bk bn bnm bla blc bls baa bac bus) fx ca cc cts)] }) (ent_ren [(0, .blk 0)] rfl rfl rfl rfl (Nat.le_of_ble_eq_true rfl) ⟨⟨_, rfl, rfl⟩, trivial⟩ ⟨⟨_, rfl, rfl⟩, trivial⟩ ⟨⟨DDIn.up _, fun w h => h.1⟩, trivial⟩) ?_
  refine svc_ok tabOk [11] _ _ _ ?_
  refine bsplit_i (fun h => ?_) (fun h => ?_)
  · have h : (!decide (k = 4)) = true := h
    have h4 : ¬ k = 4 := fun e => by rw [decide_eq_true e] at h; cases h
    rw [if_neg h4] at hsplit
    refine bsplit_i (fun h => ?_) (fun h => ?_)
    · have h : decide (fx = 0) = true := h
      exact ⟨_, rfl, Told.val (by rw [hsplit, h]; rfl)⟩
    · have h : decide (fx = 0) = false := h
      exact ⟨_, rfl, Told.val (by rw [hsplit, h]; rfl)⟩
  have h : (!decide (k = 4)) = false := h
  have h4 : k = 4 := Classical.byContradiction fun e => by rw [decide_eq_false e] at h; cases h
  rw [if_pos h4] at hsplit
  clear h
  refine bsplit_i (fun h => ?_) (fun h => ?_)
  · have h : decide (fx < 0) = true := h
    exact ⟨_, rfl, Told.val (by rw [hsplit, h]; rfl)⟩
  have h : decide (fx < 0) = false := h
  rw [h] at hsplit
  clear h
  refine bsplit_i (fun h => ?_) (fun h => ?_)
  · have h : decide (16 < fx) = true := h
    exact ⟨_, rfl, Told.val (by rw [hsplit, h]; rfl)⟩
  have h : decide (16 < fx) = false := h
  rw [h] at hsplit
  clear h
  refine bsplit_i (fun h => ?_) (fun h => ?_)
  · have h : decide (8 < (cts.length : Int)) = true := h
    exact ⟨_, rfl, Told.val (by rw [hsplit, h]; rfl)⟩
  have h : decide (8 < (cts.length : Int)) = false := h
  have h8 := of_decide_eq_false h
  rw [h] at hsplit
  clear h
  have hsplit : Z = !cts.any (fun c => wrongC p (ctM c)) := hsplit
  refine Walks.ent (st' := { s := [(1, .one (.p 0 0))], m := [(0, .cells 38 (dA k p nm (.mk ak an anm ala alc als aaa aac aus) (.mk bk bn bnm bla blc bls baa bac bus) fx ca cc cts))], k := 1, f := [fun w => DDIn w (DD.mk k p nm (.mk ak an anm ala alc als aaa aac aus) (.mk bk bn bnm bla blc bls baa bac bus) fx ca cc cts)] }) (ent_ren [(0, .blk 0)] rfl rfl rfl rfl (Nat.le_of_ble_eq_true rfl) ⟨⟨_, rfl, rfl⟩, trivial⟩ ⟨⟨_, rfl, rfl⟩, trivial⟩ ⟨⟨DDIn.up _, fun w h => h.1⟩, trivial⟩) ?_
  refine svc_ok tabOk [14] _ _ _ ?_
  refine ⟨⟨Nat, fun j => j ≤ cts.length ∧ (cts.take j).any (fun c => wrongC p (ctM c)) = false, fun j => { s := [(5, .one (.v (.int .i64 (j : Int)))), (1, .one (.p 0 0))], m := [(0, .cells 38 (dA k p nm (.mk ak an anm ala alc als aaa aac aus) (.mk bk bn bnm bla blc bls baa bac bus) fx ca cc cts))], k := 1, f := [fun w => DDIn w (DD.mk k p nm (.mk ak an anm ala alc als aaa aac aus) (.mk bk bn bnm bla blc bls baa bac bus) fx ca cc cts)] }, fun j => cts.length - j, ⟨0, ⟨Nat.zero_le _, rfl⟩, ent_ren [(0, .blk 0)] rfl rfl rfl rfl (Nat.le_of_ble_eq_true rfl) ⟨⟨_, rfl, rfl⟩, ⟨_, rfl, rfl⟩, trivial⟩ ⟨⟨_, rfl, rfl⟩, trivial⟩ ⟨⟨DDIn.up _, fun w h => h.1⟩, trivial⟩⟩, ?_⟩⟩
  rintro j ⟨hj, hA⟩
  refine bsplit_i (fun hlt0 => ?_) (fun hge => ?_)
  rotate_left
  · have hge : cts.length ≤ j := by
      have h : decide ((j : Int) < (cts.length : Int)) = false := hge
      have := of_decide_eq_false h
      omega
    rw [List.take_of_length_le hge] at hA
    exact ⟨_, rfl, Told.val (by rw [hsplit, hA]; rfl)⟩
  have hlt : j < cts.length := by
    have h : decide ((j : Int) < (cts.length : Int)) = true := hlt0
    have := of_decide_eq_true h
    omega
  clear hlt0
  obtain ⟨c, hc⟩ : ∃ c, cts[j]? = some c := ⟨_, List.getElem?_eq_getElem hlt⟩
  have hcw := WordR_pc c.1
  have hcr := RightR_pc p 0 c.2
  have hwr : wrongC p (ctM c) = (!wordB c.1 || !rightB p 0 c.2.tm) := rfl
  have hstep : (cts.take (j + 1)).any (fun c => wrongC p (ctM c)) = wrongC p (ctM c) := by
    rw [List.take_add_one, hc, List.any_append, hA]
    simp
  have hbad : wrongC p (ctM c) = true → Z = false := fun h => by
    rw [hsplit, show cts.any (fun c => wrongC p (ctM c)) = true from List.any_eq_true.2 ⟨c, List.mem_of_getElem? hc, h⟩]
    rfl
  obtain ⟨w1, ew1⟩ : ∃ x, wordB c.1 = x := ⟨_, rfl⟩
  obtain ⟨w2, ew2⟩ : ∃ x, rightB p 0 c.2.tm = x := ⟨_, rfl⟩
  rw [ew1] at hcw hwr
  rw [ew2] at hcr hwr
  obtain ⟨cn, ⟨tk, tn, tnm, tla, tlc, tls, taa, tac, tus⟩⟩ := c
  refine Walks.told (p := ∃ a, ca = some a) (fun w h => ?_) ?_
  · obtain ⟨⟨a, ha, _⟩, _⟩ := h.1.hcts j _ hc
    exact ⟨a, ha⟩
  rintro ⟨a0, rfl⟩
  refine svc_ok tabOk [] _ _ _ ?_
  cases w1 with
  | false =>
    refine .inl ⟨20, [0, 1, 0, 7, 15, 31, 63, 127, 255, 511, 1023, 511, 4095, 8191, 16383, 511, 33279, 131071, 262143, 524287], fun vs i => match i with
      | 3 => { c := { n := j } }
      | 5 => { c := { v := .string cn } }
      | 6 => { R := fun r => r = .bool false, nf := fun _ => .bool false }
      | _ => {}, by kernel_rfl, rfl, by kernel_rfl, by kernel_rfl, by kernel_rfl, by decide, fun vals => ?_⟩
    refine ⟨fun _ => ⟨rfl, hlt, fun w h => rfl⟩, ?_⟩
    refine ⟨fun _ => fun w h => ?_, ?_⟩
    · obtain ⟨⟨a, ha, h3⟩, _⟩ := h.1.hcts j _ hc
      have ha : a0 = a := Option.some.inj ha
      subst ha
      exact ⟨_, rfl, h3 0 _ rfl⟩
    refine ⟨fun _ => ⟨hcw, fun _ _ => trivial, fun _ h => h⟩, ?_⟩
    intro _
    exact ⟨_, rfl, Told.val (by rw [hbad hwr])⟩
  | true =>
  cases w2 with
  | false =>
    refine .inl ⟨20, [0, 1, 0, 7, 15, 31, 63, 127, 255, 511, 1023, 511, 4095, 8191, 16383, 511, 33279, 131071, 262143, 524287], fun vs i => match i with
      | 3 => { c := { n := j } }
      | 5 => { c := { v := .string cn } }
      | 6 => { R := fun r => r = .bool true, nf := fun _ => .bool true }
      | 12 => { c := { n := j } }
      | 14 => { c := { cs := (TT.mk tk tn tnm tla tlc tls taa tac tus).cells } }
      | 17 => { pre := fun w => TTIn w (TT.mk tk tn tnm tla tlc tls taa tac tus), R := fun r => r = .bool false, nf := fun _ => .bool false }
      | _ => {}, by kernel_rfl, rfl, by kernel_rfl, by kernel_rfl, by kernel_rfl, by decide, fun vals => ?_⟩
    refine ⟨fun _ => ⟨rfl, hlt, fun w h => rfl⟩, ?_⟩
    refine ⟨fun _ => fun w h => ?_, ?_⟩
    · obtain ⟨⟨a, ha, h3⟩, _⟩ := h.1.hcts j _ hc
      have ha : a0 = a := Option.some.inj ha
      subst ha
      exact ⟨_, rfl, h3 0 _ rfl⟩
    refine ⟨fun _ => ⟨hcw, fun _ _ => trivial, fun _ h => h⟩, ?_⟩
    refine ⟨fun _ => ⟨rfl, hlt, fun w h => rfl⟩, ?_⟩
    refine ⟨fun _ => ⟨TT.cells_one (TT.mk tk tn tnm tla tlc tls taa tac tus), rfl, fun w h => ?_⟩, ?_⟩
    · obtain ⟨⟨a, ha, h3⟩, _⟩ := h.2.1.hcts j _ hc
      have ha : a0 = a := Option.some.inj ha
      subst ha
      refine ⟨_, rfl, fun l u hl => ?_⟩
      have h4 := h3 (l + 1) u hl
      rw [Addr.add_add] at h4
      show w.cell? (((a0.add (j * 6)).add 1).add l) = some u
      rw [Addr.add_add, Addr.add_add, show j * 6 + (1 + l) = j * 6 + (l + 1) by omega]
      exact h4
    refine ⟨fun _ => ⟨hcr, fun w h => (h.2.1.hcts j _ hc).2.1, fun _ h => h⟩, ?_⟩
    intro _
    exact ⟨_, rfl, Told.val (by rw [hbad hwr])⟩
  | true =>
    refine .inl ⟨20, [0, 1, 0, 7, 15, 31, 63, 127, 255, 511, 1023, 511, 4095, 8191, 16383, 511, 33279, 131071, 262143, 524287], fun vs i => match i with
      | 3 => { c := { n := j } }
      | 5 => { c := { v := .string cn } }
      | 6 => { R := fun r => r = .bool true, nf := fun _ => .bool true }
      | 12 => { c := { n := j } }
      | 14 => { c := { cs := (TT.mk tk tn tnm tla tlc tls taa tac tus).cells } }
      | 17 => { pre := fun w => TTIn w (TT.mk tk tn tnm tla tlc tls taa tac tus), R := fun r => r = .bool true, nf := fun _ => .bool true }
      | _ => {}, by kernel_rfl, rfl, by kernel_rfl, by kernel_rfl, by kernel_rfl, by decide, fun vals => ?_⟩
    refine ⟨fun _ => ⟨rfl, hlt, fun w h => rfl⟩, ?_⟩
    refine ⟨fun _ => fun w h => ?_, ?_⟩
    · obtain ⟨⟨a, ha, h3⟩, _⟩ := h.1.hcts j _ hc
      have ha : a0 = a := Option.some.inj ha
      subst ha
      exact ⟨_, rfl, h3 0 _ rfl⟩
    refine ⟨fun _ => ⟨hcw, fun _ _ => trivial, fun _ h => h⟩, ?_⟩
    refine ⟨fun _ => ⟨rfl, hlt, fun w h => rfl⟩, ?_⟩
    refine ⟨fun _ => ⟨TT.cells_one (TT.mk tk tn tnm tla tlc tls taa tac tus), rfl, fun w h => ?_⟩, ?_⟩
    · obtain ⟨⟨a, ha, h3⟩, _⟩ := h.2.1.hcts j _ hc
      have ha : a0 = a := Option.some.inj ha
      subst ha
      refine ⟨_, rfl, fun l u hl => ?_⟩
      have h4 := h3 (l + 1) u hl
      rw [Addr.add_add] at h4
      show w.cell? (((a0.add (j * 6)).add 1).add l) = some u
      rw [Addr.add_add, Addr.add_add, show j * 6 + (1 + l) = j * 6 + (l + 1) by omega]
      exact h4
    refine ⟨fun _ => ⟨hcr, fun w h => (h.2.1.hcts j _ hc).2.1, fun _ h => h⟩, ?_⟩
    intro _
    exact ⟨j + 1, ⟨hlt, hstep.trans hwr⟩, by simp only; omega, ent_ren [(0, .blk 0)] rfl rfl rfl rfl (Nat.le_of_ble_eq_true rfl) ⟨⟨_, rfl, oneI (wrapI (by omega) (by omega))⟩, ⟨_, rfl, rfl⟩, trivial⟩ ⟨⟨_, rfl, rfl⟩, trivial⟩ ⟨⟨DDIn.up _, fun w h => h.2.2.1⟩, trivial⟩⟩
end Go.Proofs.YtmkpiekbpakigaaGreatDoor
