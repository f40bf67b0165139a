/- The reference's CopyDecl (16). -/
import Derived.Test.YtmkpiekbpakigaaGreatDoorRn
set_option linter.unusedVariables false
set_option linter.unusedSimpArgs false
namespace Go.Proofs.YtmkpiekbpakigaaGreatDoor
open Go.RowKit Go.Proofs.Base Go.Proofs.Sym

theorem cts_of2 {w : World} {B : Option Addr} {cs : List (ByteArray × TT)} (h : SlAt w B (ctsC cs)) (hT : ∀ c ∈ cs, TTIn w c.2 ∧ c.1.size ≤ maxLen) : CtsIn w B cs := by
  intro j c hj
  have hm := List.mem_of_getElem? hj
  obtain ⟨u0, hu0⟩ : ∃ u, (ctCells c)[0]? = some u := ⟨_, rfl⟩
  obtain ⟨a, ha, _⟩ := h _ _ (ctsC_get hj 0 u0 hu0)
  refine ⟨⟨a, ha, fun l u hl => ?_⟩, (hT c hm).1, (hT c hm).2⟩
  obtain ⟨a2, ha2, hc⟩ := h _ _ (ctsC_get hj l u hl)
  rw [ha] at ha2
  cases ha2
  rw [Addr.add_add]
  exact hc
theorem ct_at {w : World} {a0 : Addr} {j : Nat} {cn : ByteArray} {t : TT} (h3 : ∀ l u, (ctCells (cn, t))[l]? = some u → w.cell? ((a0.add (j * 6)).add l) = some u) : ∀ l u, t.cells[l]? = some u → w.cell? (((a0.add (j * 6)).add 1).add l) = some u := by
  intro l u hl
  have h4 := h3 (l + 1) u hl
  rw [Addr.add_add] at h4
  rw [Addr.add_add, Addr.add_add, show j * 6 + (1 + l) = j * 6 + (l + 1) by omega]
  exact h4
def cD (d : DD) (a b : TT) (w : World) : Prop := DDIn w d ∧ TTIn w a ∧ TTIn w b
theorem cD.up (d : DD) (a b : TT) : Up (cD d a b) := (DDIn.up _).and ((TTIn.upS _).and (TTIn.upS _))
def cE (d : DD) (a b : TT) (ys : List (ByteArray × TT)) (w : World) : Prop := cD d a b w ∧ ∀ c ∈ ys, TTIn w c.2 ∧ c.1.size ≤ maxLen
theorem cE.up (d : DD) (a b : TT) (ys : List (ByteArray × TT)) : Up (cE d a b ys) := (cD.up _ _ _).and fun w w' h hh c hc => ⟨TTIn.up h c.2 (hh c hc).1, (hh c hc).2⟩
def dR (k p : Int) (nm : ByteArray) (t1 t2 : TT) (fx : Int) (i : Nat) : List SA := .v (.int .i64 k) :: .v (.int .i64 p) :: .v (.string nm) :: (t1.cells.map SA.v ++ (t2.cells.map SA.v ++ [.v (.int .i64 fx), .row i]))
def copyResD (x : DD) : LRes := { v := ddA x, m := [], k := 0, F := fun w => DDIn w x }
set_option maxHeartbeats 8000000 in
theorem copyDecl_lc (d : DD) (hB : DDB d) : LCall Tryz.prog 16 [ddA d] [] 0 (fun w => DDIn w d) (fun x : DD => x.dm = d.dm) copyResD := by
  have hc1 := copyTerm_lc d.ty hB.ty
  have hc2 := copyTerm_lc d.val hB.val
  have hct := fun c hc => copyTerm_lc c.2 (hB.cts c hc)
  have hlen : d.cts.length ≤ 1466015503700 := by
    have := hB.len
    have : reachBytes = 140737488351232 := rfl
    omega
  obtain ⟨dm, hdm⟩ : ∃ x, d.dm = x := ⟨_, rfl⟩
  have hdm2 : dm = ⟨d.kind, d.params, d.name, d.ty.tm, d.val.tm, d.fixed, d.cts.map ctM⟩ := hdm.symm
  rw [hdm]
  obtain ⟨tya, hya⟩ : ∃ x, d.ty.tm = x := ⟨_, rfl⟩
  obtain ⟨tyb, hyb⟩ : ∃ x, d.val.tm = x := ⟨_, rfl⟩
  rw [hya] at hc1 hdm2
  rw [hyb] at hc2 hdm2
  clear hdm hya hyb hB
  obtain ⟨k, p, nm, ⟨ak, an, anm, ala, alc, als, aaa, aac, aus⟩, ⟨bk, bn, bnm, bla, blc, bls, baa, bac, bus⟩, fx, ca, cc, cts⟩ := d
  have hdm2 : dm = ⟨k, p, nm, tya, tyb, fx, cts.map ctM⟩ := hdm2
  have hlen2 : cts.length ≤ 1466015503700 := hlen
  clear hlen
  refine lcall_of tabOk 47 [.cell 2 38] Tryz.func16 rfl rfl (by kernel_rfl) rfl _ (Nat.le_of_ble_eq_true rfl) (DDIn.up _) ?_
  refine svc_ok tabOk [1] _ _ _ ?_
  refine Walks.ent (st' := { s := [(1, .one (.p 0 0)), (2, .one (.p 1 0))], m := [(0, .cells 38 (dA k p nm (TT.mk ak an anm ala alc als aaa aac aus) (TT.mk bk bn bnm bla blc bls baa bac bus) fx ca cc cts)), (1, .cells 38 zero15)], k := 2, f := [fun w => DDIn w (DD.mk k p nm (TT.mk ak an anm ala alc als aaa aac aus) (TT.mk bk bn bnm bla blc bls baa bac bus) fx ca cc cts)] }) (ent_ren [(0, .blk 0), (1, .blk 1)] rfl rfl rfl rfl (Nat.le_of_ble_eq_true rfl) ⟨⟨_, rfl, rfl⟩, ⟨_, rfl, rfl⟩, trivial⟩ ⟨⟨_, rfl, rfl⟩, ⟨_, rfl, rfl⟩, trivial⟩ ⟨⟨DDIn.up _, fun w h => h.1⟩, trivial⟩) ?_
  refine Walks.cutX (X := TT × TT) (fun q => q.1.tm = tya ∧ q.2.tm = tyb) (fun q => { s := [(3, .one (.p 2 0)), (1, .one (.p 0 0)), (2, .one (.p 1 0))], m := [(0, .cells 38 (dA k p nm (TT.mk ak an anm ala alc als aaa aac aus) (TT.mk bk bn bnm bla blc bls baa bac bus) fx ca cc cts)), (1, .cells 38 zero15), (2, .cells 38 (dA k p nm q.1 q.2 fx none 0 []))], k := 3, f := [cD (DD.mk k p nm (TT.mk ak an anm ala alc als aaa aac aus) (TT.mk bk bn bnm bla blc bls baa bac bus) fx ca cc cts) q.1 q.2] }) ?_ ?_
  · refine svc_ok tabOk [] _ _ _ ?_
    let h1S : List (Nat × SV) := [(1, .one (.p 0 0)), (2, .one (.p 1 0))]
    let h1M : List (Nat × LB) := [(0, .cells 38 (dA k p nm (TT.mk ak an anm ala alc als aaa aac aus) (TT.mk bk bn bnm bla blc bls baa bac bus) fx ca cc cts)), (1, .cells 38 zero15)]
    let h1F : List (World → Prop) := [fun w => DDIn w (DD.mk k p nm (TT.mk ak an anm ala alc als aaa aac aus) (TT.mk bk bn bnm bla blc bls baa bac bus) fx ca cc cts)]
    let x15 : Nat × SV := (3, .one (.p 2 0))
    let m15a : Nat × LB := (2, .cells 38 zero15)
    refine .inr ⟨[0, 1, 0, 4, 0, 16, 0, 64, 192, 0, 512, 1984, 0, 4096, 16383, 0, 65535], [8, 11, 14, 15, 16], [(0, { dst := some 5, v := .one (.p 0 0), p := none, f := none }), (1, { dst := some 6, v := .one (.v (.int .i64 k)), p := none, f := none }), (2, { dst := some 7, v := .one (.p 0 1), p := none, f := none }), (3, { dst := some 8, v := .one (.v (.int .i64 p)), p := none, f := none }), (4, { dst := some 9, v := .one (.p 0 2), p := none, f := none }), (5, { dst := some 10, v := .one (.v (.string nm)), p := none, f := none }), (6, { dst := some 11, v := .one (.p 0 3), p := none, f := none }), (7, { dst := some 12, v := ttA (TT.mk ak an anm ala alc als aaa aac aus), p := none, f := none }), (9, { dst := some 14, v := .one (.p 0 8), p := none, f := none }), (10, { dst := some 15, v := ttA (TT.mk bk bn bnm bla blc bls baa bac bus), p := none, f := none }), (12, { dst := some 17, v := .one (.p 0 13), p := none, f := none }), (13, { dst := some 18, v := .one (.v (.int .i64 fx)), p := none, f := none })], by kernel_rfl, rfl, by kernel_rfl, by kernel_rfl, rfl, rfl, rfl, rfl, ?_⟩
    refine cgo_go ({ s := h1S, m := h1M, k := 2, f := h1F }) [8, 15] rfl (by kernel_rfl) (by kernel_rfl) ⟨⟨rfl, rfl⟩, ⟨rfl, rfl⟩, ⟨rfl, rfl⟩, ⟨rfl, rfl⟩, ⟨rfl, rfl⟩, ⟨rfl, rfl⟩, ⟨rfl, rfl⟩, ⟨rfl, rfl⟩, ⟨rfl, rfl⟩, ⟨rfl, rfl⟩, ⟨rfl, rfl⟩, ⟨rfl, rfl⟩, trivial⟩ ⟨?_, ?_, trivial⟩
    · refine ⟨_, rfl, rfl, _, rfl, ?_⟩
      refine callVC_lend [] hc1 rfl trivial rfl rfl (fun w h => h.1.hty) (fun x _ => ?_) (fun x hx => ?_)
      · obtain ⟨vk, vn, vnm, vla, vlc, vls, vaa, vac, vus⟩ := x
        exact ⟨rfl, rfl⟩
      have hx1 : x.tm = tya := hx
      clear hx
      obtain ⟨vk, vn, vnm, vla, vlc, vls, vaa, vac, vus⟩ := x
      let x8 : Nat × SV := (13, ttA (TT.mk vk vn vnm vla vlc vls vaa vac vus))
      let f8 : World → Prop := fun w => TTIn w (TT.mk vk vn vnm vla vlc vls vaa vac vus)
      refine cgo_go ({ s := x8 :: h1S, m := h1M, k := 2, f := f8 :: h1F }) [11, 15] rfl (by kernel_rfl) (by kernel_rfl) ⟨⟨rfl, rfl⟩, ⟨rfl, rfl⟩, ⟨rfl, rfl⟩, ⟨rfl, rfl⟩, ⟨rfl, rfl⟩, ⟨rfl, rfl⟩, ⟨rfl, trivial⟩, ⟨rfl, trivial⟩, ⟨rfl, rfl⟩, ⟨rfl, rfl⟩, ⟨rfl, rfl⟩, ⟨rfl, rfl⟩, trivial⟩ ⟨?_, ?_, trivial⟩
      · refine ⟨_, rfl, rfl, _, rfl, ?_⟩
        refine callVC_lend [] hc2 rfl trivial rfl rfl (fun w h => h.2.1.hval) (fun x _ => ?_) (fun x hx => ?_)
        · obtain ⟨xk, xn, xnm, xla, xlc, xls, xaa, xac, xus⟩ := x
          exact ⟨rfl, rfl⟩
        have hx2 : x.tm = tyb := hx
        clear hx
        obtain ⟨xk, xn, xnm, xla, xlc, xls, xaa, xac, xus⟩ := x
        let x11 : Nat × SV := (16, ttA (TT.mk xk xn xnm xla xlc xls xaa xac xus))
        let f11 : World → Prop := fun w => TTIn w (TT.mk xk xn xnm xla xlc xls xaa xac xus)
        let x14 : Nat × SV := (19, .agg (dA k p nm (TT.mk vk vn vnm vla vlc vls vaa vac vus) (TT.mk xk xn xnm xla xlc xls xaa xac xus) fx none 0 []))
        refine cgo_go ({ s := x11 :: x8 :: h1S, m := h1M, k := 2, f := f11 :: f8 :: h1F }) [14, 15] rfl (by kernel_rfl) (by kernel_rfl) ⟨⟨rfl, rfl⟩, ⟨rfl, rfl⟩, ⟨rfl, rfl⟩, ⟨rfl, rfl⟩, ⟨rfl, rfl⟩, ⟨rfl, rfl⟩, ⟨rfl, trivial⟩, ⟨rfl, trivial⟩, ⟨rfl, trivial⟩, ⟨rfl, trivial⟩, ⟨rfl, rfl⟩, ⟨rfl, rfl⟩, trivial⟩ ⟨?_, ?_, trivial⟩
        · refine ⟨_, rfl, rfl, _, rfl, ?_⟩
          refine cgo_go ({ s := x14 :: x11 :: x8 :: h1S, m := h1M, k := 2, f := f11 :: f8 :: h1F }) [15] rfl (by kernel_rfl) (by kernel_rfl) ⟨⟨rfl, trivial⟩, ⟨rfl, trivial⟩, ⟨rfl, trivial⟩, ⟨rfl, trivial⟩, ⟨rfl, trivial⟩, ⟨rfl, trivial⟩, ⟨rfl, trivial⟩, ⟨rfl, trivial⟩, ⟨rfl, trivial⟩, ⟨rfl, trivial⟩, ⟨rfl, trivial⟩, ⟨rfl, trivial⟩, trivial⟩ ⟨?_, trivial⟩
          refine ⟨_, rfl, rfl, _, rfl, ?_⟩
          refine cgo_go ({ s := x15 :: x14 :: x11 :: x8 :: h1S, m := m15a :: h1M, k := 3, f := f11 :: f8 :: h1F }) [16] rfl (by kernel_rfl) (by kernel_rfl) ⟨⟨rfl, trivial⟩, ⟨rfl, trivial⟩, ⟨rfl, trivial⟩, ⟨rfl, trivial⟩, ⟨rfl, trivial⟩, ⟨rfl, trivial⟩, ⟨rfl, trivial⟩, ⟨rfl, trivial⟩, ⟨rfl, trivial⟩, ⟨rfl, trivial⟩, ⟨rfl, trivial⟩, ⟨rfl, trivial⟩, trivial⟩ ⟨?_, trivial⟩
          refine ⟨_, rfl, rfl, _, rfl, ?_⟩
          refine cgo_end _ rfl (by kernel_rfl) ⟨⟨rfl, trivial⟩, ⟨rfl, trivial⟩, ⟨rfl, trivial⟩, ⟨rfl, trivial⟩, ⟨rfl, trivial⟩, ⟨rfl, trivial⟩, ⟨rfl, trivial⟩, ⟨rfl, trivial⟩, ⟨rfl, trivial⟩, ⟨rfl, trivial⟩, ⟨rfl, trivial⟩, ⟨rfl, trivial⟩, trivial⟩ ?_
          exact ⟨((TT.mk vk vn vnm vla vlc vls vaa vac vus), (TT.mk xk xn xnm xla xlc xls xaa xac xus)), ⟨hx1, hx2⟩, ent_ren [(0, .blk 0), (1, .blk 1), (2, .blk 2)] rfl rfl rfl rfl (Nat.le_of_ble_eq_true rfl) ⟨⟨_, rfl, rfl⟩, ⟨_, rfl, rfl⟩, ⟨_, rfl, rfl⟩, trivial⟩ ⟨⟨_, rfl, rfl⟩, ⟨_, rfl, rfl⟩, ⟨_, rfl, rfl⟩, trivial⟩ ⟨⟨cD.up _ _ _, fun w h => ⟨h.2.2.1, h.2.1, h.1⟩⟩, trivial⟩⟩
        · refine ⟨_, rfl, rfl, _, rfl, ?_⟩
          refine cgo_go ({ s := x15 :: x11 :: x8 :: h1S, m := m15a :: h1M, k := 3, f := f11 :: f8 :: h1F }) [14] rfl (by kernel_rfl) (by kernel_rfl) ⟨⟨rfl, rfl⟩, ⟨rfl, rfl⟩, ⟨rfl, rfl⟩, ⟨rfl, rfl⟩, ⟨rfl, rfl⟩, ⟨rfl, rfl⟩, ⟨rfl, trivial⟩, ⟨rfl, trivial⟩, ⟨rfl, trivial⟩, ⟨rfl, trivial⟩, ⟨rfl, rfl⟩, ⟨rfl, rfl⟩, trivial⟩ ⟨?_, trivial⟩
          refine ⟨_, rfl, rfl, _, rfl, ?_⟩
          refine cgo_go ({ s := x14 :: x15 :: x11 :: x8 :: h1S, m := m15a :: h1M, k := 3, f := f11 :: f8 :: h1F }) [16] rfl (by kernel_rfl) (by kernel_rfl) ⟨⟨rfl, trivial⟩, ⟨rfl, trivial⟩, ⟨rfl, trivial⟩, ⟨rfl, trivial⟩, ⟨rfl, trivial⟩, ⟨rfl, trivial⟩, ⟨rfl, trivial⟩, ⟨rfl, trivial⟩, ⟨rfl, trivial⟩, ⟨rfl, trivial⟩, ⟨rfl, trivial⟩, ⟨rfl, trivial⟩, trivial⟩ ⟨?_, trivial⟩
          refine ⟨_, rfl, rfl, _, rfl, ?_⟩
          refine cgo_end _ rfl (by kernel_rfl) ⟨⟨rfl, trivial⟩, ⟨rfl, trivial⟩, ⟨rfl, trivial⟩, ⟨rfl, trivial⟩, ⟨rfl, trivial⟩, ⟨rfl, trivial⟩, ⟨rfl, trivial⟩, ⟨rfl, trivial⟩, ⟨rfl, trivial⟩, ⟨rfl, trivial⟩, ⟨rfl, trivial⟩, ⟨rfl, trivial⟩, trivial⟩ ?_
          exact ⟨((TT.mk vk vn vnm vla vlc vls vaa vac vus), (TT.mk xk xn xnm xla xlc xls xaa xac xus)), ⟨hx1, hx2⟩, ent_ren [(0, .blk 0), (1, .blk 1), (2, .blk 2)] rfl rfl rfl rfl (Nat.le_of_ble_eq_true rfl) ⟨⟨_, rfl, rfl⟩, ⟨_, rfl, rfl⟩, ⟨_, rfl, rfl⟩, trivial⟩ ⟨⟨_, rfl, rfl⟩, ⟨_, rfl, rfl⟩, ⟨_, rfl, rfl⟩, trivial⟩ ⟨⟨cD.up _ _ _, fun w h => ⟨h.2.2.1, h.2.1, h.1⟩⟩, trivial⟩⟩
      · refine ⟨_, rfl, rfl, _, rfl, ?_⟩
        refine cgo_go ({ s := x15 :: x8 :: h1S, m := m15a :: h1M, k := 3, f := f8 :: h1F }) [11] rfl (by kernel_rfl) (by kernel_rfl) ⟨⟨rfl, rfl⟩, ⟨rfl, rfl⟩, ⟨rfl, rfl⟩, ⟨rfl, rfl⟩, ⟨rfl, rfl⟩, ⟨rfl, rfl⟩, ⟨rfl, trivial⟩, ⟨rfl, trivial⟩, ⟨rfl, rfl⟩, ⟨rfl, rfl⟩, ⟨rfl, rfl⟩, ⟨rfl, rfl⟩, trivial⟩ ⟨?_, trivial⟩
        refine ⟨_, rfl, rfl, _, rfl, ?_⟩
        refine callVC_lend [] hc2 rfl trivial rfl rfl (fun w h => h.2.1.hval) (fun x _ => ?_) (fun x hx => ?_)
        · obtain ⟨xk, xn, xnm, xla, xlc, xls, xaa, xac, xus⟩ := x
          exact ⟨rfl, rfl⟩
        have hx2 : x.tm = tyb := hx
        clear hx
        obtain ⟨xk, xn, xnm, xla, xlc, xls, xaa, xac, xus⟩ := x
        let x11 : Nat × SV := (16, ttA (TT.mk xk xn xnm xla xlc xls xaa xac xus))
        let f11 : World → Prop := fun w => TTIn w (TT.mk xk xn xnm xla xlc xls xaa xac xus)
        let x14 : Nat × SV := (19, .agg (dA k p nm (TT.mk vk vn vnm vla vlc vls vaa vac vus) (TT.mk xk xn xnm xla xlc xls xaa xac xus) fx none 0 []))
        refine cgo_go ({ s := x11 :: x15 :: x8 :: h1S, m := m15a :: h1M, k := 3, f := f11 :: f8 :: h1F }) [14] rfl (by kernel_rfl) (by kernel_rfl) ⟨⟨rfl, rfl⟩, ⟨rfl, rfl⟩, ⟨rfl, rfl⟩, ⟨rfl, rfl⟩, ⟨rfl, rfl⟩, ⟨rfl, rfl⟩, ⟨rfl, trivial⟩, ⟨rfl, trivial⟩, ⟨rfl, trivial⟩, ⟨rfl, trivial⟩, ⟨rfl, rfl⟩, ⟨rfl, rfl⟩, trivial⟩ ⟨?_, trivial⟩
        refine ⟨_, rfl, rfl, _, rfl, ?_⟩
        refine cgo_go ({ s := x14 :: x11 :: x15 :: x8 :: h1S, m := m15a :: h1M, k := 3, f := f11 :: f8 :: h1F }) [16] rfl (by kernel_rfl) (by kernel_rfl) ⟨⟨rfl, trivial⟩, ⟨rfl, trivial⟩, ⟨rfl, trivial⟩, ⟨rfl, trivial⟩, ⟨rfl, trivial⟩, ⟨rfl, trivial⟩, ⟨rfl, trivial⟩, ⟨rfl, trivial⟩, ⟨rfl, trivial⟩, ⟨rfl, trivial⟩, ⟨rfl, trivial⟩, ⟨rfl, trivial⟩, trivial⟩ ⟨?_, trivial⟩
        refine ⟨_, rfl, rfl, _, rfl, ?_⟩
        refine cgo_end _ rfl (by kernel_rfl) ⟨⟨rfl, trivial⟩, ⟨rfl, trivial⟩, ⟨rfl, trivial⟩, ⟨rfl, trivial⟩, ⟨rfl, trivial⟩, ⟨rfl, trivial⟩, ⟨rfl, trivial⟩, ⟨rfl, trivial⟩, ⟨rfl, trivial⟩, ⟨rfl, trivial⟩, ⟨rfl, trivial⟩, ⟨rfl, trivial⟩, trivial⟩ ?_
        exact ⟨((TT.mk vk vn vnm vla vlc vls vaa vac vus), (TT.mk xk xn xnm xla xlc xls xaa xac xus)), ⟨hx1, hx2⟩, ent_ren [(0, .blk 0), (1, .blk 1), (2, .blk 2)] rfl rfl rfl rfl (Nat.le_of_ble_eq_true rfl) ⟨⟨_, rfl, rfl⟩, ⟨_, rfl, rfl⟩, ⟨_, rfl, rfl⟩, trivial⟩ ⟨⟨_, rfl, rfl⟩, ⟨_, rfl, rfl⟩, ⟨_, rfl, rfl⟩, trivial⟩ ⟨⟨cD.up _ _ _, fun w h => ⟨h.2.2.1, h.2.1, h.1⟩⟩, trivial⟩⟩
    · refine ⟨_, rfl, rfl, _, rfl, ?_⟩
      refine cgo_go ({ s := x15 :: h1S, m := m15a :: h1M, k := 3, f := h1F }) [8] rfl (by kernel_rfl) (by kernel_rfl) ⟨⟨rfl, rfl⟩, ⟨rfl, rfl⟩, ⟨rfl, rfl⟩, ⟨rfl, rfl⟩, ⟨rfl, rfl⟩, ⟨rfl, rfl⟩, ⟨rfl, rfl⟩, ⟨rfl, rfl⟩, ⟨rfl, rfl⟩, ⟨rfl, rfl⟩, ⟨rfl, rfl⟩, ⟨rfl, rfl⟩, trivial⟩ ⟨?_, trivial⟩
      refine ⟨_, rfl, rfl, _, rfl, ?_⟩
      refine callVC_lend [] hc1 rfl trivial rfl rfl (fun w h => h.1.hty) (fun x _ => ?_) (fun x hx => ?_)
      · obtain ⟨vk, vn, vnm, vla, vlc, vls, vaa, vac, vus⟩ := x
        exact ⟨rfl, rfl⟩
      have hx1 : x.tm = tya := hx
      clear hx
      obtain ⟨vk, vn, vnm, vla, vlc, vls, vaa, vac, vus⟩ := x
      let x8 : Nat × SV := (13, ttA (TT.mk vk vn vnm vla vlc vls vaa vac vus))
      let f8 : World → Prop := fun w => TTIn w (TT.mk vk vn vnm vla vlc vls vaa vac vus)
      refine cgo_go ({ s := x8 :: x15 :: h1S, m := m15a :: h1M, k := 3, f := f8 :: h1F }) [11] rfl (by kernel_rfl) (by kernel_rfl) ⟨⟨rfl, rfl⟩, ⟨rfl, rfl⟩, ⟨rfl, rfl⟩, ⟨rfl, rfl⟩, ⟨rfl, rfl⟩, ⟨rfl, rfl⟩, ⟨rfl, trivial⟩, ⟨rfl, trivial⟩, ⟨rfl, rfl⟩, ⟨rfl, rfl⟩, ⟨rfl, rfl⟩, ⟨rfl, rfl⟩, trivial⟩ ⟨?_, trivial⟩
      refine ⟨_, rfl, rfl, _, rfl, ?_⟩
      refine callVC_lend [] hc2 rfl trivial rfl rfl (fun w h => h.2.1.hval) (fun x _ => ?_) (fun x hx => ?_)
      · obtain ⟨xk, xn, xnm, xla, xlc, xls, xaa, xac, xus⟩ := x
        exact ⟨rfl, rfl⟩
      have hx2 : x.tm = tyb := hx
      clear hx
      obtain ⟨xk, xn, xnm, xla, xlc, xls, xaa, xac, xus⟩ := x
      let x11 : Nat × SV := (16, ttA (TT.mk xk xn xnm xla xlc xls xaa xac xus))
      let f11 : World → Prop := fun w => TTIn w (TT.mk xk xn xnm xla xlc xls xaa xac xus)
      let x14 : Nat × SV := (19, .agg (dA k p nm (TT.mk vk vn vnm vla vlc vls vaa vac vus) (TT.mk xk xn xnm xla xlc xls xaa xac xus) fx none 0 []))
      refine cgo_go ({ s := x11 :: x8 :: x15 :: h1S, m := m15a :: h1M, k := 3, f := f11 :: f8 :: h1F }) [14] rfl (by kernel_rfl) (by kernel_rfl) ⟨⟨rfl, rfl⟩, ⟨rfl, rfl⟩, ⟨rfl, rfl⟩, ⟨rfl, rfl⟩, ⟨rfl, rfl⟩, ⟨rfl, rfl⟩, ⟨rfl, trivial⟩, ⟨rfl, trivial⟩, ⟨rfl, trivial⟩, ⟨rfl, trivial⟩, ⟨rfl, rfl⟩, ⟨rfl, rfl⟩, trivial⟩ ⟨?_, trivial⟩
      refine ⟨_, rfl, rfl, _, rfl, ?_⟩
      refine cgo_go ({ s := x14 :: x11 :: x8 :: x15 :: h1S, m := m15a :: h1M, k := 3, f := f11 :: f8 :: h1F }) [16] rfl (by kernel_rfl) (by kernel_rfl) ⟨⟨rfl, trivial⟩, ⟨rfl, trivial⟩, ⟨rfl, trivial⟩, ⟨rfl, trivial⟩, ⟨rfl, trivial⟩, ⟨rfl, trivial⟩, ⟨rfl, trivial⟩, ⟨rfl, trivial⟩, ⟨rfl, trivial⟩, ⟨rfl, trivial⟩, ⟨rfl, trivial⟩, ⟨rfl, trivial⟩, trivial⟩ ⟨?_, trivial⟩
      refine ⟨_, rfl, rfl, _, rfl, ?_⟩
      refine cgo_end _ rfl (by kernel_rfl) ⟨⟨rfl, trivial⟩, ⟨rfl, trivial⟩, ⟨rfl, trivial⟩, ⟨rfl, trivial⟩, ⟨rfl, trivial⟩, ⟨rfl, trivial⟩, ⟨rfl, trivial⟩, ⟨rfl, trivial⟩, ⟨rfl, trivial⟩, ⟨rfl, trivial⟩, ⟨rfl, trivial⟩, ⟨rfl, trivial⟩, trivial⟩ ?_
      exact ⟨((TT.mk vk vn vnm vla vlc vls vaa vac vus), (TT.mk xk xn xnm xla xlc xls xaa xac xus)), ⟨hx1, hx2⟩, ent_ren [(0, .blk 0), (1, .blk 1), (2, .blk 2)] rfl rfl rfl rfl (Nat.le_of_ble_eq_true rfl) ⟨⟨_, rfl, rfl⟩, ⟨_, rfl, rfl⟩, ⟨_, rfl, rfl⟩, trivial⟩ ⟨⟨_, rfl, rfl⟩, ⟨_, rfl, rfl⟩, ⟨_, rfl, rfl⟩, trivial⟩ ⟨⟨cD.up _ _ _, fun w h => ⟨h.2.2.1, h.2.1, h.1⟩⟩, trivial⟩⟩
  rintro ⟨⟨vk, vn, vnm, vla, vlc, vls, vaa, vac, vus⟩, ⟨xk, xn, xnm, xla, xlc, xls, xaa, xac, xus⟩⟩ ⟨hx1, hx2⟩
  refine Walks.ent (ent_freshC 2 75 6 (dR k p nm (TT.mk vk vn vnm vla vlc vls vaa vac vus) (TT.mk xk xn xnm xla xlc xls xaa xac xus) fx 3) rfl (fun e he => ?_) (fun h => ?_)) ?_
  · show _ :: _ :: _ :: _ :: _ :: _ :: _ :: _ :: _ :: _ :: _ :: _ :: _ :: _ :: [e.rv 3] = _
    rw [show e.rv 3 = Value.slice none 0 0 from he]
    rfl
  · intro c hc
    simp only [dR, List.mem_cons, List.mem_append, List.mem_map, List.not_mem_nil, or_false] at hc
    rcases hc with rfl | rfl | rfl | ⟨q, hq, rfl⟩ | ⟨q, hq, rfl⟩ | rfl | rfl
    · rfl
    · rfl
    · rfl
    · exact TT.cells_one _ q hq
    · exact TT.cells_one _ q hq
    · rfl
    · exact Nat.lt_succ_self _
  refine svc_ok tabOk [5, 6] _ _ _ ?_
  refine ⟨⟨List (ByteArray × TT), fun ys => ys.length ≤ cts.length ∧ ys.map ctM = (cts.map ctM).take ys.length, fun ys => { s := [(3, .one (.p 2 0)), (1, .one (.p 0 0)), (2, .one (.p 1 0)), (4, .one (.v (.int .i64 (ys.length : Int))))], m := [(0, .cells 38 (dA k p nm (TT.mk ak an anm ala alc als aaa aac aus) (TT.mk bk bn bnm bla blc bls baa bac bus) fx ca cc cts)), (1, .cells 38 zero15), (2, .cells 38 (dR k p nm (TT.mk vk vn vnm vla vlc vls vaa vac vus) (TT.mk xk xn xnm xla xlc xls xaa xac xus) fx 3)), (3, .own 75 6 ys.length (ctsC ys))], k := 4, f := [cE (DD.mk k p nm (TT.mk ak an anm ala alc als aaa aac aus) (TT.mk bk bn bnm bla blc bls baa bac bus) fx ca cc cts) (TT.mk vk vn vnm vla vlc vls vaa vac vus) (TT.mk xk xn xnm xla xlc xls xaa xac xus) ys] }, fun ys => cts.length - ys.length, ⟨[], ⟨Nat.zero_le _, rfl⟩, ent_ren [(0, .blk 0), (1, .blk 1), (2, .blk 2), (3, .own 3)] rfl rfl rfl rfl (Nat.le_of_ble_eq_true rfl) ⟨⟨_, rfl, rfl⟩, ⟨_, rfl, rfl⟩, ⟨_, rfl, rfl⟩, ⟨_, rfl, rfl⟩, trivial⟩ ⟨⟨_, rfl, rfl⟩, ⟨_, rfl, rfl⟩, ⟨_, rfl, rfl⟩, ⟨_, _, rfl, rfl, rfl⟩, trivial⟩ ⟨⟨cE.up _ _ _ _, fun w h => ⟨h.1, fun c hc => by cases hc⟩⟩, trivial⟩⟩, ?_⟩⟩
  rintro ys ⟨hj, hys⟩
  refine bsplit_i (fun hlt0 => ?_) (fun hge0 => ?_)
  rotate_left
  · have hge : cts.length = ys.length := by
      have h : decide ((ys.length : Int) < (cts.length : Int)) = false := hge0
      have := of_decide_eq_false h
      omega
    refine Walks.freeze 3 rfl (fun E cp f1 f2 f3 => ?_)
    refine svc_ok tabOk [] _ _ _ ?_
    refine ⟨_, rfl, DD.mk k p nm (TT.mk vk vn vnm vla vlc vls vaa vac vus) (TT.mk xk xn xnm xla xlc xls xaa xac xus) fx E cp ys, ?_, rfl, ?_⟩
    · rw [hdm2]
      show DM.mk _ _ _ _ _ _ (ys.map ctM) = _
      rw [hys, ← hge, List.take_of_length_le (by simp)]
      show DM.mk _ _ _ (TT.mk vk vn vnm vla vlc vls vaa vac vus).tm (TT.mk xk xn xnm xla xlc xls xaa xac xus).tm _ _ = _
      rw [hx1, hx2]
    exact ent_ren [] rfl rfl rfl rfl (Nat.zero_le _) ⟨⟨_, rfl, rfl⟩, trivial⟩ trivial ⟨⟨DDIn.up _, fun w h => by
      have hd := h.2.1.1.1
      exact ⟨hd.hkind, hd.hparams, hd.hname, h.2.1.1.2.1, h.2.1.1.2.2, hd.hfixed, cts_of2 h.1 h.2.1.2, f1, f2, f3⟩⟩, trivial⟩
  have hlt : ys.length < cts.length := by
    have h : decide ((ys.length : Int) < (cts.length : Int)) = true := hlt0
    have := of_decide_eq_true h
    omega
  clear hlt0
  obtain ⟨c, hc⟩ : ∃ c, cts[ys.length]? = some c := ⟨_, List.getElem?_eq_getElem hlt⟩
  have hcc := hct c (List.mem_of_getElem? hc)
  clear hct
  have htk : (cts.map ctM).take (ys.length + 1) = ys.map ctM ++ [(c.1, c.2.tm)] := by
    rw [List.take_add_one, ← hys, List.getElem?_map, hc]
    rfl
  have hstep : ∀ x : TT, x.tm = c.2.tm → (ys ++ [(c.1, x)]).map ctM = (cts.map ctM).take (ys.length + 1) := fun x hx => by
    rw [List.map_append, htk, ← hx]
    rfl
  obtain ⟨ut, hut⟩ : ∃ x, c.2.tm = x := ⟨_, rfl⟩
  rw [hut] at hcc hstep
  clear htk hut
  obtain ⟨cn, ⟨uk, un, unm, ula, ulc, uls, uaa, uac, uus⟩⟩ := c
  refine Walks.ent (st' := { s := [(3, .one (.p 2 0)), (1, .one (.p 0 0)), (2, .one (.p 1 0)), (4, .one (.v (.int .i64 (ys.length : Int))))], m := [(0, .cells 38 (dA k p nm (TT.mk ak an anm ala alc als aaa aac aus) (TT.mk bk bn bnm bla blc bls baa bac bus) fx ca cc cts)), (1, .cells 38 zero15), (2, .cells 38 (dR k p nm (TT.mk vk vn vnm vla vlc vls vaa vac vus) (TT.mk xk xn xnm xla xlc xls xaa xac xus) fx 3)), (3, .own 75 6 ys.length (ctsC ys))], k := 4, f := [cE (DD.mk k p nm (TT.mk ak an anm ala alc als aaa aac aus) (TT.mk bk bn bnm bla blc bls baa bac bus) fx ca cc cts) (TT.mk vk vn vnm vla vlc vls vaa vac vus) (TT.mk xk xn xnm xla xlc xls xaa xac xus) ys] }) (ent_ren [(0, .blk 0), (1, .blk 1), (2, .blk 2), (3, .own 3)] rfl rfl rfl rfl (Nat.le_of_ble_eq_true rfl) ⟨⟨_, rfl, rfl⟩, ⟨_, rfl, rfl⟩, ⟨_, rfl, rfl⟩, ⟨_, rfl, rfl⟩, trivial⟩ ⟨⟨_, rfl, rfl⟩, ⟨_, rfl, rfl⟩, ⟨_, rfl, rfl⟩, ⟨_, _, rfl, rfl, rfl⟩, trivial⟩ ⟨⟨cE.up _ _ _ _, fun w h => h.1⟩, trivial⟩) ?_
  refine Walks.told (p := ∃ a, ca = some a) (fun w h => ?_) ?_
  · obtain ⟨⟨a, ha, _⟩, _⟩ := h.1.1.1.hcts _ _ hc
    exact ⟨a, ha⟩
  rintro ⟨c0, rfl⟩
  have hfit1 : ys.length + 1 ≤ maxLen := by simp only [maxLen]; omega
  have hfit2 : (ys.length + 1) * 96 ≤ 140737488355328 := by omega
  refine svc_ok tabOk [] _ _ _ ?_
  let h5S : List (Nat × SV) := [(3, .one (.p 2 0)), (1, .one (.p 0 0)), (2, .one (.p 1 0)), (4, .one (.v (.int .i64 (ys.length : Int))))]
  let h5M : List (Nat × LB) := [(0, .cells 38 (dA k p nm (TT.mk ak an anm ala alc als aaa aac aus) (TT.mk bk bn bnm bla blc bls baa bac bus) fx (some c0) cc cts)), (1, .cells 38 zero15), (2, .cells 38 (dR k p nm (TT.mk vk vn vnm vla vlc vls vaa vac vus) (TT.mk xk xn xnm xla xlc xls xaa xac xus) fx 3)), (3, .own 75 6 ys.length (ctsC ys))]
  let h5F : List (World → Prop) := [cE (DD.mk k p nm (TT.mk ak an anm ala alc als aaa aac aus) (TT.mk bk bn bnm bla blc bls baa bac bus) fx (some c0) cc cts) (TT.mk vk vn vnm vla vlc vls vaa vac vus) (TT.mk xk xn xnm xla xlc xls xaa xac xus) ys]
  let x5 : Nat × SV := (32, .one (.v (.pointer (some (c0.add (ys.length * 6))))))
  let x6 : Nat × SV := (33, .one (.v (.pointer (some ((c0.add (ys.length * 6)).add 0)))))
  let x7 : Nat × SV := (34, .one (.v (.string cn)))
  let x11 : Nat × SV := (38, .one (.v (.pointer (some (c0.add (ys.length * 6))))))
  let x12 : Nat × SV := (39, .one (.v (.pointer (some ((c0.add (ys.length * 6)).add 1)))))
  let x13 : Nat × SV := (40, ttA (TT.mk uk un unm ula ulc uls uaa uac uus))
  refine .inr ⟨[0, 1, 0, 4, 0, 28, 60, 124, 0, 256, 0, 1792, 3840, 7936, 16128, 32764, 65532, 131071, 262143, 524287], [5, 6, 7, 11, 12, 13, 14, 15, 16, 17, 19], [(0, { dst := some 27, v := .one (.p 2 14), p := none, f := none }), (1, { dst := some 28, v := .one (.row 3), p := none, f := none }), (2, { dst := some 29, v := .one (.p 0 14), p := none, f := none }), (3, { dst := some 30, v := .one (.v (.slice (some c0) cts.length cc)), p := none, f := none }), (4, { dst := some 31, v := .one (.v (.int .i64 (ys.length : Int))), p := none, f := none }), (8, { dst := some 35, v := .one (.p 0 14), p := none, f := none }), (9, { dst := some 36, v := .one (.v (.slice (some c0) cts.length cc)), p := none, f := none }), (10, { dst := some 37, v := .one (.v (.int .i64 (ys.length : Int))), p := none, f := none }), (18, { dst := some 45, v := .one (.p 2 14), p := none, f := none })], by kernel_rfl, rfl, by kernel_rfl, by kernel_rfl, rfl, rfl, rfl, rfl, ?_⟩
  refine cgo_go ({ s := h5S, m := h5M, k := 4, f := h5F }) [5, 11] rfl (by kernel_rfl) (by kernel_rfl) ⟨⟨rfl, rfl⟩, ⟨rfl, rfl⟩, ⟨rfl, rfl⟩, ⟨rfl, rfl⟩, ⟨rfl, rfl⟩, ⟨rfl, rfl⟩, ⟨rfl, rfl⟩, ⟨rfl, rfl⟩, ⟨rfl, rfl⟩, trivial⟩ ⟨?_, ?_, trivial⟩
  · refine ⟨_, rfl, rfl, _, rfl, ?_⟩
    refine ⟨{ n := ys.length }, ⟨rfl, hlt, fun w h => rfl⟩, ?_⟩
    refine cgo_go ({ s := x5 :: h5S, m := h5M, k := 4, f := h5F }) [6, 11] rfl (by kernel_rfl) (by kernel_rfl) ⟨⟨rfl, rfl⟩, ⟨rfl, rfl⟩, ⟨rfl, trivial⟩, ⟨rfl, trivial⟩, ⟨rfl, trivial⟩, ⟨rfl, rfl⟩, ⟨rfl, rfl⟩, ⟨rfl, rfl⟩, ⟨rfl, rfl⟩, trivial⟩ ⟨?_, ?_, trivial⟩
    · refine ⟨_, rfl, rfl, _, rfl, ?_⟩
      refine cgo_go ({ s := x6 :: x5 :: h5S, m := h5M, k := 4, f := h5F }) [7, 11] rfl (by kernel_rfl) (by kernel_rfl) ⟨⟨rfl, rfl⟩, ⟨rfl, rfl⟩, ⟨rfl, trivial⟩, ⟨rfl, trivial⟩, ⟨rfl, trivial⟩, ⟨rfl, rfl⟩, ⟨rfl, rfl⟩, ⟨rfl, rfl⟩, ⟨rfl, rfl⟩, trivial⟩ ⟨?_, ?_, trivial⟩
      · refine ⟨_, rfl, rfl, _, rfl, ?_⟩
        refine ⟨{ v := .string cn }, fun w h => ?_, ?_⟩
        · obtain ⟨⟨a, ha, h3⟩, _⟩ := h.1.1.1.hcts _ _ hc
          cases ha
          exact ⟨_, rfl, h3 0 _ rfl⟩
        refine cgo_go ({ s := x7 :: x6 :: x5 :: h5S, m := h5M, k := 4, f := h5F }) [11] rfl (by kernel_rfl) (by kernel_rfl) ⟨⟨rfl, rfl⟩, ⟨rfl, rfl⟩, ⟨rfl, trivial⟩, ⟨rfl, trivial⟩, ⟨rfl, trivial⟩, ⟨rfl, rfl⟩, ⟨rfl, rfl⟩, ⟨rfl, rfl⟩, ⟨rfl, rfl⟩, trivial⟩ ⟨?_, trivial⟩
        refine ⟨_, rfl, rfl, _, rfl, ?_⟩
        refine ⟨{ n := ys.length }, ⟨rfl, hlt, fun w h => rfl⟩, ?_⟩
        refine cgo_go ({ s := x11 :: x7 :: x6 :: x5 :: h5S, m := h5M, k := 4, f := h5F }) [12] rfl (by kernel_rfl) (by kernel_rfl) ⟨⟨rfl, rfl⟩, ⟨rfl, rfl⟩, ⟨rfl, trivial⟩, ⟨rfl, trivial⟩, ⟨rfl, trivial⟩, ⟨rfl, trivial⟩, ⟨rfl, trivial⟩, ⟨rfl, trivial⟩, ⟨rfl, rfl⟩, trivial⟩ ⟨?_, trivial⟩
        refine ⟨_, rfl, rfl, _, rfl, ?_⟩
        refine cgo_go ({ s := x12 :: x11 :: x7 :: x6 :: x5 :: h5S, m := h5M, k := 4, f := h5F }) [13] rfl (by kernel_rfl) (by kernel_rfl) ⟨⟨rfl, rfl⟩, ⟨rfl, rfl⟩, ⟨rfl, trivial⟩, ⟨rfl, trivial⟩, ⟨rfl, trivial⟩, ⟨rfl, trivial⟩, ⟨rfl, trivial⟩, ⟨rfl, trivial⟩, ⟨rfl, rfl⟩, trivial⟩ ⟨?_, trivial⟩
        refine ⟨_, rfl, rfl, _, rfl, ?_⟩
        refine ⟨{ cs := (TT.mk uk un unm ula ulc uls uaa uac uus).cells }, ⟨TT.cells_one (TT.mk uk un unm ula ulc uls uaa uac uus), rfl, fun w h => ?_⟩, ?_⟩
        · obtain ⟨⟨a, ha, h3⟩, _⟩ := h.1.1.1.hcts _ _ hc
          cases ha
          exact ⟨_, rfl, ct_at h3⟩
        refine cgo_go ({ s := x13 :: x12 :: x11 :: x7 :: x6 :: x5 :: h5S, m := h5M, k := 4, f := h5F }) [14] rfl (by kernel_rfl) (by kernel_rfl) ⟨⟨rfl, rfl⟩, ⟨rfl, rfl⟩, ⟨rfl, trivial⟩, ⟨rfl, trivial⟩, ⟨rfl, trivial⟩, ⟨rfl, trivial⟩, ⟨rfl, trivial⟩, ⟨rfl, trivial⟩, ⟨rfl, rfl⟩, trivial⟩ ⟨?_, trivial⟩
        refine ⟨_, rfl, rfl, _, rfl, ?_⟩
        refine callVC_lend [] hcc rfl trivial rfl rfl (fun w h => (h.1.1.1.hcts _ _ hc).2.1) (fun x _ => ?_) (fun x hx => ?_)
        · obtain ⟨yk, yn, ynm, yla, ylc, yls, yaa, yac, yus⟩ := x
          exact ⟨rfl, rfl⟩
        have hxm := hstep x hx
        clear hx
        obtain ⟨yk, yn, ynm, yla, ylc, yls, yaa, yac, yus⟩ := x
        let x14 : Nat × SV := (41, ttA (TT.mk yk yn ynm yla ylc yls yaa yac yus))
        let f14 : World → Prop := fun w => TTIn w (TT.mk yk yn ynm yla ylc yls yaa yac yus)
        let x15 : Nat × SV := (42, .agg (.v (.string cn) :: (TT.mk yk yn ynm yla ylc yls yaa yac yus).cells.map SA.v))
        let x16 : Nat × SV := (43, .one (.sl 4 0 1 1))
        let m16a : Nat × LB := (4, .cells 75 (.v (.string cn) :: (TT.mk yk yn ynm yla ylc yls yaa yac yus).cells.map SA.v))
        let x17 : Nat × SV := (44, .one (.row 5))
        let m17a : Nat × LB := (5, .own 75 6 (ys.length + 1) (ctsC ys ++ ctCells (cn, (TT.mk yk yn ynm yla ylc yls yaa yac yus))))
        let m17b : Nat × LB := (3, .dead)
        refine cgo_go ({ s := x14 :: x13 :: x12 :: x11 :: x7 :: x6 :: x5 :: h5S, m := h5M, k := 4, f := f14 :: h5F }) [15] rfl (by kernel_rfl) (by kernel_rfl) ⟨⟨rfl, rfl⟩, ⟨rfl, rfl⟩, ⟨rfl, trivial⟩, ⟨rfl, trivial⟩, ⟨rfl, trivial⟩, ⟨rfl, trivial⟩, ⟨rfl, trivial⟩, ⟨rfl, trivial⟩, ⟨rfl, rfl⟩, trivial⟩ ⟨?_, trivial⟩
        refine ⟨_, rfl, rfl, _, rfl, ?_⟩
        refine cgo_go ({ s := x15 :: x14 :: x13 :: x12 :: x11 :: x7 :: x6 :: x5 :: h5S, m := h5M, k := 4, f := f14 :: h5F }) [16] rfl (by kernel_rfl) (by kernel_rfl) ⟨⟨rfl, rfl⟩, ⟨rfl, rfl⟩, ⟨rfl, trivial⟩, ⟨rfl, trivial⟩, ⟨rfl, trivial⟩, ⟨rfl, trivial⟩, ⟨rfl, trivial⟩, ⟨rfl, trivial⟩, ⟨rfl, rfl⟩, trivial⟩ ⟨?_, trivial⟩
        refine ⟨_, rfl, rfl, _, rfl, ?_⟩
        refine cgo_go ({ s := x16 :: x15 :: x14 :: x13 :: x12 :: x11 :: x7 :: x6 :: x5 :: h5S, m := m16a :: h5M, k := 5, f := f14 :: h5F }) [17] rfl (by kernel_rfl) (by kernel_rfl) ⟨⟨rfl, rfl⟩, ⟨rfl, rfl⟩, ⟨rfl, trivial⟩, ⟨rfl, trivial⟩, ⟨rfl, trivial⟩, ⟨rfl, trivial⟩, ⟨rfl, trivial⟩, ⟨rfl, trivial⟩, ⟨rfl, rfl⟩, trivial⟩ ⟨?_, trivial⟩
        refine ⟨_, rfl, rfl, _, rfl, ?_⟩
        refine ⟨{}, ⟨trivial, by decide, .inr rfl, hfit1, hfit2⟩, ?_⟩
        refine cgo_go ({ s := x17 :: x16 :: x15 :: x14 :: x13 :: x12 :: x11 :: x7 :: x6 :: x5 :: h5S, m := m17a :: m17b :: m16a :: h5M, k := 6, f := f14 :: h5F }) [19] rfl (by kernel_rfl) (by kernel_rfl) ⟨⟨rfl, trivial⟩, ⟨rfl, trivial⟩, ⟨rfl, trivial⟩, ⟨rfl, trivial⟩, ⟨rfl, trivial⟩, ⟨rfl, trivial⟩, ⟨rfl, trivial⟩, ⟨rfl, trivial⟩, ⟨rfl, rfl⟩, trivial⟩ ⟨?_, trivial⟩
        refine ⟨_, rfl, rfl, _, rfl, ?_⟩
        refine cgo_end _ rfl (by kernel_rfl) ⟨⟨rfl, trivial⟩, ⟨rfl, trivial⟩, ⟨rfl, trivial⟩, ⟨rfl, trivial⟩, ⟨rfl, trivial⟩, ⟨rfl, trivial⟩, ⟨rfl, trivial⟩, ⟨rfl, trivial⟩, ⟨rfl, trivial⟩, trivial⟩ ?_
        exact ⟨ys ++ [(cn, (TT.mk yk yn ynm yla ylc yls yaa yac yus))], ⟨by simp only [List.length_append, List.length_singleton]; omega, by rw [hxm]; simp only [List.length_append, List.length_singleton]⟩, by simp only [List.length_append, List.length_singleton]; omega, ent_ren [(0, .blk 0), (1, .blk 1), (2, .blk 2), (3, .own 5)] rfl rfl rfl rfl (Nat.le_of_ble_eq_true rfl) ⟨⟨_, rfl, rfl⟩, ⟨_, rfl, rfl⟩, ⟨_, rfl, rfl⟩, ⟨_, rfl, by simp only [List.length_append, List.length_singleton]; exact oneI (wrapI (by omega) (by omega))⟩, trivial⟩ ⟨⟨_, rfl, rfl⟩, ⟨_, rfl, rfl⟩, ⟨_, rfl, rfl⟩, ⟨_, _, rfl, by simp, by simp [ctsC]⟩, trivial⟩ ⟨⟨cE.up _ _ _ _, fun w h => ⟨h.2.1.1, fun c hc2 => (List.mem_append.1 hc2).elim (h.2.1.2 c) (fun hc2 => by rw [List.mem_singleton.1 hc2]; exact ⟨h.1, (h.2.1.1.1.hcts _ _ hc).2.2⟩)⟩⟩, trivial⟩⟩
      · refine ⟨_, rfl, rfl, _, rfl, ?_⟩
        refine ⟨{ n := ys.length }, ⟨rfl, hlt, fun w h => rfl⟩, ?_⟩
        refine cgo_go ({ s := x11 :: x6 :: x5 :: h5S, m := h5M, k := 4, f := h5F }) [7, 12] rfl (by kernel_rfl) (by kernel_rfl) ⟨⟨rfl, rfl⟩, ⟨rfl, rfl⟩, ⟨rfl, trivial⟩, ⟨rfl, trivial⟩, ⟨rfl, trivial⟩, ⟨rfl, trivial⟩, ⟨rfl, trivial⟩, ⟨rfl, trivial⟩, ⟨rfl, rfl⟩, trivial⟩ ⟨?_, ?_, trivial⟩
        · refine ⟨_, rfl, rfl, _, rfl, ?_⟩
          refine ⟨{ v := .string cn }, fun w h => ?_, ?_⟩
          · obtain ⟨⟨a, ha, h3⟩, _⟩ := h.1.1.1.hcts _ _ hc
            cases ha
            exact ⟨_, rfl, h3 0 _ rfl⟩
          refine cgo_go ({ s := x7 :: x11 :: x6 :: x5 :: h5S, m := h5M, k := 4, f := h5F }) [12] rfl (by kernel_rfl) (by kernel_rfl) ⟨⟨rfl, rfl⟩, ⟨rfl, rfl⟩, ⟨rfl, trivial⟩, ⟨rfl, trivial⟩, ⟨rfl, trivial⟩, ⟨rfl, trivial⟩, ⟨rfl, trivial⟩, ⟨rfl, trivial⟩, ⟨rfl, rfl⟩, trivial⟩ ⟨?_, trivial⟩
          refine ⟨_, rfl, rfl, _, rfl, ?_⟩
          refine cgo_go ({ s := x12 :: x7 :: x11 :: x6 :: x5 :: h5S, m := h5M, k := 4, f := h5F }) [13] rfl (by kernel_rfl) (by kernel_rfl) ⟨⟨rfl, rfl⟩, ⟨rfl, rfl⟩, ⟨rfl, trivial⟩, ⟨rfl, trivial⟩, ⟨rfl, trivial⟩, ⟨rfl, trivial⟩, ⟨rfl, trivial⟩, ⟨rfl, trivial⟩, ⟨rfl, rfl⟩, trivial⟩ ⟨?_, trivial⟩
          refine ⟨_, rfl, rfl, _, rfl, ?_⟩
          refine ⟨{ cs := (TT.mk uk un unm ula ulc uls uaa uac uus).cells }, ⟨TT.cells_one (TT.mk uk un unm ula ulc uls uaa uac uus), rfl, fun w h => ?_⟩, ?_⟩
          · obtain ⟨⟨a, ha, h3⟩, _⟩ := h.1.1.1.hcts _ _ hc
            cases ha
            exact ⟨_, rfl, ct_at h3⟩
          refine cgo_go ({ s := x13 :: x12 :: x7 :: x11 :: x6 :: x5 :: h5S, m := h5M, k := 4, f := h5F }) [14] rfl (by kernel_rfl) (by kernel_rfl) ⟨⟨rfl, rfl⟩, ⟨rfl, rfl⟩, ⟨rfl, trivial⟩, ⟨rfl, trivial⟩, ⟨rfl, trivial⟩, ⟨rfl, trivial⟩, ⟨rfl, trivial⟩, ⟨rfl, trivial⟩, ⟨rfl, rfl⟩, trivial⟩ ⟨?_, trivial⟩
          refine ⟨_, rfl, rfl, _, rfl, ?_⟩
          refine callVC_lend [] hcc rfl trivial rfl rfl (fun w h => (h.1.1.1.hcts _ _ hc).2.1) (fun x _ => ?_) (fun x hx => ?_)
          · obtain ⟨yk, yn, ynm, yla, ylc, yls, yaa, yac, yus⟩ := x
            exact ⟨rfl, rfl⟩
          have hxm := hstep x hx
          clear hx
          obtain ⟨yk, yn, ynm, yla, ylc, yls, yaa, yac, yus⟩ := x
          let x14 : Nat × SV := (41, ttA (TT.mk yk yn ynm yla ylc yls yaa yac yus))
          let f14 : World → Prop := fun w => TTIn w (TT.mk yk yn ynm yla ylc yls yaa yac yus)
          let x15 : Nat × SV := (42, .agg (.v (.string cn) :: (TT.mk yk yn ynm yla ylc yls yaa yac yus).cells.map SA.v))
          let x16 : Nat × SV := (43, .one (.sl 4 0 1 1))
          let m16a : Nat × LB := (4, .cells 75 (.v (.string cn) :: (TT.mk yk yn ynm yla ylc yls yaa yac yus).cells.map SA.v))
          let x17 : Nat × SV := (44, .one (.row 5))
          let m17a : Nat × LB := (5, .own 75 6 (ys.length + 1) (ctsC ys ++ ctCells (cn, (TT.mk yk yn ynm yla ylc yls yaa yac yus))))
          let m17b : Nat × LB := (3, .dead)
          refine cgo_go ({ s := x14 :: x13 :: x12 :: x7 :: x11 :: x6 :: x5 :: h5S, m := h5M, k := 4, f := f14 :: h5F }) [15] rfl (by kernel_rfl) (by kernel_rfl) ⟨⟨rfl, rfl⟩, ⟨rfl, rfl⟩, ⟨rfl, trivial⟩, ⟨rfl, trivial⟩, ⟨rfl, trivial⟩, ⟨rfl, trivial⟩, ⟨rfl, trivial⟩, ⟨rfl, trivial⟩, ⟨rfl, rfl⟩, trivial⟩ ⟨?_, trivial⟩
          refine ⟨_, rfl, rfl, _, rfl, ?_⟩
          refine cgo_go ({ s := x15 :: x14 :: x13 :: x12 :: x7 :: x11 :: x6 :: x5 :: h5S, m := h5M, k := 4, f := f14 :: h5F }) [16] rfl (by kernel_rfl) (by kernel_rfl) ⟨⟨rfl, rfl⟩, ⟨rfl, rfl⟩, ⟨rfl, trivial⟩, ⟨rfl, trivial⟩, ⟨rfl, trivial⟩, ⟨rfl, trivial⟩, ⟨rfl, trivial⟩, ⟨rfl, trivial⟩, ⟨rfl, rfl⟩, trivial⟩ ⟨?_, trivial⟩
          refine ⟨_, rfl, rfl, _, rfl, ?_⟩
          refine cgo_go ({ s := x16 :: x15 :: x14 :: x13 :: x12 :: x7 :: x11 :: x6 :: x5 :: h5S, m := m16a :: h5M, k := 5, f := f14 :: h5F }) [17] rfl (by kernel_rfl) (by kernel_rfl) ⟨⟨rfl, rfl⟩, ⟨rfl, rfl⟩, ⟨rfl, trivial⟩, ⟨rfl, trivial⟩, ⟨rfl, trivial⟩, ⟨rfl, trivial⟩, ⟨rfl, trivial⟩, ⟨rfl, trivial⟩, ⟨rfl, rfl⟩, trivial⟩ ⟨?_, trivial⟩
          refine ⟨_, rfl, rfl, _, rfl, ?_⟩
          refine ⟨{}, ⟨trivial, by decide, .inr rfl, hfit1, hfit2⟩, ?_⟩
          refine cgo_go ({ s := x17 :: x16 :: x15 :: x14 :: x13 :: x12 :: x7 :: x11 :: x6 :: x5 :: h5S, m := m17a :: m17b :: m16a :: h5M, k := 6, f := f14 :: h5F }) [19] rfl (by kernel_rfl) (by kernel_rfl) ⟨⟨rfl, trivial⟩, ⟨rfl, trivial⟩, ⟨rfl, trivial⟩, ⟨rfl, trivial⟩, ⟨rfl, trivial⟩, ⟨rfl, trivial⟩, ⟨rfl, trivial⟩, ⟨rfl, trivial⟩, ⟨rfl, rfl⟩, trivial⟩ ⟨?_, trivial⟩
          refine ⟨_, rfl, rfl, _, rfl, ?_⟩
          refine cgo_end _ rfl (by kernel_rfl) ⟨⟨rfl, trivial⟩, ⟨rfl, trivial⟩, ⟨rfl, trivial⟩, ⟨rfl, trivial⟩, ⟨rfl, trivial⟩, ⟨rfl, trivial⟩, ⟨rfl, trivial⟩, ⟨rfl, trivial⟩, ⟨rfl, trivial⟩, trivial⟩ ?_
          exact ⟨ys ++ [(cn, (TT.mk yk yn ynm yla ylc yls yaa yac yus))], ⟨by simp only [List.length_append, List.length_singleton]; omega, by rw [hxm]; simp only [List.length_append, List.length_singleton]⟩, by simp only [List.length_append, List.length_singleton]; omega, ent_ren [(0, .blk 0), (1, .blk 1), (2, .blk 2), (3, .own 5)] rfl rfl rfl rfl (Nat.le_of_ble_eq_true rfl) ⟨⟨_, rfl, rfl⟩, ⟨_, rfl, rfl⟩, ⟨_, rfl, rfl⟩, ⟨_, rfl, by simp only [List.length_append, List.length_singleton]; exact oneI (wrapI (by omega) (by omega))⟩, trivial⟩ ⟨⟨_, rfl, rfl⟩, ⟨_, rfl, rfl⟩, ⟨_, rfl, rfl⟩, ⟨_, _, rfl, by simp, by simp [ctsC]⟩, trivial⟩ ⟨⟨cE.up _ _ _ _, fun w h => ⟨h.2.1.1, fun c hc2 => (List.mem_append.1 hc2).elim (h.2.1.2 c) (fun hc2 => by rw [List.mem_singleton.1 hc2]; exact ⟨h.1, (h.2.1.1.1.hcts _ _ hc).2.2⟩)⟩⟩, trivial⟩⟩
        · refine ⟨_, rfl, rfl, _, rfl, ?_⟩
          refine cgo_go ({ s := x12 :: x11 :: x6 :: x5 :: h5S, m := h5M, k := 4, f := h5F }) [7, 13] rfl (by kernel_rfl) (by kernel_rfl) ⟨⟨rfl, rfl⟩, ⟨rfl, rfl⟩, ⟨rfl, trivial⟩, ⟨rfl, trivial⟩, ⟨rfl, trivial⟩, ⟨rfl, trivial⟩, ⟨rfl, trivial⟩, ⟨rfl, trivial⟩, ⟨rfl, rfl⟩, trivial⟩ ⟨?_, ?_, trivial⟩
          · refine ⟨_, rfl, rfl, _, rfl, ?_⟩
            refine ⟨{ v := .string cn }, fun w h => ?_, ?_⟩
            · obtain ⟨⟨a, ha, h3⟩, _⟩ := h.1.1.1.hcts _ _ hc
              cases ha
              exact ⟨_, rfl, h3 0 _ rfl⟩
            refine cgo_go ({ s := x7 :: x12 :: x11 :: x6 :: x5 :: h5S, m := h5M, k := 4, f := h5F }) [13] rfl (by kernel_rfl) (by kernel_rfl) ⟨⟨rfl, rfl⟩, ⟨rfl, rfl⟩, ⟨rfl, trivial⟩, ⟨rfl, trivial⟩, ⟨rfl, trivial⟩, ⟨rfl, trivial⟩, ⟨rfl, trivial⟩, ⟨rfl, trivial⟩, ⟨rfl, rfl⟩, trivial⟩ ⟨?_, trivial⟩
            refine ⟨_, rfl, rfl, _, rfl, ?_⟩
            refine ⟨{ cs := (TT.mk uk un unm ula ulc uls uaa uac uus).cells }, ⟨TT.cells_one (TT.mk uk un unm ula ulc uls uaa uac uus), rfl, fun w h => ?_⟩, ?_⟩
            · obtain ⟨⟨a, ha, h3⟩, _⟩ := h.1.1.1.hcts _ _ hc
              cases ha
              exact ⟨_, rfl, ct_at h3⟩
            refine cgo_go ({ s := x13 :: x7 :: x12 :: x11 :: x6 :: x5 :: h5S, m := h5M, k := 4, f := h5F }) [14] rfl (by kernel_rfl) (by kernel_rfl) ⟨⟨rfl, rfl⟩, ⟨rfl, rfl⟩, ⟨rfl, trivial⟩, ⟨rfl, trivial⟩, ⟨rfl, trivial⟩, ⟨rfl, trivial⟩, ⟨rfl, trivial⟩, ⟨rfl, trivial⟩, ⟨rfl, rfl⟩, trivial⟩ ⟨?_, trivial⟩
            refine ⟨_, rfl, rfl, _, rfl, ?_⟩
            refine callVC_lend [] hcc rfl trivial rfl rfl (fun w h => (h.1.1.1.hcts _ _ hc).2.1) (fun x _ => ?_) (fun x hx => ?_)
            · obtain ⟨yk, yn, ynm, yla, ylc, yls, yaa, yac, yus⟩ := x
              exact ⟨rfl, rfl⟩
            have hxm := hstep x hx
            clear hx
            obtain ⟨yk, yn, ynm, yla, ylc, yls, yaa, yac, yus⟩ := x
            let x14 : Nat × SV := (41, ttA (TT.mk yk yn ynm yla ylc yls yaa yac yus))
            let f14 : World → Prop := fun w => TTIn w (TT.mk yk yn ynm yla ylc yls yaa yac yus)
            let x15 : Nat × SV := (42, .agg (.v (.string cn) :: (TT.mk yk yn ynm yla ylc yls yaa yac yus).cells.map SA.v))
            let x16 : Nat × SV := (43, .one (.sl 4 0 1 1))
            let m16a : Nat × LB := (4, .cells 75 (.v (.string cn) :: (TT.mk yk yn ynm yla ylc yls yaa yac yus).cells.map SA.v))
            let x17 : Nat × SV := (44, .one (.row 5))
            let m17a : Nat × LB := (5, .own 75 6 (ys.length + 1) (ctsC ys ++ ctCells (cn, (TT.mk yk yn ynm yla ylc yls yaa yac yus))))
            let m17b : Nat × LB := (3, .dead)
            refine cgo_go ({ s := x14 :: x13 :: x7 :: x12 :: x11 :: x6 :: x5 :: h5S, m := h5M, k := 4, f := f14 :: h5F }) [15] rfl (by kernel_rfl) (by kernel_rfl) ⟨⟨rfl, rfl⟩, ⟨rfl, rfl⟩, ⟨rfl, trivial⟩, ⟨rfl, trivial⟩, ⟨rfl, trivial⟩, ⟨rfl, trivial⟩, ⟨rfl, trivial⟩, ⟨rfl, trivial⟩, ⟨rfl, rfl⟩, trivial⟩ ⟨?_, trivial⟩
            refine ⟨_, rfl, rfl, _, rfl, ?_⟩
            refine cgo_go ({ s := x15 :: x14 :: x13 :: x7 :: x12 :: x11 :: x6 :: x5 :: h5S, m := h5M, k := 4, f := f14 :: h5F }) [16] rfl (by kernel_rfl) (by kernel_rfl) ⟨⟨rfl, rfl⟩, ⟨rfl, rfl⟩, ⟨rfl, trivial⟩, ⟨rfl, trivial⟩, ⟨rfl, trivial⟩, ⟨rfl, trivial⟩, ⟨rfl, trivial⟩, ⟨rfl, trivial⟩, ⟨rfl, rfl⟩, trivial⟩ ⟨?_, trivial⟩
            refine ⟨_, rfl, rfl, _, rfl, ?_⟩
            refine cgo_go ({ s := x16 :: x15 :: x14 :: x13 :: x7 :: x12 :: x11 :: x6 :: x5 :: h5S, m := m16a :: h5M, k := 5, f := f14 :: h5F }) [17] rfl (by kernel_rfl) (by kernel_rfl) ⟨⟨rfl, rfl⟩, ⟨rfl, rfl⟩, ⟨rfl, trivial⟩, ⟨rfl, trivial⟩, ⟨rfl, trivial⟩, ⟨rfl, trivial⟩, ⟨rfl, trivial⟩, ⟨rfl, trivial⟩, ⟨rfl, rfl⟩, trivial⟩ ⟨?_, trivial⟩
            refine ⟨_, rfl, rfl, _, rfl, ?_⟩
            refine ⟨{}, ⟨trivial, by decide, .inr rfl, hfit1, hfit2⟩, ?_⟩
            refine cgo_go ({ s := x17 :: x16 :: x15 :: x14 :: x13 :: x7 :: x12 :: x11 :: x6 :: x5 :: h5S, m := m17a :: m17b :: m16a :: h5M, k := 6, f := f14 :: h5F }) [19] rfl (by kernel_rfl) (by kernel_rfl) ⟨⟨rfl, trivial⟩, ⟨rfl, trivial⟩, ⟨rfl, trivial⟩, ⟨rfl, trivial⟩, ⟨rfl, trivial⟩, ⟨rfl, trivial⟩, ⟨rfl, trivial⟩, ⟨rfl, trivial⟩, ⟨rfl, rfl⟩, trivial⟩ ⟨?_, trivial⟩
            refine ⟨_, rfl, rfl, _, rfl, ?_⟩
            refine cgo_end _ rfl (by kernel_rfl) ⟨⟨rfl, trivial⟩, ⟨rfl, trivial⟩, ⟨rfl, trivial⟩, ⟨rfl, trivial⟩, ⟨rfl, trivial⟩, ⟨rfl, trivial⟩, ⟨rfl, trivial⟩, ⟨rfl, trivial⟩, ⟨rfl, trivial⟩, trivial⟩ ?_
            exact ⟨ys ++ [(cn, (TT.mk yk yn ynm yla ylc yls yaa yac yus))], ⟨by simp only [List.length_append, List.length_singleton]; omega, by rw [hxm]; simp only [List.length_append, List.length_singleton]⟩, by simp only [List.length_append, List.length_singleton]; omega, ent_ren [(0, .blk 0), (1, .blk 1), (2, .blk 2), (3, .own 5)] rfl rfl rfl rfl (Nat.le_of_ble_eq_true rfl) ⟨⟨_, rfl, rfl⟩, ⟨_, rfl, rfl⟩, ⟨_, rfl, rfl⟩, ⟨_, rfl, by simp only [List.length_append, List.length_singleton]; exact oneI (wrapI (by omega) (by omega))⟩, trivial⟩ ⟨⟨_, rfl, rfl⟩, ⟨_, rfl, rfl⟩, ⟨_, rfl, rfl⟩, ⟨_, _, rfl, by simp, by simp [ctsC]⟩, trivial⟩ ⟨⟨cE.up _ _ _ _, fun w h => ⟨h.2.1.1, fun c hc2 => (List.mem_append.1 hc2).elim (h.2.1.2 c) (fun hc2 => by rw [List.mem_singleton.1 hc2]; exact ⟨h.1, (h.2.1.1.1.hcts _ _ hc).2.2⟩)⟩⟩, trivial⟩⟩
          · refine ⟨_, rfl, rfl, _, rfl, ?_⟩
            refine ⟨{ cs := (TT.mk uk un unm ula ulc uls uaa uac uus).cells }, ⟨TT.cells_one (TT.mk uk un unm ula ulc uls uaa uac uus), rfl, fun w h => ?_⟩, ?_⟩
            · obtain ⟨⟨a, ha, h3⟩, _⟩ := h.1.1.1.hcts _ _ hc
              cases ha
              exact ⟨_, rfl, ct_at h3⟩
            refine cgo_go ({ s := x13 :: x12 :: x11 :: x6 :: x5 :: h5S, m := h5M, k := 4, f := h5F }) [7, 14] rfl (by kernel_rfl) (by kernel_rfl) ⟨⟨rfl, rfl⟩, ⟨rfl, rfl⟩, ⟨rfl, trivial⟩, ⟨rfl, trivial⟩, ⟨rfl, trivial⟩, ⟨rfl, trivial⟩, ⟨rfl, trivial⟩, ⟨rfl, trivial⟩, ⟨rfl, rfl⟩, trivial⟩ ⟨?_, ?_, trivial⟩
            · refine ⟨_, rfl, rfl, _, rfl, ?_⟩
              refine ⟨{ v := .string cn }, fun w h => ?_, ?_⟩
              · obtain ⟨⟨a, ha, h3⟩, _⟩ := h.1.1.1.hcts _ _ hc
                cases ha
                exact ⟨_, rfl, h3 0 _ rfl⟩
              refine cgo_go ({ s := x7 :: x13 :: x12 :: x11 :: x6 :: x5 :: h5S, m := h5M, k := 4, f := h5F }) [14] rfl (by kernel_rfl) (by kernel_rfl) ⟨⟨rfl, rfl⟩, ⟨rfl, rfl⟩, ⟨rfl, trivial⟩, ⟨rfl, trivial⟩, ⟨rfl, trivial⟩, ⟨rfl, trivial⟩, ⟨rfl, trivial⟩, ⟨rfl, trivial⟩, ⟨rfl, rfl⟩, trivial⟩ ⟨?_, trivial⟩
              refine ⟨_, rfl, rfl, _, rfl, ?_⟩
              refine callVC_lend [] hcc rfl trivial rfl rfl (fun w h => (h.1.1.1.hcts _ _ hc).2.1) (fun x _ => ?_) (fun x hx => ?_)
              · obtain ⟨yk, yn, ynm, yla, ylc, yls, yaa, yac, yus⟩ := x
                exact ⟨rfl, rfl⟩
              have hxm := hstep x hx
              clear hx
              obtain ⟨yk, yn, ynm, yla, ylc, yls, yaa, yac, yus⟩ := x
              let x14 : Nat × SV := (41, ttA (TT.mk yk yn ynm yla ylc yls yaa yac yus))
              let f14 : World → Prop := fun w => TTIn w (TT.mk yk yn ynm yla ylc yls yaa yac yus)
              let x15 : Nat × SV := (42, .agg (.v (.string cn) :: (TT.mk yk yn ynm yla ylc yls yaa yac yus).cells.map SA.v))
              let x16 : Nat × SV := (43, .one (.sl 4 0 1 1))
              let m16a : Nat × LB := (4, .cells 75 (.v (.string cn) :: (TT.mk yk yn ynm yla ylc yls yaa yac yus).cells.map SA.v))
              let x17 : Nat × SV := (44, .one (.row 5))
              let m17a : Nat × LB := (5, .own 75 6 (ys.length + 1) (ctsC ys ++ ctCells (cn, (TT.mk yk yn ynm yla ylc yls yaa yac yus))))
              let m17b : Nat × LB := (3, .dead)
              refine cgo_go ({ s := x14 :: x7 :: x13 :: x12 :: x11 :: x6 :: x5 :: h5S, m := h5M, k := 4, f := f14 :: h5F }) [15] rfl (by kernel_rfl) (by kernel_rfl) ⟨⟨rfl, rfl⟩, ⟨rfl, rfl⟩, ⟨rfl, trivial⟩, ⟨rfl, trivial⟩, ⟨rfl, trivial⟩, ⟨rfl, trivial⟩, ⟨rfl, trivial⟩, ⟨rfl, trivial⟩, ⟨rfl, rfl⟩, trivial⟩ ⟨?_, trivial⟩
              refine ⟨_, rfl, rfl, _, rfl, ?_⟩
              refine cgo_go ({ s := x15 :: x14 :: x7 :: x13 :: x12 :: x11 :: x6 :: x5 :: h5S, m := h5M, k := 4, f := f14 :: h5F }) [16] rfl (by kernel_rfl) (by kernel_rfl) ⟨⟨rfl, rfl⟩, ⟨rfl, rfl⟩, ⟨rfl, trivial⟩, ⟨rfl, trivial⟩, ⟨rfl, trivial⟩, ⟨rfl, trivial⟩, ⟨rfl, trivial⟩, ⟨rfl, trivial⟩, ⟨rfl, rfl⟩, trivial⟩ ⟨?_, trivial⟩
              refine ⟨_, rfl, rfl, _, rfl, ?_⟩
              refine cgo_go ({ s := x16 :: x15 :: x14 :: x7 :: x13 :: x12 :: x11 :: x6 :: x5 :: h5S, m := m16a :: h5M, k := 5, f := f14 :: h5F }) [17] rfl (by kernel_rfl) (by kernel_rfl) ⟨⟨rfl, rfl⟩, ⟨rfl, rfl⟩, ⟨rfl, trivial⟩, ⟨rfl, trivial⟩, ⟨rfl, trivial⟩, ⟨rfl, trivial⟩, ⟨rfl, trivial⟩, ⟨rfl, trivial⟩, ⟨rfl, rfl⟩, trivial⟩ ⟨?_, trivial⟩
              refine ⟨_, rfl, rfl, _, rfl, ?_⟩
              refine ⟨{}, ⟨trivial, by decide, .inr rfl, hfit1, hfit2⟩, ?_⟩
              refine cgo_go ({ s := x17 :: x16 :: x15 :: x14 :: x7 :: x13 :: x12 :: x11 :: x6 :: x5 :: h5S, m := m17a :: m17b :: m16a :: h5M, k := 6, f := f14 :: h5F }) [19] rfl (by kernel_rfl) (by kernel_rfl) ⟨⟨rfl, trivial⟩, ⟨rfl, trivial⟩, ⟨rfl, trivial⟩, ⟨rfl, trivial⟩, ⟨rfl, trivial⟩, ⟨rfl, trivial⟩, ⟨rfl, trivial⟩, ⟨rfl, trivial⟩, ⟨rfl, rfl⟩, trivial⟩ ⟨?_, trivial⟩
              refine ⟨_, rfl, rfl, _, rfl, ?_⟩
              refine cgo_end _ rfl (by kernel_rfl) ⟨⟨rfl, trivial⟩, ⟨rfl, trivial⟩, ⟨rfl, trivial⟩, ⟨rfl, trivial⟩, ⟨rfl, trivial⟩, ⟨rfl, trivial⟩, ⟨rfl, trivial⟩, ⟨rfl, trivial⟩, ⟨rfl, trivial⟩, trivial⟩ ?_
              exact ⟨ys ++ [(cn, (TT.mk yk yn ynm yla ylc yls yaa yac yus))], ⟨by simp only [List.length_append, List.length_singleton]; omega, by rw [hxm]; simp only [List.length_append, List.length_singleton]⟩, by simp only [List.length_append, List.length_singleton]; omega, ent_ren [(0, .blk 0), (1, .blk 1), (2, .blk 2), (3, .own 5)] rfl rfl rfl rfl (Nat.le_of_ble_eq_true rfl) ⟨⟨_, rfl, rfl⟩, ⟨_, rfl, rfl⟩, ⟨_, rfl, rfl⟩, ⟨_, rfl, by simp only [List.length_append, List.length_singleton]; exact oneI (wrapI (by omega) (by omega))⟩, trivial⟩ ⟨⟨_, rfl, rfl⟩, ⟨_, rfl, rfl⟩, ⟨_, rfl, rfl⟩, ⟨_, _, rfl, by simp, by simp [ctsC]⟩, trivial⟩ ⟨⟨cE.up _ _ _ _, fun w h => ⟨h.2.1.1, fun c hc2 => (List.mem_append.1 hc2).elim (h.2.1.2 c) (fun hc2 => by rw [List.mem_singleton.1 hc2]; exact ⟨h.1, (h.2.1.1.1.hcts _ _ hc).2.2⟩)⟩⟩, trivial⟩⟩
            · refine ⟨_, rfl, rfl, _, rfl, ?_⟩
              refine callVC_lend [] hcc rfl trivial rfl rfl (fun w h => (h.1.1.1.hcts _ _ hc).2.1) (fun x _ => ?_) (fun x hx => ?_)
              · obtain ⟨yk, yn, ynm, yla, ylc, yls, yaa, yac, yus⟩ := x
                exact ⟨rfl, rfl⟩
              have hxm := hstep x hx
              clear hx
              obtain ⟨yk, yn, ynm, yla, ylc, yls, yaa, yac, yus⟩ := x
              let x14 : Nat × SV := (41, ttA (TT.mk yk yn ynm yla ylc yls yaa yac yus))
              let f14 : World → Prop := fun w => TTIn w (TT.mk yk yn ynm yla ylc yls yaa yac yus)
              let x15 : Nat × SV := (42, .agg (.v (.string cn) :: (TT.mk yk yn ynm yla ylc yls yaa yac yus).cells.map SA.v))
              let x16 : Nat × SV := (43, .one (.sl 4 0 1 1))
              let m16a : Nat × LB := (4, .cells 75 (.v (.string cn) :: (TT.mk yk yn ynm yla ylc yls yaa yac yus).cells.map SA.v))
              let x17 : Nat × SV := (44, .one (.row 5))
              let m17a : Nat × LB := (5, .own 75 6 (ys.length + 1) (ctsC ys ++ ctCells (cn, (TT.mk yk yn ynm yla ylc yls yaa yac yus))))
              let m17b : Nat × LB := (3, .dead)
              refine cgo_go ({ s := x14 :: x13 :: x12 :: x11 :: x6 :: x5 :: h5S, m := h5M, k := 4, f := f14 :: h5F }) [7] rfl (by kernel_rfl) (by kernel_rfl) ⟨⟨rfl, rfl⟩, ⟨rfl, rfl⟩, ⟨rfl, trivial⟩, ⟨rfl, trivial⟩, ⟨rfl, trivial⟩, ⟨rfl, trivial⟩, ⟨rfl, trivial⟩, ⟨rfl, trivial⟩, ⟨rfl, rfl⟩, trivial⟩ ⟨?_, trivial⟩
              refine ⟨_, rfl, rfl, _, rfl, ?_⟩
              refine ⟨{ v := .string cn }, fun w h => ?_, ?_⟩
              · obtain ⟨⟨a, ha, h3⟩, _⟩ := h.2.1.1.1.hcts _ _ hc
                cases ha
                exact ⟨_, rfl, h3 0 _ rfl⟩
              refine cgo_go ({ s := x7 :: x14 :: x13 :: x12 :: x11 :: x6 :: x5 :: h5S, m := h5M, k := 4, f := f14 :: h5F }) [15] rfl (by kernel_rfl) (by kernel_rfl) ⟨⟨rfl, rfl⟩, ⟨rfl, rfl⟩, ⟨rfl, trivial⟩, ⟨rfl, trivial⟩, ⟨rfl, trivial⟩, ⟨rfl, trivial⟩, ⟨rfl, trivial⟩, ⟨rfl, trivial⟩, ⟨rfl, rfl⟩, trivial⟩ ⟨?_, trivial⟩
              refine ⟨_, rfl, rfl, _, rfl, ?_⟩
              refine cgo_go ({ s := x15 :: x7 :: x14 :: x13 :: x12 :: x11 :: x6 :: x5 :: h5S, m := h5M, k := 4, f := f14 :: h5F }) [16] rfl (by kernel_rfl) (by kernel_rfl) ⟨⟨rfl, rfl⟩, ⟨rfl, rfl⟩, ⟨rfl, trivial⟩, ⟨rfl, trivial⟩, ⟨rfl, trivial⟩, ⟨rfl, trivial⟩, ⟨rfl, trivial⟩, ⟨rfl, trivial⟩, ⟨rfl, rfl⟩, trivial⟩ ⟨?_, trivial⟩
              refine ⟨_, rfl, rfl, _, rfl, ?_⟩
              refine cgo_go ({ s := x16 :: x15 :: x7 :: x14 :: x13 :: x12 :: x11 :: x6 :: x5 :: h5S, m := m16a :: h5M, k := 5, f := f14 :: h5F }) [17] rfl (by kernel_rfl) (by kernel_rfl) ⟨⟨rfl, rfl⟩, ⟨rfl, rfl⟩, ⟨rfl, trivial⟩, ⟨rfl, trivial⟩, ⟨rfl, trivial⟩, ⟨rfl, trivial⟩, ⟨rfl, trivial⟩, ⟨rfl, trivial⟩, ⟨rfl, rfl⟩, trivial⟩ ⟨?_, trivial⟩
              refine ⟨_, rfl, rfl, _, rfl, ?_⟩
              refine ⟨{}, ⟨trivial, by decide, .inr rfl, hfit1, hfit2⟩, ?_⟩
              refine cgo_go ({ s := x17 :: x16 :: x15 :: x7 :: x14 :: x13 :: x12 :: x11 :: x6 :: x5 :: h5S, m := m17a :: m17b :: m16a :: h5M, k := 6, f := f14 :: h5F }) [19] rfl (by kernel_rfl) (by kernel_rfl) ⟨⟨rfl, trivial⟩, ⟨rfl, trivial⟩, ⟨rfl, trivial⟩, ⟨rfl, trivial⟩, ⟨rfl, trivial⟩, ⟨rfl, trivial⟩, ⟨rfl, trivial⟩, ⟨rfl, trivial⟩, ⟨rfl, rfl⟩, trivial⟩ ⟨?_, trivial⟩
              refine ⟨_, rfl, rfl, _, rfl, ?_⟩
              refine cgo_end _ rfl (by kernel_rfl) ⟨⟨rfl, trivial⟩, ⟨rfl, trivial⟩, ⟨rfl, trivial⟩, ⟨rfl, trivial⟩, ⟨rfl, trivial⟩, ⟨rfl, trivial⟩, ⟨rfl, trivial⟩, ⟨rfl, trivial⟩, ⟨rfl, trivial⟩, trivial⟩ ?_
              exact ⟨ys ++ [(cn, (TT.mk yk yn ynm yla ylc yls yaa yac yus))], ⟨by simp only [List.length_append, List.length_singleton]; omega, by rw [hxm]; simp only [List.length_append, List.length_singleton]⟩, by simp only [List.length_append, List.length_singleton]; omega, ent_ren [(0, .blk 0), (1, .blk 1), (2, .blk 2), (3, .own 5)] rfl rfl rfl rfl (Nat.le_of_ble_eq_true rfl) ⟨⟨_, rfl, rfl⟩, ⟨_, rfl, rfl⟩, ⟨_, rfl, rfl⟩, ⟨_, rfl, by simp only [List.length_append, List.length_singleton]; exact oneI (wrapI (by omega) (by omega))⟩, trivial⟩ ⟨⟨_, rfl, rfl⟩, ⟨_, rfl, rfl⟩, ⟨_, rfl, rfl⟩, ⟨_, _, rfl, by simp, by simp [ctsC]⟩, trivial⟩ ⟨⟨cE.up _ _ _ _, fun w h => ⟨h.2.1.1, fun c hc2 => (List.mem_append.1 hc2).elim (h.2.1.2 c) (fun hc2 => by rw [List.mem_singleton.1 hc2]; exact ⟨h.1, (h.2.1.1.1.hcts _ _ hc).2.2⟩)⟩⟩, trivial⟩⟩
    · refine ⟨_, rfl, rfl, _, rfl, ?_⟩
      refine ⟨{ n := ys.length }, ⟨rfl, hlt, fun w h => rfl⟩, ?_⟩
      refine cgo_go ({ s := x11 :: x5 :: h5S, m := h5M, k := 4, f := h5F }) [6, 12] rfl (by kernel_rfl) (by kernel_rfl) ⟨⟨rfl, rfl⟩, ⟨rfl, rfl⟩, ⟨rfl, trivial⟩, ⟨rfl, trivial⟩, ⟨rfl, trivial⟩, ⟨rfl, trivial⟩, ⟨rfl, trivial⟩, ⟨rfl, trivial⟩, ⟨rfl, rfl⟩, trivial⟩ ⟨?_, ?_, trivial⟩
      · refine ⟨_, rfl, rfl, _, rfl, ?_⟩
        refine cgo_go ({ s := x6 :: x11 :: x5 :: h5S, m := h5M, k := 4, f := h5F }) [7, 12] rfl (by kernel_rfl) (by kernel_rfl) ⟨⟨rfl, rfl⟩, ⟨rfl, rfl⟩, ⟨rfl, trivial⟩, ⟨rfl, trivial⟩, ⟨rfl, trivial⟩, ⟨rfl, trivial⟩, ⟨rfl, trivial⟩, ⟨rfl, trivial⟩, ⟨rfl, rfl⟩, trivial⟩ ⟨?_, ?_, trivial⟩
        · refine ⟨_, rfl, rfl, _, rfl, ?_⟩
          refine ⟨{ v := .string cn }, fun w h => ?_, ?_⟩
          · obtain ⟨⟨a, ha, h3⟩, _⟩ := h.1.1.1.hcts _ _ hc
            cases ha
            exact ⟨_, rfl, h3 0 _ rfl⟩
          refine cgo_go ({ s := x7 :: x6 :: x11 :: x5 :: h5S, m := h5M, k := 4, f := h5F }) [12] rfl (by kernel_rfl) (by kernel_rfl) ⟨⟨rfl, rfl⟩, ⟨rfl, rfl⟩, ⟨rfl, trivial⟩, ⟨rfl, trivial⟩, ⟨rfl, trivial⟩, ⟨rfl, trivial⟩, ⟨rfl, trivial⟩, ⟨rfl, trivial⟩, ⟨rfl, rfl⟩, trivial⟩ ⟨?_, trivial⟩
          refine ⟨_, rfl, rfl, _, rfl, ?_⟩
          refine cgo_go ({ s := x12 :: x7 :: x6 :: x11 :: x5 :: h5S, m := h5M, k := 4, f := h5F }) [13] rfl (by kernel_rfl) (by kernel_rfl) ⟨⟨rfl, rfl⟩, ⟨rfl, rfl⟩, ⟨rfl, trivial⟩, ⟨rfl, trivial⟩, ⟨rfl, trivial⟩, ⟨rfl, trivial⟩, ⟨rfl, trivial⟩, ⟨rfl, trivial⟩, ⟨rfl, rfl⟩, trivial⟩ ⟨?_, trivial⟩
          refine ⟨_, rfl, rfl, _, rfl, ?_⟩
          refine ⟨{ cs := (TT.mk uk un unm ula ulc uls uaa uac uus).cells }, ⟨TT.cells_one (TT.mk uk un unm ula ulc uls uaa uac uus), rfl, fun w h => ?_⟩, ?_⟩
          · obtain ⟨⟨a, ha, h3⟩, _⟩ := h.1.1.1.hcts _ _ hc
            cases ha
            exact ⟨_, rfl, ct_at h3⟩
          refine cgo_go ({ s := x13 :: x12 :: x7 :: x6 :: x11 :: x5 :: h5S, m := h5M, k := 4, f := h5F }) [14] rfl (by kernel_rfl) (by kernel_rfl) ⟨⟨rfl, rfl⟩, ⟨rfl, rfl⟩, ⟨rfl, trivial⟩, ⟨rfl, trivial⟩, ⟨rfl, trivial⟩, ⟨rfl, trivial⟩, ⟨rfl, trivial⟩, ⟨rfl, trivial⟩, ⟨rfl, rfl⟩, trivial⟩ ⟨?_, trivial⟩
          refine ⟨_, rfl, rfl, _, rfl, ?_⟩
          refine callVC_lend [] hcc rfl trivial rfl rfl (fun w h => (h.1.1.1.hcts _ _ hc).2.1) (fun x _ => ?_) (fun x hx => ?_)
          · obtain ⟨yk, yn, ynm, yla, ylc, yls, yaa, yac, yus⟩ := x
            exact ⟨rfl, rfl⟩
          have hxm := hstep x hx
          clear hx
          obtain ⟨yk, yn, ynm, yla, ylc, yls, yaa, yac, yus⟩ := x
          let x14 : Nat × SV := (41, ttA (TT.mk yk yn ynm yla ylc yls yaa yac yus))
          let f14 : World → Prop := fun w => TTIn w (TT.mk yk yn ynm yla ylc yls yaa yac yus)
          let x15 : Nat × SV := (42, .agg (.v (.string cn) :: (TT.mk yk yn ynm yla ylc yls yaa yac yus).cells.map SA.v))
          let x16 : Nat × SV := (43, .one (.sl 4 0 1 1))
          let m16a : Nat × LB := (4, .cells 75 (.v (.string cn) :: (TT.mk yk yn ynm yla ylc yls yaa yac yus).cells.map SA.v))
          let x17 : Nat × SV := (44, .one (.row 5))
          let m17a : Nat × LB := (5, .own 75 6 (ys.length + 1) (ctsC ys ++ ctCells (cn, (TT.mk yk yn ynm yla ylc yls yaa yac yus))))
          let m17b : Nat × LB := (3, .dead)
          refine cgo_go ({ s := x14 :: x13 :: x12 :: x7 :: x6 :: x11 :: x5 :: h5S, m := h5M, k := 4, f := f14 :: h5F }) [15] rfl (by kernel_rfl) (by kernel_rfl) ⟨⟨rfl, rfl⟩, ⟨rfl, rfl⟩, ⟨rfl, trivial⟩, ⟨rfl, trivial⟩, ⟨rfl, trivial⟩, ⟨rfl, trivial⟩, ⟨rfl, trivial⟩, ⟨rfl, trivial⟩, ⟨rfl, rfl⟩, trivial⟩ ⟨?_, trivial⟩
          refine ⟨_, rfl, rfl, _, rfl, ?_⟩
          refine cgo_go ({ s := x15 :: x14 :: x13 :: x12 :: x7 :: x6 :: x11 :: x5 :: h5S, m := h5M, k := 4, f := f14 :: h5F }) [16] rfl (by kernel_rfl) (by kernel_rfl) ⟨⟨rfl, rfl⟩, ⟨rfl, rfl⟩, ⟨rfl, trivial⟩, ⟨rfl, trivial⟩, ⟨rfl, trivial⟩, ⟨rfl, trivial⟩, ⟨rfl, trivial⟩, ⟨rfl, trivial⟩, ⟨rfl, rfl⟩, trivial⟩ ⟨?_, trivial⟩
          refine ⟨_, rfl, rfl, _, rfl, ?_⟩
          refine cgo_go ({ s := x16 :: x15 :: x14 :: x13 :: x12 :: x7 :: x6 :: x11 :: x5 :: h5S, m := m16a :: h5M, k := 5, f := f14 :: h5F }) [17] rfl (by kernel_rfl) (by kernel_rfl) ⟨⟨rfl, rfl⟩, ⟨rfl, rfl⟩, ⟨rfl, trivial⟩, ⟨rfl, trivial⟩, ⟨rfl, trivial⟩, ⟨rfl, trivial⟩, ⟨rfl, trivial⟩, ⟨rfl, trivial⟩, ⟨rfl, rfl⟩, trivial⟩ ⟨?_, trivial⟩
          refine ⟨_, rfl, rfl, _, rfl, ?_⟩
          refine ⟨{}, ⟨trivial, by decide, .inr rfl, hfit1, hfit2⟩, ?_⟩
          refine cgo_go ({ s := x17 :: x16 :: x15 :: x14 :: x13 :: x12 :: x7 :: x6 :: x11 :: x5 :: h5S, m := m17a :: m17b :: m16a :: h5M, k := 6, f := f14 :: h5F }) [19] rfl (by kernel_rfl) (by kernel_rfl) ⟨⟨rfl, trivial⟩, ⟨rfl, trivial⟩, ⟨rfl, trivial⟩, ⟨rfl, trivial⟩, ⟨rfl, trivial⟩, ⟨rfl, trivial⟩, ⟨rfl, trivial⟩, ⟨rfl, trivial⟩, ⟨rfl, rfl⟩, trivial⟩ ⟨?_, trivial⟩
          refine ⟨_, rfl, rfl, _, rfl, ?_⟩
          refine cgo_end _ rfl (by kernel_rfl) ⟨⟨rfl, trivial⟩, ⟨rfl, trivial⟩, ⟨rfl, trivial⟩, ⟨rfl, trivial⟩, ⟨rfl, trivial⟩, ⟨rfl, trivial⟩, ⟨rfl, trivial⟩, ⟨rfl, trivial⟩, ⟨rfl, trivial⟩, trivial⟩ ?_
          exact ⟨ys ++ [(cn, (TT.mk yk yn ynm yla ylc yls yaa yac yus))], ⟨by simp only [List.length_append, List.length_singleton]; omega, by rw [hxm]; simp only [List.length_append, List.length_singleton]⟩, by simp only [List.length_append, List.length_singleton]; omega, ent_ren [(0, .blk 0), (1, .blk 1), (2, .blk 2), (3, .own 5)] rfl rfl rfl rfl (Nat.le_of_ble_eq_true rfl) ⟨⟨_, rfl, rfl⟩, ⟨_, rfl, rfl⟩, ⟨_, rfl, rfl⟩, ⟨_, rfl, by simp only [List.length_append, List.length_singleton]; exact oneI (wrapI (by omega) (by omega))⟩, trivial⟩ ⟨⟨_, rfl, rfl⟩, ⟨_, rfl, rfl⟩, ⟨_, rfl, rfl⟩, ⟨_, _, rfl, by simp, by simp [ctsC]⟩, trivial⟩ ⟨⟨cE.up _ _ _ _, fun w h => ⟨h.2.1.1, fun c hc2 => (List.mem_append.1 hc2).elim (h.2.1.2 c) (fun hc2 => by rw [List.mem_singleton.1 hc2]; exact ⟨h.1, (h.2.1.1.1.hcts _ _ hc).2.2⟩)⟩⟩, trivial⟩⟩
        · refine ⟨_, rfl, rfl, _, rfl, ?_⟩
          refine cgo_go ({ s := x12 :: x6 :: x11 :: x5 :: h5S, m := h5M, k := 4, f := h5F }) [7, 13] rfl (by kernel_rfl) (by kernel_rfl) ⟨⟨rfl, rfl⟩, ⟨rfl, rfl⟩, ⟨rfl, trivial⟩, ⟨rfl, trivial⟩, ⟨rfl, trivial⟩, ⟨rfl, trivial⟩, ⟨rfl, trivial⟩, ⟨rfl, trivial⟩, ⟨rfl, rfl⟩, trivial⟩ ⟨?_, ?_, trivial⟩
          · refine ⟨_, rfl, rfl, _, rfl, ?_⟩
            refine ⟨{ v := .string cn }, fun w h => ?_, ?_⟩
            · obtain ⟨⟨a, ha, h3⟩, _⟩ := h.1.1.1.hcts _ _ hc
              cases ha
              exact ⟨_, rfl, h3 0 _ rfl⟩
            refine cgo_go ({ s := x7 :: x12 :: x6 :: x11 :: x5 :: h5S, m := h5M, k := 4, f := h5F }) [13] rfl (by kernel_rfl) (by kernel_rfl) ⟨⟨rfl, rfl⟩, ⟨rfl, rfl⟩, ⟨rfl, trivial⟩, ⟨rfl, trivial⟩, ⟨rfl, trivial⟩, ⟨rfl, trivial⟩, ⟨rfl, trivial⟩, ⟨rfl, trivial⟩, ⟨rfl, rfl⟩, trivial⟩ ⟨?_, trivial⟩
            refine ⟨_, rfl, rfl, _, rfl, ?_⟩
            refine ⟨{ cs := (TT.mk uk un unm ula ulc uls uaa uac uus).cells }, ⟨TT.cells_one (TT.mk uk un unm ula ulc uls uaa uac uus), rfl, fun w h => ?_⟩, ?_⟩
            · obtain ⟨⟨a, ha, h3⟩, _⟩ := h.1.1.1.hcts _ _ hc
              cases ha
              exact ⟨_, rfl, ct_at h3⟩
            refine cgo_go ({ s := x13 :: x7 :: x12 :: x6 :: x11 :: x5 :: h5S, m := h5M, k := 4, f := h5F }) [14] rfl (by kernel_rfl) (by kernel_rfl) ⟨⟨rfl, rfl⟩, ⟨rfl, rfl⟩, ⟨rfl, trivial⟩, ⟨rfl, trivial⟩, ⟨rfl, trivial⟩, ⟨rfl, trivial⟩, ⟨rfl, trivial⟩, ⟨rfl, trivial⟩, ⟨rfl, rfl⟩, trivial⟩ ⟨?_, trivial⟩
            refine ⟨_, rfl, rfl, _, rfl, ?_⟩
            refine callVC_lend [] hcc rfl trivial rfl rfl (fun w h => (h.1.1.1.hcts _ _ hc).2.1) (fun x _ => ?_) (fun x hx => ?_)
            · obtain ⟨yk, yn, ynm, yla, ylc, yls, yaa, yac, yus⟩ := x
              exact ⟨rfl, rfl⟩
            have hxm := hstep x hx
            clear hx
            obtain ⟨yk, yn, ynm, yla, ylc, yls, yaa, yac, yus⟩ := x
            let x14 : Nat × SV := (41, ttA (TT.mk yk yn ynm yla ylc yls yaa yac yus))
            let f14 : World → Prop := fun w => TTIn w (TT.mk yk yn ynm yla ylc yls yaa yac yus)
            let x15 : Nat × SV := (42, .agg (.v (.string cn) :: (TT.mk yk yn ynm yla ylc yls yaa yac yus).cells.map SA.v))
            let x16 : Nat × SV := (43, .one (.sl 4 0 1 1))
            let m16a : Nat × LB := (4, .cells 75 (.v (.string cn) :: (TT.mk yk yn ynm yla ylc yls yaa yac yus).cells.map SA.v))
            let x17 : Nat × SV := (44, .one (.row 5))
            let m17a : Nat × LB := (5, .own 75 6 (ys.length + 1) (ctsC ys ++ ctCells (cn, (TT.mk yk yn ynm yla ylc yls yaa yac yus))))
            let m17b : Nat × LB := (3, .dead)
            refine cgo_go ({ s := x14 :: x13 :: x7 :: x12 :: x6 :: x11 :: x5 :: h5S, m := h5M, k := 4, f := f14 :: h5F }) [15] rfl (by kernel_rfl) (by kernel_rfl) ⟨⟨rfl, rfl⟩, ⟨rfl, rfl⟩, ⟨rfl, trivial⟩, ⟨rfl, trivial⟩, ⟨rfl, trivial⟩, ⟨rfl, trivial⟩, ⟨rfl, trivial⟩, ⟨rfl, trivial⟩, ⟨rfl, rfl⟩, trivial⟩ ⟨?_, trivial⟩
            refine ⟨_, rfl, rfl, _, rfl, ?_⟩
            refine cgo_go ({ s := x15 :: x14 :: x13 :: x7 :: x12 :: x6 :: x11 :: x5 :: h5S, m := h5M, k := 4, f := f14 :: h5F }) [16] rfl (by kernel_rfl) (by kernel_rfl) ⟨⟨rfl, rfl⟩, ⟨rfl, rfl⟩, ⟨rfl, trivial⟩, ⟨rfl, trivial⟩, ⟨rfl, trivial⟩, ⟨rfl, trivial⟩, ⟨rfl, trivial⟩, ⟨rfl, trivial⟩, ⟨rfl, rfl⟩, trivial⟩ ⟨?_, trivial⟩
            refine ⟨_, rfl, rfl, _, rfl, ?_⟩
            refine cgo_go ({ s := x16 :: x15 :: x14 :: x13 :: x7 :: x12 :: x6 :: x11 :: x5 :: h5S, m := m16a :: h5M, k := 5, f := f14 :: h5F }) [17] rfl (by kernel_rfl) (by kernel_rfl) ⟨⟨rfl, rfl⟩, ⟨rfl, rfl⟩, ⟨rfl, trivial⟩, ⟨rfl, trivial⟩, ⟨rfl, trivial⟩, ⟨rfl, trivial⟩, ⟨rfl, trivial⟩, ⟨rfl, trivial⟩, ⟨rfl, rfl⟩, trivial⟩ ⟨?_, trivial⟩
            refine ⟨_, rfl, rfl, _, rfl, ?_⟩
            refine ⟨{}, ⟨trivial, by decide, .inr rfl, hfit1, hfit2⟩, ?_⟩
            refine cgo_go ({ s := x17 :: x16 :: x15 :: x14 :: x13 :: x7 :: x12 :: x6 :: x11 :: x5 :: h5S, m := m17a :: m17b :: m16a :: h5M, k := 6, f := f14 :: h5F }) [19] rfl (by kernel_rfl) (by kernel_rfl) ⟨⟨rfl, trivial⟩, ⟨rfl, trivial⟩, ⟨rfl, trivial⟩, ⟨rfl, trivial⟩, ⟨rfl, trivial⟩, ⟨rfl, trivial⟩, ⟨rfl, trivial⟩, ⟨rfl, trivial⟩, ⟨rfl, rfl⟩, trivial⟩ ⟨?_, trivial⟩
            refine ⟨_, rfl, rfl, _, rfl, ?_⟩
            refine cgo_end _ rfl (by kernel_rfl) ⟨⟨rfl, trivial⟩, ⟨rfl, trivial⟩, ⟨rfl, trivial⟩, ⟨rfl, trivial⟩, ⟨rfl, trivial⟩, ⟨rfl, trivial⟩, ⟨rfl, trivial⟩, ⟨rfl, trivial⟩, ⟨rfl, trivial⟩, trivial⟩ ?_
            exact ⟨ys ++ [(cn, (TT.mk yk yn ynm yla ylc yls yaa yac yus))], ⟨by simp only [List.length_append, List.length_singleton]; omega, by rw [hxm]; simp only [List.length_append, List.length_singleton]⟩, by simp only [List.length_append, List.length_singleton]; omega, ent_ren [(0, .blk 0), (1, .blk 1), (2, .blk 2), (3, .own 5)] rfl rfl rfl rfl (Nat.le_of_ble_eq_true rfl) ⟨⟨_, rfl, rfl⟩, ⟨_, rfl, rfl⟩, ⟨_, rfl, rfl⟩, ⟨_, rfl, by simp only [List.length_append, List.length_singleton]; exact oneI (wrapI (by omega) (by omega))⟩, trivial⟩ ⟨⟨_, rfl, rfl⟩, ⟨_, rfl, rfl⟩, ⟨_, rfl, rfl⟩, ⟨_, _, rfl, by simp, by simp [ctsC]⟩, trivial⟩ ⟨⟨cE.up _ _ _ _, fun w h => ⟨h.2.1.1, fun c hc2 => (List.mem_append.1 hc2).elim (h.2.1.2 c) (fun hc2 => by rw [List.mem_singleton.1 hc2]; exact ⟨h.1, (h.2.1.1.1.hcts _ _ hc).2.2⟩)⟩⟩, trivial⟩⟩
          · refine ⟨_, rfl, rfl, _, rfl, ?_⟩
            refine ⟨{ cs := (TT.mk uk un unm ula ulc uls uaa uac uus).cells }, ⟨TT.cells_one (TT.mk uk un unm ula ulc uls uaa uac uus), rfl, fun w h => ?_⟩, ?_⟩
            · obtain ⟨⟨a, ha, h3⟩, _⟩ := h.1.1.1.hcts _ _ hc
              cases ha
              exact ⟨_, rfl, ct_at h3⟩
            refine cgo_go ({ s := x13 :: x12 :: x6 :: x11 :: x5 :: h5S, m := h5M, k := 4, f := h5F }) [7, 14] rfl (by kernel_rfl) (by kernel_rfl) ⟨⟨rfl, rfl⟩, ⟨rfl, rfl⟩, ⟨rfl, trivial⟩, ⟨rfl, trivial⟩, ⟨rfl, trivial⟩, ⟨rfl, trivial⟩, ⟨rfl, trivial⟩, ⟨rfl, trivial⟩, ⟨rfl, rfl⟩, trivial⟩ ⟨?_, ?_, trivial⟩
            · refine ⟨_, rfl, rfl, _, rfl, ?_⟩
              refine ⟨{ v := .string cn }, fun w h => ?_, ?_⟩
              · obtain ⟨⟨a, ha, h3⟩, _⟩ := h.1.1.1.hcts _ _ hc
                cases ha
                exact ⟨_, rfl, h3 0 _ rfl⟩
              refine cgo_go ({ s := x7 :: x13 :: x12 :: x6 :: x11 :: x5 :: h5S, m := h5M, k := 4, f := h5F }) [14] rfl (by kernel_rfl) (by kernel_rfl) ⟨⟨rfl, rfl⟩, ⟨rfl, rfl⟩, ⟨rfl, trivial⟩, ⟨rfl, trivial⟩, ⟨rfl, trivial⟩, ⟨rfl, trivial⟩, ⟨rfl, trivial⟩, ⟨rfl, trivial⟩, ⟨rfl, rfl⟩, trivial⟩ ⟨?_, trivial⟩
              refine ⟨_, rfl, rfl, _, rfl, ?_⟩
              refine callVC_lend [] hcc rfl trivial rfl rfl (fun w h => (h.1.1.1.hcts _ _ hc).2.1) (fun x _ => ?_) (fun x hx => ?_)
              · obtain ⟨yk, yn, ynm, yla, ylc, yls, yaa, yac, yus⟩ := x
                exact ⟨rfl, rfl⟩
              have hxm := hstep x hx
              clear hx
              obtain ⟨yk, yn, ynm, yla, ylc, yls, yaa, yac, yus⟩ := x
              let x14 : Nat × SV := (41, ttA (TT.mk yk yn ynm yla ylc yls yaa yac yus))
              let f14 : World → Prop := fun w => TTIn w (TT.mk yk yn ynm yla ylc yls yaa yac yus)
              let x15 : Nat × SV := (42, .agg (.v (.string cn) :: (TT.mk yk yn ynm yla ylc yls yaa yac yus).cells.map SA.v))
              let x16 : Nat × SV := (43, .one (.sl 4 0 1 1))
              let m16a : Nat × LB := (4, .cells 75 (.v (.string cn) :: (TT.mk yk yn ynm yla ylc yls yaa yac yus).cells.map SA.v))
              let x17 : Nat × SV := (44, .one (.row 5))
              let m17a : Nat × LB := (5, .own 75 6 (ys.length + 1) (ctsC ys ++ ctCells (cn, (TT.mk yk yn ynm yla ylc yls yaa yac yus))))
              let m17b : Nat × LB := (3, .dead)
              refine cgo_go ({ s := x14 :: x7 :: x13 :: x12 :: x6 :: x11 :: x5 :: h5S, m := h5M, k := 4, f := f14 :: h5F }) [15] rfl (by kernel_rfl) (by kernel_rfl) ⟨⟨rfl, rfl⟩, ⟨rfl, rfl⟩, ⟨rfl, trivial⟩, ⟨rfl, trivial⟩, ⟨rfl, trivial⟩, ⟨rfl, trivial⟩, ⟨rfl, trivial⟩, ⟨rfl, trivial⟩, ⟨rfl, rfl⟩, trivial⟩ ⟨?_, trivial⟩
              refine ⟨_, rfl, rfl, _, rfl, ?_⟩
              refine cgo_go ({ s := x15 :: x14 :: x7 :: x13 :: x12 :: x6 :: x11 :: x5 :: h5S, m := h5M, k := 4, f := f14 :: h5F }) [16] rfl (by kernel_rfl) (by kernel_rfl) ⟨⟨rfl, rfl⟩, ⟨rfl, rfl⟩, ⟨rfl, trivial⟩, ⟨rfl, trivial⟩, ⟨rfl, trivial⟩, ⟨rfl, trivial⟩, ⟨rfl, trivial⟩, ⟨rfl, trivial⟩, ⟨rfl, rfl⟩, trivial⟩ ⟨?_, trivial⟩
              refine ⟨_, rfl, rfl, _, rfl, ?_⟩
              refine cgo_go ({ s := x16 :: x15 :: x14 :: x7 :: x13 :: x12 :: x6 :: x11 :: x5 :: h5S, m := m16a :: h5M, k := 5, f := f14 :: h5F }) [17] rfl (by kernel_rfl) (by kernel_rfl) ⟨⟨rfl, rfl⟩, ⟨rfl, rfl⟩, ⟨rfl, trivial⟩, ⟨rfl, trivial⟩, ⟨rfl, trivial⟩, ⟨rfl, trivial⟩, ⟨rfl, trivial⟩, ⟨rfl, trivial⟩, ⟨rfl, rfl⟩, trivial⟩ ⟨?_, trivial⟩
              refine ⟨_, rfl, rfl, _, rfl, ?_⟩
              refine ⟨{}, ⟨trivial, by decide, .inr rfl, hfit1, hfit2⟩, ?_⟩
              refine cgo_go ({ s := x17 :: x16 :: x15 :: x14 :: x7 :: x13 :: x12 :: x6 :: x11 :: x5 :: h5S, m := m17a :: m17b :: m16a :: h5M, k := 6, f := f14 :: h5F }) [19] rfl (by kernel_rfl) (by kernel_rfl) ⟨⟨rfl, trivial⟩, ⟨rfl, trivial⟩, ⟨rfl, trivial⟩, ⟨rfl, trivial⟩, ⟨rfl, trivial⟩, ⟨rfl, trivial⟩, ⟨rfl, trivial⟩, ⟨rfl, trivial⟩, ⟨rfl, rfl⟩, trivial⟩ ⟨?_, trivial⟩
              refine ⟨_, rfl, rfl, _, rfl, ?_⟩
              refine cgo_end _ rfl (by kernel_rfl) ⟨⟨rfl, trivial⟩, ⟨rfl, trivial⟩, ⟨rfl, trivial⟩, ⟨rfl, trivial⟩, ⟨rfl, trivial⟩, ⟨rfl, trivial⟩, ⟨rfl, trivial⟩, ⟨rfl, trivial⟩, ⟨rfl, trivial⟩, trivial⟩ ?_
              exact ⟨ys ++ [(cn, (TT.mk yk yn ynm yla ylc yls yaa yac yus))], ⟨by simp only [List.length_append, List.length_singleton]; omega, by rw [hxm]; simp only [List.length_append, List.length_singleton]⟩, by simp only [List.length_append, List.length_singleton]; omega, ent_ren [(0, .blk 0), (1, .blk 1), (2, .blk 2), (3, .own 5)] rfl rfl rfl rfl (Nat.le_of_ble_eq_true rfl) ⟨⟨_, rfl, rfl⟩, ⟨_, rfl, rfl⟩, ⟨_, rfl, rfl⟩, ⟨_, rfl, by simp only [List.length_append, List.length_singleton]; exact oneI (wrapI (by omega) (by omega))⟩, trivial⟩ ⟨⟨_, rfl, rfl⟩, ⟨_, rfl, rfl⟩, ⟨_, rfl, rfl⟩, ⟨_, _, rfl, by simp, by simp [ctsC]⟩, trivial⟩ ⟨⟨cE.up _ _ _ _, fun w h => ⟨h.2.1.1, fun c hc2 => (List.mem_append.1 hc2).elim (h.2.1.2 c) (fun hc2 => by rw [List.mem_singleton.1 hc2]; exact ⟨h.1, (h.2.1.1.1.hcts _ _ hc).2.2⟩)⟩⟩, trivial⟩⟩
            · refine ⟨_, rfl, rfl, _, rfl, ?_⟩
              refine callVC_lend [] hcc rfl trivial rfl rfl (fun w h => (h.1.1.1.hcts _ _ hc).2.1) (fun x _ => ?_) (fun x hx => ?_)
              · obtain ⟨yk, yn, ynm, yla, ylc, yls, yaa, yac, yus⟩ := x
                exact ⟨rfl, rfl⟩
              have hxm := hstep x hx
              clear hx
              obtain ⟨yk, yn, ynm, yla, ylc, yls, yaa, yac, yus⟩ := x
              let x14 : Nat × SV := (41, ttA (TT.mk yk yn ynm yla ylc yls yaa yac yus))
              let f14 : World → Prop := fun w => TTIn w (TT.mk yk yn ynm yla ylc yls yaa yac yus)
              let x15 : Nat × SV := (42, .agg (.v (.string cn) :: (TT.mk yk yn ynm yla ylc yls yaa yac yus).cells.map SA.v))
              let x16 : Nat × SV := (43, .one (.sl 4 0 1 1))
              let m16a : Nat × LB := (4, .cells 75 (.v (.string cn) :: (TT.mk yk yn ynm yla ylc yls yaa yac yus).cells.map SA.v))
              let x17 : Nat × SV := (44, .one (.row 5))
              let m17a : Nat × LB := (5, .own 75 6 (ys.length + 1) (ctsC ys ++ ctCells (cn, (TT.mk yk yn ynm yla ylc yls yaa yac yus))))
              let m17b : Nat × LB := (3, .dead)
              refine cgo_go ({ s := x14 :: x13 :: x12 :: x6 :: x11 :: x5 :: h5S, m := h5M, k := 4, f := f14 :: h5F }) [7] rfl (by kernel_rfl) (by kernel_rfl) ⟨⟨rfl, rfl⟩, ⟨rfl, rfl⟩, ⟨rfl, trivial⟩, ⟨rfl, trivial⟩, ⟨rfl, trivial⟩, ⟨rfl, trivial⟩, ⟨rfl, trivial⟩, ⟨rfl, trivial⟩, ⟨rfl, rfl⟩, trivial⟩ ⟨?_, trivial⟩
              refine ⟨_, rfl, rfl, _, rfl, ?_⟩
              refine ⟨{ v := .string cn }, fun w h => ?_, ?_⟩
              · obtain ⟨⟨a, ha, h3⟩, _⟩ := h.2.1.1.1.hcts _ _ hc
                cases ha
                exact ⟨_, rfl, h3 0 _ rfl⟩
              refine cgo_go ({ s := x7 :: x14 :: x13 :: x12 :: x6 :: x11 :: x5 :: h5S, m := h5M, k := 4, f := f14 :: h5F }) [15] rfl (by kernel_rfl) (by kernel_rfl) ⟨⟨rfl, rfl⟩, ⟨rfl, rfl⟩, ⟨rfl, trivial⟩, ⟨rfl, trivial⟩, ⟨rfl, trivial⟩, ⟨rfl, trivial⟩, ⟨rfl, trivial⟩, ⟨rfl, trivial⟩, ⟨rfl, rfl⟩, trivial⟩ ⟨?_, trivial⟩
              refine ⟨_, rfl, rfl, _, rfl, ?_⟩
              refine cgo_go ({ s := x15 :: x7 :: x14 :: x13 :: x12 :: x6 :: x11 :: x5 :: h5S, m := h5M, k := 4, f := f14 :: h5F }) [16] rfl (by kernel_rfl) (by kernel_rfl) ⟨⟨rfl, rfl⟩, ⟨rfl, rfl⟩, ⟨rfl, trivial⟩, ⟨rfl, trivial⟩, ⟨rfl, trivial⟩, ⟨rfl, trivial⟩, ⟨rfl, trivial⟩, ⟨rfl, trivial⟩, ⟨rfl, rfl⟩, trivial⟩ ⟨?_, trivial⟩
              refine ⟨_, rfl, rfl, _, rfl, ?_⟩
              refine cgo_go ({ s := x16 :: x15 :: x7 :: x14 :: x13 :: x12 :: x6 :: x11 :: x5 :: h5S, m := m16a :: h5M, k := 5, f := f14 :: h5F }) [17] rfl (by kernel_rfl) (by kernel_rfl) ⟨⟨rfl, rfl⟩, ⟨rfl, rfl⟩, ⟨rfl, trivial⟩, ⟨rfl, trivial⟩, ⟨rfl, trivial⟩, ⟨rfl, trivial⟩, ⟨rfl, trivial⟩, ⟨rfl, trivial⟩, ⟨rfl, rfl⟩, trivial⟩ ⟨?_, trivial⟩
              refine ⟨_, rfl, rfl, _, rfl, ?_⟩
              refine ⟨{}, ⟨trivial, by decide, .inr rfl, hfit1, hfit2⟩, ?_⟩
              refine cgo_go ({ s := x17 :: x16 :: x15 :: x7 :: x14 :: x13 :: x12 :: x6 :: x11 :: x5 :: h5S, m := m17a :: m17b :: m16a :: h5M, k := 6, f := f14 :: h5F }) [19] rfl (by kernel_rfl) (by kernel_rfl) ⟨⟨rfl, trivial⟩, ⟨rfl, trivial⟩, ⟨rfl, trivial⟩, ⟨rfl, trivial⟩, ⟨rfl, trivial⟩, ⟨rfl, trivial⟩, ⟨rfl, trivial⟩, ⟨rfl, trivial⟩, ⟨rfl, rfl⟩, trivial⟩ ⟨?_, trivial⟩
              refine ⟨_, rfl, rfl, _, rfl, ?_⟩
              refine cgo_end _ rfl (by kernel_rfl) ⟨⟨rfl, trivial⟩, ⟨rfl, trivial⟩, ⟨rfl, trivial⟩, ⟨rfl, trivial⟩, ⟨rfl, trivial⟩, ⟨rfl, trivial⟩, ⟨rfl, trivial⟩, ⟨rfl, trivial⟩, ⟨rfl, trivial⟩, trivial⟩ ?_
              exact ⟨ys ++ [(cn, (TT.mk yk yn ynm yla ylc yls yaa yac yus))], ⟨by simp only [List.length_append, List.length_singleton]; omega, by rw [hxm]; simp only [List.length_append, List.length_singleton]⟩, by simp only [List.length_append, List.length_singleton]; omega, ent_ren [(0, .blk 0), (1, .blk 1), (2, .blk 2), (3, .own 5)] rfl rfl rfl rfl (Nat.le_of_ble_eq_true rfl) ⟨⟨_, rfl, rfl⟩, ⟨_, rfl, rfl⟩, ⟨_, rfl, rfl⟩, ⟨_, rfl, by simp only [List.length_append, List.length_singleton]; exact oneI (wrapI (by omega) (by omega))⟩, trivial⟩ ⟨⟨_, rfl, rfl⟩, ⟨_, rfl, rfl⟩, ⟨_, rfl, rfl⟩, ⟨_, _, rfl, by simp, by simp [ctsC]⟩, trivial⟩ ⟨⟨cE.up _ _ _ _, fun w h => ⟨h.2.1.1, fun c hc2 => (List.mem_append.1 hc2).elim (h.2.1.2 c) (fun hc2 => by rw [List.mem_singleton.1 hc2]; exact ⟨h.1, (h.2.1.1.1.hcts _ _ hc).2.2⟩)⟩⟩, trivial⟩⟩
      · refine ⟨_, rfl, rfl, _, rfl, ?_⟩
        refine cgo_go ({ s := x12 :: x11 :: x5 :: h5S, m := h5M, k := 4, f := h5F }) [6, 13] rfl (by kernel_rfl) (by kernel_rfl) ⟨⟨rfl, rfl⟩, ⟨rfl, rfl⟩, ⟨rfl, trivial⟩, ⟨rfl, trivial⟩, ⟨rfl, trivial⟩, ⟨rfl, trivial⟩, ⟨rfl, trivial⟩, ⟨rfl, trivial⟩, ⟨rfl, rfl⟩, trivial⟩ ⟨?_, ?_, trivial⟩
        · refine ⟨_, rfl, rfl, _, rfl, ?_⟩
          refine cgo_go ({ s := x6 :: x12 :: x11 :: x5 :: h5S, m := h5M, k := 4, f := h5F }) [7, 13] rfl (by kernel_rfl) (by kernel_rfl) ⟨⟨rfl, rfl⟩, ⟨rfl, rfl⟩, ⟨rfl, trivial⟩, ⟨rfl, trivial⟩, ⟨rfl, trivial⟩, ⟨rfl, trivial⟩, ⟨rfl, trivial⟩, ⟨rfl, trivial⟩, ⟨rfl, rfl⟩, trivial⟩ ⟨?_, ?_, trivial⟩
          · refine ⟨_, rfl, rfl, _, rfl, ?_⟩
            refine ⟨{ v := .string cn }, fun w h => ?_, ?_⟩
            · obtain ⟨⟨a, ha, h3⟩, _⟩ := h.1.1.1.hcts _ _ hc
              cases ha
              exact ⟨_, rfl, h3 0 _ rfl⟩
            refine cgo_go ({ s := x7 :: x6 :: x12 :: x11 :: x5 :: h5S, m := h5M, k := 4, f := h5F }) [13] rfl (by kernel_rfl) (by kernel_rfl) ⟨⟨rfl, rfl⟩, ⟨rfl, rfl⟩, ⟨rfl, trivial⟩, ⟨rfl, trivial⟩, ⟨rfl, trivial⟩, ⟨rfl, trivial⟩, ⟨rfl, trivial⟩, ⟨rfl, trivial⟩, ⟨rfl, rfl⟩, trivial⟩ ⟨?_, trivial⟩
            refine ⟨_, rfl, rfl, _, rfl, ?_⟩
            refine ⟨{ cs := (TT.mk uk un unm ula ulc uls uaa uac uus).cells }, ⟨TT.cells_one (TT.mk uk un unm ula ulc uls uaa uac uus), rfl, fun w h => ?_⟩, ?_⟩
            · obtain ⟨⟨a, ha, h3⟩, _⟩ := h.1.1.1.hcts _ _ hc
              cases ha
              exact ⟨_, rfl, ct_at h3⟩
            refine cgo_go ({ s := x13 :: x7 :: x6 :: x12 :: x11 :: x5 :: h5S, m := h5M, k := 4, f := h5F }) [14] rfl (by kernel_rfl) (by kernel_rfl) ⟨⟨rfl, rfl⟩, ⟨rfl, rfl⟩, ⟨rfl, trivial⟩, ⟨rfl, trivial⟩, ⟨rfl, trivial⟩, ⟨rfl, trivial⟩, ⟨rfl, trivial⟩, ⟨rfl, trivial⟩, ⟨rfl, rfl⟩, trivial⟩ ⟨?_, trivial⟩
            refine ⟨_, rfl, rfl, _, rfl, ?_⟩
            refine callVC_lend [] hcc rfl trivial rfl rfl (fun w h => (h.1.1.1.hcts _ _ hc).2.1) (fun x _ => ?_) (fun x hx => ?_)
            · obtain ⟨yk, yn, ynm, yla, ylc, yls, yaa, yac, yus⟩ := x
              exact ⟨rfl, rfl⟩
            have hxm := hstep x hx
            clear hx
            obtain ⟨yk, yn, ynm, yla, ylc, yls, yaa, yac, yus⟩ := x
            let x14 : Nat × SV := (41, ttA (TT.mk yk yn ynm yla ylc yls yaa yac yus))
            let f14 : World → Prop := fun w => TTIn w (TT.mk yk yn ynm yla ylc yls yaa yac yus)
            let x15 : Nat × SV := (42, .agg (.v (.string cn) :: (TT.mk yk yn ynm yla ylc yls yaa yac yus).cells.map SA.v))
            let x16 : Nat × SV := (43, .one (.sl 4 0 1 1))
            let m16a : Nat × LB := (4, .cells 75 (.v (.string cn) :: (TT.mk yk yn ynm yla ylc yls yaa yac yus).cells.map SA.v))
            let x17 : Nat × SV := (44, .one (.row 5))
            let m17a : Nat × LB := (5, .own 75 6 (ys.length + 1) (ctsC ys ++ ctCells (cn, (TT.mk yk yn ynm yla ylc yls yaa yac yus))))
            let m17b : Nat × LB := (3, .dead)
            refine cgo_go ({ s := x14 :: x13 :: x7 :: x6 :: x12 :: x11 :: x5 :: h5S, m := h5M, k := 4, f := f14 :: h5F }) [15] rfl (by kernel_rfl) (by kernel_rfl) ⟨⟨rfl, rfl⟩, ⟨rfl, rfl⟩, ⟨rfl, trivial⟩, ⟨rfl, trivial⟩, ⟨rfl, trivial⟩, ⟨rfl, trivial⟩, ⟨rfl, trivial⟩, ⟨rfl, trivial⟩, ⟨rfl, rfl⟩, trivial⟩ ⟨?_, trivial⟩
            refine ⟨_, rfl, rfl, _, rfl, ?_⟩
            refine cgo_go ({ s := x15 :: x14 :: x13 :: x7 :: x6 :: x12 :: x11 :: x5 :: h5S, m := h5M, k := 4, f := f14 :: h5F }) [16] rfl (by kernel_rfl) (by kernel_rfl) ⟨⟨rfl, rfl⟩, ⟨rfl, rfl⟩, ⟨rfl, trivial⟩, ⟨rfl, trivial⟩, ⟨rfl, trivial⟩, ⟨rfl, trivial⟩, ⟨rfl, trivial⟩, ⟨rfl, trivial⟩, ⟨rfl, rfl⟩, trivial⟩ ⟨?_, trivial⟩
            refine ⟨_, rfl, rfl, _, rfl, ?_⟩
            refine cgo_go ({ s := x16 :: x15 :: x14 :: x13 :: x7 :: x6 :: x12 :: x11 :: x5 :: h5S, m := m16a :: h5M, k := 5, f := f14 :: h5F }) [17] rfl (by kernel_rfl) (by kernel_rfl) ⟨⟨rfl, rfl⟩, ⟨rfl, rfl⟩, ⟨rfl, trivial⟩, ⟨rfl, trivial⟩, ⟨rfl, trivial⟩, ⟨rfl, trivial⟩, ⟨rfl, trivial⟩, ⟨rfl, trivial⟩, ⟨rfl, rfl⟩, trivial⟩ ⟨?_, trivial⟩
            refine ⟨_, rfl, rfl, _, rfl, ?_⟩
            refine ⟨{}, ⟨trivial, by decide, .inr rfl, hfit1, hfit2⟩, ?_⟩
            refine cgo_go ({ s := x17 :: x16 :: x15 :: x14 :: x13 :: x7 :: x6 :: x12 :: x11 :: x5 :: h5S, m := m17a :: m17b :: m16a :: h5M, k := 6, f := f14 :: h5F }) [19] rfl (by kernel_rfl) (by kernel_rfl) ⟨⟨rfl, trivial⟩, ⟨rfl, trivial⟩, ⟨rfl, trivial⟩, ⟨rfl, trivial⟩, ⟨rfl, trivial⟩, ⟨rfl, trivial⟩, ⟨rfl, trivial⟩, ⟨rfl, trivial⟩, ⟨rfl, rfl⟩, trivial⟩ ⟨?_, trivial⟩
            refine ⟨_, rfl, rfl, _, rfl, ?_⟩
            refine cgo_end _ rfl (by kernel_rfl) ⟨⟨rfl, trivial⟩, ⟨rfl, trivial⟩, ⟨rfl, trivial⟩, ⟨rfl, trivial⟩, ⟨rfl, trivial⟩, ⟨rfl, trivial⟩, ⟨rfl, trivial⟩, ⟨rfl, trivial⟩, ⟨rfl, trivial⟩, trivial⟩ ?_
            exact ⟨ys ++ [(cn, (TT.mk yk yn ynm yla ylc yls yaa yac yus))], ⟨by simp only [List.length_append, List.length_singleton]; omega, by rw [hxm]; simp only [List.length_append, List.length_singleton]⟩, by simp only [List.length_append, List.length_singleton]; omega, ent_ren [(0, .blk 0), (1, .blk 1), (2, .blk 2), (3, .own 5)] rfl rfl rfl rfl (Nat.le_of_ble_eq_true rfl) ⟨⟨_, rfl, rfl⟩, ⟨_, rfl, rfl⟩, ⟨_, rfl, rfl⟩, ⟨_, rfl, by simp only [List.length_append, List.length_singleton]; exact oneI (wrapI (by omega) (by omega))⟩, trivial⟩ ⟨⟨_, rfl, rfl⟩, ⟨_, rfl, rfl⟩, ⟨_, rfl, rfl⟩, ⟨_, _, rfl, by simp, by simp [ctsC]⟩, trivial⟩ ⟨⟨cE.up _ _ _ _, fun w h => ⟨h.2.1.1, fun c hc2 => (List.mem_append.1 hc2).elim (h.2.1.2 c) (fun hc2 => by rw [List.mem_singleton.1 hc2]; exact ⟨h.1, (h.2.1.1.1.hcts _ _ hc).2.2⟩)⟩⟩, trivial⟩⟩
          · refine ⟨_, rfl, rfl, _, rfl, ?_⟩
            refine ⟨{ cs := (TT.mk uk un unm ula ulc uls uaa uac uus).cells }, ⟨TT.cells_one (TT.mk uk un unm ula ulc uls uaa uac uus), rfl, fun w h => ?_⟩, ?_⟩
            · obtain ⟨⟨a, ha, h3⟩, _⟩ := h.1.1.1.hcts _ _ hc
              cases ha
              exact ⟨_, rfl, ct_at h3⟩
            refine cgo_go ({ s := x13 :: x6 :: x12 :: x11 :: x5 :: h5S, m := h5M, k := 4, f := h5F }) [7, 14] rfl (by kernel_rfl) (by kernel_rfl) ⟨⟨rfl, rfl⟩, ⟨rfl, rfl⟩, ⟨rfl, trivial⟩, ⟨rfl, trivial⟩, ⟨rfl, trivial⟩, ⟨rfl, trivial⟩, ⟨rfl, trivial⟩, ⟨rfl, trivial⟩, ⟨rfl, rfl⟩, trivial⟩ ⟨?_, ?_, trivial⟩
            · refine ⟨_, rfl, rfl, _, rfl, ?_⟩
              refine ⟨{ v := .string cn }, fun w h => ?_, ?_⟩
              · obtain ⟨⟨a, ha, h3⟩, _⟩ := h.1.1.1.hcts _ _ hc
                cases ha
                exact ⟨_, rfl, h3 0 _ rfl⟩
              refine cgo_go ({ s := x7 :: x13 :: x6 :: x12 :: x11 :: x5 :: h5S, m := h5M, k := 4, f := h5F }) [14] rfl (by kernel_rfl) (by kernel_rfl) ⟨⟨rfl, rfl⟩, ⟨rfl, rfl⟩, ⟨rfl, trivial⟩, ⟨rfl, trivial⟩, ⟨rfl, trivial⟩, ⟨rfl, trivial⟩, ⟨rfl, trivial⟩, ⟨rfl, trivial⟩, ⟨rfl, rfl⟩, trivial⟩ ⟨?_, trivial⟩
              refine ⟨_, rfl, rfl, _, rfl, ?_⟩
              refine callVC_lend [] hcc rfl trivial rfl rfl (fun w h => (h.1.1.1.hcts _ _ hc).2.1) (fun x _ => ?_) (fun x hx => ?_)
              · obtain ⟨yk, yn, ynm, yla, ylc, yls, yaa, yac, yus⟩ := x
                exact ⟨rfl, rfl⟩
              have hxm := hstep x hx
              clear hx
              obtain ⟨yk, yn, ynm, yla, ylc, yls, yaa, yac, yus⟩ := x
              let x14 : Nat × SV := (41, ttA (TT.mk yk yn ynm yla ylc yls yaa yac yus))
              let f14 : World → Prop := fun w => TTIn w (TT.mk yk yn ynm yla ylc yls yaa yac yus)
              let x15 : Nat × SV := (42, .agg (.v (.string cn) :: (TT.mk yk yn ynm yla ylc yls yaa yac yus).cells.map SA.v))
              let x16 : Nat × SV := (43, .one (.sl 4 0 1 1))
              let m16a : Nat × LB := (4, .cells 75 (.v (.string cn) :: (TT.mk yk yn ynm yla ylc yls yaa yac yus).cells.map SA.v))
              let x17 : Nat × SV := (44, .one (.row 5))
              let m17a : Nat × LB := (5, .own 75 6 (ys.length + 1) (ctsC ys ++ ctCells (cn, (TT.mk yk yn ynm yla ylc yls yaa yac yus))))
              let m17b : Nat × LB := (3, .dead)
              refine cgo_go ({ s := x14 :: x7 :: x13 :: x6 :: x12 :: x11 :: x5 :: h5S, m := h5M, k := 4, f := f14 :: h5F }) [15] rfl (by kernel_rfl) (by kernel_rfl) ⟨⟨rfl, rfl⟩, ⟨rfl, rfl⟩, ⟨rfl, trivial⟩, ⟨rfl, trivial⟩, ⟨rfl, trivial⟩, ⟨rfl, trivial⟩, ⟨rfl, trivial⟩, ⟨rfl, trivial⟩, ⟨rfl, rfl⟩, trivial⟩ ⟨?_, trivial⟩
              refine ⟨_, rfl, rfl, _, rfl, ?_⟩
              refine cgo_go ({ s := x15 :: x14 :: x7 :: x13 :: x6 :: x12 :: x11 :: x5 :: h5S, m := h5M, k := 4, f := f14 :: h5F }) [16] rfl (by kernel_rfl) (by kernel_rfl) ⟨⟨rfl, rfl⟩, ⟨rfl, rfl⟩, ⟨rfl, trivial⟩, ⟨rfl, trivial⟩, ⟨rfl, trivial⟩, ⟨rfl, trivial⟩, ⟨rfl, trivial⟩, ⟨rfl, trivial⟩, ⟨rfl, rfl⟩, trivial⟩ ⟨?_, trivial⟩
              refine ⟨_, rfl, rfl, _, rfl, ?_⟩
              refine cgo_go ({ s := x16 :: x15 :: x14 :: x7 :: x13 :: x6 :: x12 :: x11 :: x5 :: h5S, m := m16a :: h5M, k := 5, f := f14 :: h5F }) [17] rfl (by kernel_rfl) (by kernel_rfl) ⟨⟨rfl, rfl⟩, ⟨rfl, rfl⟩, ⟨rfl, trivial⟩, ⟨rfl, trivial⟩, ⟨rfl, trivial⟩, ⟨rfl, trivial⟩, ⟨rfl, trivial⟩, ⟨rfl, trivial⟩, ⟨rfl, rfl⟩, trivial⟩ ⟨?_, trivial⟩
              refine ⟨_, rfl, rfl, _, rfl, ?_⟩
              refine ⟨{}, ⟨trivial, by decide, .inr rfl, hfit1, hfit2⟩, ?_⟩
              refine cgo_go ({ s := x17 :: x16 :: x15 :: x14 :: x7 :: x13 :: x6 :: x12 :: x11 :: x5 :: h5S, m := m17a :: m17b :: m16a :: h5M, k := 6, f := f14 :: h5F }) [19] rfl (by kernel_rfl) (by kernel_rfl) ⟨⟨rfl, trivial⟩, ⟨rfl, trivial⟩, ⟨rfl, trivial⟩, ⟨rfl, trivial⟩, ⟨rfl, trivial⟩, ⟨rfl, trivial⟩, ⟨rfl, trivial⟩, ⟨rfl, trivial⟩, ⟨rfl, rfl⟩, trivial⟩ ⟨?_, trivial⟩
              refine ⟨_, rfl, rfl, _, rfl, ?_⟩
              refine cgo_end _ rfl (by kernel_rfl) ⟨⟨rfl, trivial⟩, ⟨rfl, trivial⟩, ⟨rfl, trivial⟩, ⟨rfl, trivial⟩, ⟨rfl, trivial⟩, ⟨rfl, trivial⟩, ⟨rfl, trivial⟩, ⟨rfl, trivial⟩, ⟨rfl, trivial⟩, trivial⟩ ?_
              exact ⟨ys ++ [(cn, (TT.mk yk yn ynm yla ylc yls yaa yac yus))], ⟨by simp only [List.length_append, List.length_singleton]; omega, by rw [hxm]; simp only [List.length_append, List.length_singleton]⟩, by simp only [List.length_append, List.length_singleton]; omega, ent_ren [(0, .blk 0), (1, .blk 1), (2, .blk 2), (3, .own 5)] rfl rfl rfl rfl (Nat.le_of_ble_eq_true rfl) ⟨⟨_, rfl, rfl⟩, ⟨_, rfl, rfl⟩, ⟨_, rfl, rfl⟩, ⟨_, rfl, by simp only [List.length_append, List.length_singleton]; exact oneI (wrapI (by omega) (by omega))⟩, trivial⟩ ⟨⟨_, rfl, rfl⟩, ⟨_, rfl, rfl⟩, ⟨_, rfl, rfl⟩, ⟨_, _, rfl, by simp, by simp [ctsC]⟩, trivial⟩ ⟨⟨cE.up _ _ _ _, fun w h => ⟨h.2.1.1, fun c hc2 => (List.mem_append.1 hc2).elim (h.2.1.2 c) (fun hc2 => by rw [List.mem_singleton.1 hc2]; exact ⟨h.1, (h.2.1.1.1.hcts _ _ hc).2.2⟩)⟩⟩, trivial⟩⟩
            · refine ⟨_, rfl, rfl, _, rfl, ?_⟩
              refine callVC_lend [] hcc rfl trivial rfl rfl (fun w h => (h.1.1.1.hcts _ _ hc).2.1) (fun x _ => ?_) (fun x hx => ?_)
              · obtain ⟨yk, yn, ynm, yla, ylc, yls, yaa, yac, yus⟩ := x
                exact ⟨rfl, rfl⟩
              have hxm := hstep x hx
              clear hx
              obtain ⟨yk, yn, ynm, yla, ylc, yls, yaa, yac, yus⟩ := x
              let x14 : Nat × SV := (41, ttA (TT.mk yk yn ynm yla ylc yls yaa yac yus))
              let f14 : World → Prop := fun w => TTIn w (TT.mk yk yn ynm yla ylc yls yaa yac yus)
              let x15 : Nat × SV := (42, .agg (.v (.string cn) :: (TT.mk yk yn ynm yla ylc yls yaa yac yus).cells.map SA.v))
              let x16 : Nat × SV := (43, .one (.sl 4 0 1 1))
              let m16a : Nat × LB := (4, .cells 75 (.v (.string cn) :: (TT.mk yk yn ynm yla ylc yls yaa yac yus).cells.map SA.v))
              let x17 : Nat × SV := (44, .one (.row 5))
              let m17a : Nat × LB := (5, .own 75 6 (ys.length + 1) (ctsC ys ++ ctCells (cn, (TT.mk yk yn ynm yla ylc yls yaa yac yus))))
              let m17b : Nat × LB := (3, .dead)
              refine cgo_go ({ s := x14 :: x13 :: x6 :: x12 :: x11 :: x5 :: h5S, m := h5M, k := 4, f := f14 :: h5F }) [7] rfl (by kernel_rfl) (by kernel_rfl) ⟨⟨rfl, rfl⟩, ⟨rfl, rfl⟩, ⟨rfl, trivial⟩, ⟨rfl, trivial⟩, ⟨rfl, trivial⟩, ⟨rfl, trivial⟩, ⟨rfl, trivial⟩, ⟨rfl, trivial⟩, ⟨rfl, rfl⟩, trivial⟩ ⟨?_, trivial⟩
              refine ⟨_, rfl, rfl, _, rfl, ?_⟩
              refine ⟨{ v := .string cn }, fun w h => ?_, ?_⟩
              · obtain ⟨⟨a, ha, h3⟩, _⟩ := h.2.1.1.1.hcts _ _ hc
                cases ha
                exact ⟨_, rfl, h3 0 _ rfl⟩
              refine cgo_go ({ s := x7 :: x14 :: x13 :: x6 :: x12 :: x11 :: x5 :: h5S, m := h5M, k := 4, f := f14 :: h5F }) [15] rfl (by kernel_rfl) (by kernel_rfl) ⟨⟨rfl, rfl⟩, ⟨rfl, rfl⟩, ⟨rfl, trivial⟩, ⟨rfl, trivial⟩, ⟨rfl, trivial⟩, ⟨rfl, trivial⟩, ⟨rfl, trivial⟩, ⟨rfl, trivial⟩, ⟨rfl, rfl⟩, trivial⟩ ⟨?_, trivial⟩
              refine ⟨_, rfl, rfl, _, rfl, ?_⟩
              refine cgo_go ({ s := x15 :: x7 :: x14 :: x13 :: x6 :: x12 :: x11 :: x5 :: h5S, m := h5M, k := 4, f := f14 :: h5F }) [16] rfl (by kernel_rfl) (by kernel_rfl) ⟨⟨rfl, rfl⟩, ⟨rfl, rfl⟩, ⟨rfl, trivial⟩, ⟨rfl, trivial⟩, ⟨rfl, trivial⟩, ⟨rfl, trivial⟩, ⟨rfl, trivial⟩, ⟨rfl, trivial⟩, ⟨rfl, rfl⟩, trivial⟩ ⟨?_, trivial⟩
              refine ⟨_, rfl, rfl, _, rfl, ?_⟩
              refine cgo_go ({ s := x16 :: x15 :: x7 :: x14 :: x13 :: x6 :: x12 :: x11 :: x5 :: h5S, m := m16a :: h5M, k := 5, f := f14 :: h5F }) [17] rfl (by kernel_rfl) (by kernel_rfl) ⟨⟨rfl, rfl⟩, ⟨rfl, rfl⟩, ⟨rfl, trivial⟩, ⟨rfl, trivial⟩, ⟨rfl, trivial⟩, ⟨rfl, trivial⟩, ⟨rfl, trivial⟩, ⟨rfl, trivial⟩, ⟨rfl, rfl⟩, trivial⟩ ⟨?_, trivial⟩
              refine ⟨_, rfl, rfl, _, rfl, ?_⟩
              refine ⟨{}, ⟨trivial, by decide, .inr rfl, hfit1, hfit2⟩, ?_⟩
              refine cgo_go ({ s := x17 :: x16 :: x15 :: x7 :: x14 :: x13 :: x6 :: x12 :: x11 :: x5 :: h5S, m := m17a :: m17b :: m16a :: h5M, k := 6, f := f14 :: h5F }) [19] rfl (by kernel_rfl) (by kernel_rfl) ⟨⟨rfl, trivial⟩, ⟨rfl, trivial⟩, ⟨rfl, trivial⟩, ⟨rfl, trivial⟩, ⟨rfl, trivial⟩, ⟨rfl, trivial⟩, ⟨rfl, trivial⟩, ⟨rfl, trivial⟩, ⟨rfl, rfl⟩, trivial⟩ ⟨?_, trivial⟩
              refine ⟨_, rfl, rfl, _, rfl, ?_⟩
              refine cgo_end _ rfl (by kernel_rfl) ⟨⟨rfl, trivial⟩, ⟨rfl, trivial⟩, ⟨rfl, trivial⟩, ⟨rfl, trivial⟩, ⟨rfl, trivial⟩, ⟨rfl, trivial⟩, ⟨rfl, trivial⟩, ⟨rfl, trivial⟩, ⟨rfl, trivial⟩, trivial⟩ ?_
              exact ⟨ys ++ [(cn, (TT.mk yk yn ynm yla ylc yls yaa yac yus))], ⟨by simp only [List.length_append, List.length_singleton]; omega, by rw [hxm]; simp only [List.length_append, List.length_singleton]⟩, by simp only [List.length_append, List.length_singleton]; omega, ent_ren [(0, .blk 0), (1, .blk 1), (2, .blk 2), (3, .own 5)] rfl rfl rfl rfl (Nat.le_of_ble_eq_true rfl) ⟨⟨_, rfl, rfl⟩, ⟨_, rfl, rfl⟩, ⟨_, rfl, rfl⟩, ⟨_, rfl, by simp only [List.length_append, List.length_singleton]; exact oneI (wrapI (by omega) (by omega))⟩, trivial⟩ ⟨⟨_, rfl, rfl⟩, ⟨_, rfl, rfl⟩, ⟨_, rfl, rfl⟩, ⟨_, _, rfl, by simp, by simp [ctsC]⟩, trivial⟩ ⟨⟨cE.up _ _ _ _, fun w h => ⟨h.2.1.1, fun c hc2 => (List.mem_append.1 hc2).elim (h.2.1.2 c) (fun hc2 => by rw [List.mem_singleton.1 hc2]; exact ⟨h.1, (h.2.1.1.1.hcts _ _ hc).2.2⟩)⟩⟩, trivial⟩⟩
        · refine ⟨_, rfl, rfl, _, rfl, ?_⟩
          refine ⟨{ cs := (TT.mk uk un unm ula ulc uls uaa uac uus).cells }, ⟨TT.cells_one (TT.mk uk un unm ula ulc uls uaa uac uus), rfl, fun w h => ?_⟩, ?_⟩
          · obtain ⟨⟨a, ha, h3⟩, _⟩ := h.1.1.1.hcts _ _ hc
            cases ha
            exact ⟨_, rfl, ct_at h3⟩
          refine cgo_go ({ s := x13 :: x12 :: x11 :: x5 :: h5S, m := h5M, k := 4, f := h5F }) [6, 14] rfl (by kernel_rfl) (by kernel_rfl) ⟨⟨rfl, rfl⟩, ⟨rfl, rfl⟩, ⟨rfl, trivial⟩, ⟨rfl, trivial⟩, ⟨rfl, trivial⟩, ⟨rfl, trivial⟩, ⟨rfl, trivial⟩, ⟨rfl, trivial⟩, ⟨rfl, rfl⟩, trivial⟩ ⟨?_, ?_, trivial⟩
          · refine ⟨_, rfl, rfl, _, rfl, ?_⟩
            refine cgo_go ({ s := x6 :: x13 :: x12 :: x11 :: x5 :: h5S, m := h5M, k := 4, f := h5F }) [7, 14] rfl (by kernel_rfl) (by kernel_rfl) ⟨⟨rfl, rfl⟩, ⟨rfl, rfl⟩, ⟨rfl, trivial⟩, ⟨rfl, trivial⟩, ⟨rfl, trivial⟩, ⟨rfl, trivial⟩, ⟨rfl, trivial⟩, ⟨rfl, trivial⟩, ⟨rfl, rfl⟩, trivial⟩ ⟨?_, ?_, trivial⟩
            · refine ⟨_, rfl, rfl, _, rfl, ?_⟩
              refine ⟨{ v := .string cn }, fun w h => ?_, ?_⟩
              · obtain ⟨⟨a, ha, h3⟩, _⟩ := h.1.1.1.hcts _ _ hc
                cases ha
                exact ⟨_, rfl, h3 0 _ rfl⟩
              refine cgo_go ({ s := x7 :: x6 :: x13 :: x12 :: x11 :: x5 :: h5S, m := h5M, k := 4, f := h5F }) [14] rfl (by kernel_rfl) (by kernel_rfl) ⟨⟨rfl, rfl⟩, ⟨rfl, rfl⟩, ⟨rfl, trivial⟩, ⟨rfl, trivial⟩, ⟨rfl, trivial⟩, ⟨rfl, trivial⟩, ⟨rfl, trivial⟩, ⟨rfl, trivial⟩, ⟨rfl, rfl⟩, trivial⟩ ⟨?_, trivial⟩
              refine ⟨_, rfl, rfl, _, rfl, ?_⟩
              refine callVC_lend [] hcc rfl trivial rfl rfl (fun w h => (h.1.1.1.hcts _ _ hc).2.1) (fun x _ => ?_) (fun x hx => ?_)
              · obtain ⟨yk, yn, ynm, yla, ylc, yls, yaa, yac, yus⟩ := x
                exact ⟨rfl, rfl⟩
              have hxm := hstep x hx
              clear hx
              obtain ⟨yk, yn, ynm, yla, ylc, yls, yaa, yac, yus⟩ := x
              let x14 : Nat × SV := (41, ttA (TT.mk yk yn ynm yla ylc yls yaa yac yus))
              let f14 : World → Prop := fun w => TTIn w (TT.mk yk yn ynm yla ylc yls yaa yac yus)
              let x15 : Nat × SV := (42, .agg (.v (.string cn) :: (TT.mk yk yn ynm yla ylc yls yaa yac yus).cells.map SA.v))
              let x16 : Nat × SV := (43, .one (.sl 4 0 1 1))
              let m16a : Nat × LB := (4, .cells 75 (.v (.string cn) :: (TT.mk yk yn ynm yla ylc yls yaa yac yus).cells.map SA.v))
              let x17 : Nat × SV := (44, .one (.row 5))
              let m17a : Nat × LB := (5, .own 75 6 (ys.length + 1) (ctsC ys ++ ctCells (cn, (TT.mk yk yn ynm yla ylc yls yaa yac yus))))
              let m17b : Nat × LB := (3, .dead)
              refine cgo_go ({ s := x14 :: x7 :: x6 :: x13 :: x12 :: x11 :: x5 :: h5S, m := h5M, k := 4, f := f14 :: h5F }) [15] rfl (by kernel_rfl) (by kernel_rfl) ⟨⟨rfl, rfl⟩, ⟨rfl, rfl⟩, ⟨rfl, trivial⟩, ⟨rfl, trivial⟩, ⟨rfl, trivial⟩, ⟨rfl, trivial⟩, ⟨rfl, trivial⟩, ⟨rfl, trivial⟩, ⟨rfl, rfl⟩, trivial⟩ ⟨?_, trivial⟩
              refine ⟨_, rfl, rfl, _, rfl, ?_⟩
              refine cgo_go ({ s := x15 :: x14 :: x7 :: x6 :: x13 :: x12 :: x11 :: x5 :: h5S, m := h5M, k := 4, f := f14 :: h5F }) [16] rfl (by kernel_rfl) (by kernel_rfl) ⟨⟨rfl, rfl⟩, ⟨rfl, rfl⟩, ⟨rfl, trivial⟩, ⟨rfl, trivial⟩, ⟨rfl, trivial⟩, ⟨rfl, trivial⟩, ⟨rfl, trivial⟩, ⟨rfl, trivial⟩, ⟨rfl, rfl⟩, trivial⟩ ⟨?_, trivial⟩
              refine ⟨_, rfl, rfl, _, rfl, ?_⟩
              refine cgo_go ({ s := x16 :: x15 :: x14 :: x7 :: x6 :: x13 :: x12 :: x11 :: x5 :: h5S, m := m16a :: h5M, k := 5, f := f14 :: h5F }) [17] rfl (by kernel_rfl) (by kernel_rfl) ⟨⟨rfl, rfl⟩, ⟨rfl, rfl⟩, ⟨rfl, trivial⟩, ⟨rfl, trivial⟩, ⟨rfl, trivial⟩, ⟨rfl, trivial⟩, ⟨rfl, trivial⟩, ⟨rfl, trivial⟩, ⟨rfl, rfl⟩, trivial⟩ ⟨?_, trivial⟩
              refine ⟨_, rfl, rfl, _, rfl, ?_⟩
              refine ⟨{}, ⟨trivial, by decide, .inr rfl, hfit1, hfit2⟩, ?_⟩
              refine cgo_go ({ s := x17 :: x16 :: x15 :: x14 :: x7 :: x6 :: x13 :: x12 :: x11 :: x5 :: h5S, m := m17a :: m17b :: m16a :: h5M, k := 6, f := f14 :: h5F }) [19] rfl (by kernel_rfl) (by kernel_rfl) ⟨⟨rfl, trivial⟩, ⟨rfl, trivial⟩, ⟨rfl, trivial⟩, ⟨rfl, trivial⟩, ⟨rfl, trivial⟩, ⟨rfl, trivial⟩, ⟨rfl, trivial⟩, ⟨rfl, trivial⟩, ⟨rfl, rfl⟩, trivial⟩ ⟨?_, trivial⟩
              refine ⟨_, rfl, rfl, _, rfl, ?_⟩
              refine cgo_end _ rfl (by kernel_rfl) ⟨⟨rfl, trivial⟩, ⟨rfl, trivial⟩, ⟨rfl, trivial⟩, ⟨rfl, trivial⟩, ⟨rfl, trivial⟩, ⟨rfl, trivial⟩, ⟨rfl, trivial⟩, ⟨rfl, trivial⟩, ⟨rfl, trivial⟩, trivial⟩ ?_
              exact ⟨ys ++ [(cn, (TT.mk yk yn ynm yla ylc yls yaa yac yus))], ⟨by simp only [List.length_append, List.length_singleton]; omega, by rw [hxm]; simp only [List.length_append, List.length_singleton]⟩, by simp only [List.length_append, List.length_singleton]; omega, ent_ren [(0, .blk 0), (1, .blk 1), (2, .blk 2), (3, .own 5)] rfl rfl rfl rfl (Nat.le_of_ble_eq_true rfl) ⟨⟨_, rfl, rfl⟩, ⟨_, rfl, rfl⟩, ⟨_, rfl, rfl⟩, ⟨_, rfl, by simp only [List.length_append, List.length_singleton]; exact oneI (wrapI (by omega) (by omega))⟩, trivial⟩ ⟨⟨_, rfl, rfl⟩, ⟨_, rfl, rfl⟩, ⟨_, rfl, rfl⟩, ⟨_, _, rfl, by simp, by simp [ctsC]⟩, trivial⟩ ⟨⟨cE.up _ _ _ _, fun w h => ⟨h.2.1.1, fun c hc2 => (List.mem_append.1 hc2).elim (h.2.1.2 c) (fun hc2 => by rw [List.mem_singleton.1 hc2]; exact ⟨h.1, (h.2.1.1.1.hcts _ _ hc).2.2⟩)⟩⟩, trivial⟩⟩
            · refine ⟨_, rfl, rfl, _, rfl, ?_⟩
              refine callVC_lend [] hcc rfl trivial rfl rfl (fun w h => (h.1.1.1.hcts _ _ hc).2.1) (fun x _ => ?_) (fun x hx => ?_)
              · obtain ⟨yk, yn, ynm, yla, ylc, yls, yaa, yac, yus⟩ := x
                exact ⟨rfl, rfl⟩
              have hxm := hstep x hx
              clear hx
              obtain ⟨yk, yn, ynm, yla, ylc, yls, yaa, yac, yus⟩ := x
              let x14 : Nat × SV := (41, ttA (TT.mk yk yn ynm yla ylc yls yaa yac yus))
              let f14 : World → Prop := fun w => TTIn w (TT.mk yk yn ynm yla ylc yls yaa yac yus)
              let x15 : Nat × SV := (42, .agg (.v (.string cn) :: (TT.mk yk yn ynm yla ylc yls yaa yac yus).cells.map SA.v))
              let x16 : Nat × SV := (43, .one (.sl 4 0 1 1))
              let m16a : Nat × LB := (4, .cells 75 (.v (.string cn) :: (TT.mk yk yn ynm yla ylc yls yaa yac yus).cells.map SA.v))
              let x17 : Nat × SV := (44, .one (.row 5))
              let m17a : Nat × LB := (5, .own 75 6 (ys.length + 1) (ctsC ys ++ ctCells (cn, (TT.mk yk yn ynm yla ylc yls yaa yac yus))))
              let m17b : Nat × LB := (3, .dead)
              refine cgo_go ({ s := x14 :: x6 :: x13 :: x12 :: x11 :: x5 :: h5S, m := h5M, k := 4, f := f14 :: h5F }) [7] rfl (by kernel_rfl) (by kernel_rfl) ⟨⟨rfl, rfl⟩, ⟨rfl, rfl⟩, ⟨rfl, trivial⟩, ⟨rfl, trivial⟩, ⟨rfl, trivial⟩, ⟨rfl, trivial⟩, ⟨rfl, trivial⟩, ⟨rfl, trivial⟩, ⟨rfl, rfl⟩, trivial⟩ ⟨?_, trivial⟩
              refine ⟨_, rfl, rfl, _, rfl, ?_⟩
              refine ⟨{ v := .string cn }, fun w h => ?_, ?_⟩
              · obtain ⟨⟨a, ha, h3⟩, _⟩ := h.2.1.1.1.hcts _ _ hc
                cases ha
                exact ⟨_, rfl, h3 0 _ rfl⟩
              refine cgo_go ({ s := x7 :: x14 :: x6 :: x13 :: x12 :: x11 :: x5 :: h5S, m := h5M, k := 4, f := f14 :: h5F }) [15] rfl (by kernel_rfl) (by kernel_rfl) ⟨⟨rfl, rfl⟩, ⟨rfl, rfl⟩, ⟨rfl, trivial⟩, ⟨rfl, trivial⟩, ⟨rfl, trivial⟩, ⟨rfl, trivial⟩, ⟨rfl, trivial⟩, ⟨rfl, trivial⟩, ⟨rfl, rfl⟩, trivial⟩ ⟨?_, trivial⟩
              refine ⟨_, rfl, rfl, _, rfl, ?_⟩
              refine cgo_go ({ s := x15 :: x7 :: x14 :: x6 :: x13 :: x12 :: x11 :: x5 :: h5S, m := h5M, k := 4, f := f14 :: h5F }) [16] rfl (by kernel_rfl) (by kernel_rfl) ⟨⟨rfl, rfl⟩, ⟨rfl, rfl⟩, ⟨rfl, trivial⟩, ⟨rfl, trivial⟩, ⟨rfl, trivial⟩, ⟨rfl, trivial⟩, ⟨rfl, trivial⟩, ⟨rfl, trivial⟩, ⟨rfl, rfl⟩, trivial⟩ ⟨?_, trivial⟩
              refine ⟨_, rfl, rfl, _, rfl, ?_⟩
              refine cgo_go ({ s := x16 :: x15 :: x7 :: x14 :: x6 :: x13 :: x12 :: x11 :: x5 :: h5S, m := m16a :: h5M, k := 5, f := f14 :: h5F }) [17] rfl (by kernel_rfl) (by kernel_rfl) ⟨⟨rfl, rfl⟩, ⟨rfl, rfl⟩, ⟨rfl, trivial⟩, ⟨rfl, trivial⟩, ⟨rfl, trivial⟩, ⟨rfl, trivial⟩, ⟨rfl, trivial⟩, ⟨rfl, trivial⟩, ⟨rfl, rfl⟩, trivial⟩ ⟨?_, trivial⟩
              refine ⟨_, rfl, rfl, _, rfl, ?_⟩
              refine ⟨{}, ⟨trivial, by decide, .inr rfl, hfit1, hfit2⟩, ?_⟩
              refine cgo_go ({ s := x17 :: x16 :: x15 :: x7 :: x14 :: x6 :: x13 :: x12 :: x11 :: x5 :: h5S, m := m17a :: m17b :: m16a :: h5M, k := 6, f := f14 :: h5F }) [19] rfl (by kernel_rfl) (by kernel_rfl) ⟨⟨rfl, trivial⟩, ⟨rfl, trivial⟩, ⟨rfl, trivial⟩, ⟨rfl, trivial⟩, ⟨rfl, trivial⟩, ⟨rfl, trivial⟩, ⟨rfl, trivial⟩, ⟨rfl, trivial⟩, ⟨rfl, rfl⟩, trivial⟩ ⟨?_, trivial⟩
              refine ⟨_, rfl, rfl, _, rfl, ?_⟩
              refine cgo_end _ rfl (by kernel_rfl) ⟨⟨rfl, trivial⟩, ⟨rfl, trivial⟩, ⟨rfl, trivial⟩, ⟨rfl, trivial⟩, ⟨rfl, trivial⟩, ⟨rfl, trivial⟩, ⟨rfl, trivial⟩, ⟨rfl, trivial⟩, ⟨rfl, trivial⟩, trivial⟩ ?_
              exact ⟨ys ++ [(cn, (TT.mk yk yn ynm yla ylc yls yaa yac yus))], ⟨by simp only [List.length_append, List.length_singleton]; omega, by rw [hxm]; simp only [List.length_append, List.length_singleton]⟩, by simp only [List.length_append, List.length_singleton]; omega, ent_ren [(0, .blk 0), (1, .blk 1), (2, .blk 2), (3, .own 5)] rfl rfl rfl rfl (Nat.le_of_ble_eq_true rfl) ⟨⟨_, rfl, rfl⟩, ⟨_, rfl, rfl⟩, ⟨_, rfl, rfl⟩, ⟨_, rfl, by simp only [List.length_append, List.length_singleton]; exact oneI (wrapI (by omega) (by omega))⟩, trivial⟩ ⟨⟨_, rfl, rfl⟩, ⟨_, rfl, rfl⟩, ⟨_, rfl, rfl⟩, ⟨_, _, rfl, by simp, by simp [ctsC]⟩, trivial⟩ ⟨⟨cE.up _ _ _ _, fun w h => ⟨h.2.1.1, fun c hc2 => (List.mem_append.1 hc2).elim (h.2.1.2 c) (fun hc2 => by rw [List.mem_singleton.1 hc2]; exact ⟨h.1, (h.2.1.1.1.hcts _ _ hc).2.2⟩)⟩⟩, trivial⟩⟩
          · refine ⟨_, rfl, rfl, _, rfl, ?_⟩
            refine callVC_lend [] hcc rfl trivial rfl rfl (fun w h => (h.1.1.1.hcts _ _ hc).2.1) (fun x _ => ?_) (fun x hx => ?_)
            · obtain ⟨yk, yn, ynm, yla, ylc, yls, yaa, yac, yus⟩ := x
              exact ⟨rfl, rfl⟩
            have hxm := hstep x hx
            clear hx
            obtain ⟨yk, yn, ynm, yla, ylc, yls, yaa, yac, yus⟩ := x
            let x14 : Nat × SV := (41, ttA (TT.mk yk yn ynm yla ylc yls yaa yac yus))
            let f14 : World → Prop := fun w => TTIn w (TT.mk yk yn ynm yla ylc yls yaa yac yus)
            let x15 : Nat × SV := (42, .agg (.v (.string cn) :: (TT.mk yk yn ynm yla ylc yls yaa yac yus).cells.map SA.v))
            let x16 : Nat × SV := (43, .one (.sl 4 0 1 1))
            let m16a : Nat × LB := (4, .cells 75 (.v (.string cn) :: (TT.mk yk yn ynm yla ylc yls yaa yac yus).cells.map SA.v))
            let x17 : Nat × SV := (44, .one (.row 5))
            let m17a : Nat × LB := (5, .own 75 6 (ys.length + 1) (ctsC ys ++ ctCells (cn, (TT.mk yk yn ynm yla ylc yls yaa yac yus))))
            let m17b : Nat × LB := (3, .dead)
            refine cgo_go ({ s := x14 :: x13 :: x12 :: x11 :: x5 :: h5S, m := h5M, k := 4, f := f14 :: h5F }) [6] rfl (by kernel_rfl) (by kernel_rfl) ⟨⟨rfl, rfl⟩, ⟨rfl, rfl⟩, ⟨rfl, trivial⟩, ⟨rfl, trivial⟩, ⟨rfl, trivial⟩, ⟨rfl, trivial⟩, ⟨rfl, trivial⟩, ⟨rfl, trivial⟩, ⟨rfl, rfl⟩, trivial⟩ ⟨?_, trivial⟩
            refine ⟨_, rfl, rfl, _, rfl, ?_⟩
            refine cgo_go ({ s := x6 :: x14 :: x13 :: x12 :: x11 :: x5 :: h5S, m := h5M, k := 4, f := f14 :: h5F }) [7] rfl (by kernel_rfl) (by kernel_rfl) ⟨⟨rfl, rfl⟩, ⟨rfl, rfl⟩, ⟨rfl, trivial⟩, ⟨rfl, trivial⟩, ⟨rfl, trivial⟩, ⟨rfl, trivial⟩, ⟨rfl, trivial⟩, ⟨rfl, trivial⟩, ⟨rfl, rfl⟩, trivial⟩ ⟨?_, trivial⟩
            refine ⟨_, rfl, rfl, _, rfl, ?_⟩
            refine ⟨{ v := .string cn }, fun w h => ?_, ?_⟩
            · obtain ⟨⟨a, ha, h3⟩, _⟩ := h.2.1.1.1.hcts _ _ hc
              cases ha
              exact ⟨_, rfl, h3 0 _ rfl⟩
            refine cgo_go ({ s := x7 :: x6 :: x14 :: x13 :: x12 :: x11 :: x5 :: h5S, m := h5M, k := 4, f := f14 :: h5F }) [15] rfl (by kernel_rfl) (by kernel_rfl) ⟨⟨rfl, rfl⟩, ⟨rfl, rfl⟩, ⟨rfl, trivial⟩, ⟨rfl, trivial⟩, ⟨rfl, trivial⟩, ⟨rfl, trivial⟩, ⟨rfl, trivial⟩, ⟨rfl, trivial⟩, ⟨rfl, rfl⟩, trivial⟩ ⟨?_, trivial⟩
            refine ⟨_, rfl, rfl, _, rfl, ?_⟩
            refine cgo_go ({ s := x15 :: x7 :: x6 :: x14 :: x13 :: x12 :: x11 :: x5 :: h5S, m := h5M, k := 4, f := f14 :: h5F }) [16] rfl (by kernel_rfl) (by kernel_rfl) ⟨⟨rfl, rfl⟩, ⟨rfl, rfl⟩, ⟨rfl, trivial⟩, ⟨rfl, trivial⟩, ⟨rfl, trivial⟩, ⟨rfl, trivial⟩, ⟨rfl, trivial⟩, ⟨rfl, trivial⟩, ⟨rfl, rfl⟩, trivial⟩ ⟨?_, trivial⟩
            refine ⟨_, rfl, rfl, _, rfl, ?_⟩
            refine cgo_go ({ s := x16 :: x15 :: x7 :: x6 :: x14 :: x13 :: x12 :: x11 :: x5 :: h5S, m := m16a :: h5M, k := 5, f := f14 :: h5F }) [17] rfl (by kernel_rfl) (by kernel_rfl) ⟨⟨rfl, rfl⟩, ⟨rfl, rfl⟩, ⟨rfl, trivial⟩, ⟨rfl, trivial⟩, ⟨rfl, trivial⟩, ⟨rfl, trivial⟩, ⟨rfl, trivial⟩, ⟨rfl, trivial⟩, ⟨rfl, rfl⟩, trivial⟩ ⟨?_, trivial⟩
            refine ⟨_, rfl, rfl, _, rfl, ?_⟩
            refine ⟨{}, ⟨trivial, by decide, .inr rfl, hfit1, hfit2⟩, ?_⟩
            refine cgo_go ({ s := x17 :: x16 :: x15 :: x7 :: x6 :: x14 :: x13 :: x12 :: x11 :: x5 :: h5S, m := m17a :: m17b :: m16a :: h5M, k := 6, f := f14 :: h5F }) [19] rfl (by kernel_rfl) (by kernel_rfl) ⟨⟨rfl, trivial⟩, ⟨rfl, trivial⟩, ⟨rfl, trivial⟩, ⟨rfl, trivial⟩, ⟨rfl, trivial⟩, ⟨rfl, trivial⟩, ⟨rfl, trivial⟩, ⟨rfl, trivial⟩, ⟨rfl, rfl⟩, trivial⟩ ⟨?_, trivial⟩
            refine ⟨_, rfl, rfl, _, rfl, ?_⟩
            refine cgo_end _ rfl (by kernel_rfl) ⟨⟨rfl, trivial⟩, ⟨rfl, trivial⟩, ⟨rfl, trivial⟩, ⟨rfl, trivial⟩, ⟨rfl, trivial⟩, ⟨rfl, trivial⟩, ⟨rfl, trivial⟩, ⟨rfl, trivial⟩, ⟨rfl, trivial⟩, trivial⟩ ?_
            exact ⟨ys ++ [(cn, (TT.mk yk yn ynm yla ylc yls yaa yac yus))], ⟨by simp only [List.length_append, List.length_singleton]; omega, by rw [hxm]; simp only [List.length_append, List.length_singleton]⟩, by simp only [List.length_append, List.length_singleton]; omega, ent_ren [(0, .blk 0), (1, .blk 1), (2, .blk 2), (3, .own 5)] rfl rfl rfl rfl (Nat.le_of_ble_eq_true rfl) ⟨⟨_, rfl, rfl⟩, ⟨_, rfl, rfl⟩, ⟨_, rfl, rfl⟩, ⟨_, rfl, by simp only [List.length_append, List.length_singleton]; exact oneI (wrapI (by omega) (by omega))⟩, trivial⟩ ⟨⟨_, rfl, rfl⟩, ⟨_, rfl, rfl⟩, ⟨_, rfl, rfl⟩, ⟨_, _, rfl, by simp, by simp [ctsC]⟩, trivial⟩ ⟨⟨cE.up _ _ _ _, fun w h => ⟨h.2.1.1, fun c hc2 => (List.mem_append.1 hc2).elim (h.2.1.2 c) (fun hc2 => by rw [List.mem_singleton.1 hc2]; exact ⟨h.1, (h.2.1.1.1.hcts _ _ hc).2.2⟩)⟩⟩, trivial⟩⟩
  · refine ⟨_, rfl, rfl, _, rfl, ?_⟩
    refine ⟨{ n := ys.length }, ⟨rfl, hlt, fun w h => rfl⟩, ?_⟩
    refine cgo_go ({ s := x11 :: h5S, m := h5M, k := 4, f := h5F }) [5, 12] rfl (by kernel_rfl) (by kernel_rfl) ⟨⟨rfl, rfl⟩, ⟨rfl, rfl⟩, ⟨rfl, rfl⟩, ⟨rfl, rfl⟩, ⟨rfl, rfl⟩, ⟨rfl, trivial⟩, ⟨rfl, trivial⟩, ⟨rfl, trivial⟩, ⟨rfl, rfl⟩, trivial⟩ ⟨?_, ?_, trivial⟩
    · refine ⟨_, rfl, rfl, _, rfl, ?_⟩
      refine ⟨{ n := ys.length }, ⟨rfl, hlt, fun w h => rfl⟩, ?_⟩
      refine cgo_go ({ s := x5 :: x11 :: h5S, m := h5M, k := 4, f := h5F }) [6, 12] rfl (by kernel_rfl) (by kernel_rfl) ⟨⟨rfl, rfl⟩, ⟨rfl, rfl⟩, ⟨rfl, trivial⟩, ⟨rfl, trivial⟩, ⟨rfl, trivial⟩, ⟨rfl, trivial⟩, ⟨rfl, trivial⟩, ⟨rfl, trivial⟩, ⟨rfl, rfl⟩, trivial⟩ ⟨?_, ?_, trivial⟩
      · refine ⟨_, rfl, rfl, _, rfl, ?_⟩
        refine cgo_go ({ s := x6 :: x5 :: x11 :: h5S, m := h5M, k := 4, f := h5F }) [7, 12] rfl (by kernel_rfl) (by kernel_rfl) ⟨⟨rfl, rfl⟩, ⟨rfl, rfl⟩, ⟨rfl, trivial⟩, ⟨rfl, trivial⟩, ⟨rfl, trivial⟩, ⟨rfl, trivial⟩, ⟨rfl, trivial⟩, ⟨rfl, trivial⟩, ⟨rfl, rfl⟩, trivial⟩ ⟨?_, ?_, trivial⟩
        · refine ⟨_, rfl, rfl, _, rfl, ?_⟩
          refine ⟨{ v := .string cn }, fun w h => ?_, ?_⟩
          · obtain ⟨⟨a, ha, h3⟩, _⟩ := h.1.1.1.hcts _ _ hc
            cases ha
            exact ⟨_, rfl, h3 0 _ rfl⟩
          refine cgo_go ({ s := x7 :: x6 :: x5 :: x11 :: h5S, m := h5M, k := 4, f := h5F }) [12] rfl (by kernel_rfl) (by kernel_rfl) ⟨⟨rfl, rfl⟩, ⟨rfl, rfl⟩, ⟨rfl, trivial⟩, ⟨rfl, trivial⟩, ⟨rfl, trivial⟩, ⟨rfl, trivial⟩, ⟨rfl, trivial⟩, ⟨rfl, trivial⟩, ⟨rfl, rfl⟩, trivial⟩ ⟨?_, trivial⟩
          refine ⟨_, rfl, rfl, _, rfl, ?_⟩
          refine cgo_go ({ s := x12 :: x7 :: x6 :: x5 :: x11 :: h5S, m := h5M, k := 4, f := h5F }) [13] rfl (by kernel_rfl) (by kernel_rfl) ⟨⟨rfl, rfl⟩, ⟨rfl, rfl⟩, ⟨rfl, trivial⟩, ⟨rfl, trivial⟩, ⟨rfl, trivial⟩, ⟨rfl, trivial⟩, ⟨rfl, trivial⟩, ⟨rfl, trivial⟩, ⟨rfl, rfl⟩, trivial⟩ ⟨?_, trivial⟩
          refine ⟨_, rfl, rfl, _, rfl, ?_⟩
          refine ⟨{ cs := (TT.mk uk un unm ula ulc uls uaa uac uus).cells }, ⟨TT.cells_one (TT.mk uk un unm ula ulc uls uaa uac uus), rfl, fun w h => ?_⟩, ?_⟩
          · obtain ⟨⟨a, ha, h3⟩, _⟩ := h.1.1.1.hcts _ _ hc
            cases ha
            exact ⟨_, rfl, ct_at h3⟩
          refine cgo_go ({ s := x13 :: x12 :: x7 :: x6 :: x5 :: x11 :: h5S, m := h5M, k := 4, f := h5F }) [14] rfl (by kernel_rfl) (by kernel_rfl) ⟨⟨rfl, rfl⟩, ⟨rfl, rfl⟩, ⟨rfl, trivial⟩, ⟨rfl, trivial⟩, ⟨rfl, trivial⟩, ⟨rfl, trivial⟩, ⟨rfl, trivial⟩, ⟨rfl, trivial⟩, ⟨rfl, rfl⟩, trivial⟩ ⟨?_, trivial⟩
          refine ⟨_, rfl, rfl, _, rfl, ?_⟩
          refine callVC_lend [] hcc rfl trivial rfl rfl (fun w h => (h.1.1.1.hcts _ _ hc).2.1) (fun x _ => ?_) (fun x hx => ?_)
          · obtain ⟨yk, yn, ynm, yla, ylc, yls, yaa, yac, yus⟩ := x
            exact ⟨rfl, rfl⟩
          have hxm := hstep x hx
          clear hx
          obtain ⟨yk, yn, ynm, yla, ylc, yls, yaa, yac, yus⟩ := x
          let x14 : Nat × SV := (41, ttA (TT.mk yk yn ynm yla ylc yls yaa yac yus))
          let f14 : World → Prop := fun w => TTIn w (TT.mk yk yn ynm yla ylc yls yaa yac yus)
          let x15 : Nat × SV := (42, .agg (.v (.string cn) :: (TT.mk yk yn ynm yla ylc yls yaa yac yus).cells.map SA.v))
          let x16 : Nat × SV := (43, .one (.sl 4 0 1 1))
          let m16a : Nat × LB := (4, .cells 75 (.v (.string cn) :: (TT.mk yk yn ynm yla ylc yls yaa yac yus).cells.map SA.v))
          let x17 : Nat × SV := (44, .one (.row 5))
          let m17a : Nat × LB := (5, .own 75 6 (ys.length + 1) (ctsC ys ++ ctCells (cn, (TT.mk yk yn ynm yla ylc yls yaa yac yus))))
          let m17b : Nat × LB := (3, .dead)
          refine cgo_go ({ s := x14 :: x13 :: x12 :: x7 :: x6 :: x5 :: x11 :: h5S, m := h5M, k := 4, f := f14 :: h5F }) [15] rfl (by kernel_rfl) (by kernel_rfl) ⟨⟨rfl, rfl⟩, ⟨rfl, rfl⟩, ⟨rfl, trivial⟩, ⟨rfl, trivial⟩, ⟨rfl, trivial⟩, ⟨rfl, trivial⟩, ⟨rfl, trivial⟩, ⟨rfl, trivial⟩, ⟨rfl, rfl⟩, trivial⟩ ⟨?_, trivial⟩
          refine ⟨_, rfl, rfl, _, rfl, ?_⟩
          refine cgo_go ({ s := x15 :: x14 :: x13 :: x12 :: x7 :: x6 :: x5 :: x11 :: h5S, m := h5M, k := 4, f := f14 :: h5F }) [16] rfl (by kernel_rfl) (by kernel_rfl) ⟨⟨rfl, rfl⟩, ⟨rfl, rfl⟩, ⟨rfl, trivial⟩, ⟨rfl, trivial⟩, ⟨rfl, trivial⟩, ⟨rfl, trivial⟩, ⟨rfl, trivial⟩, ⟨rfl, trivial⟩, ⟨rfl, rfl⟩, trivial⟩ ⟨?_, trivial⟩
          refine ⟨_, rfl, rfl, _, rfl, ?_⟩
          refine cgo_go ({ s := x16 :: x15 :: x14 :: x13 :: x12 :: x7 :: x6 :: x5 :: x11 :: h5S, m := m16a :: h5M, k := 5, f := f14 :: h5F }) [17] rfl (by kernel_rfl) (by kernel_rfl) ⟨⟨rfl, rfl⟩, ⟨rfl, rfl⟩, ⟨rfl, trivial⟩, ⟨rfl, trivial⟩, ⟨rfl, trivial⟩, ⟨rfl, trivial⟩, ⟨rfl, trivial⟩, ⟨rfl, trivial⟩, ⟨rfl, rfl⟩, trivial⟩ ⟨?_, trivial⟩
          refine ⟨_, rfl, rfl, _, rfl, ?_⟩
          refine ⟨{}, ⟨trivial, by decide, .inr rfl, hfit1, hfit2⟩, ?_⟩
          refine cgo_go ({ s := x17 :: x16 :: x15 :: x14 :: x13 :: x12 :: x7 :: x6 :: x5 :: x11 :: h5S, m := m17a :: m17b :: m16a :: h5M, k := 6, f := f14 :: h5F }) [19] rfl (by kernel_rfl) (by kernel_rfl) ⟨⟨rfl, trivial⟩, ⟨rfl, trivial⟩, ⟨rfl, trivial⟩, ⟨rfl, trivial⟩, ⟨rfl, trivial⟩, ⟨rfl, trivial⟩, ⟨rfl, trivial⟩, ⟨rfl, trivial⟩, ⟨rfl, rfl⟩, trivial⟩ ⟨?_, trivial⟩
          refine ⟨_, rfl, rfl, _, rfl, ?_⟩
          refine cgo_end _ rfl (by kernel_rfl) ⟨⟨rfl, trivial⟩, ⟨rfl, trivial⟩, ⟨rfl, trivial⟩, ⟨rfl, trivial⟩, ⟨rfl, trivial⟩, ⟨rfl, trivial⟩, ⟨rfl, trivial⟩, ⟨rfl, trivial⟩, ⟨rfl, trivial⟩, trivial⟩ ?_
          exact ⟨ys ++ [(cn, (TT.mk yk yn ynm yla ylc yls yaa yac yus))], ⟨by simp only [List.length_append, List.length_singleton]; omega, by rw [hxm]; simp only [List.length_append, List.length_singleton]⟩, by simp only [List.length_append, List.length_singleton]; omega, ent_ren [(0, .blk 0), (1, .blk 1), (2, .blk 2), (3, .own 5)] rfl rfl rfl rfl (Nat.le_of_ble_eq_true rfl) ⟨⟨_, rfl, rfl⟩, ⟨_, rfl, rfl⟩, ⟨_, rfl, rfl⟩, ⟨_, rfl, by simp only [List.length_append, List.length_singleton]; exact oneI (wrapI (by omega) (by omega))⟩, trivial⟩ ⟨⟨_, rfl, rfl⟩, ⟨_, rfl, rfl⟩, ⟨_, rfl, rfl⟩, ⟨_, _, rfl, by simp, by simp [ctsC]⟩, trivial⟩ ⟨⟨cE.up _ _ _ _, fun w h => ⟨h.2.1.1, fun c hc2 => (List.mem_append.1 hc2).elim (h.2.1.2 c) (fun hc2 => by rw [List.mem_singleton.1 hc2]; exact ⟨h.1, (h.2.1.1.1.hcts _ _ hc).2.2⟩)⟩⟩, trivial⟩⟩
        · refine ⟨_, rfl, rfl, _, rfl, ?_⟩
          refine cgo_go ({ s := x12 :: x6 :: x5 :: x11 :: h5S, m := h5M, k := 4, f := h5F }) [7, 13] rfl (by kernel_rfl) (by kernel_rfl) ⟨⟨rfl, rfl⟩, ⟨rfl, rfl⟩, ⟨rfl, trivial⟩, ⟨rfl, trivial⟩, ⟨rfl, trivial⟩, ⟨rfl, trivial⟩, ⟨rfl, trivial⟩, ⟨rfl, trivial⟩, ⟨rfl, rfl⟩, trivial⟩ ⟨?_, ?_, trivial⟩
          · refine ⟨_, rfl, rfl, _, rfl, ?_⟩
            refine ⟨{ v := .string cn }, fun w h => ?_, ?_⟩
            · obtain ⟨⟨a, ha, h3⟩, _⟩ := h.1.1.1.hcts _ _ hc
              cases ha
              exact ⟨_, rfl, h3 0 _ rfl⟩
            refine cgo_go ({ s := x7 :: x12 :: x6 :: x5 :: x11 :: h5S, m := h5M, k := 4, f := h5F }) [13] rfl (by kernel_rfl) (by kernel_rfl) ⟨⟨rfl, rfl⟩, ⟨rfl, rfl⟩, ⟨rfl, trivial⟩, ⟨rfl, trivial⟩, ⟨rfl, trivial⟩, ⟨rfl, trivial⟩, ⟨rfl, trivial⟩, ⟨rfl, trivial⟩, ⟨rfl, rfl⟩, trivial⟩ ⟨?_, trivial⟩
            refine ⟨_, rfl, rfl, _, rfl, ?_⟩
            refine ⟨{ cs := (TT.mk uk un unm ula ulc uls uaa uac uus).cells }, ⟨TT.cells_one (TT.mk uk un unm ula ulc uls uaa uac uus), rfl, fun w h => ?_⟩, ?_⟩
            · obtain ⟨⟨a, ha, h3⟩, _⟩ := h.1.1.1.hcts _ _ hc
              cases ha
              exact ⟨_, rfl, ct_at h3⟩
            refine cgo_go ({ s := x13 :: x7 :: x12 :: x6 :: x5 :: x11 :: h5S, m := h5M, k := 4, f := h5F }) [14] rfl (by kernel_rfl) (by kernel_rfl) ⟨⟨rfl, rfl⟩, ⟨rfl, rfl⟩, ⟨rfl, trivial⟩, ⟨rfl, trivial⟩, ⟨rfl, trivial⟩, ⟨rfl, trivial⟩, ⟨rfl, trivial⟩, ⟨rfl, trivial⟩, ⟨rfl, rfl⟩, trivial⟩ ⟨?_, trivial⟩
            refine ⟨_, rfl, rfl, _, rfl, ?_⟩
            refine callVC_lend [] hcc rfl trivial rfl rfl (fun w h => (h.1.1.1.hcts _ _ hc).2.1) (fun x _ => ?_) (fun x hx => ?_)
            · obtain ⟨yk, yn, ynm, yla, ylc, yls, yaa, yac, yus⟩ := x
              exact ⟨rfl, rfl⟩
            have hxm := hstep x hx
            clear hx
            obtain ⟨yk, yn, ynm, yla, ylc, yls, yaa, yac, yus⟩ := x
            let x14 : Nat × SV := (41, ttA (TT.mk yk yn ynm yla ylc yls yaa yac yus))
            let f14 : World → Prop := fun w => TTIn w (TT.mk yk yn ynm yla ylc yls yaa yac yus)
            let x15 : Nat × SV := (42, .agg (.v (.string cn) :: (TT.mk yk yn ynm yla ylc yls yaa yac yus).cells.map SA.v))
            let x16 : Nat × SV := (43, .one (.sl 4 0 1 1))
            let m16a : Nat × LB := (4, .cells 75 (.v (.string cn) :: (TT.mk yk yn ynm yla ylc yls yaa yac yus).cells.map SA.v))
            let x17 : Nat × SV := (44, .one (.row 5))
            let m17a : Nat × LB := (5, .own 75 6 (ys.length + 1) (ctsC ys ++ ctCells (cn, (TT.mk yk yn ynm yla ylc yls yaa yac yus))))
            let m17b : Nat × LB := (3, .dead)
            refine cgo_go ({ s := x14 :: x13 :: x7 :: x12 :: x6 :: x5 :: x11 :: h5S, m := h5M, k := 4, f := f14 :: h5F }) [15] rfl (by kernel_rfl) (by kernel_rfl) ⟨⟨rfl, rfl⟩, ⟨rfl, rfl⟩, ⟨rfl, trivial⟩, ⟨rfl, trivial⟩, ⟨rfl, trivial⟩, ⟨rfl, trivial⟩, ⟨rfl, trivial⟩, ⟨rfl, trivial⟩, ⟨rfl, rfl⟩, trivial⟩ ⟨?_, trivial⟩
            refine ⟨_, rfl, rfl, _, rfl, ?_⟩
            refine cgo_go ({ s := x15 :: x14 :: x13 :: x7 :: x12 :: x6 :: x5 :: x11 :: h5S, m := h5M, k := 4, f := f14 :: h5F }) [16] rfl (by kernel_rfl) (by kernel_rfl) ⟨⟨rfl, rfl⟩, ⟨rfl, rfl⟩, ⟨rfl, trivial⟩, ⟨rfl, trivial⟩, ⟨rfl, trivial⟩, ⟨rfl, trivial⟩, ⟨rfl, trivial⟩, ⟨rfl, trivial⟩, ⟨rfl, rfl⟩, trivial⟩ ⟨?_, trivial⟩
            refine ⟨_, rfl, rfl, _, rfl, ?_⟩
            refine cgo_go ({ s := x16 :: x15 :: x14 :: x13 :: x7 :: x12 :: x6 :: x5 :: x11 :: h5S, m := m16a :: h5M, k := 5, f := f14 :: h5F }) [17] rfl (by kernel_rfl) (by kernel_rfl) ⟨⟨rfl, rfl⟩, ⟨rfl, rfl⟩, ⟨rfl, trivial⟩, ⟨rfl, trivial⟩, ⟨rfl, trivial⟩, ⟨rfl, trivial⟩, ⟨rfl, trivial⟩, ⟨rfl, trivial⟩, ⟨rfl, rfl⟩, trivial⟩ ⟨?_, trivial⟩
            refine ⟨_, rfl, rfl, _, rfl, ?_⟩
            refine ⟨{}, ⟨trivial, by decide, .inr rfl, hfit1, hfit2⟩, ?_⟩
            refine cgo_go ({ s := x17 :: x16 :: x15 :: x14 :: x13 :: x7 :: x12 :: x6 :: x5 :: x11 :: h5S, m := m17a :: m17b :: m16a :: h5M, k := 6, f := f14 :: h5F }) [19] rfl (by kernel_rfl) (by kernel_rfl) ⟨⟨rfl, trivial⟩, ⟨rfl, trivial⟩, ⟨rfl, trivial⟩, ⟨rfl, trivial⟩, ⟨rfl, trivial⟩, ⟨rfl, trivial⟩, ⟨rfl, trivial⟩, ⟨rfl, trivial⟩, ⟨rfl, rfl⟩, trivial⟩ ⟨?_, trivial⟩
            refine ⟨_, rfl, rfl, _, rfl, ?_⟩
            refine cgo_end _ rfl (by kernel_rfl) ⟨⟨rfl, trivial⟩, ⟨rfl, trivial⟩, ⟨rfl, trivial⟩, ⟨rfl, trivial⟩, ⟨rfl, trivial⟩, ⟨rfl, trivial⟩, ⟨rfl, trivial⟩, ⟨rfl, trivial⟩, ⟨rfl, trivial⟩, trivial⟩ ?_
            exact ⟨ys ++ [(cn, (TT.mk yk yn ynm yla ylc yls yaa yac yus))], ⟨by simp only [List.length_append, List.length_singleton]; omega, by rw [hxm]; simp only [List.length_append, List.length_singleton]⟩, by simp only [List.length_append, List.length_singleton]; omega, ent_ren [(0, .blk 0), (1, .blk 1), (2, .blk 2), (3, .own 5)] rfl rfl rfl rfl (Nat.le_of_ble_eq_true rfl) ⟨⟨_, rfl, rfl⟩, ⟨_, rfl, rfl⟩, ⟨_, rfl, rfl⟩, ⟨_, rfl, by simp only [List.length_append, List.length_singleton]; exact oneI (wrapI (by omega) (by omega))⟩, trivial⟩ ⟨⟨_, rfl, rfl⟩, ⟨_, rfl, rfl⟩, ⟨_, rfl, rfl⟩, ⟨_, _, rfl, by simp, by simp [ctsC]⟩, trivial⟩ ⟨⟨cE.up _ _ _ _, fun w h => ⟨h.2.1.1, fun c hc2 => (List.mem_append.1 hc2).elim (h.2.1.2 c) (fun hc2 => by rw [List.mem_singleton.1 hc2]; exact ⟨h.1, (h.2.1.1.1.hcts _ _ hc).2.2⟩)⟩⟩, trivial⟩⟩
          · refine ⟨_, rfl, rfl, _, rfl, ?_⟩
            refine ⟨{ cs := (TT.mk uk un unm ula ulc uls uaa uac uus).cells }, ⟨TT.cells_one (TT.mk uk un unm ula ulc uls uaa uac uus), rfl, fun w h => ?_⟩, ?_⟩
            · obtain ⟨⟨a, ha, h3⟩, _⟩ := h.1.1.1.hcts _ _ hc
              cases ha
              exact ⟨_, rfl, ct_at h3⟩
            refine cgo_go ({ s := x13 :: x12 :: x6 :: x5 :: x11 :: h5S, m := h5M, k := 4, f := h5F }) [7, 14] rfl (by kernel_rfl) (by kernel_rfl) ⟨⟨rfl, rfl⟩, ⟨rfl, rfl⟩, ⟨rfl, trivial⟩, ⟨rfl, trivial⟩, ⟨rfl, trivial⟩, ⟨rfl, trivial⟩, ⟨rfl, trivial⟩, ⟨rfl, trivial⟩, ⟨rfl, rfl⟩, trivial⟩ ⟨?_, ?_, trivial⟩
            · refine ⟨_, rfl, rfl, _, rfl, ?_⟩
              refine ⟨{ v := .string cn }, fun w h => ?_, ?_⟩
              · obtain ⟨⟨a, ha, h3⟩, _⟩ := h.1.1.1.hcts _ _ hc
                cases ha
                exact ⟨_, rfl, h3 0 _ rfl⟩
              refine cgo_go ({ s := x7 :: x13 :: x12 :: x6 :: x5 :: x11 :: h5S, m := h5M, k := 4, f := h5F }) [14] rfl (by kernel_rfl) (by kernel_rfl) ⟨⟨rfl, rfl⟩, ⟨rfl, rfl⟩, ⟨rfl, trivial⟩, ⟨rfl, trivial⟩, ⟨rfl, trivial⟩, ⟨rfl, trivial⟩, ⟨rfl, trivial⟩, ⟨rfl, trivial⟩, ⟨rfl, rfl⟩, trivial⟩ ⟨?_, trivial⟩
              refine ⟨_, rfl, rfl, _, rfl, ?_⟩
              refine callVC_lend [] hcc rfl trivial rfl rfl (fun w h => (h.1.1.1.hcts _ _ hc).2.1) (fun x _ => ?_) (fun x hx => ?_)
              · obtain ⟨yk, yn, ynm, yla, ylc, yls, yaa, yac, yus⟩ := x
                exact ⟨rfl, rfl⟩
              have hxm := hstep x hx
              clear hx
              obtain ⟨yk, yn, ynm, yla, ylc, yls, yaa, yac, yus⟩ := x
              let x14 : Nat × SV := (41, ttA (TT.mk yk yn ynm yla ylc yls yaa yac yus))
              let f14 : World → Prop := fun w => TTIn w (TT.mk yk yn ynm yla ylc yls yaa yac yus)
              let x15 : Nat × SV := (42, .agg (.v (.string cn) :: (TT.mk yk yn ynm yla ylc yls yaa yac yus).cells.map SA.v))
              let x16 : Nat × SV := (43, .one (.sl 4 0 1 1))
              let m16a : Nat × LB := (4, .cells 75 (.v (.string cn) :: (TT.mk yk yn ynm yla ylc yls yaa yac yus).cells.map SA.v))
              let x17 : Nat × SV := (44, .one (.row 5))
              let m17a : Nat × LB := (5, .own 75 6 (ys.length + 1) (ctsC ys ++ ctCells (cn, (TT.mk yk yn ynm yla ylc yls yaa yac yus))))
              let m17b : Nat × LB := (3, .dead)
              refine cgo_go ({ s := x14 :: x7 :: x13 :: x12 :: x6 :: x5 :: x11 :: h5S, m := h5M, k := 4, f := f14 :: h5F }) [15] rfl (by kernel_rfl) (by kernel_rfl) ⟨⟨rfl, rfl⟩, ⟨rfl, rfl⟩, ⟨rfl, trivial⟩, ⟨rfl, trivial⟩, ⟨rfl, trivial⟩, ⟨rfl, trivial⟩, ⟨rfl, trivial⟩, ⟨rfl, trivial⟩, ⟨rfl, rfl⟩, trivial⟩ ⟨?_, trivial⟩
              refine ⟨_, rfl, rfl, _, rfl, ?_⟩
              refine cgo_go ({ s := x15 :: x14 :: x7 :: x13 :: x12 :: x6 :: x5 :: x11 :: h5S, m := h5M, k := 4, f := f14 :: h5F }) [16] rfl (by kernel_rfl) (by kernel_rfl) ⟨⟨rfl, rfl⟩, ⟨rfl, rfl⟩, ⟨rfl, trivial⟩, ⟨rfl, trivial⟩, ⟨rfl, trivial⟩, ⟨rfl, trivial⟩, ⟨rfl, trivial⟩, ⟨rfl, trivial⟩, ⟨rfl, rfl⟩, trivial⟩ ⟨?_, trivial⟩
              refine ⟨_, rfl, rfl, _, rfl, ?_⟩
              refine cgo_go ({ s := x16 :: x15 :: x14 :: x7 :: x13 :: x12 :: x6 :: x5 :: x11 :: h5S, m := m16a :: h5M, k := 5, f := f14 :: h5F }) [17] rfl (by kernel_rfl) (by kernel_rfl) ⟨⟨rfl, rfl⟩, ⟨rfl, rfl⟩, ⟨rfl, trivial⟩, ⟨rfl, trivial⟩, ⟨rfl, trivial⟩, ⟨rfl, trivial⟩, ⟨rfl, trivial⟩, ⟨rfl, trivial⟩, ⟨rfl, rfl⟩, trivial⟩ ⟨?_, trivial⟩
              refine ⟨_, rfl, rfl, _, rfl, ?_⟩
              refine ⟨{}, ⟨trivial, by decide, .inr rfl, hfit1, hfit2⟩, ?_⟩
              refine cgo_go ({ s := x17 :: x16 :: x15 :: x14 :: x7 :: x13 :: x12 :: x6 :: x5 :: x11 :: h5S, m := m17a :: m17b :: m16a :: h5M, k := 6, f := f14 :: h5F }) [19] rfl (by kernel_rfl) (by kernel_rfl) ⟨⟨rfl, trivial⟩, ⟨rfl, trivial⟩, ⟨rfl, trivial⟩, ⟨rfl, trivial⟩, ⟨rfl, trivial⟩, ⟨rfl, trivial⟩, ⟨rfl, trivial⟩, ⟨rfl, trivial⟩, ⟨rfl, rfl⟩, trivial⟩ ⟨?_, trivial⟩
              refine ⟨_, rfl, rfl, _, rfl, ?_⟩
              refine cgo_end _ rfl (by kernel_rfl) ⟨⟨rfl, trivial⟩, ⟨rfl, trivial⟩, ⟨rfl, trivial⟩, ⟨rfl, trivial⟩, ⟨rfl, trivial⟩, ⟨rfl, trivial⟩, ⟨rfl, trivial⟩, ⟨rfl, trivial⟩, ⟨rfl, trivial⟩, trivial⟩ ?_
              exact ⟨ys ++ [(cn, (TT.mk yk yn ynm yla ylc yls yaa yac yus))], ⟨by simp only [List.length_append, List.length_singleton]; omega, by rw [hxm]; simp only [List.length_append, List.length_singleton]⟩, by simp only [List.length_append, List.length_singleton]; omega, ent_ren [(0, .blk 0), (1, .blk 1), (2, .blk 2), (3, .own 5)] rfl rfl rfl rfl (Nat.le_of_ble_eq_true rfl) ⟨⟨_, rfl, rfl⟩, ⟨_, rfl, rfl⟩, ⟨_, rfl, rfl⟩, ⟨_, rfl, by simp only [List.length_append, List.length_singleton]; exact oneI (wrapI (by omega) (by omega))⟩, trivial⟩ ⟨⟨_, rfl, rfl⟩, ⟨_, rfl, rfl⟩, ⟨_, rfl, rfl⟩, ⟨_, _, rfl, by simp, by simp [ctsC]⟩, trivial⟩ ⟨⟨cE.up _ _ _ _, fun w h => ⟨h.2.1.1, fun c hc2 => (List.mem_append.1 hc2).elim (h.2.1.2 c) (fun hc2 => by rw [List.mem_singleton.1 hc2]; exact ⟨h.1, (h.2.1.1.1.hcts _ _ hc).2.2⟩)⟩⟩, trivial⟩⟩
            · refine ⟨_, rfl, rfl, _, rfl, ?_⟩
              refine callVC_lend [] hcc rfl trivial rfl rfl (fun w h => (h.1.1.1.hcts _ _ hc).2.1) (fun x _ => ?_) (fun x hx => ?_)
              · obtain ⟨yk, yn, ynm, yla, ylc, yls, yaa, yac, yus⟩ := x
                exact ⟨rfl, rfl⟩
              have hxm := hstep x hx
              clear hx
              obtain ⟨yk, yn, ynm, yla, ylc, yls, yaa, yac, yus⟩ := x
              let x14 : Nat × SV := (41, ttA (TT.mk yk yn ynm yla ylc yls yaa yac yus))
              let f14 : World → Prop := fun w => TTIn w (TT.mk yk yn ynm yla ylc yls yaa yac yus)
              let x15 : Nat × SV := (42, .agg (.v (.string cn) :: (TT.mk yk yn ynm yla ylc yls yaa yac yus).cells.map SA.v))
              let x16 : Nat × SV := (43, .one (.sl 4 0 1 1))
              let m16a : Nat × LB := (4, .cells 75 (.v (.string cn) :: (TT.mk yk yn ynm yla ylc yls yaa yac yus).cells.map SA.v))
              let x17 : Nat × SV := (44, .one (.row 5))
              let m17a : Nat × LB := (5, .own 75 6 (ys.length + 1) (ctsC ys ++ ctCells (cn, (TT.mk yk yn ynm yla ylc yls yaa yac yus))))
              let m17b : Nat × LB := (3, .dead)
              refine cgo_go ({ s := x14 :: x13 :: x12 :: x6 :: x5 :: x11 :: h5S, m := h5M, k := 4, f := f14 :: h5F }) [7] rfl (by kernel_rfl) (by kernel_rfl) ⟨⟨rfl, rfl⟩, ⟨rfl, rfl⟩, ⟨rfl, trivial⟩, ⟨rfl, trivial⟩, ⟨rfl, trivial⟩, ⟨rfl, trivial⟩, ⟨rfl, trivial⟩, ⟨rfl, trivial⟩, ⟨rfl, rfl⟩, trivial⟩ ⟨?_, trivial⟩
              refine ⟨_, rfl, rfl, _, rfl, ?_⟩
              refine ⟨{ v := .string cn }, fun w h => ?_, ?_⟩
              · obtain ⟨⟨a, ha, h3⟩, _⟩ := h.2.1.1.1.hcts _ _ hc
                cases ha
                exact ⟨_, rfl, h3 0 _ rfl⟩
              refine cgo_go ({ s := x7 :: x14 :: x13 :: x12 :: x6 :: x5 :: x11 :: h5S, m := h5M, k := 4, f := f14 :: h5F }) [15] rfl (by kernel_rfl) (by kernel_rfl) ⟨⟨rfl, rfl⟩, ⟨rfl, rfl⟩, ⟨rfl, trivial⟩, ⟨rfl, trivial⟩, ⟨rfl, trivial⟩, ⟨rfl, trivial⟩, ⟨rfl, trivial⟩, ⟨rfl, trivial⟩, ⟨rfl, rfl⟩, trivial⟩ ⟨?_, trivial⟩
              refine ⟨_, rfl, rfl, _, rfl, ?_⟩
              refine cgo_go ({ s := x15 :: x7 :: x14 :: x13 :: x12 :: x6 :: x5 :: x11 :: h5S, m := h5M, k := 4, f := f14 :: h5F }) [16] rfl (by kernel_rfl) (by kernel_rfl) ⟨⟨rfl, rfl⟩, ⟨rfl, rfl⟩, ⟨rfl, trivial⟩, ⟨rfl, trivial⟩, ⟨rfl, trivial⟩, ⟨rfl, trivial⟩, ⟨rfl, trivial⟩, ⟨rfl, trivial⟩, ⟨rfl, rfl⟩, trivial⟩ ⟨?_, trivial⟩
              refine ⟨_, rfl, rfl, _, rfl, ?_⟩
              refine cgo_go ({ s := x16 :: x15 :: x7 :: x14 :: x13 :: x12 :: x6 :: x5 :: x11 :: h5S, m := m16a :: h5M, k := 5, f := f14 :: h5F }) [17] rfl (by kernel_rfl) (by kernel_rfl) ⟨⟨rfl, rfl⟩, ⟨rfl, rfl⟩, ⟨rfl, trivial⟩, ⟨rfl, trivial⟩, ⟨rfl, trivial⟩, ⟨rfl, trivial⟩, ⟨rfl, trivial⟩, ⟨rfl, trivial⟩, ⟨rfl, rfl⟩, trivial⟩ ⟨?_, trivial⟩
              refine ⟨_, rfl, rfl, _, rfl, ?_⟩
              refine ⟨{}, ⟨trivial, by decide, .inr rfl, hfit1, hfit2⟩, ?_⟩
              refine cgo_go ({ s := x17 :: x16 :: x15 :: x7 :: x14 :: x13 :: x12 :: x6 :: x5 :: x11 :: h5S, m := m17a :: m17b :: m16a :: h5M, k := 6, f := f14 :: h5F }) [19] rfl (by kernel_rfl) (by kernel_rfl) ⟨⟨rfl, trivial⟩, ⟨rfl, trivial⟩, ⟨rfl, trivial⟩, ⟨rfl, trivial⟩, ⟨rfl, trivial⟩, ⟨rfl, trivial⟩, ⟨rfl, trivial⟩, ⟨rfl, trivial⟩, ⟨rfl, rfl⟩, trivial⟩ ⟨?_, trivial⟩
              refine ⟨_, rfl, rfl, _, rfl, ?_⟩
              refine cgo_end _ rfl (by kernel_rfl) ⟨⟨rfl, trivial⟩, ⟨rfl, trivial⟩, ⟨rfl, trivial⟩, ⟨rfl, trivial⟩, ⟨rfl, trivial⟩, ⟨rfl, trivial⟩, ⟨rfl, trivial⟩, ⟨rfl, trivial⟩, ⟨rfl, trivial⟩, trivial⟩ ?_
              exact ⟨ys ++ [(cn, (TT.mk yk yn ynm yla ylc yls yaa yac yus))], ⟨by simp only [List.length_append, List.length_singleton]; omega, by rw [hxm]; simp only [List.length_append, List.length_singleton]⟩, by simp only [List.length_append, List.length_singleton]; omega, ent_ren [(0, .blk 0), (1, .blk 1), (2, .blk 2), (3, .own 5)] rfl rfl rfl rfl (Nat.le_of_ble_eq_true rfl) ⟨⟨_, rfl, rfl⟩, ⟨_, rfl, rfl⟩, ⟨_, rfl, rfl⟩, ⟨_, rfl, by simp only [List.length_append, List.length_singleton]; exact oneI (wrapI (by omega) (by omega))⟩, trivial⟩ ⟨⟨_, rfl, rfl⟩, ⟨_, rfl, rfl⟩, ⟨_, rfl, rfl⟩, ⟨_, _, rfl, by simp, by simp [ctsC]⟩, trivial⟩ ⟨⟨cE.up _ _ _ _, fun w h => ⟨h.2.1.1, fun c hc2 => (List.mem_append.1 hc2).elim (h.2.1.2 c) (fun hc2 => by rw [List.mem_singleton.1 hc2]; exact ⟨h.1, (h.2.1.1.1.hcts _ _ hc).2.2⟩)⟩⟩, trivial⟩⟩
      · refine ⟨_, rfl, rfl, _, rfl, ?_⟩
        refine cgo_go ({ s := x12 :: x5 :: x11 :: h5S, m := h5M, k := 4, f := h5F }) [6, 13] rfl (by kernel_rfl) (by kernel_rfl) ⟨⟨rfl, rfl⟩, ⟨rfl, rfl⟩, ⟨rfl, trivial⟩, ⟨rfl, trivial⟩, ⟨rfl, trivial⟩, ⟨rfl, trivial⟩, ⟨rfl, trivial⟩, ⟨rfl, trivial⟩, ⟨rfl, rfl⟩, trivial⟩ ⟨?_, ?_, trivial⟩
        · refine ⟨_, rfl, rfl, _, rfl, ?_⟩
          refine cgo_go ({ s := x6 :: x12 :: x5 :: x11 :: h5S, m := h5M, k := 4, f := h5F }) [7, 13] rfl (by kernel_rfl) (by kernel_rfl) ⟨⟨rfl, rfl⟩, ⟨rfl, rfl⟩, ⟨rfl, trivial⟩, ⟨rfl, trivial⟩, ⟨rfl, trivial⟩, ⟨rfl, trivial⟩, ⟨rfl, trivial⟩, ⟨rfl, trivial⟩, ⟨rfl, rfl⟩, trivial⟩ ⟨?_, ?_, trivial⟩
          · refine ⟨_, rfl, rfl, _, rfl, ?_⟩
            refine ⟨{ v := .string cn }, fun w h => ?_, ?_⟩
            · obtain ⟨⟨a, ha, h3⟩, _⟩ := h.1.1.1.hcts _ _ hc
              cases ha
              exact ⟨_, rfl, h3 0 _ rfl⟩
            refine cgo_go ({ s := x7 :: x6 :: x12 :: x5 :: x11 :: h5S, m := h5M, k := 4, f := h5F }) [13] rfl (by kernel_rfl) (by kernel_rfl) ⟨⟨rfl, rfl⟩, ⟨rfl, rfl⟩, ⟨rfl, trivial⟩, ⟨rfl, trivial⟩, ⟨rfl, trivial⟩, ⟨rfl, trivial⟩, ⟨rfl, trivial⟩, ⟨rfl, trivial⟩, ⟨rfl, rfl⟩, trivial⟩ ⟨?_, trivial⟩
            refine ⟨_, rfl, rfl, _, rfl, ?_⟩
            refine ⟨{ cs := (TT.mk uk un unm ula ulc uls uaa uac uus).cells }, ⟨TT.cells_one (TT.mk uk un unm ula ulc uls uaa uac uus), rfl, fun w h => ?_⟩, ?_⟩
            · obtain ⟨⟨a, ha, h3⟩, _⟩ := h.1.1.1.hcts _ _ hc
              cases ha
              exact ⟨_, rfl, ct_at h3⟩
            refine cgo_go ({ s := x13 :: x7 :: x6 :: x12 :: x5 :: x11 :: h5S, m := h5M, k := 4, f := h5F }) [14] rfl (by kernel_rfl) (by kernel_rfl) ⟨⟨rfl, rfl⟩, ⟨rfl, rfl⟩, ⟨rfl, trivial⟩, ⟨rfl, trivial⟩, ⟨rfl, trivial⟩, ⟨rfl, trivial⟩, ⟨rfl, trivial⟩, ⟨rfl, trivial⟩, ⟨rfl, rfl⟩, trivial⟩ ⟨?_, trivial⟩
            refine ⟨_, rfl, rfl, _, rfl, ?_⟩
            refine callVC_lend [] hcc rfl trivial rfl rfl (fun w h => (h.1.1.1.hcts _ _ hc).2.1) (fun x _ => ?_) (fun x hx => ?_)
            · obtain ⟨yk, yn, ynm, yla, ylc, yls, yaa, yac, yus⟩ := x
              exact ⟨rfl, rfl⟩
            have hxm := hstep x hx
            clear hx
            obtain ⟨yk, yn, ynm, yla, ylc, yls, yaa, yac, yus⟩ := x
            let x14 : Nat × SV := (41, ttA (TT.mk yk yn ynm yla ylc yls yaa yac yus))
            let f14 : World → Prop := fun w => TTIn w (TT.mk yk yn ynm yla ylc yls yaa yac yus)
            let x15 : Nat × SV := (42, .agg (.v (.string cn) :: (TT.mk yk yn ynm yla ylc yls yaa yac yus).cells.map SA.v))
            let x16 : Nat × SV := (43, .one (.sl 4 0 1 1))
            let m16a : Nat × LB := (4, .cells 75 (.v (.string cn) :: (TT.mk yk yn ynm yla ylc yls yaa yac yus).cells.map SA.v))
            let x17 : Nat × SV := (44, .one (.row 5))
            let m17a : Nat × LB := (5, .own 75 6 (ys.length + 1) (ctsC ys ++ ctCells (cn, (TT.mk yk yn ynm yla ylc yls yaa yac yus))))
            let m17b : Nat × LB := (3, .dead)
            refine cgo_go ({ s := x14 :: x13 :: x7 :: x6 :: x12 :: x5 :: x11 :: h5S, m := h5M, k := 4, f := f14 :: h5F }) [15] rfl (by kernel_rfl) (by kernel_rfl) ⟨⟨rfl, rfl⟩, ⟨rfl, rfl⟩, ⟨rfl, trivial⟩, ⟨rfl, trivial⟩, ⟨rfl, trivial⟩, ⟨rfl, trivial⟩, ⟨rfl, trivial⟩, ⟨rfl, trivial⟩, ⟨rfl, rfl⟩, trivial⟩ ⟨?_, trivial⟩
            refine ⟨_, rfl, rfl, _, rfl, ?_⟩
            refine cgo_go ({ s := x15 :: x14 :: x13 :: x7 :: x6 :: x12 :: x5 :: x11 :: h5S, m := h5M, k := 4, f := f14 :: h5F }) [16] rfl (by kernel_rfl) (by kernel_rfl) ⟨⟨rfl, rfl⟩, ⟨rfl, rfl⟩, ⟨rfl, trivial⟩, ⟨rfl, trivial⟩, ⟨rfl, trivial⟩, ⟨rfl, trivial⟩, ⟨rfl, trivial⟩, ⟨rfl, trivial⟩, ⟨rfl, rfl⟩, trivial⟩ ⟨?_, trivial⟩
            refine ⟨_, rfl, rfl, _, rfl, ?_⟩
            refine cgo_go ({ s := x16 :: x15 :: x14 :: x13 :: x7 :: x6 :: x12 :: x5 :: x11 :: h5S, m := m16a :: h5M, k := 5, f := f14 :: h5F }) [17] rfl (by kernel_rfl) (by kernel_rfl) ⟨⟨rfl, rfl⟩, ⟨rfl, rfl⟩, ⟨rfl, trivial⟩, ⟨rfl, trivial⟩, ⟨rfl, trivial⟩, ⟨rfl, trivial⟩, ⟨rfl, trivial⟩, ⟨rfl, trivial⟩, ⟨rfl, rfl⟩, trivial⟩ ⟨?_, trivial⟩
            refine ⟨_, rfl, rfl, _, rfl, ?_⟩
            refine ⟨{}, ⟨trivial, by decide, .inr rfl, hfit1, hfit2⟩, ?_⟩
            refine cgo_go ({ s := x17 :: x16 :: x15 :: x14 :: x13 :: x7 :: x6 :: x12 :: x5 :: x11 :: h5S, m := m17a :: m17b :: m16a :: h5M, k := 6, f := f14 :: h5F }) [19] rfl (by kernel_rfl) (by kernel_rfl) ⟨⟨rfl, trivial⟩, ⟨rfl, trivial⟩, ⟨rfl, trivial⟩, ⟨rfl, trivial⟩, ⟨rfl, trivial⟩, ⟨rfl, trivial⟩, ⟨rfl, trivial⟩, ⟨rfl, trivial⟩, ⟨rfl, rfl⟩, trivial⟩ ⟨?_, trivial⟩
            refine ⟨_, rfl, rfl, _, rfl, ?_⟩
            refine cgo_end _ rfl (by kernel_rfl) ⟨⟨rfl, trivial⟩, ⟨rfl, trivial⟩, ⟨rfl, trivial⟩, ⟨rfl, trivial⟩, ⟨rfl, trivial⟩, ⟨rfl, trivial⟩, ⟨rfl, trivial⟩, ⟨rfl, trivial⟩, ⟨rfl, trivial⟩, trivial⟩ ?_
            exact ⟨ys ++ [(cn, (TT.mk yk yn ynm yla ylc yls yaa yac yus))], ⟨by simp only [List.length_append, List.length_singleton]; omega, by rw [hxm]; simp only [List.length_append, List.length_singleton]⟩, by simp only [List.length_append, List.length_singleton]; omega, ent_ren [(0, .blk 0), (1, .blk 1), (2, .blk 2), (3, .own 5)] rfl rfl rfl rfl (Nat.le_of_ble_eq_true rfl) ⟨⟨_, rfl, rfl⟩, ⟨_, rfl, rfl⟩, ⟨_, rfl, rfl⟩, ⟨_, rfl, by simp only [List.length_append, List.length_singleton]; exact oneI (wrapI (by omega) (by omega))⟩, trivial⟩ ⟨⟨_, rfl, rfl⟩, ⟨_, rfl, rfl⟩, ⟨_, rfl, rfl⟩, ⟨_, _, rfl, by simp, by simp [ctsC]⟩, trivial⟩ ⟨⟨cE.up _ _ _ _, fun w h => ⟨h.2.1.1, fun c hc2 => (List.mem_append.1 hc2).elim (h.2.1.2 c) (fun hc2 => by rw [List.mem_singleton.1 hc2]; exact ⟨h.1, (h.2.1.1.1.hcts _ _ hc).2.2⟩)⟩⟩, trivial⟩⟩
          · refine ⟨_, rfl, rfl, _, rfl, ?_⟩
            refine ⟨{ cs := (TT.mk uk un unm ula ulc uls uaa uac uus).cells }, ⟨TT.cells_one (TT.mk uk un unm ula ulc uls uaa uac uus), rfl, fun w h => ?_⟩, ?_⟩
            · obtain ⟨⟨a, ha, h3⟩, _⟩ := h.1.1.1.hcts _ _ hc
              cases ha
              exact ⟨_, rfl, ct_at h3⟩
            refine cgo_go ({ s := x13 :: x6 :: x12 :: x5 :: x11 :: h5S, m := h5M, k := 4, f := h5F }) [7, 14] rfl (by kernel_rfl) (by kernel_rfl) ⟨⟨rfl, rfl⟩, ⟨rfl, rfl⟩, ⟨rfl, trivial⟩, ⟨rfl, trivial⟩, ⟨rfl, trivial⟩, ⟨rfl, trivial⟩, ⟨rfl, trivial⟩, ⟨rfl, trivial⟩, ⟨rfl, rfl⟩, trivial⟩ ⟨?_, ?_, trivial⟩
            · refine ⟨_, rfl, rfl, _, rfl, ?_⟩
              refine ⟨{ v := .string cn }, fun w h => ?_, ?_⟩
              · obtain ⟨⟨a, ha, h3⟩, _⟩ := h.1.1.1.hcts _ _ hc
                cases ha
                exact ⟨_, rfl, h3 0 _ rfl⟩
              refine cgo_go ({ s := x7 :: x13 :: x6 :: x12 :: x5 :: x11 :: h5S, m := h5M, k := 4, f := h5F }) [14] rfl (by kernel_rfl) (by kernel_rfl) ⟨⟨rfl, rfl⟩, ⟨rfl, rfl⟩, ⟨rfl, trivial⟩, ⟨rfl, trivial⟩, ⟨rfl, trivial⟩, ⟨rfl, trivial⟩, ⟨rfl, trivial⟩, ⟨rfl, trivial⟩, ⟨rfl, rfl⟩, trivial⟩ ⟨?_, trivial⟩
              refine ⟨_, rfl, rfl, _, rfl, ?_⟩
              refine callVC_lend [] hcc rfl trivial rfl rfl (fun w h => (h.1.1.1.hcts _ _ hc).2.1) (fun x _ => ?_) (fun x hx => ?_)
              · obtain ⟨yk, yn, ynm, yla, ylc, yls, yaa, yac, yus⟩ := x
                exact ⟨rfl, rfl⟩
              have hxm := hstep x hx
              clear hx
              obtain ⟨yk, yn, ynm, yla, ylc, yls, yaa, yac, yus⟩ := x
              let x14 : Nat × SV := (41, ttA (TT.mk yk yn ynm yla ylc yls yaa yac yus))
              let f14 : World → Prop := fun w => TTIn w (TT.mk yk yn ynm yla ylc yls yaa yac yus)
              let x15 : Nat × SV := (42, .agg (.v (.string cn) :: (TT.mk yk yn ynm yla ylc yls yaa yac yus).cells.map SA.v))
              let x16 : Nat × SV := (43, .one (.sl 4 0 1 1))
              let m16a : Nat × LB := (4, .cells 75 (.v (.string cn) :: (TT.mk yk yn ynm yla ylc yls yaa yac yus).cells.map SA.v))
              let x17 : Nat × SV := (44, .one (.row 5))
              let m17a : Nat × LB := (5, .own 75 6 (ys.length + 1) (ctsC ys ++ ctCells (cn, (TT.mk yk yn ynm yla ylc yls yaa yac yus))))
              let m17b : Nat × LB := (3, .dead)
              refine cgo_go ({ s := x14 :: x7 :: x13 :: x6 :: x12 :: x5 :: x11 :: h5S, m := h5M, k := 4, f := f14 :: h5F }) [15] rfl (by kernel_rfl) (by kernel_rfl) ⟨⟨rfl, rfl⟩, ⟨rfl, rfl⟩, ⟨rfl, trivial⟩, ⟨rfl, trivial⟩, ⟨rfl, trivial⟩, ⟨rfl, trivial⟩, ⟨rfl, trivial⟩, ⟨rfl, trivial⟩, ⟨rfl, rfl⟩, trivial⟩ ⟨?_, trivial⟩
              refine ⟨_, rfl, rfl, _, rfl, ?_⟩
              refine cgo_go ({ s := x15 :: x14 :: x7 :: x13 :: x6 :: x12 :: x5 :: x11 :: h5S, m := h5M, k := 4, f := f14 :: h5F }) [16] rfl (by kernel_rfl) (by kernel_rfl) ⟨⟨rfl, rfl⟩, ⟨rfl, rfl⟩, ⟨rfl, trivial⟩, ⟨rfl, trivial⟩, ⟨rfl, trivial⟩, ⟨rfl, trivial⟩, ⟨rfl, trivial⟩, ⟨rfl, trivial⟩, ⟨rfl, rfl⟩, trivial⟩ ⟨?_, trivial⟩
              refine ⟨_, rfl, rfl, _, rfl, ?_⟩
              refine cgo_go ({ s := x16 :: x15 :: x14 :: x7 :: x13 :: x6 :: x12 :: x5 :: x11 :: h5S, m := m16a :: h5M, k := 5, f := f14 :: h5F }) [17] rfl (by kernel_rfl) (by kernel_rfl) ⟨⟨rfl, rfl⟩, ⟨rfl, rfl⟩, ⟨rfl, trivial⟩, ⟨rfl, trivial⟩, ⟨rfl, trivial⟩, ⟨rfl, trivial⟩, ⟨rfl, trivial⟩, ⟨rfl, trivial⟩, ⟨rfl, rfl⟩, trivial⟩ ⟨?_, trivial⟩
              refine ⟨_, rfl, rfl, _, rfl, ?_⟩
              refine ⟨{}, ⟨trivial, by decide, .inr rfl, hfit1, hfit2⟩, ?_⟩
              refine cgo_go ({ s := x17 :: x16 :: x15 :: x14 :: x7 :: x13 :: x6 :: x12 :: x5 :: x11 :: h5S, m := m17a :: m17b :: m16a :: h5M, k := 6, f := f14 :: h5F }) [19] rfl (by kernel_rfl) (by kernel_rfl) ⟨⟨rfl, trivial⟩, ⟨rfl, trivial⟩, ⟨rfl, trivial⟩, ⟨rfl, trivial⟩, ⟨rfl, trivial⟩, ⟨rfl, trivial⟩, ⟨rfl, trivial⟩, ⟨rfl, trivial⟩, ⟨rfl, rfl⟩, trivial⟩ ⟨?_, trivial⟩
              refine ⟨_, rfl, rfl, _, rfl, ?_⟩
              refine cgo_end _ rfl (by kernel_rfl) ⟨⟨rfl, trivial⟩, ⟨rfl, trivial⟩, ⟨rfl, trivial⟩, ⟨rfl, trivial⟩, ⟨rfl, trivial⟩, ⟨rfl, trivial⟩, ⟨rfl, trivial⟩, ⟨rfl, trivial⟩, ⟨rfl, trivial⟩, trivial⟩ ?_
              exact ⟨ys ++ [(cn, (TT.mk yk yn ynm yla ylc yls yaa yac yus))], ⟨by simp only [List.length_append, List.length_singleton]; omega, by rw [hxm]; simp only [List.length_append, List.length_singleton]⟩, by simp only [List.length_append, List.length_singleton]; omega, ent_ren [(0, .blk 0), (1, .blk 1), (2, .blk 2), (3, .own 5)] rfl rfl rfl rfl (Nat.le_of_ble_eq_true rfl) ⟨⟨_, rfl, rfl⟩, ⟨_, rfl, rfl⟩, ⟨_, rfl, rfl⟩, ⟨_, rfl, by simp only [List.length_append, List.length_singleton]; exact oneI (wrapI (by omega) (by omega))⟩, trivial⟩ ⟨⟨_, rfl, rfl⟩, ⟨_, rfl, rfl⟩, ⟨_, rfl, rfl⟩, ⟨_, _, rfl, by simp, by simp [ctsC]⟩, trivial⟩ ⟨⟨cE.up _ _ _ _, fun w h => ⟨h.2.1.1, fun c hc2 => (List.mem_append.1 hc2).elim (h.2.1.2 c) (fun hc2 => by rw [List.mem_singleton.1 hc2]; exact ⟨h.1, (h.2.1.1.1.hcts _ _ hc).2.2⟩)⟩⟩, trivial⟩⟩
            · refine ⟨_, rfl, rfl, _, rfl, ?_⟩
              refine callVC_lend [] hcc rfl trivial rfl rfl (fun w h => (h.1.1.1.hcts _ _ hc).2.1) (fun x _ => ?_) (fun x hx => ?_)
              · obtain ⟨yk, yn, ynm, yla, ylc, yls, yaa, yac, yus⟩ := x
                exact ⟨rfl, rfl⟩
              have hxm := hstep x hx
              clear hx
              obtain ⟨yk, yn, ynm, yla, ylc, yls, yaa, yac, yus⟩ := x
              let x14 : Nat × SV := (41, ttA (TT.mk yk yn ynm yla ylc yls yaa yac yus))
              let f14 : World → Prop := fun w => TTIn w (TT.mk yk yn ynm yla ylc yls yaa yac yus)
              let x15 : Nat × SV := (42, .agg (.v (.string cn) :: (TT.mk yk yn ynm yla ylc yls yaa yac yus).cells.map SA.v))
              let x16 : Nat × SV := (43, .one (.sl 4 0 1 1))
              let m16a : Nat × LB := (4, .cells 75 (.v (.string cn) :: (TT.mk yk yn ynm yla ylc yls yaa yac yus).cells.map SA.v))
              let x17 : Nat × SV := (44, .one (.row 5))
              let m17a : Nat × LB := (5, .own 75 6 (ys.length + 1) (ctsC ys ++ ctCells (cn, (TT.mk yk yn ynm yla ylc yls yaa yac yus))))
              let m17b : Nat × LB := (3, .dead)
              refine cgo_go ({ s := x14 :: x13 :: x6 :: x12 :: x5 :: x11 :: h5S, m := h5M, k := 4, f := f14 :: h5F }) [7] rfl (by kernel_rfl) (by kernel_rfl) ⟨⟨rfl, rfl⟩, ⟨rfl, rfl⟩, ⟨rfl, trivial⟩, ⟨rfl, trivial⟩, ⟨rfl, trivial⟩, ⟨rfl, trivial⟩, ⟨rfl, trivial⟩, ⟨rfl, trivial⟩, ⟨rfl, rfl⟩, trivial⟩ ⟨?_, trivial⟩
              refine ⟨_, rfl, rfl, _, rfl, ?_⟩
              refine ⟨{ v := .string cn }, fun w h => ?_, ?_⟩
              · obtain ⟨⟨a, ha, h3⟩, _⟩ := h.2.1.1.1.hcts _ _ hc
                cases ha
                exact ⟨_, rfl, h3 0 _ rfl⟩
              refine cgo_go ({ s := x7 :: x14 :: x13 :: x6 :: x12 :: x5 :: x11 :: h5S, m := h5M, k := 4, f := f14 :: h5F }) [15] rfl (by kernel_rfl) (by kernel_rfl) ⟨⟨rfl, rfl⟩, ⟨rfl, rfl⟩, ⟨rfl, trivial⟩, ⟨rfl, trivial⟩, ⟨rfl, trivial⟩, ⟨rfl, trivial⟩, ⟨rfl, trivial⟩, ⟨rfl, trivial⟩, ⟨rfl, rfl⟩, trivial⟩ ⟨?_, trivial⟩
              refine ⟨_, rfl, rfl, _, rfl, ?_⟩
              refine cgo_go ({ s := x15 :: x7 :: x14 :: x13 :: x6 :: x12 :: x5 :: x11 :: h5S, m := h5M, k := 4, f := f14 :: h5F }) [16] rfl (by kernel_rfl) (by kernel_rfl) ⟨⟨rfl, rfl⟩, ⟨rfl, rfl⟩, ⟨rfl, trivial⟩, ⟨rfl, trivial⟩, ⟨rfl, trivial⟩, ⟨rfl, trivial⟩, ⟨rfl, trivial⟩, ⟨rfl, trivial⟩, ⟨rfl, rfl⟩, trivial⟩ ⟨?_, trivial⟩
              refine ⟨_, rfl, rfl, _, rfl, ?_⟩
              refine cgo_go ({ s := x16 :: x15 :: x7 :: x14 :: x13 :: x6 :: x12 :: x5 :: x11 :: h5S, m := m16a :: h5M, k := 5, f := f14 :: h5F }) [17] rfl (by kernel_rfl) (by kernel_rfl) ⟨⟨rfl, rfl⟩, ⟨rfl, rfl⟩, ⟨rfl, trivial⟩, ⟨rfl, trivial⟩, ⟨rfl, trivial⟩, ⟨rfl, trivial⟩, ⟨rfl, trivial⟩, ⟨rfl, trivial⟩, ⟨rfl, rfl⟩, trivial⟩ ⟨?_, trivial⟩
              refine ⟨_, rfl, rfl, _, rfl, ?_⟩
              refine ⟨{}, ⟨trivial, by decide, .inr rfl, hfit1, hfit2⟩, ?_⟩
              refine cgo_go ({ s := x17 :: x16 :: x15 :: x7 :: x14 :: x13 :: x6 :: x12 :: x5 :: x11 :: h5S, m := m17a :: m17b :: m16a :: h5M, k := 6, f := f14 :: h5F }) [19] rfl (by kernel_rfl) (by kernel_rfl) ⟨⟨rfl, trivial⟩, ⟨rfl, trivial⟩, ⟨rfl, trivial⟩, ⟨rfl, trivial⟩, ⟨rfl, trivial⟩, ⟨rfl, trivial⟩, ⟨rfl, trivial⟩, ⟨rfl, trivial⟩, ⟨rfl, rfl⟩, trivial⟩ ⟨?_, trivial⟩
              refine ⟨_, rfl, rfl, _, rfl, ?_⟩
              refine cgo_end _ rfl (by kernel_rfl) ⟨⟨rfl, trivial⟩, ⟨rfl, trivial⟩, ⟨rfl, trivial⟩, ⟨rfl, trivial⟩, ⟨rfl, trivial⟩, ⟨rfl, trivial⟩, ⟨rfl, trivial⟩, ⟨rfl, trivial⟩, ⟨rfl, trivial⟩, trivial⟩ ?_
              exact ⟨ys ++ [(cn, (TT.mk yk yn ynm yla ylc yls yaa yac yus))], ⟨by simp only [List.length_append, List.length_singleton]; omega, by rw [hxm]; simp only [List.length_append, List.length_singleton]⟩, by simp only [List.length_append, List.length_singleton]; omega, ent_ren [(0, .blk 0), (1, .blk 1), (2, .blk 2), (3, .own 5)] rfl rfl rfl rfl (Nat.le_of_ble_eq_true rfl) ⟨⟨_, rfl, rfl⟩, ⟨_, rfl, rfl⟩, ⟨_, rfl, rfl⟩, ⟨_, rfl, by simp only [List.length_append, List.length_singleton]; exact oneI (wrapI (by omega) (by omega))⟩, trivial⟩ ⟨⟨_, rfl, rfl⟩, ⟨_, rfl, rfl⟩, ⟨_, rfl, rfl⟩, ⟨_, _, rfl, by simp, by simp [ctsC]⟩, trivial⟩ ⟨⟨cE.up _ _ _ _, fun w h => ⟨h.2.1.1, fun c hc2 => (List.mem_append.1 hc2).elim (h.2.1.2 c) (fun hc2 => by rw [List.mem_singleton.1 hc2]; exact ⟨h.1, (h.2.1.1.1.hcts _ _ hc).2.2⟩)⟩⟩, trivial⟩⟩
        · refine ⟨_, rfl, rfl, _, rfl, ?_⟩
          refine ⟨{ cs := (TT.mk uk un unm ula ulc uls uaa uac uus).cells }, ⟨TT.cells_one (TT.mk uk un unm ula ulc uls uaa uac uus), rfl, fun w h => ?_⟩, ?_⟩
          · obtain ⟨⟨a, ha, h3⟩, _⟩ := h.1.1.1.hcts _ _ hc
            cases ha
            exact ⟨_, rfl, ct_at h3⟩
          refine cgo_go ({ s := x13 :: x12 :: x5 :: x11 :: h5S, m := h5M, k := 4, f := h5F }) [6, 14] rfl (by kernel_rfl) (by kernel_rfl) ⟨⟨rfl, rfl⟩, ⟨rfl, rfl⟩, ⟨rfl, trivial⟩, ⟨rfl, trivial⟩, ⟨rfl, trivial⟩, ⟨rfl, trivial⟩, ⟨rfl, trivial⟩, ⟨rfl, trivial⟩, ⟨rfl, rfl⟩, trivial⟩ ⟨?_, ?_, trivial⟩
          · refine ⟨_, rfl, rfl, _, rfl, ?_⟩
            refine cgo_go ({ s := x6 :: x13 :: x12 :: x5 :: x11 :: h5S, m := h5M, k := 4, f := h5F }) [7, 14] rfl (by kernel_rfl) (by kernel_rfl) ⟨⟨rfl, rfl⟩, ⟨rfl, rfl⟩, ⟨rfl, trivial⟩, ⟨rfl, trivial⟩, ⟨rfl, trivial⟩, ⟨rfl, trivial⟩, ⟨rfl, trivial⟩, ⟨rfl, trivial⟩, ⟨rfl, rfl⟩, trivial⟩ ⟨?_, ?_, trivial⟩
            · refine ⟨_, rfl, rfl, _, rfl, ?_⟩
              refine ⟨{ v := .string cn }, fun w h => ?_, ?_⟩
              · obtain ⟨⟨a, ha, h3⟩, _⟩ := h.1.1.1.hcts _ _ hc
                cases ha
                exact ⟨_, rfl, h3 0 _ rfl⟩
              refine cgo_go ({ s := x7 :: x6 :: x13 :: x12 :: x5 :: x11 :: h5S, m := h5M, k := 4, f := h5F }) [14] rfl (by kernel_rfl) (by kernel_rfl) ⟨⟨rfl, rfl⟩, ⟨rfl, rfl⟩, ⟨rfl, trivial⟩, ⟨rfl, trivial⟩, ⟨rfl, trivial⟩, ⟨rfl, trivial⟩, ⟨rfl, trivial⟩, ⟨rfl, trivial⟩, ⟨rfl, rfl⟩, trivial⟩ ⟨?_, trivial⟩
              refine ⟨_, rfl, rfl, _, rfl, ?_⟩
              refine callVC_lend [] hcc rfl trivial rfl rfl (fun w h => (h.1.1.1.hcts _ _ hc).2.1) (fun x _ => ?_) (fun x hx => ?_)
              · obtain ⟨yk, yn, ynm, yla, ylc, yls, yaa, yac, yus⟩ := x
                exact ⟨rfl, rfl⟩
              have hxm := hstep x hx
              clear hx
              obtain ⟨yk, yn, ynm, yla, ylc, yls, yaa, yac, yus⟩ := x
              let x14 : Nat × SV := (41, ttA (TT.mk yk yn ynm yla ylc yls yaa yac yus))
              let f14 : World → Prop := fun w => TTIn w (TT.mk yk yn ynm yla ylc yls yaa yac yus)
              let x15 : Nat × SV := (42, .agg (.v (.string cn) :: (TT.mk yk yn ynm yla ylc yls yaa yac yus).cells.map SA.v))
              let x16 : Nat × SV := (43, .one (.sl 4 0 1 1))
              let m16a : Nat × LB := (4, .cells 75 (.v (.string cn) :: (TT.mk yk yn ynm yla ylc yls yaa yac yus).cells.map SA.v))
              let x17 : Nat × SV := (44, .one (.row 5))
              let m17a : Nat × LB := (5, .own 75 6 (ys.length + 1) (ctsC ys ++ ctCells (cn, (TT.mk yk yn ynm yla ylc yls yaa yac yus))))
              let m17b : Nat × LB := (3, .dead)
              refine cgo_go ({ s := x14 :: x7 :: x6 :: x13 :: x12 :: x5 :: x11 :: h5S, m := h5M, k := 4, f := f14 :: h5F }) [15] rfl (by kernel_rfl) (by kernel_rfl) ⟨⟨rfl, rfl⟩, ⟨rfl, rfl⟩, ⟨rfl, trivial⟩, ⟨rfl, trivial⟩, ⟨rfl, trivial⟩, ⟨rfl, trivial⟩, ⟨rfl, trivial⟩, ⟨rfl, trivial⟩, ⟨rfl, rfl⟩, trivial⟩ ⟨?_, trivial⟩
              refine ⟨_, rfl, rfl, _, rfl, ?_⟩
              refine cgo_go ({ s := x15 :: x14 :: x7 :: x6 :: x13 :: x12 :: x5 :: x11 :: h5S, m := h5M, k := 4, f := f14 :: h5F }) [16] rfl (by kernel_rfl) (by kernel_rfl) ⟨⟨rfl, rfl⟩, ⟨rfl, rfl⟩, ⟨rfl, trivial⟩, ⟨rfl, trivial⟩, ⟨rfl, trivial⟩, ⟨rfl, trivial⟩, ⟨rfl, trivial⟩, ⟨rfl, trivial⟩, ⟨rfl, rfl⟩, trivial⟩ ⟨?_, trivial⟩
              refine ⟨_, rfl, rfl, _, rfl, ?_⟩
              refine cgo_go ({ s := x16 :: x15 :: x14 :: x7 :: x6 :: x13 :: x12 :: x5 :: x11 :: h5S, m := m16a :: h5M, k := 5, f := f14 :: h5F }) [17] rfl (by kernel_rfl) (by kernel_rfl) ⟨⟨rfl, rfl⟩, ⟨rfl, rfl⟩, ⟨rfl, trivial⟩, ⟨rfl, trivial⟩, ⟨rfl, trivial⟩, ⟨rfl, trivial⟩, ⟨rfl, trivial⟩, ⟨rfl, trivial⟩, ⟨rfl, rfl⟩, trivial⟩ ⟨?_, trivial⟩
              refine ⟨_, rfl, rfl, _, rfl, ?_⟩
              refine ⟨{}, ⟨trivial, by decide, .inr rfl, hfit1, hfit2⟩, ?_⟩
              refine cgo_go ({ s := x17 :: x16 :: x15 :: x14 :: x7 :: x6 :: x13 :: x12 :: x5 :: x11 :: h5S, m := m17a :: m17b :: m16a :: h5M, k := 6, f := f14 :: h5F }) [19] rfl (by kernel_rfl) (by kernel_rfl) ⟨⟨rfl, trivial⟩, ⟨rfl, trivial⟩, ⟨rfl, trivial⟩, ⟨rfl, trivial⟩, ⟨rfl, trivial⟩, ⟨rfl, trivial⟩, ⟨rfl, trivial⟩, ⟨rfl, trivial⟩, ⟨rfl, rfl⟩, trivial⟩ ⟨?_, trivial⟩
              refine ⟨_, rfl, rfl, _, rfl, ?_⟩
              refine cgo_end _ rfl (by kernel_rfl) ⟨⟨rfl, trivial⟩, ⟨rfl, trivial⟩, ⟨rfl, trivial⟩, ⟨rfl, trivial⟩, ⟨rfl, trivial⟩, ⟨rfl, trivial⟩, ⟨rfl, trivial⟩, ⟨rfl, trivial⟩, ⟨rfl, trivial⟩, trivial⟩ ?_
              exact ⟨ys ++ [(cn, (TT.mk yk yn ynm yla ylc yls yaa yac yus))], ⟨by simp only [List.length_append, List.length_singleton]; omega, by rw [hxm]; simp only [List.length_append, List.length_singleton]⟩, by simp only [List.length_append, List.length_singleton]; omega, ent_ren [(0, .blk 0), (1, .blk 1), (2, .blk 2), (3, .own 5)] rfl rfl rfl rfl (Nat.le_of_ble_eq_true rfl) ⟨⟨_, rfl, rfl⟩, ⟨_, rfl, rfl⟩, ⟨_, rfl, rfl⟩, ⟨_, rfl, by simp only [List.length_append, List.length_singleton]; exact oneI (wrapI (by omega) (by omega))⟩, trivial⟩ ⟨⟨_, rfl, rfl⟩, ⟨_, rfl, rfl⟩, ⟨_, rfl, rfl⟩, ⟨_, _, rfl, by simp, by simp [ctsC]⟩, trivial⟩ ⟨⟨cE.up _ _ _ _, fun w h => ⟨h.2.1.1, fun c hc2 => (List.mem_append.1 hc2).elim (h.2.1.2 c) (fun hc2 => by rw [List.mem_singleton.1 hc2]; exact ⟨h.1, (h.2.1.1.1.hcts _ _ hc).2.2⟩)⟩⟩, trivial⟩⟩
            · refine ⟨_, rfl, rfl, _, rfl, ?_⟩
              refine callVC_lend [] hcc rfl trivial rfl rfl (fun w h => (h.1.1.1.hcts _ _ hc).2.1) (fun x _ => ?_) (fun x hx => ?_)
              · obtain ⟨yk, yn, ynm, yla, ylc, yls, yaa, yac, yus⟩ := x
                exact ⟨rfl, rfl⟩
              have hxm := hstep x hx
              clear hx
              obtain ⟨yk, yn, ynm, yla, ylc, yls, yaa, yac, yus⟩ := x
              let x14 : Nat × SV := (41, ttA (TT.mk yk yn ynm yla ylc yls yaa yac yus))
              let f14 : World → Prop := fun w => TTIn w (TT.mk yk yn ynm yla ylc yls yaa yac yus)
              let x15 : Nat × SV := (42, .agg (.v (.string cn) :: (TT.mk yk yn ynm yla ylc yls yaa yac yus).cells.map SA.v))
              let x16 : Nat × SV := (43, .one (.sl 4 0 1 1))
              let m16a : Nat × LB := (4, .cells 75 (.v (.string cn) :: (TT.mk yk yn ynm yla ylc yls yaa yac yus).cells.map SA.v))
              let x17 : Nat × SV := (44, .one (.row 5))
              let m17a : Nat × LB := (5, .own 75 6 (ys.length + 1) (ctsC ys ++ ctCells (cn, (TT.mk yk yn ynm yla ylc yls yaa yac yus))))
              let m17b : Nat × LB := (3, .dead)
              refine cgo_go ({ s := x14 :: x6 :: x13 :: x12 :: x5 :: x11 :: h5S, m := h5M, k := 4, f := f14 :: h5F }) [7] rfl (by kernel_rfl) (by kernel_rfl) ⟨⟨rfl, rfl⟩, ⟨rfl, rfl⟩, ⟨rfl, trivial⟩, ⟨rfl, trivial⟩, ⟨rfl, trivial⟩, ⟨rfl, trivial⟩, ⟨rfl, trivial⟩, ⟨rfl, trivial⟩, ⟨rfl, rfl⟩, trivial⟩ ⟨?_, trivial⟩
              refine ⟨_, rfl, rfl, _, rfl, ?_⟩
              refine ⟨{ v := .string cn }, fun w h => ?_, ?_⟩
              · obtain ⟨⟨a, ha, h3⟩, _⟩ := h.2.1.1.1.hcts _ _ hc
                cases ha
                exact ⟨_, rfl, h3 0 _ rfl⟩
              refine cgo_go ({ s := x7 :: x14 :: x6 :: x13 :: x12 :: x5 :: x11 :: h5S, m := h5M, k := 4, f := f14 :: h5F }) [15] rfl (by kernel_rfl) (by kernel_rfl) ⟨⟨rfl, rfl⟩, ⟨rfl, rfl⟩, ⟨rfl, trivial⟩, ⟨rfl, trivial⟩, ⟨rfl, trivial⟩, ⟨rfl, trivial⟩, ⟨rfl, trivial⟩, ⟨rfl, trivial⟩, ⟨rfl, rfl⟩, trivial⟩ ⟨?_, trivial⟩
              refine ⟨_, rfl, rfl, _, rfl, ?_⟩
              refine cgo_go ({ s := x15 :: x7 :: x14 :: x6 :: x13 :: x12 :: x5 :: x11 :: h5S, m := h5M, k := 4, f := f14 :: h5F }) [16] rfl (by kernel_rfl) (by kernel_rfl) ⟨⟨rfl, rfl⟩, ⟨rfl, rfl⟩, ⟨rfl, trivial⟩, ⟨rfl, trivial⟩, ⟨rfl, trivial⟩, ⟨rfl, trivial⟩, ⟨rfl, trivial⟩, ⟨rfl, trivial⟩, ⟨rfl, rfl⟩, trivial⟩ ⟨?_, trivial⟩
              refine ⟨_, rfl, rfl, _, rfl, ?_⟩
              refine cgo_go ({ s := x16 :: x15 :: x7 :: x14 :: x6 :: x13 :: x12 :: x5 :: x11 :: h5S, m := m16a :: h5M, k := 5, f := f14 :: h5F }) [17] rfl (by kernel_rfl) (by kernel_rfl) ⟨⟨rfl, rfl⟩, ⟨rfl, rfl⟩, ⟨rfl, trivial⟩, ⟨rfl, trivial⟩, ⟨rfl, trivial⟩, ⟨rfl, trivial⟩, ⟨rfl, trivial⟩, ⟨rfl, trivial⟩, ⟨rfl, rfl⟩, trivial⟩ ⟨?_, trivial⟩
              refine ⟨_, rfl, rfl, _, rfl, ?_⟩
              refine ⟨{}, ⟨trivial, by decide, .inr rfl, hfit1, hfit2⟩, ?_⟩
              refine cgo_go ({ s := x17 :: x16 :: x15 :: x7 :: x14 :: x6 :: x13 :: x12 :: x5 :: x11 :: h5S, m := m17a :: m17b :: m16a :: h5M, k := 6, f := f14 :: h5F }) [19] rfl (by kernel_rfl) (by kernel_rfl) ⟨⟨rfl, trivial⟩, ⟨rfl, trivial⟩, ⟨rfl, trivial⟩, ⟨rfl, trivial⟩, ⟨rfl, trivial⟩, ⟨rfl, trivial⟩, ⟨rfl, trivial⟩, ⟨rfl, trivial⟩, ⟨rfl, rfl⟩, trivial⟩ ⟨?_, trivial⟩
              refine ⟨_, rfl, rfl, _, rfl, ?_⟩
              refine cgo_end _ rfl (by kernel_rfl) ⟨⟨rfl, trivial⟩, ⟨rfl, trivial⟩, ⟨rfl, trivial⟩, ⟨rfl, trivial⟩, ⟨rfl, trivial⟩, ⟨rfl, trivial⟩, ⟨rfl, trivial⟩, ⟨rfl, trivial⟩, ⟨rfl, trivial⟩, trivial⟩ ?_
              exact ⟨ys ++ [(cn, (TT.mk yk yn ynm yla ylc yls yaa yac yus))], ⟨by simp only [List.length_append, List.length_singleton]; omega, by rw [hxm]; simp only [List.length_append, List.length_singleton]⟩, by simp only [List.length_append, List.length_singleton]; omega, ent_ren [(0, .blk 0), (1, .blk 1), (2, .blk 2), (3, .own 5)] rfl rfl rfl rfl (Nat.le_of_ble_eq_true rfl) ⟨⟨_, rfl, rfl⟩, ⟨_, rfl, rfl⟩, ⟨_, rfl, rfl⟩, ⟨_, rfl, by simp only [List.length_append, List.length_singleton]; exact oneI (wrapI (by omega) (by omega))⟩, trivial⟩ ⟨⟨_, rfl, rfl⟩, ⟨_, rfl, rfl⟩, ⟨_, rfl, rfl⟩, ⟨_, _, rfl, by simp, by simp [ctsC]⟩, trivial⟩ ⟨⟨cE.up _ _ _ _, fun w h => ⟨h.2.1.1, fun c hc2 => (List.mem_append.1 hc2).elim (h.2.1.2 c) (fun hc2 => by rw [List.mem_singleton.1 hc2]; exact ⟨h.1, (h.2.1.1.1.hcts _ _ hc).2.2⟩)⟩⟩, trivial⟩⟩
          · refine ⟨_, rfl, rfl, _, rfl, ?_⟩
            refine callVC_lend [] hcc rfl trivial rfl rfl (fun w h => (h.1.1.1.hcts _ _ hc).2.1) (fun x _ => ?_) (fun x hx => ?_)
            · obtain ⟨yk, yn, ynm, yla, ylc, yls, yaa, yac, yus⟩ := x
              exact ⟨rfl, rfl⟩
            have hxm := hstep x hx
            clear hx
            obtain ⟨yk, yn, ynm, yla, ylc, yls, yaa, yac, yus⟩ := x
            let x14 : Nat × SV := (41, ttA (TT.mk yk yn ynm yla ylc yls yaa yac yus))
            let f14 : World → Prop := fun w => TTIn w (TT.mk yk yn ynm yla ylc yls yaa yac yus)
            let x15 : Nat × SV := (42, .agg (.v (.string cn) :: (TT.mk yk yn ynm yla ylc yls yaa yac yus).cells.map SA.v))
            let x16 : Nat × SV := (43, .one (.sl 4 0 1 1))
            let m16a : Nat × LB := (4, .cells 75 (.v (.string cn) :: (TT.mk yk yn ynm yla ylc yls yaa yac yus).cells.map SA.v))
            let x17 : Nat × SV := (44, .one (.row 5))
            let m17a : Nat × LB := (5, .own 75 6 (ys.length + 1) (ctsC ys ++ ctCells (cn, (TT.mk yk yn ynm yla ylc yls yaa yac yus))))
            let m17b : Nat × LB := (3, .dead)
            refine cgo_go ({ s := x14 :: x13 :: x12 :: x5 :: x11 :: h5S, m := h5M, k := 4, f := f14 :: h5F }) [6] rfl (by kernel_rfl) (by kernel_rfl) ⟨⟨rfl, rfl⟩, ⟨rfl, rfl⟩, ⟨rfl, trivial⟩, ⟨rfl, trivial⟩, ⟨rfl, trivial⟩, ⟨rfl, trivial⟩, ⟨rfl, trivial⟩, ⟨rfl, trivial⟩, ⟨rfl, rfl⟩, trivial⟩ ⟨?_, trivial⟩
            refine ⟨_, rfl, rfl, _, rfl, ?_⟩
            refine cgo_go ({ s := x6 :: x14 :: x13 :: x12 :: x5 :: x11 :: h5S, m := h5M, k := 4, f := f14 :: h5F }) [7] rfl (by kernel_rfl) (by kernel_rfl) ⟨⟨rfl, rfl⟩, ⟨rfl, rfl⟩, ⟨rfl, trivial⟩, ⟨rfl, trivial⟩, ⟨rfl, trivial⟩, ⟨rfl, trivial⟩, ⟨rfl, trivial⟩, ⟨rfl, trivial⟩, ⟨rfl, rfl⟩, trivial⟩ ⟨?_, trivial⟩
            refine ⟨_, rfl, rfl, _, rfl, ?_⟩
            refine ⟨{ v := .string cn }, fun w h => ?_, ?_⟩
            · obtain ⟨⟨a, ha, h3⟩, _⟩ := h.2.1.1.1.hcts _ _ hc
              cases ha
              exact ⟨_, rfl, h3 0 _ rfl⟩
            refine cgo_go ({ s := x7 :: x6 :: x14 :: x13 :: x12 :: x5 :: x11 :: h5S, m := h5M, k := 4, f := f14 :: h5F }) [15] rfl (by kernel_rfl) (by kernel_rfl) ⟨⟨rfl, rfl⟩, ⟨rfl, rfl⟩, ⟨rfl, trivial⟩, ⟨rfl, trivial⟩, ⟨rfl, trivial⟩, ⟨rfl, trivial⟩, ⟨rfl, trivial⟩, ⟨rfl, trivial⟩, ⟨rfl, rfl⟩, trivial⟩ ⟨?_, trivial⟩
            refine ⟨_, rfl, rfl, _, rfl, ?_⟩
            refine cgo_go ({ s := x15 :: x7 :: x6 :: x14 :: x13 :: x12 :: x5 :: x11 :: h5S, m := h5M, k := 4, f := f14 :: h5F }) [16] rfl (by kernel_rfl) (by kernel_rfl) ⟨⟨rfl, rfl⟩, ⟨rfl, rfl⟩, ⟨rfl, trivial⟩, ⟨rfl, trivial⟩, ⟨rfl, trivial⟩, ⟨rfl, trivial⟩, ⟨rfl, trivial⟩, ⟨rfl, trivial⟩, ⟨rfl, rfl⟩, trivial⟩ ⟨?_, trivial⟩
            refine ⟨_, rfl, rfl, _, rfl, ?_⟩
            refine cgo_go ({ s := x16 :: x15 :: x7 :: x6 :: x14 :: x13 :: x12 :: x5 :: x11 :: h5S, m := m16a :: h5M, k := 5, f := f14 :: h5F }) [17] rfl (by kernel_rfl) (by kernel_rfl) ⟨⟨rfl, rfl⟩, ⟨rfl, rfl⟩, ⟨rfl, trivial⟩, ⟨rfl, trivial⟩, ⟨rfl, trivial⟩, ⟨rfl, trivial⟩, ⟨rfl, trivial⟩, ⟨rfl, trivial⟩, ⟨rfl, rfl⟩, trivial⟩ ⟨?_, trivial⟩
            refine ⟨_, rfl, rfl, _, rfl, ?_⟩
            refine ⟨{}, ⟨trivial, by decide, .inr rfl, hfit1, hfit2⟩, ?_⟩
            refine cgo_go ({ s := x17 :: x16 :: x15 :: x7 :: x6 :: x14 :: x13 :: x12 :: x5 :: x11 :: h5S, m := m17a :: m17b :: m16a :: h5M, k := 6, f := f14 :: h5F }) [19] rfl (by kernel_rfl) (by kernel_rfl) ⟨⟨rfl, trivial⟩, ⟨rfl, trivial⟩, ⟨rfl, trivial⟩, ⟨rfl, trivial⟩, ⟨rfl, trivial⟩, ⟨rfl, trivial⟩, ⟨rfl, trivial⟩, ⟨rfl, trivial⟩, ⟨rfl, rfl⟩, trivial⟩ ⟨?_, trivial⟩
            refine ⟨_, rfl, rfl, _, rfl, ?_⟩
            refine cgo_end _ rfl (by kernel_rfl) ⟨⟨rfl, trivial⟩, ⟨rfl, trivial⟩, ⟨rfl, trivial⟩, ⟨rfl, trivial⟩, ⟨rfl, trivial⟩, ⟨rfl, trivial⟩, ⟨rfl, trivial⟩, ⟨rfl, trivial⟩, ⟨rfl, trivial⟩, trivial⟩ ?_
            exact ⟨ys ++ [(cn, (TT.mk yk yn ynm yla ylc yls yaa yac yus))], ⟨by simp only [List.length_append, List.length_singleton]; omega, by rw [hxm]; simp only [List.length_append, List.length_singleton]⟩, by simp only [List.length_append, List.length_singleton]; omega, ent_ren [(0, .blk 0), (1, .blk 1), (2, .blk 2), (3, .own 5)] rfl rfl rfl rfl (Nat.le_of_ble_eq_true rfl) ⟨⟨_, rfl, rfl⟩, ⟨_, rfl, rfl⟩, ⟨_, rfl, rfl⟩, ⟨_, rfl, by simp only [List.length_append, List.length_singleton]; exact oneI (wrapI (by omega) (by omega))⟩, trivial⟩ ⟨⟨_, rfl, rfl⟩, ⟨_, rfl, rfl⟩, ⟨_, rfl, rfl⟩, ⟨_, _, rfl, by simp, by simp [ctsC]⟩, trivial⟩ ⟨⟨cE.up _ _ _ _, fun w h => ⟨h.2.1.1, fun c hc2 => (List.mem_append.1 hc2).elim (h.2.1.2 c) (fun hc2 => by rw [List.mem_singleton.1 hc2]; exact ⟨h.1, (h.2.1.1.1.hcts _ _ hc).2.2⟩)⟩⟩, trivial⟩⟩
    · refine ⟨_, rfl, rfl, _, rfl, ?_⟩
      refine cgo_go ({ s := x12 :: x11 :: h5S, m := h5M, k := 4, f := h5F }) [5, 13] rfl (by kernel_rfl) (by kernel_rfl) ⟨⟨rfl, rfl⟩, ⟨rfl, rfl⟩, ⟨rfl, rfl⟩, ⟨rfl, rfl⟩, ⟨rfl, rfl⟩, ⟨rfl, trivial⟩, ⟨rfl, trivial⟩, ⟨rfl, trivial⟩, ⟨rfl, rfl⟩, trivial⟩ ⟨?_, ?_, trivial⟩
      · refine ⟨_, rfl, rfl, _, rfl, ?_⟩
        refine ⟨{ n := ys.length }, ⟨rfl, hlt, fun w h => rfl⟩, ?_⟩
        refine cgo_go ({ s := x5 :: x12 :: x11 :: h5S, m := h5M, k := 4, f := h5F }) [6, 13] rfl (by kernel_rfl) (by kernel_rfl) ⟨⟨rfl, rfl⟩, ⟨rfl, rfl⟩, ⟨rfl, trivial⟩, ⟨rfl, trivial⟩, ⟨rfl, trivial⟩, ⟨rfl, trivial⟩, ⟨rfl, trivial⟩, ⟨rfl, trivial⟩, ⟨rfl, rfl⟩, trivial⟩ ⟨?_, ?_, trivial⟩
        · refine ⟨_, rfl, rfl, _, rfl, ?_⟩
          refine cgo_go ({ s := x6 :: x5 :: x12 :: x11 :: h5S, m := h5M, k := 4, f := h5F }) [7, 13] rfl (by kernel_rfl) (by kernel_rfl) ⟨⟨rfl, rfl⟩, ⟨rfl, rfl⟩, ⟨rfl, trivial⟩, ⟨rfl, trivial⟩, ⟨rfl, trivial⟩, ⟨rfl, trivial⟩, ⟨rfl, trivial⟩, ⟨rfl, trivial⟩, ⟨rfl, rfl⟩, trivial⟩ ⟨?_, ?_, trivial⟩
          · refine ⟨_, rfl, rfl, _, rfl, ?_⟩
            refine ⟨{ v := .string cn }, fun w h => ?_, ?_⟩
            · obtain ⟨⟨a, ha, h3⟩, _⟩ := h.1.1.1.hcts _ _ hc
              cases ha
              exact ⟨_, rfl, h3 0 _ rfl⟩
            refine cgo_go ({ s := x7 :: x6 :: x5 :: x12 :: x11 :: h5S, m := h5M, k := 4, f := h5F }) [13] rfl (by kernel_rfl) (by kernel_rfl) ⟨⟨rfl, rfl⟩, ⟨rfl, rfl⟩, ⟨rfl, trivial⟩, ⟨rfl, trivial⟩, ⟨rfl, trivial⟩, ⟨rfl, trivial⟩, ⟨rfl, trivial⟩, ⟨rfl, trivial⟩, ⟨rfl, rfl⟩, trivial⟩ ⟨?_, trivial⟩
            refine ⟨_, rfl, rfl, _, rfl, ?_⟩
            refine ⟨{ cs := (TT.mk uk un unm ula ulc uls uaa uac uus).cells }, ⟨TT.cells_one (TT.mk uk un unm ula ulc uls uaa uac uus), rfl, fun w h => ?_⟩, ?_⟩
            · obtain ⟨⟨a, ha, h3⟩, _⟩ := h.1.1.1.hcts _ _ hc
              cases ha
              exact ⟨_, rfl, ct_at h3⟩
            refine cgo_go ({ s := x13 :: x7 :: x6 :: x5 :: x12 :: x11 :: h5S, m := h5M, k := 4, f := h5F }) [14] rfl (by kernel_rfl) (by kernel_rfl) ⟨⟨rfl, rfl⟩, ⟨rfl, rfl⟩, ⟨rfl, trivial⟩, ⟨rfl, trivial⟩, ⟨rfl, trivial⟩, ⟨rfl, trivial⟩, ⟨rfl, trivial⟩, ⟨rfl, trivial⟩, ⟨rfl, rfl⟩, trivial⟩ ⟨?_, trivial⟩
            refine ⟨_, rfl, rfl, _, rfl, ?_⟩
            refine callVC_lend [] hcc rfl trivial rfl rfl (fun w h => (h.1.1.1.hcts _ _ hc).2.1) (fun x _ => ?_) (fun x hx => ?_)
            · obtain ⟨yk, yn, ynm, yla, ylc, yls, yaa, yac, yus⟩ := x
              exact ⟨rfl, rfl⟩
            have hxm := hstep x hx
            clear hx
            obtain ⟨yk, yn, ynm, yla, ylc, yls, yaa, yac, yus⟩ := x
            let x14 : Nat × SV := (41, ttA (TT.mk yk yn ynm yla ylc yls yaa yac yus))
            let f14 : World → Prop := fun w => TTIn w (TT.mk yk yn ynm yla ylc yls yaa yac yus)
            let x15 : Nat × SV := (42, .agg (.v (.string cn) :: (TT.mk yk yn ynm yla ylc yls yaa yac yus).cells.map SA.v))
            let x16 : Nat × SV := (43, .one (.sl 4 0 1 1))
            let m16a : Nat × LB := (4, .cells 75 (.v (.string cn) :: (TT.mk yk yn ynm yla ylc yls yaa yac yus).cells.map SA.v))
            let x17 : Nat × SV := (44, .one (.row 5))
            let m17a : Nat × LB := (5, .own 75 6 (ys.length + 1) (ctsC ys ++ ctCells (cn, (TT.mk yk yn ynm yla ylc yls yaa yac yus))))
            let m17b : Nat × LB := (3, .dead)
            refine cgo_go ({ s := x14 :: x13 :: x7 :: x6 :: x5 :: x12 :: x11 :: h5S, m := h5M, k := 4, f := f14 :: h5F }) [15] rfl (by kernel_rfl) (by kernel_rfl) ⟨⟨rfl, rfl⟩, ⟨rfl, rfl⟩, ⟨rfl, trivial⟩, ⟨rfl, trivial⟩, ⟨rfl, trivial⟩, ⟨rfl, trivial⟩, ⟨rfl, trivial⟩, ⟨rfl, trivial⟩, ⟨rfl, rfl⟩, trivial⟩ ⟨?_, trivial⟩
            refine ⟨_, rfl, rfl, _, rfl, ?_⟩
            refine cgo_go ({ s := x15 :: x14 :: x13 :: x7 :: x6 :: x5 :: x12 :: x11 :: h5S, m := h5M, k := 4, f := f14 :: h5F }) [16] rfl (by kernel_rfl) (by kernel_rfl) ⟨⟨rfl, rfl⟩, ⟨rfl, rfl⟩, ⟨rfl, trivial⟩, ⟨rfl, trivial⟩, ⟨rfl, trivial⟩, ⟨rfl, trivial⟩, ⟨rfl, trivial⟩, ⟨rfl, trivial⟩, ⟨rfl, rfl⟩, trivial⟩ ⟨?_, trivial⟩
            refine ⟨_, rfl, rfl, _, rfl, ?_⟩
            refine cgo_go ({ s := x16 :: x15 :: x14 :: x13 :: x7 :: x6 :: x5 :: x12 :: x11 :: h5S, m := m16a :: h5M, k := 5, f := f14 :: h5F }) [17] rfl (by kernel_rfl) (by kernel_rfl) ⟨⟨rfl, rfl⟩, ⟨rfl, rfl⟩, ⟨rfl, trivial⟩, ⟨rfl, trivial⟩, ⟨rfl, trivial⟩, ⟨rfl, trivial⟩, ⟨rfl, trivial⟩, ⟨rfl, trivial⟩, ⟨rfl, rfl⟩, trivial⟩ ⟨?_, trivial⟩
            refine ⟨_, rfl, rfl, _, rfl, ?_⟩
            refine ⟨{}, ⟨trivial, by decide, .inr rfl, hfit1, hfit2⟩, ?_⟩
            refine cgo_go ({ s := x17 :: x16 :: x15 :: x14 :: x13 :: x7 :: x6 :: x5 :: x12 :: x11 :: h5S, m := m17a :: m17b :: m16a :: h5M, k := 6, f := f14 :: h5F }) [19] rfl (by kernel_rfl) (by kernel_rfl) ⟨⟨rfl, trivial⟩, ⟨rfl, trivial⟩, ⟨rfl, trivial⟩, ⟨rfl, trivial⟩, ⟨rfl, trivial⟩, ⟨rfl, trivial⟩, ⟨rfl, trivial⟩, ⟨rfl, trivial⟩, ⟨rfl, rfl⟩, trivial⟩ ⟨?_, trivial⟩
            refine ⟨_, rfl, rfl, _, rfl, ?_⟩
            refine cgo_end _ rfl (by kernel_rfl) ⟨⟨rfl, trivial⟩, ⟨rfl, trivial⟩, ⟨rfl, trivial⟩, ⟨rfl, trivial⟩, ⟨rfl, trivial⟩, ⟨rfl, trivial⟩, ⟨rfl, trivial⟩, ⟨rfl, trivial⟩, ⟨rfl, trivial⟩, trivial⟩ ?_
            exact ⟨ys ++ [(cn, (TT.mk yk yn ynm yla ylc yls yaa yac yus))], ⟨by simp only [List.length_append, List.length_singleton]; omega, by rw [hxm]; simp only [List.length_append, List.length_singleton]⟩, by simp only [List.length_append, List.length_singleton]; omega, ent_ren [(0, .blk 0), (1, .blk 1), (2, .blk 2), (3, .own 5)] rfl rfl rfl rfl (Nat.le_of_ble_eq_true rfl) ⟨⟨_, rfl, rfl⟩, ⟨_, rfl, rfl⟩, ⟨_, rfl, rfl⟩, ⟨_, rfl, by simp only [List.length_append, List.length_singleton]; exact oneI (wrapI (by omega) (by omega))⟩, trivial⟩ ⟨⟨_, rfl, rfl⟩, ⟨_, rfl, rfl⟩, ⟨_, rfl, rfl⟩, ⟨_, _, rfl, by simp, by simp [ctsC]⟩, trivial⟩ ⟨⟨cE.up _ _ _ _, fun w h => ⟨h.2.1.1, fun c hc2 => (List.mem_append.1 hc2).elim (h.2.1.2 c) (fun hc2 => by rw [List.mem_singleton.1 hc2]; exact ⟨h.1, (h.2.1.1.1.hcts _ _ hc).2.2⟩)⟩⟩, trivial⟩⟩
          · refine ⟨_, rfl, rfl, _, rfl, ?_⟩
            refine ⟨{ cs := (TT.mk uk un unm ula ulc uls uaa uac uus).cells }, ⟨TT.cells_one (TT.mk uk un unm ula ulc uls uaa uac uus), rfl, fun w h => ?_⟩, ?_⟩
            · obtain ⟨⟨a, ha, h3⟩, _⟩ := h.1.1.1.hcts _ _ hc
              cases ha
              exact ⟨_, rfl, ct_at h3⟩
            refine cgo_go ({ s := x13 :: x6 :: x5 :: x12 :: x11 :: h5S, m := h5M, k := 4, f := h5F }) [7, 14] rfl (by kernel_rfl) (by kernel_rfl) ⟨⟨rfl, rfl⟩, ⟨rfl, rfl⟩, ⟨rfl, trivial⟩, ⟨rfl, trivial⟩, ⟨rfl, trivial⟩, ⟨rfl, trivial⟩, ⟨rfl, trivial⟩, ⟨rfl, trivial⟩, ⟨rfl, rfl⟩, trivial⟩ ⟨?_, ?_, trivial⟩
            · refine ⟨_, rfl, rfl, _, rfl, ?_⟩
              refine ⟨{ v := .string cn }, fun w h => ?_, ?_⟩
              · obtain ⟨⟨a, ha, h3⟩, _⟩ := h.1.1.1.hcts _ _ hc
                cases ha
                exact ⟨_, rfl, h3 0 _ rfl⟩
              refine cgo_go ({ s := x7 :: x13 :: x6 :: x5 :: x12 :: x11 :: h5S, m := h5M, k := 4, f := h5F }) [14] rfl (by kernel_rfl) (by kernel_rfl) ⟨⟨rfl, rfl⟩, ⟨rfl, rfl⟩, ⟨rfl, trivial⟩, ⟨rfl, trivial⟩, ⟨rfl, trivial⟩, ⟨rfl, trivial⟩, ⟨rfl, trivial⟩, ⟨rfl, trivial⟩, ⟨rfl, rfl⟩, trivial⟩ ⟨?_, trivial⟩
              refine ⟨_, rfl, rfl, _, rfl, ?_⟩
              refine callVC_lend [] hcc rfl trivial rfl rfl (fun w h => (h.1.1.1.hcts _ _ hc).2.1) (fun x _ => ?_) (fun x hx => ?_)
              · obtain ⟨yk, yn, ynm, yla, ylc, yls, yaa, yac, yus⟩ := x
                exact ⟨rfl, rfl⟩
              have hxm := hstep x hx
              clear hx
              obtain ⟨yk, yn, ynm, yla, ylc, yls, yaa, yac, yus⟩ := x
              let x14 : Nat × SV := (41, ttA (TT.mk yk yn ynm yla ylc yls yaa yac yus))
              let f14 : World → Prop := fun w => TTIn w (TT.mk yk yn ynm yla ylc yls yaa yac yus)
              let x15 : Nat × SV := (42, .agg (.v (.string cn) :: (TT.mk yk yn ynm yla ylc yls yaa yac yus).cells.map SA.v))
              let x16 : Nat × SV := (43, .one (.sl 4 0 1 1))
              let m16a : Nat × LB := (4, .cells 75 (.v (.string cn) :: (TT.mk yk yn ynm yla ylc yls yaa yac yus).cells.map SA.v))
              let x17 : Nat × SV := (44, .one (.row 5))
              let m17a : Nat × LB := (5, .own 75 6 (ys.length + 1) (ctsC ys ++ ctCells (cn, (TT.mk yk yn ynm yla ylc yls yaa yac yus))))
              let m17b : Nat × LB := (3, .dead)
              refine cgo_go ({ s := x14 :: x7 :: x13 :: x6 :: x5 :: x12 :: x11 :: h5S, m := h5M, k := 4, f := f14 :: h5F }) [15] rfl (by kernel_rfl) (by kernel_rfl) ⟨⟨rfl, rfl⟩, ⟨rfl, rfl⟩, ⟨rfl, trivial⟩, ⟨rfl, trivial⟩, ⟨rfl, trivial⟩, ⟨rfl, trivial⟩, ⟨rfl, trivial⟩, ⟨rfl, trivial⟩, ⟨rfl, rfl⟩, trivial⟩ ⟨?_, trivial⟩
              refine ⟨_, rfl, rfl, _, rfl, ?_⟩
              refine cgo_go ({ s := x15 :: x14 :: x7 :: x13 :: x6 :: x5 :: x12 :: x11 :: h5S, m := h5M, k := 4, f := f14 :: h5F }) [16] rfl (by kernel_rfl) (by kernel_rfl) ⟨⟨rfl, rfl⟩, ⟨rfl, rfl⟩, ⟨rfl, trivial⟩, ⟨rfl, trivial⟩, ⟨rfl, trivial⟩, ⟨rfl, trivial⟩, ⟨rfl, trivial⟩, ⟨rfl, trivial⟩, ⟨rfl, rfl⟩, trivial⟩ ⟨?_, trivial⟩
              refine ⟨_, rfl, rfl, _, rfl, ?_⟩
              refine cgo_go ({ s := x16 :: x15 :: x14 :: x7 :: x13 :: x6 :: x5 :: x12 :: x11 :: h5S, m := m16a :: h5M, k := 5, f := f14 :: h5F }) [17] rfl (by kernel_rfl) (by kernel_rfl) ⟨⟨rfl, rfl⟩, ⟨rfl, rfl⟩, ⟨rfl, trivial⟩, ⟨rfl, trivial⟩, ⟨rfl, trivial⟩, ⟨rfl, trivial⟩, ⟨rfl, trivial⟩, ⟨rfl, trivial⟩, ⟨rfl, rfl⟩, trivial⟩ ⟨?_, trivial⟩
              refine ⟨_, rfl, rfl, _, rfl, ?_⟩
              refine ⟨{}, ⟨trivial, by decide, .inr rfl, hfit1, hfit2⟩, ?_⟩
              refine cgo_go ({ s := x17 :: x16 :: x15 :: x14 :: x7 :: x13 :: x6 :: x5 :: x12 :: x11 :: h5S, m := m17a :: m17b :: m16a :: h5M, k := 6, f := f14 :: h5F }) [19] rfl (by kernel_rfl) (by kernel_rfl) ⟨⟨rfl, trivial⟩, ⟨rfl, trivial⟩, ⟨rfl, trivial⟩, ⟨rfl, trivial⟩, ⟨rfl, trivial⟩, ⟨rfl, trivial⟩, ⟨rfl, trivial⟩, ⟨rfl, trivial⟩, ⟨rfl, rfl⟩, trivial⟩ ⟨?_, trivial⟩
              refine ⟨_, rfl, rfl, _, rfl, ?_⟩
              refine cgo_end _ rfl (by kernel_rfl) ⟨⟨rfl, trivial⟩, ⟨rfl, trivial⟩, ⟨rfl, trivial⟩, ⟨rfl, trivial⟩, ⟨rfl, trivial⟩, ⟨rfl, trivial⟩, ⟨rfl, trivial⟩, ⟨rfl, trivial⟩, ⟨rfl, trivial⟩, trivial⟩ ?_
              exact ⟨ys ++ [(cn, (TT.mk yk yn ynm yla ylc yls yaa yac yus))], ⟨by simp only [List.length_append, List.length_singleton]; omega, by rw [hxm]; simp only [List.length_append, List.length_singleton]⟩, by simp only [List.length_append, List.length_singleton]; omega, ent_ren [(0, .blk 0), (1, .blk 1), (2, .blk 2), (3, .own 5)] rfl rfl rfl rfl (Nat.le_of_ble_eq_true rfl) ⟨⟨_, rfl, rfl⟩, ⟨_, rfl, rfl⟩, ⟨_, rfl, rfl⟩, ⟨_, rfl, by simp only [List.length_append, List.length_singleton]; exact oneI (wrapI (by omega) (by omega))⟩, trivial⟩ ⟨⟨_, rfl, rfl⟩, ⟨_, rfl, rfl⟩, ⟨_, rfl, rfl⟩, ⟨_, _, rfl, by simp, by simp [ctsC]⟩, trivial⟩ ⟨⟨cE.up _ _ _ _, fun w h => ⟨h.2.1.1, fun c hc2 => (List.mem_append.1 hc2).elim (h.2.1.2 c) (fun hc2 => by rw [List.mem_singleton.1 hc2]; exact ⟨h.1, (h.2.1.1.1.hcts _ _ hc).2.2⟩)⟩⟩, trivial⟩⟩
            · refine ⟨_, rfl, rfl, _, rfl, ?_⟩
              refine callVC_lend [] hcc rfl trivial rfl rfl (fun w h => (h.1.1.1.hcts _ _ hc).2.1) (fun x _ => ?_) (fun x hx => ?_)
              · obtain ⟨yk, yn, ynm, yla, ylc, yls, yaa, yac, yus⟩ := x
                exact ⟨rfl, rfl⟩
              have hxm := hstep x hx
              clear hx
              obtain ⟨yk, yn, ynm, yla, ylc, yls, yaa, yac, yus⟩ := x
              let x14 : Nat × SV := (41, ttA (TT.mk yk yn ynm yla ylc yls yaa yac yus))
              let f14 : World → Prop := fun w => TTIn w (TT.mk yk yn ynm yla ylc yls yaa yac yus)
              let x15 : Nat × SV := (42, .agg (.v (.string cn) :: (TT.mk yk yn ynm yla ylc yls yaa yac yus).cells.map SA.v))
              let x16 : Nat × SV := (43, .one (.sl 4 0 1 1))
              let m16a : Nat × LB := (4, .cells 75 (.v (.string cn) :: (TT.mk yk yn ynm yla ylc yls yaa yac yus).cells.map SA.v))
              let x17 : Nat × SV := (44, .one (.row 5))
              let m17a : Nat × LB := (5, .own 75 6 (ys.length + 1) (ctsC ys ++ ctCells (cn, (TT.mk yk yn ynm yla ylc yls yaa yac yus))))
              let m17b : Nat × LB := (3, .dead)
              refine cgo_go ({ s := x14 :: x13 :: x6 :: x5 :: x12 :: x11 :: h5S, m := h5M, k := 4, f := f14 :: h5F }) [7] rfl (by kernel_rfl) (by kernel_rfl) ⟨⟨rfl, rfl⟩, ⟨rfl, rfl⟩, ⟨rfl, trivial⟩, ⟨rfl, trivial⟩, ⟨rfl, trivial⟩, ⟨rfl, trivial⟩, ⟨rfl, trivial⟩, ⟨rfl, trivial⟩, ⟨rfl, rfl⟩, trivial⟩ ⟨?_, trivial⟩
              refine ⟨_, rfl, rfl, _, rfl, ?_⟩
              refine ⟨{ v := .string cn }, fun w h => ?_, ?_⟩
              · obtain ⟨⟨a, ha, h3⟩, _⟩ := h.2.1.1.1.hcts _ _ hc
                cases ha
                exact ⟨_, rfl, h3 0 _ rfl⟩
              refine cgo_go ({ s := x7 :: x14 :: x13 :: x6 :: x5 :: x12 :: x11 :: h5S, m := h5M, k := 4, f := f14 :: h5F }) [15] rfl (by kernel_rfl) (by kernel_rfl) ⟨⟨rfl, rfl⟩, ⟨rfl, rfl⟩, ⟨rfl, trivial⟩, ⟨rfl, trivial⟩, ⟨rfl, trivial⟩, ⟨rfl, trivial⟩, ⟨rfl, trivial⟩, ⟨rfl, trivial⟩, ⟨rfl, rfl⟩, trivial⟩ ⟨?_, trivial⟩
              refine ⟨_, rfl, rfl, _, rfl, ?_⟩
              refine cgo_go ({ s := x15 :: x7 :: x14 :: x13 :: x6 :: x5 :: x12 :: x11 :: h5S, m := h5M, k := 4, f := f14 :: h5F }) [16] rfl (by kernel_rfl) (by kernel_rfl) ⟨⟨rfl, rfl⟩, ⟨rfl, rfl⟩, ⟨rfl, trivial⟩, ⟨rfl, trivial⟩, ⟨rfl, trivial⟩, ⟨rfl, trivial⟩, ⟨rfl, trivial⟩, ⟨rfl, trivial⟩, ⟨rfl, rfl⟩, trivial⟩ ⟨?_, trivial⟩
              refine ⟨_, rfl, rfl, _, rfl, ?_⟩
              refine cgo_go ({ s := x16 :: x15 :: x7 :: x14 :: x13 :: x6 :: x5 :: x12 :: x11 :: h5S, m := m16a :: h5M, k := 5, f := f14 :: h5F }) [17] rfl (by kernel_rfl) (by kernel_rfl) ⟨⟨rfl, rfl⟩, ⟨rfl, rfl⟩, ⟨rfl, trivial⟩, ⟨rfl, trivial⟩, ⟨rfl, trivial⟩, ⟨rfl, trivial⟩, ⟨rfl, trivial⟩, ⟨rfl, trivial⟩, ⟨rfl, rfl⟩, trivial⟩ ⟨?_, trivial⟩
              refine ⟨_, rfl, rfl, _, rfl, ?_⟩
              refine ⟨{}, ⟨trivial, by decide, .inr rfl, hfit1, hfit2⟩, ?_⟩
              refine cgo_go ({ s := x17 :: x16 :: x15 :: x7 :: x14 :: x13 :: x6 :: x5 :: x12 :: x11 :: h5S, m := m17a :: m17b :: m16a :: h5M, k := 6, f := f14 :: h5F }) [19] rfl (by kernel_rfl) (by kernel_rfl) ⟨⟨rfl, trivial⟩, ⟨rfl, trivial⟩, ⟨rfl, trivial⟩, ⟨rfl, trivial⟩, ⟨rfl, trivial⟩, ⟨rfl, trivial⟩, ⟨rfl, trivial⟩, ⟨rfl, trivial⟩, ⟨rfl, rfl⟩, trivial⟩ ⟨?_, trivial⟩
              refine ⟨_, rfl, rfl, _, rfl, ?_⟩
              refine cgo_end _ rfl (by kernel_rfl) ⟨⟨rfl, trivial⟩, ⟨rfl, trivial⟩, ⟨rfl, trivial⟩, ⟨rfl, trivial⟩, ⟨rfl, trivial⟩, ⟨rfl, trivial⟩, ⟨rfl, trivial⟩, ⟨rfl, trivial⟩, ⟨rfl, trivial⟩, trivial⟩ ?_
              exact ⟨ys ++ [(cn, (TT.mk yk yn ynm yla ylc yls yaa yac yus))], ⟨by simp only [List.length_append, List.length_singleton]; omega, by rw [hxm]; simp only [List.length_append, List.length_singleton]⟩, by simp only [List.length_append, List.length_singleton]; omega, ent_ren [(0, .blk 0), (1, .blk 1), (2, .blk 2), (3, .own 5)] rfl rfl rfl rfl (Nat.le_of_ble_eq_true rfl) ⟨⟨_, rfl, rfl⟩, ⟨_, rfl, rfl⟩, ⟨_, rfl, rfl⟩, ⟨_, rfl, by simp only [List.length_append, List.length_singleton]; exact oneI (wrapI (by omega) (by omega))⟩, trivial⟩ ⟨⟨_, rfl, rfl⟩, ⟨_, rfl, rfl⟩, ⟨_, rfl, rfl⟩, ⟨_, _, rfl, by simp, by simp [ctsC]⟩, trivial⟩ ⟨⟨cE.up _ _ _ _, fun w h => ⟨h.2.1.1, fun c hc2 => (List.mem_append.1 hc2).elim (h.2.1.2 c) (fun hc2 => by rw [List.mem_singleton.1 hc2]; exact ⟨h.1, (h.2.1.1.1.hcts _ _ hc).2.2⟩)⟩⟩, trivial⟩⟩
        · refine ⟨_, rfl, rfl, _, rfl, ?_⟩
          refine ⟨{ cs := (TT.mk uk un unm ula ulc uls uaa uac uus).cells }, ⟨TT.cells_one (TT.mk uk un unm ula ulc uls uaa uac uus), rfl, fun w h => ?_⟩, ?_⟩
          · obtain ⟨⟨a, ha, h3⟩, _⟩ := h.1.1.1.hcts _ _ hc
            cases ha
            exact ⟨_, rfl, ct_at h3⟩
          refine cgo_go ({ s := x13 :: x5 :: x12 :: x11 :: h5S, m := h5M, k := 4, f := h5F }) [6, 14] rfl (by kernel_rfl) (by kernel_rfl) ⟨⟨rfl, rfl⟩, ⟨rfl, rfl⟩, ⟨rfl, trivial⟩, ⟨rfl, trivial⟩, ⟨rfl, trivial⟩, ⟨rfl, trivial⟩, ⟨rfl, trivial⟩, ⟨rfl, trivial⟩, ⟨rfl, rfl⟩, trivial⟩ ⟨?_, ?_, trivial⟩
          · refine ⟨_, rfl, rfl, _, rfl, ?_⟩
            refine cgo_go ({ s := x6 :: x13 :: x5 :: x12 :: x11 :: h5S, m := h5M, k := 4, f := h5F }) [7, 14] rfl (by kernel_rfl) (by kernel_rfl) ⟨⟨rfl, rfl⟩, ⟨rfl, rfl⟩, ⟨rfl, trivial⟩, ⟨rfl, trivial⟩, ⟨rfl, trivial⟩, ⟨rfl, trivial⟩, ⟨rfl, trivial⟩, ⟨rfl, trivial⟩, ⟨rfl, rfl⟩, trivial⟩ ⟨?_, ?_, trivial⟩
            · refine ⟨_, rfl, rfl, _, rfl, ?_⟩
              refine ⟨{ v := .string cn }, fun w h => ?_, ?_⟩
              · obtain ⟨⟨a, ha, h3⟩, _⟩ := h.1.1.1.hcts _ _ hc
                cases ha
                exact ⟨_, rfl, h3 0 _ rfl⟩
              refine cgo_go ({ s := x7 :: x6 :: x13 :: x5 :: x12 :: x11 :: h5S, m := h5M, k := 4, f := h5F }) [14] rfl (by kernel_rfl) (by kernel_rfl) ⟨⟨rfl, rfl⟩, ⟨rfl, rfl⟩, ⟨rfl, trivial⟩, ⟨rfl, trivial⟩, ⟨rfl, trivial⟩, ⟨rfl, trivial⟩, ⟨rfl, trivial⟩, ⟨rfl, trivial⟩, ⟨rfl, rfl⟩, trivial⟩ ⟨?_, trivial⟩
              refine ⟨_, rfl, rfl, _, rfl, ?_⟩
              refine callVC_lend [] hcc rfl trivial rfl rfl (fun w h => (h.1.1.1.hcts _ _ hc).2.1) (fun x _ => ?_) (fun x hx => ?_)
              · obtain ⟨yk, yn, ynm, yla, ylc, yls, yaa, yac, yus⟩ := x
                exact ⟨rfl, rfl⟩
              have hxm := hstep x hx
              clear hx
              obtain ⟨yk, yn, ynm, yla, ylc, yls, yaa, yac, yus⟩ := x
              let x14 : Nat × SV := (41, ttA (TT.mk yk yn ynm yla ylc yls yaa yac yus))
              let f14 : World → Prop := fun w => TTIn w (TT.mk yk yn ynm yla ylc yls yaa yac yus)
              let x15 : Nat × SV := (42, .agg (.v (.string cn) :: (TT.mk yk yn ynm yla ylc yls yaa yac yus).cells.map SA.v))
              let x16 : Nat × SV := (43, .one (.sl 4 0 1 1))
              let m16a : Nat × LB := (4, .cells 75 (.v (.string cn) :: (TT.mk yk yn ynm yla ylc yls yaa yac yus).cells.map SA.v))
              let x17 : Nat × SV := (44, .one (.row 5))
              let m17a : Nat × LB := (5, .own 75 6 (ys.length + 1) (ctsC ys ++ ctCells (cn, (TT.mk yk yn ynm yla ylc yls yaa yac yus))))
              let m17b : Nat × LB := (3, .dead)
              refine cgo_go ({ s := x14 :: x7 :: x6 :: x13 :: x5 :: x12 :: x11 :: h5S, m := h5M, k := 4, f := f14 :: h5F }) [15] rfl (by kernel_rfl) (by kernel_rfl) ⟨⟨rfl, rfl⟩, ⟨rfl, rfl⟩, ⟨rfl, trivial⟩, ⟨rfl, trivial⟩, ⟨rfl, trivial⟩, ⟨rfl, trivial⟩, ⟨rfl, trivial⟩, ⟨rfl, trivial⟩, ⟨rfl, rfl⟩, trivial⟩ ⟨?_, trivial⟩
              refine ⟨_, rfl, rfl, _, rfl, ?_⟩
              refine cgo_go ({ s := x15 :: x14 :: x7 :: x6 :: x13 :: x5 :: x12 :: x11 :: h5S, m := h5M, k := 4, f := f14 :: h5F }) [16] rfl (by kernel_rfl) (by kernel_rfl) ⟨⟨rfl, rfl⟩, ⟨rfl, rfl⟩, ⟨rfl, trivial⟩, ⟨rfl, trivial⟩, ⟨rfl, trivial⟩, ⟨rfl, trivial⟩, ⟨rfl, trivial⟩, ⟨rfl, trivial⟩, ⟨rfl, rfl⟩, trivial⟩ ⟨?_, trivial⟩
              refine ⟨_, rfl, rfl, _, rfl, ?_⟩
              refine cgo_go ({ s := x16 :: x15 :: x14 :: x7 :: x6 :: x13 :: x5 :: x12 :: x11 :: h5S, m := m16a :: h5M, k := 5, f := f14 :: h5F }) [17] rfl (by kernel_rfl) (by kernel_rfl) ⟨⟨rfl, rfl⟩, ⟨rfl, rfl⟩, ⟨rfl, trivial⟩, ⟨rfl, trivial⟩, ⟨rfl, trivial⟩, ⟨rfl, trivial⟩, ⟨rfl, trivial⟩, ⟨rfl, trivial⟩, ⟨rfl, rfl⟩, trivial⟩ ⟨?_, trivial⟩
              refine ⟨_, rfl, rfl, _, rfl, ?_⟩
              refine ⟨{}, ⟨trivial, by decide, .inr rfl, hfit1, hfit2⟩, ?_⟩
              refine cgo_go ({ s := x17 :: x16 :: x15 :: x14 :: x7 :: x6 :: x13 :: x5 :: x12 :: x11 :: h5S, m := m17a :: m17b :: m16a :: h5M, k := 6, f := f14 :: h5F }) [19] rfl (by kernel_rfl) (by kernel_rfl) ⟨⟨rfl, trivial⟩, ⟨rfl, trivial⟩, ⟨rfl, trivial⟩, ⟨rfl, trivial⟩, ⟨rfl, trivial⟩, ⟨rfl, trivial⟩, ⟨rfl, trivial⟩, ⟨rfl, trivial⟩, ⟨rfl, rfl⟩, trivial⟩ ⟨?_, trivial⟩
              refine ⟨_, rfl, rfl, _, rfl, ?_⟩
              refine cgo_end _ rfl (by kernel_rfl) ⟨⟨rfl, trivial⟩, ⟨rfl, trivial⟩, ⟨rfl, trivial⟩, ⟨rfl, trivial⟩, ⟨rfl, trivial⟩, ⟨rfl, trivial⟩, ⟨rfl, trivial⟩, ⟨rfl, trivial⟩, ⟨rfl, trivial⟩, trivial⟩ ?_
              exact ⟨ys ++ [(cn, (TT.mk yk yn ynm yla ylc yls yaa yac yus))], ⟨by simp only [List.length_append, List.length_singleton]; omega, by rw [hxm]; simp only [List.length_append, List.length_singleton]⟩, by simp only [List.length_append, List.length_singleton]; omega, ent_ren [(0, .blk 0), (1, .blk 1), (2, .blk 2), (3, .own 5)] rfl rfl rfl rfl (Nat.le_of_ble_eq_true rfl) ⟨⟨_, rfl, rfl⟩, ⟨_, rfl, rfl⟩, ⟨_, rfl, rfl⟩, ⟨_, rfl, by simp only [List.length_append, List.length_singleton]; exact oneI (wrapI (by omega) (by omega))⟩, trivial⟩ ⟨⟨_, rfl, rfl⟩, ⟨_, rfl, rfl⟩, ⟨_, rfl, rfl⟩, ⟨_, _, rfl, by simp, by simp [ctsC]⟩, trivial⟩ ⟨⟨cE.up _ _ _ _, fun w h => ⟨h.2.1.1, fun c hc2 => (List.mem_append.1 hc2).elim (h.2.1.2 c) (fun hc2 => by rw [List.mem_singleton.1 hc2]; exact ⟨h.1, (h.2.1.1.1.hcts _ _ hc).2.2⟩)⟩⟩, trivial⟩⟩
            · refine ⟨_, rfl, rfl, _, rfl, ?_⟩
              refine callVC_lend [] hcc rfl trivial rfl rfl (fun w h => (h.1.1.1.hcts _ _ hc).2.1) (fun x _ => ?_) (fun x hx => ?_)
              · obtain ⟨yk, yn, ynm, yla, ylc, yls, yaa, yac, yus⟩ := x
                exact ⟨rfl, rfl⟩
              have hxm := hstep x hx
              clear hx
              obtain ⟨yk, yn, ynm, yla, ylc, yls, yaa, yac, yus⟩ := x
              let x14 : Nat × SV := (41, ttA (TT.mk yk yn ynm yla ylc yls yaa yac yus))
              let f14 : World → Prop := fun w => TTIn w (TT.mk yk yn ynm yla ylc yls yaa yac yus)
              let x15 : Nat × SV := (42, .agg (.v (.string cn) :: (TT.mk yk yn ynm yla ylc yls yaa yac yus).cells.map SA.v))
              let x16 : Nat × SV := (43, .one (.sl 4 0 1 1))
              let m16a : Nat × LB := (4, .cells 75 (.v (.string cn) :: (TT.mk yk yn ynm yla ylc yls yaa yac yus).cells.map SA.v))
              let x17 : Nat × SV := (44, .one (.row 5))
              let m17a : Nat × LB := (5, .own 75 6 (ys.length + 1) (ctsC ys ++ ctCells (cn, (TT.mk yk yn ynm yla ylc yls yaa yac yus))))
              let m17b : Nat × LB := (3, .dead)
              refine cgo_go ({ s := x14 :: x6 :: x13 :: x5 :: x12 :: x11 :: h5S, m := h5M, k := 4, f := f14 :: h5F }) [7] rfl (by kernel_rfl) (by kernel_rfl) ⟨⟨rfl, rfl⟩, ⟨rfl, rfl⟩, ⟨rfl, trivial⟩, ⟨rfl, trivial⟩, ⟨rfl, trivial⟩, ⟨rfl, trivial⟩, ⟨rfl, trivial⟩, ⟨rfl, trivial⟩, ⟨rfl, rfl⟩, trivial⟩ ⟨?_, trivial⟩
              refine ⟨_, rfl, rfl, _, rfl, ?_⟩
              refine ⟨{ v := .string cn }, fun w h => ?_, ?_⟩
              · obtain ⟨⟨a, ha, h3⟩, _⟩ := h.2.1.1.1.hcts _ _ hc
                cases ha
                exact ⟨_, rfl, h3 0 _ rfl⟩
              refine cgo_go ({ s := x7 :: x14 :: x6 :: x13 :: x5 :: x12 :: x11 :: h5S, m := h5M, k := 4, f := f14 :: h5F }) [15] rfl (by kernel_rfl) (by kernel_rfl) ⟨⟨rfl, rfl⟩, ⟨rfl, rfl⟩, ⟨rfl, trivial⟩, ⟨rfl, trivial⟩, ⟨rfl, trivial⟩, ⟨rfl, trivial⟩, ⟨rfl, trivial⟩, ⟨rfl, trivial⟩, ⟨rfl, rfl⟩, trivial⟩ ⟨?_, trivial⟩
              refine ⟨_, rfl, rfl, _, rfl, ?_⟩
              refine cgo_go ({ s := x15 :: x7 :: x14 :: x6 :: x13 :: x5 :: x12 :: x11 :: h5S, m := h5M, k := 4, f := f14 :: h5F }) [16] rfl (by kernel_rfl) (by kernel_rfl) ⟨⟨rfl, rfl⟩, ⟨rfl, rfl⟩, ⟨rfl, trivial⟩, ⟨rfl, trivial⟩, ⟨rfl, trivial⟩, ⟨rfl, trivial⟩, ⟨rfl, trivial⟩, ⟨rfl, trivial⟩, ⟨rfl, rfl⟩, trivial⟩ ⟨?_, trivial⟩
              refine ⟨_, rfl, rfl, _, rfl, ?_⟩
              refine cgo_go ({ s := x16 :: x15 :: x7 :: x14 :: x6 :: x13 :: x5 :: x12 :: x11 :: h5S, m := m16a :: h5M, k := 5, f := f14 :: h5F }) [17] rfl (by kernel_rfl) (by kernel_rfl) ⟨⟨rfl, rfl⟩, ⟨rfl, rfl⟩, ⟨rfl, trivial⟩, ⟨rfl, trivial⟩, ⟨rfl, trivial⟩, ⟨rfl, trivial⟩, ⟨rfl, trivial⟩, ⟨rfl, trivial⟩, ⟨rfl, rfl⟩, trivial⟩ ⟨?_, trivial⟩
              refine ⟨_, rfl, rfl, _, rfl, ?_⟩
              refine ⟨{}, ⟨trivial, by decide, .inr rfl, hfit1, hfit2⟩, ?_⟩
              refine cgo_go ({ s := x17 :: x16 :: x15 :: x7 :: x14 :: x6 :: x13 :: x5 :: x12 :: x11 :: h5S, m := m17a :: m17b :: m16a :: h5M, k := 6, f := f14 :: h5F }) [19] rfl (by kernel_rfl) (by kernel_rfl) ⟨⟨rfl, trivial⟩, ⟨rfl, trivial⟩, ⟨rfl, trivial⟩, ⟨rfl, trivial⟩, ⟨rfl, trivial⟩, ⟨rfl, trivial⟩, ⟨rfl, trivial⟩, ⟨rfl, trivial⟩, ⟨rfl, rfl⟩, trivial⟩ ⟨?_, trivial⟩
              refine ⟨_, rfl, rfl, _, rfl, ?_⟩
              refine cgo_end _ rfl (by kernel_rfl) ⟨⟨rfl, trivial⟩, ⟨rfl, trivial⟩, ⟨rfl, trivial⟩, ⟨rfl, trivial⟩, ⟨rfl, trivial⟩, ⟨rfl, trivial⟩, ⟨rfl, trivial⟩, ⟨rfl, trivial⟩, ⟨rfl, trivial⟩, trivial⟩ ?_
              exact ⟨ys ++ [(cn, (TT.mk yk yn ynm yla ylc yls yaa yac yus))], ⟨by simp only [List.length_append, List.length_singleton]; omega, by rw [hxm]; simp only [List.length_append, List.length_singleton]⟩, by simp only [List.length_append, List.length_singleton]; omega, ent_ren [(0, .blk 0), (1, .blk 1), (2, .blk 2), (3, .own 5)] rfl rfl rfl rfl (Nat.le_of_ble_eq_true rfl) ⟨⟨_, rfl, rfl⟩, ⟨_, rfl, rfl⟩, ⟨_, rfl, rfl⟩, ⟨_, rfl, by simp only [List.length_append, List.length_singleton]; exact oneI (wrapI (by omega) (by omega))⟩, trivial⟩ ⟨⟨_, rfl, rfl⟩, ⟨_, rfl, rfl⟩, ⟨_, rfl, rfl⟩, ⟨_, _, rfl, by simp, by simp [ctsC]⟩, trivial⟩ ⟨⟨cE.up _ _ _ _, fun w h => ⟨h.2.1.1, fun c hc2 => (List.mem_append.1 hc2).elim (h.2.1.2 c) (fun hc2 => by rw [List.mem_singleton.1 hc2]; exact ⟨h.1, (h.2.1.1.1.hcts _ _ hc).2.2⟩)⟩⟩, trivial⟩⟩
          · refine ⟨_, rfl, rfl, _, rfl, ?_⟩
            refine callVC_lend [] hcc rfl trivial rfl rfl (fun w h => (h.1.1.1.hcts _ _ hc).2.1) (fun x _ => ?_) (fun x hx => ?_)
            · obtain ⟨yk, yn, ynm, yla, ylc, yls, yaa, yac, yus⟩ := x
              exact ⟨rfl, rfl⟩
            have hxm := hstep x hx
            clear hx
            obtain ⟨yk, yn, ynm, yla, ylc, yls, yaa, yac, yus⟩ := x
            let x14 : Nat × SV := (41, ttA (TT.mk yk yn ynm yla ylc yls yaa yac yus))
            let f14 : World → Prop := fun w => TTIn w (TT.mk yk yn ynm yla ylc yls yaa yac yus)
            let x15 : Nat × SV := (42, .agg (.v (.string cn) :: (TT.mk yk yn ynm yla ylc yls yaa yac yus).cells.map SA.v))
            let x16 : Nat × SV := (43, .one (.sl 4 0 1 1))
            let m16a : Nat × LB := (4, .cells 75 (.v (.string cn) :: (TT.mk yk yn ynm yla ylc yls yaa yac yus).cells.map SA.v))
            let x17 : Nat × SV := (44, .one (.row 5))
            let m17a : Nat × LB := (5, .own 75 6 (ys.length + 1) (ctsC ys ++ ctCells (cn, (TT.mk yk yn ynm yla ylc yls yaa yac yus))))
            let m17b : Nat × LB := (3, .dead)
            refine cgo_go ({ s := x14 :: x13 :: x5 :: x12 :: x11 :: h5S, m := h5M, k := 4, f := f14 :: h5F }) [6] rfl (by kernel_rfl) (by kernel_rfl) ⟨⟨rfl, rfl⟩, ⟨rfl, rfl⟩, ⟨rfl, trivial⟩, ⟨rfl, trivial⟩, ⟨rfl, trivial⟩, ⟨rfl, trivial⟩, ⟨rfl, trivial⟩, ⟨rfl, trivial⟩, ⟨rfl, rfl⟩, trivial⟩ ⟨?_, trivial⟩
            refine ⟨_, rfl, rfl, _, rfl, ?_⟩
            refine cgo_go ({ s := x6 :: x14 :: x13 :: x5 :: x12 :: x11 :: h5S, m := h5M, k := 4, f := f14 :: h5F }) [7] rfl (by kernel_rfl) (by kernel_rfl) ⟨⟨rfl, rfl⟩, ⟨rfl, rfl⟩, ⟨rfl, trivial⟩, ⟨rfl, trivial⟩, ⟨rfl, trivial⟩, ⟨rfl, trivial⟩, ⟨rfl, trivial⟩, ⟨rfl, trivial⟩, ⟨rfl, rfl⟩, trivial⟩ ⟨?_, trivial⟩
            refine ⟨_, rfl, rfl, _, rfl, ?_⟩
            refine ⟨{ v := .string cn }, fun w h => ?_, ?_⟩
            · obtain ⟨⟨a, ha, h3⟩, _⟩ := h.2.1.1.1.hcts _ _ hc
              cases ha
              exact ⟨_, rfl, h3 0 _ rfl⟩
            refine cgo_go ({ s := x7 :: x6 :: x14 :: x13 :: x5 :: x12 :: x11 :: h5S, m := h5M, k := 4, f := f14 :: h5F }) [15] rfl (by kernel_rfl) (by kernel_rfl) ⟨⟨rfl, rfl⟩, ⟨rfl, rfl⟩, ⟨rfl, trivial⟩, ⟨rfl, trivial⟩, ⟨rfl, trivial⟩, ⟨rfl, trivial⟩, ⟨rfl, trivial⟩, ⟨rfl, trivial⟩, ⟨rfl, rfl⟩, trivial⟩ ⟨?_, trivial⟩
            refine ⟨_, rfl, rfl, _, rfl, ?_⟩
            refine cgo_go ({ s := x15 :: x7 :: x6 :: x14 :: x13 :: x5 :: x12 :: x11 :: h5S, m := h5M, k := 4, f := f14 :: h5F }) [16] rfl (by kernel_rfl) (by kernel_rfl) ⟨⟨rfl, rfl⟩, ⟨rfl, rfl⟩, ⟨rfl, trivial⟩, ⟨rfl, trivial⟩, ⟨rfl, trivial⟩, ⟨rfl, trivial⟩, ⟨rfl, trivial⟩, ⟨rfl, trivial⟩, ⟨rfl, rfl⟩, trivial⟩ ⟨?_, trivial⟩
            refine ⟨_, rfl, rfl, _, rfl, ?_⟩
            refine cgo_go ({ s := x16 :: x15 :: x7 :: x6 :: x14 :: x13 :: x5 :: x12 :: x11 :: h5S, m := m16a :: h5M, k := 5, f := f14 :: h5F }) [17] rfl (by kernel_rfl) (by kernel_rfl) ⟨⟨rfl, rfl⟩, ⟨rfl, rfl⟩, ⟨rfl, trivial⟩, ⟨rfl, trivial⟩, ⟨rfl, trivial⟩, ⟨rfl, trivial⟩, ⟨rfl, trivial⟩, ⟨rfl, trivial⟩, ⟨rfl, rfl⟩, trivial⟩ ⟨?_, trivial⟩
            refine ⟨_, rfl, rfl, _, rfl, ?_⟩
            refine ⟨{}, ⟨trivial, by decide, .inr rfl, hfit1, hfit2⟩, ?_⟩
            refine cgo_go ({ s := x17 :: x16 :: x15 :: x7 :: x6 :: x14 :: x13 :: x5 :: x12 :: x11 :: h5S, m := m17a :: m17b :: m16a :: h5M, k := 6, f := f14 :: h5F }) [19] rfl (by kernel_rfl) (by kernel_rfl) ⟨⟨rfl, trivial⟩, ⟨rfl, trivial⟩, ⟨rfl, trivial⟩, ⟨rfl, trivial⟩, ⟨rfl, trivial⟩, ⟨rfl, trivial⟩, ⟨rfl, trivial⟩, ⟨rfl, trivial⟩, ⟨rfl, rfl⟩, trivial⟩ ⟨?_, trivial⟩
            refine ⟨_, rfl, rfl, _, rfl, ?_⟩
            refine cgo_end _ rfl (by kernel_rfl) ⟨⟨rfl, trivial⟩, ⟨rfl, trivial⟩, ⟨rfl, trivial⟩, ⟨rfl, trivial⟩, ⟨rfl, trivial⟩, ⟨rfl, trivial⟩, ⟨rfl, trivial⟩, ⟨rfl, trivial⟩, ⟨rfl, trivial⟩, trivial⟩ ?_
            exact ⟨ys ++ [(cn, (TT.mk yk yn ynm yla ylc yls yaa yac yus))], ⟨by simp only [List.length_append, List.length_singleton]; omega, by rw [hxm]; simp only [List.length_append, List.length_singleton]⟩, by simp only [List.length_append, List.length_singleton]; omega, ent_ren [(0, .blk 0), (1, .blk 1), (2, .blk 2), (3, .own 5)] rfl rfl rfl rfl (Nat.le_of_ble_eq_true rfl) ⟨⟨_, rfl, rfl⟩, ⟨_, rfl, rfl⟩, ⟨_, rfl, rfl⟩, ⟨_, rfl, by simp only [List.length_append, List.length_singleton]; exact oneI (wrapI (by omega) (by omega))⟩, trivial⟩ ⟨⟨_, rfl, rfl⟩, ⟨_, rfl, rfl⟩, ⟨_, rfl, rfl⟩, ⟨_, _, rfl, by simp, by simp [ctsC]⟩, trivial⟩ ⟨⟨cE.up _ _ _ _, fun w h => ⟨h.2.1.1, fun c hc2 => (List.mem_append.1 hc2).elim (h.2.1.2 c) (fun hc2 => by rw [List.mem_singleton.1 hc2]; exact ⟨h.1, (h.2.1.1.1.hcts _ _ hc).2.2⟩)⟩⟩, trivial⟩⟩
      · refine ⟨_, rfl, rfl, _, rfl, ?_⟩
        refine ⟨{ cs := (TT.mk uk un unm ula ulc uls uaa uac uus).cells }, ⟨TT.cells_one (TT.mk uk un unm ula ulc uls uaa uac uus), rfl, fun w h => ?_⟩, ?_⟩
        · obtain ⟨⟨a, ha, h3⟩, _⟩ := h.1.1.1.hcts _ _ hc
          cases ha
          exact ⟨_, rfl, ct_at h3⟩
        refine cgo_go ({ s := x13 :: x12 :: x11 :: h5S, m := h5M, k := 4, f := h5F }) [5, 14] rfl (by kernel_rfl) (by kernel_rfl) ⟨⟨rfl, rfl⟩, ⟨rfl, rfl⟩, ⟨rfl, rfl⟩, ⟨rfl, rfl⟩, ⟨rfl, rfl⟩, ⟨rfl, trivial⟩, ⟨rfl, trivial⟩, ⟨rfl, trivial⟩, ⟨rfl, rfl⟩, trivial⟩ ⟨?_, ?_, trivial⟩
        · refine ⟨_, rfl, rfl, _, rfl, ?_⟩
          refine ⟨{ n := ys.length }, ⟨rfl, hlt, fun w h => rfl⟩, ?_⟩
          refine cgo_go ({ s := x5 :: x13 :: x12 :: x11 :: h5S, m := h5M, k := 4, f := h5F }) [6, 14] rfl (by kernel_rfl) (by kernel_rfl) ⟨⟨rfl, rfl⟩, ⟨rfl, rfl⟩, ⟨rfl, trivial⟩, ⟨rfl, trivial⟩, ⟨rfl, trivial⟩, ⟨rfl, trivial⟩, ⟨rfl, trivial⟩, ⟨rfl, trivial⟩, ⟨rfl, rfl⟩, trivial⟩ ⟨?_, ?_, trivial⟩
          · refine ⟨_, rfl, rfl, _, rfl, ?_⟩
            refine cgo_go ({ s := x6 :: x5 :: x13 :: x12 :: x11 :: h5S, m := h5M, k := 4, f := h5F }) [7, 14] rfl (by kernel_rfl) (by kernel_rfl) ⟨⟨rfl, rfl⟩, ⟨rfl, rfl⟩, ⟨rfl, trivial⟩, ⟨rfl, trivial⟩, ⟨rfl, trivial⟩, ⟨rfl, trivial⟩, ⟨rfl, trivial⟩, ⟨rfl, trivial⟩, ⟨rfl, rfl⟩, trivial⟩ ⟨?_, ?_, trivial⟩
            · refine ⟨_, rfl, rfl, _, rfl, ?_⟩
              refine ⟨{ v := .string cn }, fun w h => ?_, ?_⟩
              · obtain ⟨⟨a, ha, h3⟩, _⟩ := h.1.1.1.hcts _ _ hc
                cases ha
                exact ⟨_, rfl, h3 0 _ rfl⟩
              refine cgo_go ({ s := x7 :: x6 :: x5 :: x13 :: x12 :: x11 :: h5S, m := h5M, k := 4, f := h5F }) [14] rfl (by kernel_rfl) (by kernel_rfl) ⟨⟨rfl, rfl⟩, ⟨rfl, rfl⟩, ⟨rfl, trivial⟩, ⟨rfl, trivial⟩, ⟨rfl, trivial⟩, ⟨rfl, trivial⟩, ⟨rfl, trivial⟩, ⟨rfl, trivial⟩, ⟨rfl, rfl⟩, trivial⟩ ⟨?_, trivial⟩
              refine ⟨_, rfl, rfl, _, rfl, ?_⟩
              refine callVC_lend [] hcc rfl trivial rfl rfl (fun w h => (h.1.1.1.hcts _ _ hc).2.1) (fun x _ => ?_) (fun x hx => ?_)
              · obtain ⟨yk, yn, ynm, yla, ylc, yls, yaa, yac, yus⟩ := x
                exact ⟨rfl, rfl⟩
              have hxm := hstep x hx
              clear hx
              obtain ⟨yk, yn, ynm, yla, ylc, yls, yaa, yac, yus⟩ := x
              let x14 : Nat × SV := (41, ttA (TT.mk yk yn ynm yla ylc yls yaa yac yus))
              let f14 : World → Prop := fun w => TTIn w (TT.mk yk yn ynm yla ylc yls yaa yac yus)
              let x15 : Nat × SV := (42, .agg (.v (.string cn) :: (TT.mk yk yn ynm yla ylc yls yaa yac yus).cells.map SA.v))
              let x16 : Nat × SV := (43, .one (.sl 4 0 1 1))
              let m16a : Nat × LB := (4, .cells 75 (.v (.string cn) :: (TT.mk yk yn ynm yla ylc yls yaa yac yus).cells.map SA.v))
              let x17 : Nat × SV := (44, .one (.row 5))
              let m17a : Nat × LB := (5, .own 75 6 (ys.length + 1) (ctsC ys ++ ctCells (cn, (TT.mk yk yn ynm yla ylc yls yaa yac yus))))
              let m17b : Nat × LB := (3, .dead)
              refine cgo_go ({ s := x14 :: x7 :: x6 :: x5 :: x13 :: x12 :: x11 :: h5S, m := h5M, k := 4, f := f14 :: h5F }) [15] rfl (by kernel_rfl) (by kernel_rfl) ⟨⟨rfl, rfl⟩, ⟨rfl, rfl⟩, ⟨rfl, trivial⟩, ⟨rfl, trivial⟩, ⟨rfl, trivial⟩, ⟨rfl, trivial⟩, ⟨rfl, trivial⟩, ⟨rfl, trivial⟩, ⟨rfl, rfl⟩, trivial⟩ ⟨?_, trivial⟩
              refine ⟨_, rfl, rfl, _, rfl, ?_⟩
              refine cgo_go ({ s := x15 :: x14 :: x7 :: x6 :: x5 :: x13 :: x12 :: x11 :: h5S, m := h5M, k := 4, f := f14 :: h5F }) [16] rfl (by kernel_rfl) (by kernel_rfl) ⟨⟨rfl, rfl⟩, ⟨rfl, rfl⟩, ⟨rfl, trivial⟩, ⟨rfl, trivial⟩, ⟨rfl, trivial⟩, ⟨rfl, trivial⟩, ⟨rfl, trivial⟩, ⟨rfl, trivial⟩, ⟨rfl, rfl⟩, trivial⟩ ⟨?_, trivial⟩
              refine ⟨_, rfl, rfl, _, rfl, ?_⟩
              refine cgo_go ({ s := x16 :: x15 :: x14 :: x7 :: x6 :: x5 :: x13 :: x12 :: x11 :: h5S, m := m16a :: h5M, k := 5, f := f14 :: h5F }) [17] rfl (by kernel_rfl) (by kernel_rfl) ⟨⟨rfl, rfl⟩, ⟨rfl, rfl⟩, ⟨rfl, trivial⟩, ⟨rfl, trivial⟩, ⟨rfl, trivial⟩, ⟨rfl, trivial⟩, ⟨rfl, trivial⟩, ⟨rfl, trivial⟩, ⟨rfl, rfl⟩, trivial⟩ ⟨?_, trivial⟩
              refine ⟨_, rfl, rfl, _, rfl, ?_⟩
              refine ⟨{}, ⟨trivial, by decide, .inr rfl, hfit1, hfit2⟩, ?_⟩
              refine cgo_go ({ s := x17 :: x16 :: x15 :: x14 :: x7 :: x6 :: x5 :: x13 :: x12 :: x11 :: h5S, m := m17a :: m17b :: m16a :: h5M, k := 6, f := f14 :: h5F }) [19] rfl (by kernel_rfl) (by kernel_rfl) ⟨⟨rfl, trivial⟩, ⟨rfl, trivial⟩, ⟨rfl, trivial⟩, ⟨rfl, trivial⟩, ⟨rfl, trivial⟩, ⟨rfl, trivial⟩, ⟨rfl, trivial⟩, ⟨rfl, trivial⟩, ⟨rfl, rfl⟩, trivial⟩ ⟨?_, trivial⟩
              refine ⟨_, rfl, rfl, _, rfl, ?_⟩
              refine cgo_end _ rfl (by kernel_rfl) ⟨⟨rfl, trivial⟩, ⟨rfl, trivial⟩, ⟨rfl, trivial⟩, ⟨rfl, trivial⟩, ⟨rfl, trivial⟩, ⟨rfl, trivial⟩, ⟨rfl, trivial⟩, ⟨rfl, trivial⟩, ⟨rfl, trivial⟩, trivial⟩ ?_
              exact ⟨ys ++ [(cn, (TT.mk yk yn ynm yla ylc yls yaa yac yus))], ⟨by simp only [List.length_append, List.length_singleton]; omega, by rw [hxm]; simp only [List.length_append, List.length_singleton]⟩, by simp only [List.length_append, List.length_singleton]; omega, ent_ren [(0, .blk 0), (1, .blk 1), (2, .blk 2), (3, .own 5)] rfl rfl rfl rfl (Nat.le_of_ble_eq_true rfl) ⟨⟨_, rfl, rfl⟩, ⟨_, rfl, rfl⟩, ⟨_, rfl, rfl⟩, ⟨_, rfl, by simp only [List.length_append, List.length_singleton]; exact oneI (wrapI (by omega) (by omega))⟩, trivial⟩ ⟨⟨_, rfl, rfl⟩, ⟨_, rfl, rfl⟩, ⟨_, rfl, rfl⟩, ⟨_, _, rfl, by simp, by simp [ctsC]⟩, trivial⟩ ⟨⟨cE.up _ _ _ _, fun w h => ⟨h.2.1.1, fun c hc2 => (List.mem_append.1 hc2).elim (h.2.1.2 c) (fun hc2 => by rw [List.mem_singleton.1 hc2]; exact ⟨h.1, (h.2.1.1.1.hcts _ _ hc).2.2⟩)⟩⟩, trivial⟩⟩
            · refine ⟨_, rfl, rfl, _, rfl, ?_⟩
              refine callVC_lend [] hcc rfl trivial rfl rfl (fun w h => (h.1.1.1.hcts _ _ hc).2.1) (fun x _ => ?_) (fun x hx => ?_)
              · obtain ⟨yk, yn, ynm, yla, ylc, yls, yaa, yac, yus⟩ := x
                exact ⟨rfl, rfl⟩
              have hxm := hstep x hx
              clear hx
              obtain ⟨yk, yn, ynm, yla, ylc, yls, yaa, yac, yus⟩ := x
              let x14 : Nat × SV := (41, ttA (TT.mk yk yn ynm yla ylc yls yaa yac yus))
              let f14 : World → Prop := fun w => TTIn w (TT.mk yk yn ynm yla ylc yls yaa yac yus)
              let x15 : Nat × SV := (42, .agg (.v (.string cn) :: (TT.mk yk yn ynm yla ylc yls yaa yac yus).cells.map SA.v))
              let x16 : Nat × SV := (43, .one (.sl 4 0 1 1))
              let m16a : Nat × LB := (4, .cells 75 (.v (.string cn) :: (TT.mk yk yn ynm yla ylc yls yaa yac yus).cells.map SA.v))
              let x17 : Nat × SV := (44, .one (.row 5))
              let m17a : Nat × LB := (5, .own 75 6 (ys.length + 1) (ctsC ys ++ ctCells (cn, (TT.mk yk yn ynm yla ylc yls yaa yac yus))))
              let m17b : Nat × LB := (3, .dead)
              refine cgo_go ({ s := x14 :: x6 :: x5 :: x13 :: x12 :: x11 :: h5S, m := h5M, k := 4, f := f14 :: h5F }) [7] rfl (by kernel_rfl) (by kernel_rfl) ⟨⟨rfl, rfl⟩, ⟨rfl, rfl⟩, ⟨rfl, trivial⟩, ⟨rfl, trivial⟩, ⟨rfl, trivial⟩, ⟨rfl, trivial⟩, ⟨rfl, trivial⟩, ⟨rfl, trivial⟩, ⟨rfl, rfl⟩, trivial⟩ ⟨?_, trivial⟩
              refine ⟨_, rfl, rfl, _, rfl, ?_⟩
              refine ⟨{ v := .string cn }, fun w h => ?_, ?_⟩
              · obtain ⟨⟨a, ha, h3⟩, _⟩ := h.2.1.1.1.hcts _ _ hc
                cases ha
                exact ⟨_, rfl, h3 0 _ rfl⟩
              refine cgo_go ({ s := x7 :: x14 :: x6 :: x5 :: x13 :: x12 :: x11 :: h5S, m := h5M, k := 4, f := f14 :: h5F }) [15] rfl (by kernel_rfl) (by kernel_rfl) ⟨⟨rfl, rfl⟩, ⟨rfl, rfl⟩, ⟨rfl, trivial⟩, ⟨rfl, trivial⟩, ⟨rfl, trivial⟩, ⟨rfl, trivial⟩, ⟨rfl, trivial⟩, ⟨rfl, trivial⟩, ⟨rfl, rfl⟩, trivial⟩ ⟨?_, trivial⟩
              refine ⟨_, rfl, rfl, _, rfl, ?_⟩
              refine cgo_go ({ s := x15 :: x7 :: x14 :: x6 :: x5 :: x13 :: x12 :: x11 :: h5S, m := h5M, k := 4, f := f14 :: h5F }) [16] rfl (by kernel_rfl) (by kernel_rfl) ⟨⟨rfl, rfl⟩, ⟨rfl, rfl⟩, ⟨rfl, trivial⟩, ⟨rfl, trivial⟩, ⟨rfl, trivial⟩, ⟨rfl, trivial⟩, ⟨rfl, trivial⟩, ⟨rfl, trivial⟩, ⟨rfl, rfl⟩, trivial⟩ ⟨?_, trivial⟩
              refine ⟨_, rfl, rfl, _, rfl, ?_⟩
              refine cgo_go ({ s := x16 :: x15 :: x7 :: x14 :: x6 :: x5 :: x13 :: x12 :: x11 :: h5S, m := m16a :: h5M, k := 5, f := f14 :: h5F }) [17] rfl (by kernel_rfl) (by kernel_rfl) ⟨⟨rfl, rfl⟩, ⟨rfl, rfl⟩, ⟨rfl, trivial⟩, ⟨rfl, trivial⟩, ⟨rfl, trivial⟩, ⟨rfl, trivial⟩, ⟨rfl, trivial⟩, ⟨rfl, trivial⟩, ⟨rfl, rfl⟩, trivial⟩ ⟨?_, trivial⟩
              refine ⟨_, rfl, rfl, _, rfl, ?_⟩
              refine ⟨{}, ⟨trivial, by decide, .inr rfl, hfit1, hfit2⟩, ?_⟩
              refine cgo_go ({ s := x17 :: x16 :: x15 :: x7 :: x14 :: x6 :: x5 :: x13 :: x12 :: x11 :: h5S, m := m17a :: m17b :: m16a :: h5M, k := 6, f := f14 :: h5F }) [19] rfl (by kernel_rfl) (by kernel_rfl) ⟨⟨rfl, trivial⟩, ⟨rfl, trivial⟩, ⟨rfl, trivial⟩, ⟨rfl, trivial⟩, ⟨rfl, trivial⟩, ⟨rfl, trivial⟩, ⟨rfl, trivial⟩, ⟨rfl, trivial⟩, ⟨rfl, rfl⟩, trivial⟩ ⟨?_, trivial⟩
              refine ⟨_, rfl, rfl, _, rfl, ?_⟩
              refine cgo_end _ rfl (by kernel_rfl) ⟨⟨rfl, trivial⟩, ⟨rfl, trivial⟩, ⟨rfl, trivial⟩, ⟨rfl, trivial⟩, ⟨rfl, trivial⟩, ⟨rfl, trivial⟩, ⟨rfl, trivial⟩, ⟨rfl, trivial⟩, ⟨rfl, trivial⟩, trivial⟩ ?_
              exact ⟨ys ++ [(cn, (TT.mk yk yn ynm yla ylc yls yaa yac yus))], ⟨by simp only [List.length_append, List.length_singleton]; omega, by rw [hxm]; simp only [List.length_append, List.length_singleton]⟩, by simp only [List.length_append, List.length_singleton]; omega, ent_ren [(0, .blk 0), (1, .blk 1), (2, .blk 2), (3, .own 5)] rfl rfl rfl rfl (Nat.le_of_ble_eq_true rfl) ⟨⟨_, rfl, rfl⟩, ⟨_, rfl, rfl⟩, ⟨_, rfl, rfl⟩, ⟨_, rfl, by simp only [List.length_append, List.length_singleton]; exact oneI (wrapI (by omega) (by omega))⟩, trivial⟩ ⟨⟨_, rfl, rfl⟩, ⟨_, rfl, rfl⟩, ⟨_, rfl, rfl⟩, ⟨_, _, rfl, by simp, by simp [ctsC]⟩, trivial⟩ ⟨⟨cE.up _ _ _ _, fun w h => ⟨h.2.1.1, fun c hc2 => (List.mem_append.1 hc2).elim (h.2.1.2 c) (fun hc2 => by rw [List.mem_singleton.1 hc2]; exact ⟨h.1, (h.2.1.1.1.hcts _ _ hc).2.2⟩)⟩⟩, trivial⟩⟩
          · refine ⟨_, rfl, rfl, _, rfl, ?_⟩
            refine callVC_lend [] hcc rfl trivial rfl rfl (fun w h => (h.1.1.1.hcts _ _ hc).2.1) (fun x _ => ?_) (fun x hx => ?_)
            · obtain ⟨yk, yn, ynm, yla, ylc, yls, yaa, yac, yus⟩ := x
              exact ⟨rfl, rfl⟩
            have hxm := hstep x hx
            clear hx
            obtain ⟨yk, yn, ynm, yla, ylc, yls, yaa, yac, yus⟩ := x
            let x14 : Nat × SV := (41, ttA (TT.mk yk yn ynm yla ylc yls yaa yac yus))
            let f14 : World → Prop := fun w => TTIn w (TT.mk yk yn ynm yla ylc yls yaa yac yus)
            let x15 : Nat × SV := (42, .agg (.v (.string cn) :: (TT.mk yk yn ynm yla ylc yls yaa yac yus).cells.map SA.v))
            let x16 : Nat × SV := (43, .one (.sl 4 0 1 1))
            let m16a : Nat × LB := (4, .cells 75 (.v (.string cn) :: (TT.mk yk yn ynm yla ylc yls yaa yac yus).cells.map SA.v))
            let x17 : Nat × SV := (44, .one (.row 5))
            let m17a : Nat × LB := (5, .own 75 6 (ys.length + 1) (ctsC ys ++ ctCells (cn, (TT.mk yk yn ynm yla ylc yls yaa yac yus))))
            let m17b : Nat × LB := (3, .dead)
            refine cgo_go ({ s := x14 :: x5 :: x13 :: x12 :: x11 :: h5S, m := h5M, k := 4, f := f14 :: h5F }) [6] rfl (by kernel_rfl) (by kernel_rfl) ⟨⟨rfl, rfl⟩, ⟨rfl, rfl⟩, ⟨rfl, trivial⟩, ⟨rfl, trivial⟩, ⟨rfl, trivial⟩, ⟨rfl, trivial⟩, ⟨rfl, trivial⟩, ⟨rfl, trivial⟩, ⟨rfl, rfl⟩, trivial⟩ ⟨?_, trivial⟩
            refine ⟨_, rfl, rfl, _, rfl, ?_⟩
            refine cgo_go ({ s := x6 :: x14 :: x5 :: x13 :: x12 :: x11 :: h5S, m := h5M, k := 4, f := f14 :: h5F }) [7] rfl (by kernel_rfl) (by kernel_rfl) ⟨⟨rfl, rfl⟩, ⟨rfl, rfl⟩, ⟨rfl, trivial⟩, ⟨rfl, trivial⟩, ⟨rfl, trivial⟩, ⟨rfl, trivial⟩, ⟨rfl, trivial⟩, ⟨rfl, trivial⟩, ⟨rfl, rfl⟩, trivial⟩ ⟨?_, trivial⟩
            refine ⟨_, rfl, rfl, _, rfl, ?_⟩
            refine ⟨{ v := .string cn }, fun w h => ?_, ?_⟩
            · obtain ⟨⟨a, ha, h3⟩, _⟩ := h.2.1.1.1.hcts _ _ hc
              cases ha
              exact ⟨_, rfl, h3 0 _ rfl⟩
            refine cgo_go ({ s := x7 :: x6 :: x14 :: x5 :: x13 :: x12 :: x11 :: h5S, m := h5M, k := 4, f := f14 :: h5F }) [15] rfl (by kernel_rfl) (by kernel_rfl) ⟨⟨rfl, rfl⟩, ⟨rfl, rfl⟩, ⟨rfl, trivial⟩, ⟨rfl, trivial⟩, ⟨rfl, trivial⟩, ⟨rfl, trivial⟩, ⟨rfl, trivial⟩, ⟨rfl, trivial⟩, ⟨rfl, rfl⟩, trivial⟩ ⟨?_, trivial⟩
            refine ⟨_, rfl, rfl, _, rfl, ?_⟩
            refine cgo_go ({ s := x15 :: x7 :: x6 :: x14 :: x5 :: x13 :: x12 :: x11 :: h5S, m := h5M, k := 4, f := f14 :: h5F }) [16] rfl (by kernel_rfl) (by kernel_rfl) ⟨⟨rfl, rfl⟩, ⟨rfl, rfl⟩, ⟨rfl, trivial⟩, ⟨rfl, trivial⟩, ⟨rfl, trivial⟩, ⟨rfl, trivial⟩, ⟨rfl, trivial⟩, ⟨rfl, trivial⟩, ⟨rfl, rfl⟩, trivial⟩ ⟨?_, trivial⟩
            refine ⟨_, rfl, rfl, _, rfl, ?_⟩
            refine cgo_go ({ s := x16 :: x15 :: x7 :: x6 :: x14 :: x5 :: x13 :: x12 :: x11 :: h5S, m := m16a :: h5M, k := 5, f := f14 :: h5F }) [17] rfl (by kernel_rfl) (by kernel_rfl) ⟨⟨rfl, rfl⟩, ⟨rfl, rfl⟩, ⟨rfl, trivial⟩, ⟨rfl, trivial⟩, ⟨rfl, trivial⟩, ⟨rfl, trivial⟩, ⟨rfl, trivial⟩, ⟨rfl, trivial⟩, ⟨rfl, rfl⟩, trivial⟩ ⟨?_, trivial⟩
            refine ⟨_, rfl, rfl, _, rfl, ?_⟩
            refine ⟨{}, ⟨trivial, by decide, .inr rfl, hfit1, hfit2⟩, ?_⟩
            refine cgo_go ({ s := x17 :: x16 :: x15 :: x7 :: x6 :: x14 :: x5 :: x13 :: x12 :: x11 :: h5S, m := m17a :: m17b :: m16a :: h5M, k := 6, f := f14 :: h5F }) [19] rfl (by kernel_rfl) (by kernel_rfl) ⟨⟨rfl, trivial⟩, ⟨rfl, trivial⟩, ⟨rfl, trivial⟩, ⟨rfl, trivial⟩, ⟨rfl, trivial⟩, ⟨rfl, trivial⟩, ⟨rfl, trivial⟩, ⟨rfl, trivial⟩, ⟨rfl, rfl⟩, trivial⟩ ⟨?_, trivial⟩
            refine ⟨_, rfl, rfl, _, rfl, ?_⟩
            refine cgo_end _ rfl (by kernel_rfl) ⟨⟨rfl, trivial⟩, ⟨rfl, trivial⟩, ⟨rfl, trivial⟩, ⟨rfl, trivial⟩, ⟨rfl, trivial⟩, ⟨rfl, trivial⟩, ⟨rfl, trivial⟩, ⟨rfl, trivial⟩, ⟨rfl, trivial⟩, trivial⟩ ?_
            exact ⟨ys ++ [(cn, (TT.mk yk yn ynm yla ylc yls yaa yac yus))], ⟨by simp only [List.length_append, List.length_singleton]; omega, by rw [hxm]; simp only [List.length_append, List.length_singleton]⟩, by simp only [List.length_append, List.length_singleton]; omega, ent_ren [(0, .blk 0), (1, .blk 1), (2, .blk 2), (3, .own 5)] rfl rfl rfl rfl (Nat.le_of_ble_eq_true rfl) ⟨⟨_, rfl, rfl⟩, ⟨_, rfl, rfl⟩, ⟨_, rfl, rfl⟩, ⟨_, rfl, by simp only [List.length_append, List.length_singleton]; exact oneI (wrapI (by omega) (by omega))⟩, trivial⟩ ⟨⟨_, rfl, rfl⟩, ⟨_, rfl, rfl⟩, ⟨_, rfl, rfl⟩, ⟨_, _, rfl, by simp, by simp [ctsC]⟩, trivial⟩ ⟨⟨cE.up _ _ _ _, fun w h => ⟨h.2.1.1, fun c hc2 => (List.mem_append.1 hc2).elim (h.2.1.2 c) (fun hc2 => by rw [List.mem_singleton.1 hc2]; exact ⟨h.1, (h.2.1.1.1.hcts _ _ hc).2.2⟩)⟩⟩, trivial⟩⟩
        · refine ⟨_, rfl, rfl, _, rfl, ?_⟩
          refine callVC_lend [] hcc rfl trivial rfl rfl (fun w h => (h.1.1.1.hcts _ _ hc).2.1) (fun x _ => ?_) (fun x hx => ?_)
          · obtain ⟨yk, yn, ynm, yla, ylc, yls, yaa, yac, yus⟩ := x
            exact ⟨rfl, rfl⟩
          have hxm := hstep x hx
          clear hx
          obtain ⟨yk, yn, ynm, yla, ylc, yls, yaa, yac, yus⟩ := x
          let x14 : Nat × SV := (41, ttA (TT.mk yk yn ynm yla ylc yls yaa yac yus))
          let f14 : World → Prop := fun w => TTIn w (TT.mk yk yn ynm yla ylc yls yaa yac yus)
          let x15 : Nat × SV := (42, .agg (.v (.string cn) :: (TT.mk yk yn ynm yla ylc yls yaa yac yus).cells.map SA.v))
          let x16 : Nat × SV := (43, .one (.sl 4 0 1 1))
          let m16a : Nat × LB := (4, .cells 75 (.v (.string cn) :: (TT.mk yk yn ynm yla ylc yls yaa yac yus).cells.map SA.v))
          let x17 : Nat × SV := (44, .one (.row 5))
          let m17a : Nat × LB := (5, .own 75 6 (ys.length + 1) (ctsC ys ++ ctCells (cn, (TT.mk yk yn ynm yla ylc yls yaa yac yus))))
          let m17b : Nat × LB := (3, .dead)
          refine cgo_go ({ s := x14 :: x13 :: x12 :: x11 :: h5S, m := h5M, k := 4, f := f14 :: h5F }) [5] rfl (by kernel_rfl) (by kernel_rfl) ⟨⟨rfl, rfl⟩, ⟨rfl, rfl⟩, ⟨rfl, rfl⟩, ⟨rfl, rfl⟩, ⟨rfl, rfl⟩, ⟨rfl, trivial⟩, ⟨rfl, trivial⟩, ⟨rfl, trivial⟩, ⟨rfl, rfl⟩, trivial⟩ ⟨?_, trivial⟩
          refine ⟨_, rfl, rfl, _, rfl, ?_⟩
          refine ⟨{ n := ys.length }, ⟨rfl, hlt, fun w h => rfl⟩, ?_⟩
          refine cgo_go ({ s := x5 :: x14 :: x13 :: x12 :: x11 :: h5S, m := h5M, k := 4, f := f14 :: h5F }) [6] rfl (by kernel_rfl) (by kernel_rfl) ⟨⟨rfl, rfl⟩, ⟨rfl, rfl⟩, ⟨rfl, trivial⟩, ⟨rfl, trivial⟩, ⟨rfl, trivial⟩, ⟨rfl, trivial⟩, ⟨rfl, trivial⟩, ⟨rfl, trivial⟩, ⟨rfl, rfl⟩, trivial⟩ ⟨?_, trivial⟩
          refine ⟨_, rfl, rfl, _, rfl, ?_⟩
          refine cgo_go ({ s := x6 :: x5 :: x14 :: x13 :: x12 :: x11 :: h5S, m := h5M, k := 4, f := f14 :: h5F }) [7] rfl (by kernel_rfl) (by kernel_rfl) ⟨⟨rfl, rfl⟩, ⟨rfl, rfl⟩, ⟨rfl, trivial⟩, ⟨rfl, trivial⟩, ⟨rfl, trivial⟩, ⟨rfl, trivial⟩, ⟨rfl, trivial⟩, ⟨rfl, trivial⟩, ⟨rfl, rfl⟩, trivial⟩ ⟨?_, trivial⟩
          refine ⟨_, rfl, rfl, _, rfl, ?_⟩
          refine ⟨{ v := .string cn }, fun w h => ?_, ?_⟩
          · obtain ⟨⟨a, ha, h3⟩, _⟩ := h.2.1.1.1.hcts _ _ hc
            cases ha
            exact ⟨_, rfl, h3 0 _ rfl⟩
          refine cgo_go ({ s := x7 :: x6 :: x5 :: x14 :: x13 :: x12 :: x11 :: h5S, m := h5M, k := 4, f := f14 :: h5F }) [15] rfl (by kernel_rfl) (by kernel_rfl) ⟨⟨rfl, rfl⟩, ⟨rfl, rfl⟩, ⟨rfl, trivial⟩, ⟨rfl, trivial⟩, ⟨rfl, trivial⟩, ⟨rfl, trivial⟩, ⟨rfl, trivial⟩, ⟨rfl, trivial⟩, ⟨rfl, rfl⟩, trivial⟩ ⟨?_, trivial⟩
          refine ⟨_, rfl, rfl, _, rfl, ?_⟩
          refine cgo_go ({ s := x15 :: x7 :: x6 :: x5 :: x14 :: x13 :: x12 :: x11 :: h5S, m := h5M, k := 4, f := f14 :: h5F }) [16] rfl (by kernel_rfl) (by kernel_rfl) ⟨⟨rfl, rfl⟩, ⟨rfl, rfl⟩, ⟨rfl, trivial⟩, ⟨rfl, trivial⟩, ⟨rfl, trivial⟩, ⟨rfl, trivial⟩, ⟨rfl, trivial⟩, ⟨rfl, trivial⟩, ⟨rfl, rfl⟩, trivial⟩ ⟨?_, trivial⟩
          refine ⟨_, rfl, rfl, _, rfl, ?_⟩
          refine cgo_go ({ s := x16 :: x15 :: x7 :: x6 :: x5 :: x14 :: x13 :: x12 :: x11 :: h5S, m := m16a :: h5M, k := 5, f := f14 :: h5F }) [17] rfl (by kernel_rfl) (by kernel_rfl) ⟨⟨rfl, rfl⟩, ⟨rfl, rfl⟩, ⟨rfl, trivial⟩, ⟨rfl, trivial⟩, ⟨rfl, trivial⟩, ⟨rfl, trivial⟩, ⟨rfl, trivial⟩, ⟨rfl, trivial⟩, ⟨rfl, rfl⟩, trivial⟩ ⟨?_, trivial⟩
          refine ⟨_, rfl, rfl, _, rfl, ?_⟩
          refine ⟨{}, ⟨trivial, by decide, .inr rfl, hfit1, hfit2⟩, ?_⟩
          refine cgo_go ({ s := x17 :: x16 :: x15 :: x7 :: x6 :: x5 :: x14 :: x13 :: x12 :: x11 :: h5S, m := m17a :: m17b :: m16a :: h5M, k := 6, f := f14 :: h5F }) [19] rfl (by kernel_rfl) (by kernel_rfl) ⟨⟨rfl, trivial⟩, ⟨rfl, trivial⟩, ⟨rfl, trivial⟩, ⟨rfl, trivial⟩, ⟨rfl, trivial⟩, ⟨rfl, trivial⟩, ⟨rfl, trivial⟩, ⟨rfl, trivial⟩, ⟨rfl, rfl⟩, trivial⟩ ⟨?_, trivial⟩
          refine ⟨_, rfl, rfl, _, rfl, ?_⟩
          refine cgo_end _ rfl (by kernel_rfl) ⟨⟨rfl, trivial⟩, ⟨rfl, trivial⟩, ⟨rfl, trivial⟩, ⟨rfl, trivial⟩, ⟨rfl, trivial⟩, ⟨rfl, trivial⟩, ⟨rfl, trivial⟩, ⟨rfl, trivial⟩, ⟨rfl, trivial⟩, trivial⟩ ?_
          exact ⟨ys ++ [(cn, (TT.mk yk yn ynm yla ylc yls yaa yac yus))], ⟨by simp only [List.length_append, List.length_singleton]; omega, by rw [hxm]; simp only [List.length_append, List.length_singleton]⟩, by simp only [List.length_append, List.length_singleton]; omega, ent_ren [(0, .blk 0), (1, .blk 1), (2, .blk 2), (3, .own 5)] rfl rfl rfl rfl (Nat.le_of_ble_eq_true rfl) ⟨⟨_, rfl, rfl⟩, ⟨_, rfl, rfl⟩, ⟨_, rfl, rfl⟩, ⟨_, rfl, by simp only [List.length_append, List.length_singleton]; exact oneI (wrapI (by omega) (by omega))⟩, trivial⟩ ⟨⟨_, rfl, rfl⟩, ⟨_, rfl, rfl⟩, ⟨_, rfl, rfl⟩, ⟨_, _, rfl, by simp, by simp [ctsC]⟩, trivial⟩ ⟨⟨cE.up _ _ _ _, fun w h => ⟨h.2.1.1, fun c hc2 => (List.mem_append.1 hc2).elim (h.2.1.2 c) (fun hc2 => by rw [List.mem_singleton.1 hc2]; exact ⟨h.1, (h.2.1.1.1.hcts _ _ hc).2.2⟩)⟩⟩, trivial⟩⟩
end Go.Proofs.YtmkpiekbpakigaaGreatDoor
