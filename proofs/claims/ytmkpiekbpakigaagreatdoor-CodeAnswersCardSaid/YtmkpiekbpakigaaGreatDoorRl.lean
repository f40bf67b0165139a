/- The reference's Decl (18). -/
import Derived.Test.YtmkpiekbpakigaaGreatDoorRk
set_option linter.unusedVariables false
set_option linter.unusedSimpArgs false
namespace Go.Proofs.YtmkpiekbpakigaaGreatDoor
open Go.RowKit Go.Proofs.Base Go.Proofs.Sym

def bV1 (d : DM) : List Nat := if valB d.kind = true then putT d.val else []
def bF1 (d : DM) : List Nat := if d.kind = 4 then byteI d.fixed :: byteI d.cts.length :: ctsN d.cts else []
theorem decl_bytes (d : DM) : declN d = ((((byteI d.kind :: textN d.name) ++ [byteI d.params]) ++ putT d.ty) ++ bV1 d) ++ bF1 d := by
  unfold declN headN bodyN bV1 bF1
  by_cases h : valB d.kind = true
  · have h4 : ¬ d.kind = 4 := fun e => by rw [e] at h; exact absurd h (by decide)
    simp [h, h4]
  · simp [h]
theorem termP (t : TT) (h1 : wT t.tm ≤ 1000000) (h2 : PutOk t.tm) : PCall Tryz.prog 50 [t.val] (fun w => TTIn w t) (cloneR2 (putT t.tm)) (cloneP (putT t.tm)) :=
  PCall.of_row (enters Tryz.func50 (by kernel_rfl) (by kernel_rfl)) (termR_lc t h1 h2) (fun e => by
    show [Value.agg (reals e (t.cells.map SA.v)).toArray] = _
    rw [map_plain]
    rfl) (fun x hx => by
    rw [List.mem_singleton.1 hx]
    intro x hx
    obtain ⟨q, hq, rfl⟩ := List.mem_map.1 hx
    exact TT.cells_one t q hq)
set_option maxHeartbeats 8000000 in
theorem DeclR_lc (d : DD) : LCall Tryz.prog 18 [.one (.v d.dv)] [] 0 (fun w => DDIn w d) (fun _ : Unit => True) (fun _ => optRes (formedB d.dm) (declN d.dm)) := by
  have hF := FormedR_pc d
  have hform := @formed_parts d.dm
  obtain ⟨b, hb⟩ : ∃ b, formedB d.dm = b := ⟨_, rfl⟩
  rw [hb] at hF hform ⊢
  rw [decl_bytes]
  have ht1 := termP d.ty
  have ht2 := termP d.val
  have hV : bV1 d.dm = if valB d.kind = true then putT d.val.tm else [] := rfl
  have hFm : bF1 d.dm = if d.kind = 4 then byteI d.fixed :: byteI ((d.cts.map ctM).length : Nat) :: ctsN (d.cts.map ctM) else [] := rfl
  obtain ⟨V, hVe⟩ : ∃ x, bV1 d.dm = x := ⟨_, rfl⟩
  obtain ⟨Fm, hFe⟩ : ∃ x, bF1 d.dm = x := ⟨_, rfl⟩
  rw [hVe] at hV ⊢
  rw [hFe] at hFm ⊢
  clear hb hVe hFe
  cases b with
  | false =>
    obtain ⟨k, p, nm, ⟨ak, an, anm, ala, alc, als, aaa, aac, aus⟩, ⟨bk, bn, bnm, bla, blc, bls, baa, bac, bus⟩, fx, ca, cc, cts⟩ := d
    refine lcall_of tabOk 80 [.tmp 2, .tmp 3] Tryz.func18 rfl rfl (by kernel_rfl) rfl _ (Nat.le_of_ble_eq_true rfl) (DDIn.up _) ?_
    refine svc_ok tabOk [3] _ _ _ ?_
    refine callVC_plain hF (fun _ => rfl) (fun w h => h.1) ?_
    rintro r rfl
    exact ⟨_, rfl, (), trivial, rfl, ent_ren [] rfl rfl rfl rfl (Nat.zero_le _) ⟨⟨_, rfl, rfl⟩, trivial⟩ trivial ⟨⟨Up.true, fun _ _ => trivial⟩, trivial⟩⟩
  | true =>
  have hf := hform rfl
  have hns := word_size hf.name
  have htl := textN_len d.dm.name
  have hty := right_put hf.ty
  have hval : valB d.kind = true → _ := fun h => right_put (hf.val h)
  have hfam : d.kind = 4 → _ := fun h => hf.fam h
  have hns : d.name.size ≤ 32 := hns
  have htl : (textN d.name).length ≤ 7 + d.name.size := htl
  have hty : PutOk d.ty.tm ∧ wT d.ty.tm ≤ 300000 ∧ (putT d.ty.tm).length ≤ 300000 := hty
  have hval : valB d.kind = true → PutOk d.val.tm ∧ wT d.val.tm ≤ 300000 ∧ (putT d.val.tm).length ≤ 300000 := hval
  have hfam : d.kind = 4 → 0 ≤ d.fixed ∧ d.fixed ≤ 16 ∧ (d.cts.map ctM).length ≤ 8 ∧ ∀ c ∈ d.cts.map ctM, wordB c.1 = true ∧ rightB d.params 0 c.2 = true := hfam
  have ht1 := ht1 (by omega) hty.1
  have hhead : (((byteI d.dm.kind :: textN d.dm.name) ++ [byteI d.dm.params]) ++ putT d.dm.ty) = (((byteI d.kind :: textN d.name) ++ [byteI d.params]) ++ putT d.ty.tm) := rfl
  rw [hhead]
  have hY1 := hty.2.2
  have ht2 : valB d.kind = true → PCall Tryz.prog 50 [d.val.val] (fun w => TTIn w d.val) (cloneR2 (putT d.val.tm)) (cloneP (putT d.val.tm)) := fun h => ht2 (by have := (hval h).2.1; omega) (hval h).1
  have hVl : V.length ≤ 300000 := by
    rw [hV]
    split
    · rename_i h
      exact (hval h).2.2
    · simp
  have hV1 : valB d.kind = true → V = putT d.val.tm := fun h => by rw [hV, if_pos h]
  have hV2 : ¬ valB d.kind = true → V = [] := fun h => by rw [hV, if_neg h]
  have hF1 : d.kind = 4 → Fm = byteI d.fixed :: byteI ((d.cts.map ctM).length : Nat) :: ctsN (d.cts.map ctM) := fun h => by rw [hFm, if_pos h]
  have hF2 : ¬ d.kind = 4 → Fm = [] := fun h => by rw [hFm, if_neg h]
  clear hV hFm hform hf hval hhead
  obtain ⟨Y1, hY1e⟩ : ∃ x, putT d.ty.tm = x := ⟨_, rfl⟩
  rw [hY1e] at ht1 hY1 ⊢
  clear hY1e hty
  obtain ⟨k, p, nm, ⟨ak, an, anm, ala, alc, als, aaa, aac, aus⟩, ⟨bk, bn, bnm, bla, blc, bls, baa, bac, bus⟩, fx, ca, cc, cts⟩ := d
  obtain ⟨VB, hVB⟩ : ∃ x, valB k = x := ⟨_, rfl⟩
  have ht2 : VB = true → PCall Tryz.prog 50 [(TT.mk bk bn bnm bla blc bls baa bac bus).val] (fun w => TTIn w (TT.mk bk bn bnm bla blc bls baa bac bus)) (cloneR2 V) (cloneP V) := fun h => by rw [hV1 (by rw [← h]; exact hVB)]; exact ht2 (by rw [← h]; exact hVB)
  have hV2 : VB = false → V = [] := fun h => hV2 (by show ¬ valB k = true; rw [hVB, h]; decide)
  have hVB : (decide (k = 2) || decide (k = 3)) = VB := hVB
  have hF1 : k = 4 → Fm = byteI fx :: byteI (cts.length : Nat) :: ctsN (cts.map ctM) := fun h => by rw [hF1 h, List.length_map]
  have hF2 : ¬ k = 4 → Fm = [] := hF2
  have hfam : k = 4 → 0 ≤ fx ∧ fx ≤ 16 ∧ cts.length ≤ 8 ∧ ∀ c ∈ cts.map ctM, wordB c.1 = true ∧ rightB p 0 c.2 = true := fun h => by
    obtain ⟨g1, g2, g3, g4⟩ := hfam h
    exact ⟨g1, g2, by simpa using g3, g4⟩
  have hns : nm.size ≤ 32 := hns
  have htl : (textN nm).length ≤ 7 + nm.size := htl
  have htx := textR_pc nm (by omega)
  obtain ⟨NM, hNM⟩ : ∃ x, textN nm = x := ⟨_, rfl⟩
  rw [show (DD.mk k p nm (TT.mk ak an anm ala alc als aaa aac aus) (TT.mk bk bn bnm bla blc bls baa bac bus) fx ca cc cts).name = nm from rfl, show (DD.mk k p nm (TT.mk ak an anm ala alc als aaa aac aus) (TT.mk bk bn bnm bla blc bls baa bac bus) fx ca cc cts).kind = k from rfl, show (DD.mk k p nm (TT.mk ak an anm ala alc als aaa aac aus) (TT.mk bk bn bnm bla blc bls baa bac bus) fx ca cc cts).params = p from rfl, hNM]
  rw [hNM] at htl htx
  clear hNM
  refine lcall_of tabOk 80 [.tmp 2, .tmp 3] Tryz.func18 rfl rfl (by kernel_rfl) rfl _ (Nat.le_of_ble_eq_true rfl) (DDIn.up _) ?_
  refine svc_ok tabOk [3] _ _ _ ?_
  refine callVC_plain hF (fun _ => rfl) (fun w h => h.1) ?_
  rintro r rfl
  refine Walks.ent (st' := { s := [(1, .one (.p 0 0))], m := [(0, .cells 38 (dA k p nm (.mk ak an anm ala alc als aaa aac aus) (.mk bk bn bnm bla blc bls baa bac bus) fx ca cc cts))], k := 1, f := [fun w => DDIn w (DD.mk k p nm (.mk ak an anm ala alc als aaa aac aus) (.mk bk bn bnm bla blc bls baa bac bus) fx ca cc cts)] }) (ent_ren [(0, .blk 0)] rfl rfl rfl rfl (Nat.le_of_ble_eq_true rfl) ⟨⟨_, rfl, rfl⟩, trivial⟩ ⟨⟨_, rfl, rfl⟩, trivial⟩ ⟨⟨DDIn.up _, fun w h => h.2.1⟩, trivial⟩) ?_
  refine Walks.cut ({ s := [(1, .one (.p 0 0)), (4, .one (.row 1))], m := [(1, .own 5 1 (byteI k :: NM).length (bc (byteI k :: NM))), (0, .cells 38 (dA k p nm (.mk ak an anm ala alc als aaa aac aus) (.mk bk bn bnm bla blc bls baa bac bus) fx ca cc cts))], k := 2, f := [fun w => DDIn w (DD.mk k p nm (.mk ak an anm ala alc als aaa aac aus) (.mk bk bn bnm bla blc bls baa bac bus) fx ca cc cts)] }) ?_ ?_
  · refine svc_ok tabOk [] _ _ _ ?_
    refine .inr ⟨[0, 1, 3, 7, 0, 16, 48, 127, 255], [3, 6, 7, 8], [(0, { dst := some 9, v := .one (.p 0 0), p := none, f := none }), (1, { dst := some 10, v := .one (.v (.int .i64 k)), p := none, f := none }), (2, { dst := some 11, v := .one (.v (.int .u8 (IntKind.u8.wrap k))), p := none, f := none }), (4, { dst := some 13, v := .one (.p 0 2), p := none, f := none }), (5, { dst := some 14, v := .one (.v (.string nm)), p := none, f := none })], by kernel_rfl, rfl, by kernel_rfl, by kernel_rfl, rfl, rfl, rfl, rfl, ?_⟩
    refine cgo_go ({ s := [(1, .one (.p 0 0))], m := [(0, .cells 38 (dA k p nm (.mk ak an anm ala alc als aaa aac aus) (.mk bk bn bnm bla blc bls baa bac bus) fx ca cc cts))], k := 1, f := [fun w => DDIn w (DD.mk k p nm (.mk ak an anm ala alc als aaa aac aus) (.mk bk bn bnm bla blc bls baa bac bus) fx ca cc cts)] }) [3, 6] rfl (by kernel_rfl) (by kernel_rfl) ⟨⟨rfl, rfl⟩, ⟨rfl, rfl⟩, ⟨rfl, rfl⟩, ⟨rfl, rfl⟩, ⟨rfl, rfl⟩, trivial⟩ ⟨?_, ?_, trivial⟩
    · refine ⟨_, rfl, rfl, _, rfl, ?_⟩
      refine cgo_go ({ s := [(12, .one (.sl 1 0 1 1)), (1, .one (.p 0 0))], m := [(1, .cells 5 [.v (.int .u8 (IntKind.u8.wrap k))]), (0, .cells 38 (dA k p nm (.mk ak an anm ala alc als aaa aac aus) (.mk bk bn bnm bla blc bls baa bac bus) fx ca cc cts))], k := 2, f := [fun w => DDIn w (DD.mk k p nm (.mk ak an anm ala alc als aaa aac aus) (.mk bk bn bnm bla blc bls baa bac bus) fx ca cc cts)] }) [6] rfl (by kernel_rfl) (by kernel_rfl) ⟨⟨rfl, trivial⟩, ⟨rfl, trivial⟩, ⟨rfl, trivial⟩, ⟨rfl, rfl⟩, ⟨rfl, rfl⟩, trivial⟩ ⟨?_, trivial⟩
      refine ⟨_, rfl, rfl, _, rfl, ?_⟩
      refine callVC_plain htx (fun _ => rfl) (fun _ _ => trivial) ?_
      rintro r ⟨A, c, rfl, hA0⟩
      refine cgo_go ({ s := [(15, .one (.v (.slice A NM.length c))), (12, .one (.sl 1 0 1 1)), (1, .one (.p 0 0))], m := [(1, .cells 5 [.v (.int .u8 (IntKind.u8.wrap k))]), (0, .cells 38 (dA k p nm (.mk ak an anm ala alc als aaa aac aus) (.mk bk bn bnm bla blc bls baa bac bus) fx ca cc cts))], k := 2, f := [cloneP NM (.slice A NM.length c), fun w => DDIn w (DD.mk k p nm (.mk ak an anm ala alc als aaa aac aus) (.mk bk bn bnm bla blc bls baa bac bus) fx ca cc cts)] }) [7] rfl (by kernel_rfl) (by kernel_rfl) ⟨⟨rfl, trivial⟩, ⟨rfl, trivial⟩, ⟨rfl, trivial⟩, ⟨rfl, trivial⟩, ⟨rfl, trivial⟩, trivial⟩ ⟨?_, trivial⟩
      refine ⟨_, rfl, rfl, _, rfl, ?_⟩
      refine ⟨{ cs := bc (NM) }, ⟨⟨by rw [bc_len]; exact (Nat.mul_one _).symm, bc_one _, hA0, fun w h => (h.1 _ _ rfl).cells⟩, Nat.one_pos, .inr rfl, ?_, ?_⟩, ?_⟩
      · show ([byteI k]).length + (NM).length ≤ maxLen
        (try simp only [maxLen, List.length_cons, List.length_append, List.length_nil]); omega
      · show (([byteI k]).length + (NM).length) * 1 ≤ _
        (try simp only [List.length_cons, List.length_append, List.length_nil]); omega
      refine cgo_go ({ s := [(16, .one (.row 2)), (15, .one (.v (.slice A NM.length c))), (12, .one (.sl 1 0 1 1)), (1, .one (.p 0 0))], m := [(2, .own 5 1 (1 + NM.length) ([.int .u8 (IntKind.u8.wrap k)] ++ bc NM)), (1, .dead), (1, .cells 5 [.v (.int .u8 (IntKind.u8.wrap k))]), (0, .cells 38 (dA k p nm (.mk ak an anm ala alc als aaa aac aus) (.mk bk bn bnm bla blc bls baa bac bus) fx ca cc cts))], k := 3, f := [cloneP NM (.slice A NM.length c), fun w => DDIn w (DD.mk k p nm (.mk ak an anm ala alc als aaa aac aus) (.mk bk bn bnm bla blc bls baa bac bus) fx ca cc cts)] }) [8] rfl (by kernel_rfl) (by kernel_rfl) ⟨⟨rfl, trivial⟩, ⟨rfl, trivial⟩, ⟨rfl, trivial⟩, ⟨rfl, trivial⟩, ⟨rfl, trivial⟩, trivial⟩ ⟨?_, trivial⟩
      refine ⟨_, rfl, rfl, _, rfl, ?_⟩
      refine cgo_end _ rfl (by kernel_rfl) ⟨⟨rfl, trivial⟩, ⟨rfl, trivial⟩, ⟨rfl, trivial⟩, ⟨rfl, trivial⟩, ⟨rfl, trivial⟩, trivial⟩ ?_
      exact ent_ren [(1, .own 2), (0, .blk 0)] rfl rfl rfl rfl (Nat.le_of_ble_eq_true rfl) ⟨⟨_, rfl, rfl⟩, ⟨_, rfl, rfl⟩, trivial⟩ ⟨⟨_, _, rfl, by simp; omega, by simp [bc, byteI_ok]⟩, ⟨_, rfl, rfl⟩, trivial⟩ ⟨⟨DDIn.up _, fun w h => h.2.1⟩, trivial⟩
    · refine ⟨_, rfl, rfl, _, rfl, ?_⟩
      refine callVC_plain htx (fun _ => rfl) (fun _ _ => trivial) ?_
      rintro r ⟨A, c, rfl, hA0⟩
      refine cgo_go ({ s := [(15, .one (.v (.slice A NM.length c))), (1, .one (.p 0 0))], m := [(0, .cells 38 (dA k p nm (.mk ak an anm ala alc als aaa aac aus) (.mk bk bn bnm bla blc bls baa bac bus) fx ca cc cts))], k := 1, f := [cloneP NM (.slice A NM.length c), fun w => DDIn w (DD.mk k p nm (.mk ak an anm ala alc als aaa aac aus) (.mk bk bn bnm bla blc bls baa bac bus) fx ca cc cts)] }) [3] rfl (by kernel_rfl) (by kernel_rfl) ⟨⟨rfl, rfl⟩, ⟨rfl, rfl⟩, ⟨rfl, rfl⟩, ⟨rfl, trivial⟩, ⟨rfl, trivial⟩, trivial⟩ ⟨?_, trivial⟩
      refine ⟨_, rfl, rfl, _, rfl, ?_⟩
      refine cgo_go ({ s := [(12, .one (.sl 1 0 1 1)), (15, .one (.v (.slice A NM.length c))), (1, .one (.p 0 0))], m := [(1, .cells 5 [.v (.int .u8 (IntKind.u8.wrap k))]), (0, .cells 38 (dA k p nm (.mk ak an anm ala alc als aaa aac aus) (.mk bk bn bnm bla blc bls baa bac bus) fx ca cc cts))], k := 2, f := [cloneP NM (.slice A NM.length c), fun w => DDIn w (DD.mk k p nm (.mk ak an anm ala alc als aaa aac aus) (.mk bk bn bnm bla blc bls baa bac bus) fx ca cc cts)] }) [7] rfl (by kernel_rfl) (by kernel_rfl) ⟨⟨rfl, trivial⟩, ⟨rfl, trivial⟩, ⟨rfl, trivial⟩, ⟨rfl, trivial⟩, ⟨rfl, trivial⟩, trivial⟩ ⟨?_, trivial⟩
      refine ⟨_, rfl, rfl, _, rfl, ?_⟩
      refine ⟨{ cs := bc (NM) }, ⟨⟨by rw [bc_len]; exact (Nat.mul_one _).symm, bc_one _, hA0, fun w h => (h.1 _ _ rfl).cells⟩, Nat.one_pos, .inr rfl, ?_, ?_⟩, ?_⟩
      · show ([byteI k]).length + (NM).length ≤ maxLen
        (try simp only [maxLen, List.length_cons, List.length_append, List.length_nil]); omega
      · show (([byteI k]).length + (NM).length) * 1 ≤ _
        (try simp only [List.length_cons, List.length_append, List.length_nil]); omega
      refine cgo_go ({ s := [(16, .one (.row 2)), (12, .one (.sl 1 0 1 1)), (15, .one (.v (.slice A NM.length c))), (1, .one (.p 0 0))], m := [(2, .own 5 1 (1 + NM.length) ([.int .u8 (IntKind.u8.wrap k)] ++ bc NM)), (1, .dead), (1, .cells 5 [.v (.int .u8 (IntKind.u8.wrap k))]), (0, .cells 38 (dA k p nm (.mk ak an anm ala alc als aaa aac aus) (.mk bk bn bnm bla blc bls baa bac bus) fx ca cc cts))], k := 3, f := [cloneP NM (.slice A NM.length c), fun w => DDIn w (DD.mk k p nm (.mk ak an anm ala alc als aaa aac aus) (.mk bk bn bnm bla blc bls baa bac bus) fx ca cc cts)] }) [8] rfl (by kernel_rfl) (by kernel_rfl) ⟨⟨rfl, trivial⟩, ⟨rfl, trivial⟩, ⟨rfl, trivial⟩, ⟨rfl, trivial⟩, ⟨rfl, trivial⟩, trivial⟩ ⟨?_, trivial⟩
      refine ⟨_, rfl, rfl, _, rfl, ?_⟩
      refine cgo_end _ rfl (by kernel_rfl) ⟨⟨rfl, trivial⟩, ⟨rfl, trivial⟩, ⟨rfl, trivial⟩, ⟨rfl, trivial⟩, ⟨rfl, trivial⟩, trivial⟩ ?_
      exact ent_ren [(1, .own 2), (0, .blk 0)] rfl rfl rfl rfl (Nat.le_of_ble_eq_true rfl) ⟨⟨_, rfl, rfl⟩, ⟨_, rfl, rfl⟩, trivial⟩ ⟨⟨_, _, rfl, by simp; omega, by simp [bc, byteI_ok]⟩, ⟨_, rfl, rfl⟩, trivial⟩ ⟨⟨DDIn.up _, fun w h => h.2.1⟩, trivial⟩
  refine svc_ok tabOk [6] _ _ _ ?_
  refine ⟨{}, ⟨trivial, Nat.one_pos, .inr rfl, ?_, ?_⟩, ?_⟩
  · show (byteI k :: NM).length + 1 ≤ maxLen
    simp only [maxLen, List.length_cons]; omega
  · show ((byteI k :: NM).length + 1) * 1 ≤ _
    simp only [List.length_cons]; omega
  refine callVC_plain ht1 (fun _ => rfl) (fun w h => h.1.hty) ?_
  rintro r ⟨A, c, rfl, hA0⟩
  refine ⟨{ cs := bc Y1 }, ⟨⟨by rw [bc_len]; exact (Nat.mul_one _).symm, bc_one _, hA0, fun w h => (h.1 _ _ rfl).cells⟩, Nat.one_pos, .inr rfl, ?_, ?_⟩, ?_⟩
  · show (byteI k :: NM).length + 1 + Y1.length ≤ maxLen
    simp only [maxLen, List.length_cons]; omega
  · show ((byteI k :: NM).length + 1 + Y1.length) * 1 ≤ _
    simp only [List.length_cons]; omega
  refine Walks.ent (st' := { s := [(1, .one (.p 0 0)), (4, .one (.row 1))], m := [(1, .own 5 1 (((byteI k :: NM) ++ [byteI p]) ++ Y1).length (bc (((byteI k :: NM) ++ [byteI p]) ++ Y1))), (0, .cells 38 (dA k p nm (.mk ak an anm ala alc als aaa aac aus) (.mk bk bn bnm bla blc bls baa bac bus) fx ca cc cts))], k := 2, f := [fun w => DDIn w (DD.mk k p nm (.mk ak an anm ala alc als aaa aac aus) (.mk bk bn bnm bla blc bls baa bac bus) fx ca cc cts)] }) (ent_ren [(1, .own 4), (0, .blk 0)] rfl rfl rfl rfl (Nat.le_of_ble_eq_true rfl) ⟨⟨_, rfl, rfl⟩, ⟨_, rfl, rfl⟩, trivial⟩ ⟨⟨_, _, rfl, by simp; omega, by simp [bc, byteI_ok]⟩, ⟨_, rfl, rfl⟩, trivial⟩ ⟨⟨DDIn.up _, fun w h => h.2.1⟩, trivial⟩) ?_
  obtain ⟨H, hH⟩ : ∃ x, ((byteI k :: NM) ++ [byteI p]) ++ Y1 = x := ⟨_, rfl⟩
  have hHl : H.length ≤ 400000 := by
    rw [← hH]
    simp only [List.length_append, List.length_cons, List.length_nil]
    omega
  rw [hH]
  clear hH
  refine Walks.cut ({ s := [(1, .one (.p 0 0)), (4, .one (.row 1))], m := [(1, .own 5 1 (H ++ V).length (bc (H ++ V))), (0, .cells 38 (dA k p nm (.mk ak an anm ala alc als aaa aac aus) (.mk bk bn bnm bla blc bls baa bac bus) fx ca cc cts))], k := 2, f := [fun w => DDIn w (DD.mk k p nm (.mk ak an anm ala alc als aaa aac aus) (.mk bk bn bnm bla blc bls baa bac bus) fx ca cc cts)] }) ?_ ?_
  · refine svc_ok tabOk [] _ _ _ ?_
    refine bsplit_i (fun h => ?_) (fun h => ?_)
    · have hv : VB = true := by
        rw [← hVB, show decide (k = 2) = true from h]
        rfl
      refine callVC_plain (ht2 hv) (fun _ => rfl) (fun w h => h.1.hval) ?_
      rintro r ⟨A, c, rfl, hA0⟩
      refine ⟨{ cs := bc (V) }, ⟨⟨by rw [bc_len]; exact (Nat.mul_one _).symm, bc_one _, hA0, fun w h => (h.1 _ _ rfl).cells⟩, Nat.one_pos, .inr rfl, ?_, ?_⟩, ?_⟩
      · show (H).length + (V).length ≤ maxLen
        (try simp only [maxLen, List.length_cons, List.length_append, List.length_nil]); omega
      · show ((H).length + (V).length) * 1 ≤ _
        (try simp only [List.length_cons, List.length_append, List.length_nil]); omega
      exact ent_ren [(1, .own 2), (0, .blk 0)] rfl rfl rfl rfl (Nat.le_of_ble_eq_true rfl) ⟨⟨_, rfl, rfl⟩, ⟨_, rfl, rfl⟩, trivial⟩ ⟨⟨_, _, rfl, by simp, by simp [bc]⟩, ⟨_, rfl, rfl⟩, trivial⟩ ⟨⟨DDIn.up _, fun w h => h.2.1⟩, trivial⟩
    have h2 : decide (k = 2) = false := h
    refine bsplit_i (fun h => ?_) (fun h => ?_)
    · have hv : VB = true := by
        rw [← hVB, show decide (k = 3) = true from h, Bool.or_true]
      refine callVC_plain (ht2 hv) (fun _ => rfl) (fun w h => h.1.hval) ?_
      rintro r ⟨A, c, rfl, hA0⟩
      refine ⟨{ cs := bc (V) }, ⟨⟨by rw [bc_len]; exact (Nat.mul_one _).symm, bc_one _, hA0, fun w h => (h.1 _ _ rfl).cells⟩, Nat.one_pos, .inr rfl, ?_, ?_⟩, ?_⟩
      · show (H).length + (V).length ≤ maxLen
        (try simp only [maxLen, List.length_cons, List.length_append, List.length_nil]); omega
      · show ((H).length + (V).length) * 1 ≤ _
        (try simp only [List.length_cons, List.length_append, List.length_nil]); omega
      exact ent_ren [(1, .own 2), (0, .blk 0)] rfl rfl rfl rfl (Nat.le_of_ble_eq_true rfl) ⟨⟨_, rfl, rfl⟩, ⟨_, rfl, rfl⟩, trivial⟩ ⟨⟨_, _, rfl, by simp, by simp [bc]⟩, ⟨_, rfl, rfl⟩, trivial⟩ ⟨⟨DDIn.up _, fun w h => h.2.1⟩, trivial⟩
    have hv : VB = false := by
      rw [← hVB, h2, show decide (k = 3) = false from h]
      rfl
    have hV := hV2 hv
    subst hV
    exact ent_ren [(1, .own 1), (0, .blk 0)] rfl rfl rfl rfl (Nat.le_of_ble_eq_true rfl) ⟨⟨_, rfl, rfl⟩, ⟨_, rfl, rfl⟩, trivial⟩ ⟨⟨_, _, rfl, by simp, by simp⟩, ⟨_, rfl, rfl⟩, trivial⟩ ⟨⟨DDIn.up _, fun w h => h.1⟩, trivial⟩
  refine Walks.cut ({ s := [(1, .one (.p 0 0)), (4, .one (.row 1))], m := [(1, .own 5 1 ((H ++ V) ++ Fm).length (bc ((H ++ V) ++ Fm))), (0, .cells 38 (dA k p nm (.mk ak an anm ala alc als aaa aac aus) (.mk bk bn bnm bla blc bls baa bac bus) fx ca cc cts))], k := 2, f := [fun w => DDIn w (DD.mk k p nm (.mk ak an anm ala alc als aaa aac aus) (.mk bk bn bnm bla blc bls baa bac bus) fx ca cc cts)] }) ?_ ?_
  · refine svc_ok tabOk [13] _ _ _ ?_
    refine bsplit_i (fun h => ?_) (fun h => ?_)
    rotate_left
    · have h : decide (k = 4) = false := h
      have hF := hF2 (of_decide_eq_false h)
      subst hF
      exact ent_ren [(1, .own 1), (0, .blk 0)] rfl rfl rfl rfl (Nat.le_of_ble_eq_true rfl) ⟨⟨_, rfl, rfl⟩, ⟨_, rfl, rfl⟩, trivial⟩ ⟨⟨_, _, rfl, by simp, by simp⟩, ⟨_, rfl, rfl⟩, trivial⟩ ⟨⟨DDIn.up _, fun w h => h.1⟩, trivial⟩
    have h : decide (k = 4) = true := h
    have h4 := of_decide_eq_true h
    have hF := hF1 h4
    obtain ⟨_, _, hcl, hcs⟩ := hfam h4
    subst hF
    clear hF1 hF2
    refine ⟨{}, ⟨trivial, Nat.one_pos, .inr rfl, ?_, ?_⟩, ?_⟩
    · show (H ++ V).length + 2 ≤ maxLen
      simp only [maxLen, List.length_append]; omega
    · show ((H ++ V).length + 2) * 1 ≤ _
      simp only [List.length_append]; omega
    refine ⟨⟨Nat, fun j => j ≤ cts.length, fun j => { s := [(1, .one (.p 0 0)), (4, .one (.row 1)), (5, .one (.v (.int .i64 (j : Int))))], m := [(1, .own 5 1 ((H ++ V) ++ (byteI fx :: byteI (cts.length : Nat) :: ctsN ((cts.map ctM).take j))).length (bc ((H ++ V) ++ (byteI fx :: byteI (cts.length : Nat) :: ctsN ((cts.map ctM).take j))))), (0, .cells 38 (dA k p nm (.mk ak an anm ala alc als aaa aac aus) (.mk bk bn bnm bla blc bls baa bac bus) fx ca cc cts))], k := 2, f := [fun w => DDIn w (DD.mk k p nm (.mk ak an anm ala alc als aaa aac aus) (.mk bk bn bnm bla blc bls baa bac bus) fx ca cc cts)] }, fun j => cts.length - j, ⟨0, Nat.zero_le _, ent_ren [(1, .own 3), (0, .blk 0)] rfl rfl rfl rfl (Nat.le_of_ble_eq_true rfl) ⟨⟨_, rfl, rfl⟩, ⟨_, rfl, rfl⟩, ⟨_, rfl, rfl⟩, trivial⟩ ⟨⟨_, _, rfl, by simp only [ctsN, List.take_zero, List.flatMap_nil, List.length_cons, List.length_append, List.length_nil, Nat.add_assoc], by simp [ctsN, bc, byteI_ok]⟩, ⟨_, rfl, rfl⟩, trivial⟩ ⟨⟨DDIn.up _, fun w h => h.1⟩, trivial⟩⟩, ?_⟩⟩
    rintro j hj
    refine bsplit_i (fun hlt0 => ?_) (fun hge => ?_)
    rotate_left
    · have hge : cts.length ≤ j := by
        have h : decide ((j : Int) < (cts.length : Int)) = false := hge
        have := of_decide_eq_false h
        omega
      have he : (cts.map ctM).take j = cts.map ctM := List.take_of_length_le (by simpa using hge)
      exact ent_ren [(1, .own 1), (0, .blk 0)] rfl rfl rfl rfl (Nat.le_of_ble_eq_true rfl) ⟨⟨_, rfl, rfl⟩, ⟨_, rfl, rfl⟩, trivial⟩ ⟨⟨_, _, rfl, by rw [he], by rw [he]⟩, ⟨_, rfl, rfl⟩, trivial⟩ ⟨⟨DDIn.up _, fun w h => h.1⟩, trivial⟩
    have hlt : j < cts.length := by
      have h : decide ((j : Int) < (cts.length : Int)) = true := hlt0
      have := of_decide_eq_true h
      omega
    clear hlt0
    obtain ⟨c, hc⟩ : ∃ c, cts[j]? = some c := ⟨_, List.getElem?_eq_getElem hlt⟩
    have hcm : (cts.map ctM)[j]? = some (ctM c) := by rw [List.getElem?_map, hc]; rfl
    have htk := ctsN_take hcm
    have hcok := hcs _ (List.mem_of_getElem? hcm)
    have hcn := word_size hcok.1
    have hcp := right_put hcok.2
    have hpre := ctsN_len ((cts.map ctM).take j) (p := p) (fun c hc => hcs c (List.mem_of_mem_take hc))
    have hprel : ((cts.map ctM).take j).length ≤ 8 := by rw [List.length_take, List.length_map]; omega
    have hpre2 : (ctsN ((cts.map ctM).take j)).length ≤ 300039 * 8 := Nat.le_trans hpre (Nat.mul_le_mul_left _ hprel)
    have hcp2 : PutOk c.2.tm ∧ wT c.2.tm ≤ 300000 ∧ (putT c.2.tm).length ≤ 300000 := hcp
    clear hcp
    have hxl := textN_len c.1
    have hxt := textR_pc c.1 (by have : c.1.size ≤ 32 := hcn; omega)
    have hyt := termP c.2 (by omega) hcp2.1
    have htk2 : ctsN ((cts.map ctM).take (j + 1)) = ctsN ((cts.map ctM).take j) ++ (textN c.1 ++ putT c.2.tm) := htk
    clear htk
    have hcn2 : c.1.size ≤ 32 := hcn
    clear hcn hpre hcok
    have hyl := hcp2.2.2
    obtain ⟨X1, hX1⟩ : ∃ x, textN c.1 = x := ⟨_, rfl⟩
    obtain ⟨X2, hX2⟩ : ∃ x, putT c.2.tm = x := ⟨_, rfl⟩
    rw [hX1] at hxl hxt htk2
    rw [hX2] at hyt htk2 hyl
    obtain ⟨T, hT⟩ : ∃ x, ctsN ((cts.map ctM).take j) = x := ⟨_, rfl⟩
    rw [hT] at hpre2
    obtain ⟨cn, ⟨tk, tn, tnm, tla, tlc, tls, taa, tac, tus⟩⟩ := c
    refine Walks.told (p := ∃ a, ca = some a) (fun w h => ?_) ?_
    · obtain ⟨⟨a, ha, _⟩, _⟩ := h.1.hcts j _ hc
      exact ⟨a, ha⟩
    rintro ⟨a0, rfl⟩
    refine svc_ok tabOk [] _ _ _ ?_
    refine ⟨{ n := j }, ⟨rfl, hlt, fun w h => rfl⟩, ?_⟩
    refine ⟨{ v := .string cn }, fun w h => ?_, ?_⟩
    · obtain ⟨⟨a, ha, h3⟩, _⟩ := h.1.hcts j _ hc
      have ha : a0 = a := Option.some.inj ha
      subst ha
      exact ⟨_, rfl, h3 0 _ rfl⟩
    refine callVC_plain hxt (fun _ => rfl) (fun _ _ => trivial) ?_
    rintro r ⟨A, c, rfl, hA0⟩
    refine ⟨{ cs := bc (X1) }, ⟨⟨by rw [bc_len]; exact (Nat.mul_one _).symm, bc_one _, hA0, fun w h => (h.1 _ _ rfl).cells⟩, Nat.one_pos, .inr rfl, ?_, ?_⟩, ?_⟩
    · show ((H ++ V) ++ (byteI fx :: byteI (cts.length : Nat) :: ctsN ((cts.map ctM).take j))).length + (X1).length ≤ maxLen
      rw [hT]; (try simp only [maxLen, List.length_cons, List.length_append, List.length_nil]); omega
    · show (((H ++ V) ++ (byteI fx :: byteI (cts.length : Nat) :: ctsN ((cts.map ctM).take j))).length + (X1).length) * 1 ≤ _
      rw [hT]; (try simp only [List.length_cons, List.length_append, List.length_nil]); omega
    refine ⟨{ n := j }, ⟨rfl, hlt, fun w h => rfl⟩, ?_⟩
    refine ⟨{ cs := (TT.mk tk tn tnm tla tlc tls taa tac tus).cells }, ⟨TT.cells_one (TT.mk tk tn tnm tla tlc tls taa tac tus), rfl, fun w h => ?_⟩, ?_⟩
    · obtain ⟨⟨a, ha, h3⟩, _⟩ := h.2.1.hcts j _ hc
      have ha : a0 = a := Option.some.inj ha
      subst ha
      refine ⟨_, rfl, fun l u hl => ?_⟩
      have h4 := h3 (l + 1) u hl
      rw [Addr.add_add] at h4
      show w.cell? (((a0.add (j * 6)).add 1).add l) = some u
      rw [Addr.add_add, Addr.add_add, show j * 6 + (1 + l) = j * 6 + (l + 1) by omega]
      exact h4
    refine callVC_plain hyt (fun _ => rfl) (fun w h => (h.2.1.hcts j _ hc).2.1) ?_
    rintro r ⟨A', c', rfl, hA0⟩
    refine ⟨{ cs := bc (X2) }, ⟨⟨by rw [bc_len]; exact (Nat.mul_one _).symm, bc_one _, hA0, fun w h => (h.1 _ _ rfl).cells⟩, Nat.one_pos, .inr rfl, ?_, ?_⟩, ?_⟩
    · show ((H ++ V) ++ (byteI fx :: byteI (cts.length : Nat) :: ctsN ((cts.map ctM).take j))).length + X1.length + X2.length ≤ maxLen
      rw [hT]; simp only [maxLen, List.length_cons, List.length_append, List.length_nil]; omega
    · show (((H ++ V) ++ (byteI fx :: byteI (cts.length : Nat) :: ctsN ((cts.map ctM).take j))).length + X1.length + X2.length) * 1 ≤ _
      rw [hT]; simp only [List.length_cons, List.length_append, List.length_nil]; omega
    refine ⟨j + 1, hlt, by simp only; omega, ?_⟩
    exact ent_ren [(1, .own 3), (0, .blk 0)] rfl rfl rfl rfl (Nat.le_of_ble_eq_true rfl) ⟨⟨_, rfl, rfl⟩, ⟨_, rfl, rfl⟩, ⟨_, rfl, oneI (wrapI (by omega) (by omega))⟩, trivial⟩ ⟨⟨_, _, rfl, by rw [htk2, hT]; simp only [List.length_cons, List.length_append]; omega, by rw [htk2, hT]; simp [bc]⟩, ⟨_, rfl, rfl⟩, trivial⟩ ⟨⟨DDIn.up _, fun w h => h.2.2.1⟩, trivial⟩
  refine svc_ok tabOk [] _ _ _ ?_
  refine ⟨_, rfl, (), trivial, rfl, ?_⟩
  exact ent_ren [(0, .own 1)] rfl rfl rfl rfl (Nat.zero_le _) ⟨⟨_, rfl, rfl⟩, trivial⟩ ⟨⟨_, _, rfl, rfl, rfl⟩, trivial⟩ ⟨⟨Up.true, fun _ _ => trivial⟩, trivial⟩
end Go.Proofs.YtmkpiekbpakigaaGreatDoor
