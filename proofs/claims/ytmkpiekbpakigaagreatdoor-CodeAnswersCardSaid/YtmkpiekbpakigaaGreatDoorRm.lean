/- The reference's Library (14). -/
import Derived.Test.YtmkpiekbpakigaaGreatDoorRl
set_option linter.unusedVariables false
set_option linter.unusedSimpArgs false
namespace Go.Proofs.YtmkpiekbpakigaaGreatDoor
open Go.RowKit Go.Proofs.Base Go.Proofs.Sym

theorem DeclRA_lc (d : DD) : LCall Tryz.prog 18 [ddA d] [] 0 (fun w => DDIn w d) (fun _ : Unit => True) (fun _ => optRes (formedB d.dm) (declN d.dm)) :=
  LCall.arg (DeclR_lc d) (fun e => by show [(ddA d).real e] = _; rw [ddA_real]; rfl) (fun x hx => by rw [List.mem_singleton.1 hx]; trivial)
set_option maxHeartbeats 4000000 in
theorem LibraryR_lc (A : Option Addr) (c : Nat) (ds : List DD) : LCall Tryz.prog 14 [.one (.v (.slice A ds.length c))] [] 0 (fun w => DsIn w A c ds) (fun _ : Unit => True) (fun _ => optRes (libB (ds.map DD.dm)) (libN (ds.map DD.dm))) := by
  refine lcall_of tabOk 34 [.tmp 2, .tmp 3] Tryz.func14 rfl rfl (by kernel_rfl) rfl _ (Nat.le_of_ble_eq_true rfl) (DsIn.up _ _ _) ?_
  refine svc_ok tabOk [10] _ _ _ ?_
  refine bsplit_i (fun h => ?_) (fun h => ?_)
  · have h : decide ((64 : Int) < (ds.length : Int)) = true := h
    have h := of_decide_eq_true h
    have hb : libB (ds.map DD.dm) = false := by
      unfold libB
      rw [List.length_map, decide_eq_false (by omega)]
      rfl
    rw [hb]
    refine ⟨_, rfl, (), trivial, rfl, ?_⟩
    exact ent_ren [] rfl rfl rfl rfl (Nat.zero_le _) ⟨⟨_, rfl, rfl⟩, trivial⟩ trivial ⟨⟨Up.true, fun _ _ => trivial⟩, trivial⟩
  have h : decide ((64 : Int) < (ds.length : Int)) = false := h
  have h := of_decide_eq_false h
  have hlen : ds.length ≤ 64 := by omega
  have hb0 : libB (ds.map DD.dm) = (ds.map DD.dm).all formedB := by
    unfold libB
    rw [List.length_map, decide_eq_true hlen]
    rfl
  have hnl := numB_len ds.length
  refine callVC_lend [] (numR_lc ds.length (by omega)) rfl trivial rfl rfl (fun _ _ => trivial) (fun _ _ => ⟨rfl, rfl⟩) (fun _ _ => ?_)
  refine ⟨⟨Nat, fun j => j ≤ ds.length ∧ ((ds.map DD.dm).take j).all formedB = true,
    fun j => { s := [(4, .one (.row 0)), (0, .one (.v (.slice A ds.length c))), (5, .one (.v (.int .i64 (j : Int))))], m := [(0, .own 5 1 (numB ds.length ++ declsN ((ds.map DD.dm).take j)).length (bc (numB ds.length ++ declsN ((ds.map DD.dm).take j))))], k := 1, f := [fun w => DsIn w A c ds] },
    fun j => ds.length - j, ⟨0, ⟨Nat.zero_le _, rfl⟩, ?_⟩, ?_⟩⟩
  · exact ent_ren [(0, .own 0)] rfl rfl rfl rfl (Nat.zero_le _) ⟨⟨_, rfl, rfl⟩, ⟨_, rfl, rfl⟩, ⟨_, rfl, rfl⟩, trivial⟩ ⟨⟨_, _, rfl, by simp [declsN], by simp [bc, declsN]⟩, trivial⟩ ⟨⟨DsIn.up _ _ _, fun w h => h.2.1⟩, trivial⟩
  rintro j ⟨hj, hA⟩
  refine bsplit_i (fun hlt => ?_) (fun hge => ?_)
  rotate_left
  · have hge : ds.length ≤ j := by
      have h : decide ((j : Int) < (ds.length : Int)) = false := hge
      have := of_decide_eq_false h
      omega
    have he : (ds.map DD.dm).take j = ds.map DD.dm := List.take_of_length_le (by simpa using hge)
    rw [he] at hA
    rw [hb0, hA]
    refine ⟨_, rfl, (), trivial, rfl, ?_⟩
    exact ent_ren [(0, .own 0)] rfl rfl rfl rfl (Nat.zero_le _) ⟨⟨_, rfl, rfl⟩, trivial⟩ ⟨⟨_, _, rfl, by rw [he, libN, List.length_map], by rw [he, libN, List.length_map]⟩, trivial⟩ ⟨⟨Up.true, fun _ _ => trivial⟩, trivial⟩
  have hlt : j < ds.length := by
    have h : decide ((j : Int) < (ds.length : Int)) = true := hlt
    have := of_decide_eq_true h
    omega
  obtain ⟨d, hd⟩ : ∃ d, ds[j]? = some d := ⟨_, List.getElem?_eq_getElem hlt⟩
  have hdm : (ds.map DD.dm)[j]? = some d.dm := by rw [List.getElem?_map, hd]; rfl
  have htk := declsN_take hdm
  have hbl : (declsN ((ds.map DD.dm).take j)).length ≤ 3000000 * 64 := by
    have := declsN_len ((ds.map DD.dm).take j) (fun d hd => List.all_eq_true.1 hA d hd)
    have h2 : ((ds.map DD.dm).take j).length ≤ 64 := by rw [List.length_take, List.length_map]; omega
    exact Nat.le_trans this (Nat.mul_le_mul_left _ h2)
  have hdl := DeclRA_lc d
  have hfl := fun h => declN_len (@formed_parts d.dm h)
  have hall : ∀ b, formedB d.dm = b → ((ds.map DD.dm).take (j + 1)).all formedB = b := fun b hb => by
    rw [List.take_add_one, hdm, List.all_append, hA]
    simp [hb]
  have hany : formedB d.dm = false → (ds.map DD.dm).all formedB = false := fun hb => by
    cases hq : (ds.map DD.dm).all formedB with
    | false => rfl
    | true =>
      have := List.all_eq_true.1 hq d.dm (List.mem_of_getElem? hdm)
      rw [hb] at this
      cases this
  obtain ⟨b, hb⟩ : ∃ b, formedB d.dm = b := ⟨_, rfl⟩
  obtain ⟨Z, hZ⟩ : ∃ Z, declN d.dm = Z := ⟨_, rfl⟩
  rw [hb] at hdl hfl hany
  rw [hZ] at hdl hfl htk
  have hall := hall b hb
  obtain ⟨ys, hys⟩ : ∃ ys, numB ds.length ++ declsN ((ds.map DD.dm).take j) = ys := ⟨_, rfl⟩
  have hyl : ys.length ≤ 200000000 := by
    rw [← hys, List.length_append]
    omega
  obtain ⟨dk, dp, dnm, ⟨ak, an, anm, ala, alc, als, aaa, aac, aus⟩, ⟨bk, bn, bnm, bla, blc, bls, baa, bac, bus⟩, dfx, dca, dcc, dcts⟩ := d
  refine ⟨{ n := j }, ⟨rfl, hlt, fun w h => ?_⟩, ?_⟩
  · obtain ⟨⟨a, ha, _⟩, _⟩ := h.1.at' j _ hd
    rw [ha]; rfl
  refine ⟨{ cs := (DD.mk dk dp dnm (.mk ak an anm ala alc als aaa aac aus) (.mk bk bn bnm bla blc bls baa bac bus) dfx dca dcc dcts).cells }, ⟨DD.cells_one (DD.mk dk dp dnm (.mk ak an anm ala alc als aaa aac aus) (.mk bk bn bnm bla blc bls baa bac bus) dfx dca dcc dcts), rfl, fun w h => ?_⟩, ?_⟩
  · obtain ⟨⟨a, ha, h3⟩, _⟩ := h.1.at' j _ hd
    exact ⟨_, by rw [ha]; rfl, h3⟩
  refine callVC_lend [] hdl rfl trivial rfl rfl (fun w h => (h.1.at' j _ hd).2) (fun _ _ => ?_) (fun _ _ => ?_)
  · cases b <;> exact ⟨rfl, rfl⟩
  cases b with
  | false =>
    rw [hb0, hany rfl]
    refine ⟨_, rfl, (), trivial, rfl, ?_⟩
    exact ent_ren [] rfl rfl rfl rfl (Nat.zero_le _) ⟨⟨_, rfl, rfl⟩, trivial⟩ trivial ⟨⟨Up.true, fun _ _ => trivial⟩, trivial⟩
  | true =>
    refine Walks.freeze 1 rfl (fun B cp g1 g2 g3 => ?_)
    have hZl := hfl rfl
    refine svc_ok tabOk [] _ _ _ ?_
    refine ⟨{ cs := bc Z }, ⟨⟨by rw [bc_len]; exact (Nat.mul_one _).symm, ?_, g1, fun w h => h.1⟩, Nat.one_pos, .inr rfl, ?_, ?_⟩, ?_⟩
    · intro u hu
      obtain ⟨q, _, rfl⟩ := List.mem_map.1 hu
      rfl
    · show (numB ds.length ++ declsN ((ds.map DD.dm).take j)).length + Z.length ≤ maxLen
      rw [hys]
      simp only [maxLen]; omega
    · show ((numB ds.length ++ declsN ((ds.map DD.dm).take j)).length + Z.length) * 1 ≤ _
      rw [hys]
      omega
    refine ⟨j + 1, ⟨hlt, hall⟩, by simp only; omega, ?_⟩
    exact ent_ren [(0, .own 2)] rfl rfl rfl rfl (Nat.zero_le _) ⟨⟨_, rfl, rfl⟩, ⟨_, rfl, rfl⟩, ⟨_, rfl, oneI (wrapI (by omega) (by omega))⟩, trivial⟩ ⟨⟨_, _, rfl, by rw [htk]; simp; omega, by rw [htk]; simp [bc]⟩, trivial⟩ ⟨⟨DsIn.up _ _ _, fun w h => h.2.2.1⟩, trivial⟩
end Go.Proofs.YtmkpiekbpakigaaGreatDoor
