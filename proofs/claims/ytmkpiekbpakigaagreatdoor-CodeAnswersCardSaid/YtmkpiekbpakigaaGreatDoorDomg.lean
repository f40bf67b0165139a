/- What the claim needs of Dc4, Dc5, Rd1, Own3, Own4, Rd2, SymR, Rd3, Rd4, Rd5, in one text. -/
import Derived.Test.YtmkpiekbpakigaaGreatDoorShelf
import Derived.Test.YtmkpiekbpakigaaGreatDoorDoma
import Derived.Test.YtmkpiekbpakigaaGreatDoorDome
import Derived.Test.YtmkpiekbpakigaaGreatDoorDomf
section
set_option linter.unusedVariables false
set_option linter.unusedSimpArgs false
namespace Go.Proofs.YtmkpiekbpakigaaGreatDoor
open Go.RowKit Go.Proofs.Base Go.Proofs.Sym
def ctN (c : ByteArray × Tm) : List Nat := textN c.1 ++ putT c.2
def ctsN (cs : List (ByteArray × Tm)) : List Nat := cs.flatMap ctN
def bodyN (d : DM) : List Nat := if valB d.kind = true then putT d.val else if d.kind = 4 then byteI d.fixed :: byteI d.cts.length :: ctsN d.cts else []
def headN (d : DM) : List Nat := byteI d.kind :: (textN d.name ++ (byteI d.params :: putT d.ty))
def declN (d : DM) : List Nat := headN d ++ bodyN d
structure Formed (d : DM) : Prop where
  k1 : 1 ≤ d.kind
  k4 : d.kind ≤ 4
  name : wordB d.name = true
  ty : rightB d.params 0 d.ty = true
  val : valB d.kind = true → rightB d.params 0 d.val = true
  noval : valB d.kind = false → emptyT d.val = true
  nofam : d.kind ≠ 4 → d.fixed = 0 ∧ d.cts = []
  fam : d.kind = 4 → 0 ≤ d.fixed ∧ d.fixed ≤ 16 ∧ d.cts.length ≤ 8 ∧ ∀ c ∈ d.cts, wordB c.1 = true ∧ rightB d.params 0 c.2 = true
theorem formed_parts {d : DM} (h : formedB d = true) : Formed d := by
  unfold formedB at h
  split at h
  · cases h
  rename_i h1
  split at h
  · cases h
  rename_i h2
  simp only [not_or, Int.not_lt, Bool.not_eq_false] at h1
  obtain ⟨h1, h3, h4, h5⟩ := h1
  simp only [not_or, not_and, Bool.not_eq_false] at h2
  refine ⟨h1, h3, h4, h5, h2.1, h2.2, fun hk => ?_, fun hk => ?_⟩
  · rw [if_pos hk] at h
    simp only [Bool.and_eq_true, decide_eq_true_eq] at h
    exact ⟨h.1, List.eq_nil_of_length_eq_zero (by omega)⟩
  · rw [if_neg (fun e => e hk)] at h
    simp only [Bool.and_eq_true, decide_eq_true_eq, Bool.not_eq_true'] at h
    obtain ⟨g1, g2, g3, g4⟩ := h
    refine ⟨g1, g2, by omega, fun c hc => ?_⟩
    rw [List.any_eq_false] at g4
    have := g4 c hc
    unfold wrongC at this
    simp only [Bool.or_eq_true, Bool.not_eq_true', not_or, Bool.not_eq_false] at this
    exact this
theorem params_le {p v : Int} {t : Tm} (h : rightB p v t = true) : 0 ≤ p ∧ p ≤ 4 := by
  unfold rightB at h
  simp only [Bool.and_eq_true, decide_eq_true_eq] at h
  exact ⟨h.1, h.2.1⟩
theorem right_put {p : Int} {t : Tm} (h : rightB p 0 t = true) : PutOk t ∧ wT t ≤ 300000 ∧ (putT t).length ≤ 300000 := by
  obtain ⟨h1, h2, _⟩ := code_ok (code_of_right h)
  have := putT_len t h1
  exact ⟨h1, h2, by omega⟩
theorem ctsN_take {cs : List (ByteArray × Tm)} {j : Nat} {c : ByteArray × Tm} (h : cs[j]? = some c) : ctsN (cs.take (j + 1)) = ctsN (cs.take j) ++ ctN c := by
  rw [List.take_add_one, h]
  simp [ctsN]
theorem ctN_len {p : Int} {c : ByteArray × Tm} (h1 : wordB c.1 = true) (h2 : rightB p 0 c.2 = true) : (ctN c).length ≤ 300039 := by
  have g1 := textN_len c.1
  have g2 := word_size h1
  have g3 := (right_put h2).2.2
  unfold ctN
  rw [List.length_append]
  omega
theorem ctsN_len {p : Int} : ∀ (cs : List (ByteArray × Tm)), (∀ c ∈ cs, wordB c.1 = true ∧ rightB p 0 c.2 = true) → (ctsN cs).length ≤ 300039 * cs.length
  | [], _ => by simp [ctsN]
  | c :: r, h => by
    have h1 := ctN_len (h c List.mem_cons_self).1 (h c List.mem_cons_self).2
    have h2 := ctsN_len r (fun c hc => h c (List.mem_cons_of_mem _ hc))
    have : ctsN (c :: r) = ctN c ++ ctsN r := rfl
    rw [this, List.length_append, List.length_cons]
    omega
theorem headN_len {d : DM} (h : Formed d) : (headN d).length ≤ 300041 := by
  have g1 := textN_len d.name
  have g2 := word_size h.name
  have g3 := (right_put h.ty).2.2
  unfold headN
  simp only [List.length_cons, List.length_append]
  omega
theorem declN_len {d : DM} (h : Formed d) : (declN d).length ≤ 3000000 := by
  have h1 := headN_len h
  unfold declN bodyN
  rw [List.length_append]
  split
  · rename_i hv
    have := (right_put (h.val hv)).2.2
    omega
  · split
    · rename_i hk
      obtain ⟨_, _, hl, hc⟩ := h.fam hk
      have := ctsN_len d.cts hc
      simp only [List.length_cons]
      omega
    · simp
      omega
section
variable (k p : Int) (nm : ByteArray) (t1 t2 : TT) (fx : Int) (ca : Option Addr) (cc : Nat) (cts : List (ByteArray × TT))
def dSt (ys : List Nat) : St := { s := [(1, .one (.p 0 0)), (4, .one (.row 1))], m := [(1, .own 5 1 ys.length (bc ys)), (0, .cells 38 (dA k p nm t1 t2 fx ca cc cts))], k := 2, f := [dPre (DD.mk k p nm t1 t2 fx ca cc cts)] }
end
set_option maxHeartbeats 4000000 in
theorem Decl_lc (d : DD) : LCall Tryz.prog 17 [.one (.v d.dv)] [] 0 (dPre d) (fun _ : Unit => True) (fun _ => optRes (formedB d.dm) (declN d.dm)) := by
  have hF := Formed_pc d
  have hform := @formed_parts d.dm
  obtain ⟨b, hb⟩ : ∃ b, formedB d.dm = b := ⟨_, rfl⟩
  rw [hb] at hF hform ⊢
  obtain ⟨k, p, nm, t1, t2, fx, ca, cc, cts⟩ := d
  have hp1 := put_lc t1
  have hp2 := put_lc t2
  have hv := valued_pc k
  obtain ⟨D, hD⟩ : ∃ D, (DD.mk k p nm t1 t2 fx ca cc cts).dm = D := ⟨_, rfl⟩
  have e1 : D.kind = k := by rw [← hD]; rfl
  have e2 : D.params = p := by rw [← hD]; rfl
  have e3 : D.name = nm := by rw [← hD]; rfl
  have e4 : D.ty = t1.tm := by rw [← hD]; rfl
  have e5 : D.val = t2.tm := by rw [← hD]; rfl
  have e6 : D.fixed = fx := by rw [← hD]; rfl
  have e7 : D.cts = cts.map ctM := by rw [← hD]; rfl
  rw [hD] at hform ⊢
  obtain ⟨y1, hy1⟩ : ∃ y, t1.tm = y := ⟨_, rfl⟩
  obtain ⟨y2, hy2⟩ : ∃ y, t2.tm = y := ⟨_, rfl⟩
  rw [hy1] at hp1 e4
  rw [hy2] at hp2 e5
  obtain ⟨ak, an, anm, ala, alc, als, aaa, aac, aus⟩ := t1
  obtain ⟨bk, bn, bnm, bla, blc, bls, baa, bac, bus⟩ := t2
  refine lcall_of tabOk 64 [.tmp 2, .tmp 3] Tryz.func17 rfl rfl (by kernel_rfl) rfl _ (Nat.le_of_ble_eq_true rfl) (dPre.upS _) ?_
  refine svc_ok tabOk [4] _ _ _ ?_
  refine callVC_plain hF (fun _ => rfl) (fun w h => h.1) ?_
  rintro r rfl
  cases b with
  | false =>
    refine ⟨_, rfl, (), trivial, rfl, ?_⟩
    exact ent_ren [] rfl rfl rfl rfl (Nat.zero_le _) ⟨⟨_, rfl, rfl⟩, trivial⟩ trivial ⟨⟨Up.true, fun _ _ => trivial⟩, trivial⟩
  | true =>
  have hf := hform rfl
  have hhl := headN_len hf
  have hdl := declN_len hf
  have hns := word_size hf.name
  rw [e3] at hns
  have htx := text_lc 1 (bc [byteI k]) nm rfl (by omega) (by omega)
  have htl := textN_len nm
  rw [show textRes 1 (bc [byteI k]) nm = { v := .one (.row 1), m := [(1, .own 5 1 (1 + (textN nm).length) (bc [byteI k] ++ bc (textN nm)))], k := 2 } by rw [textRes, textN_ok, bc_len]] at htx
  refine callVC_own 1 1 1 [.one (.row 2), .one (.v (.string nm))] (vs := [.int .u8 (IntKind.u8.wrap k)]) rfl rfl rfl (by decide) (fun e he hl => ⟨?_, ?_⟩) ?_
  · show [e.rv 2, _] = _
    rw [show e.rv 2 = Value.slice (some ⟨e.blk 1, 0, none⟩) 1 1 from he]
    rfl
  · intro x hx
    rcases List.mem_cons.1 hx with rfl | hx
    · exact Nat.lt_succ_self _
    · rw [List.mem_singleton.1 hx]
      trivial
  refine callVC_lend [2] htx rfl ⟨by rw [byteI_ok]; rfl, trivial⟩ rfl rfl (fun _ _ => trivial) (fun _ _ => ⟨rfl, rfl⟩) (fun _ _ => ?_)
  refine Walks.ent (st' := dSt k p nm (.mk ak an anm ala alc als aaa aac aus) (.mk bk bn bnm bla blc bls baa bac bus) fx ca cc cts (byteI k :: textN nm)) ?_ ?_
  · exact ent_ren [(1, .own 3), (0, .blk 0)] rfl rfl rfl rfl (Nat.zero_le _) ⟨⟨_, rfl, rfl⟩, ⟨_, rfl, rfl⟩, trivial⟩ ⟨⟨_, _, rfl, by simp; omega, by simp [bc]⟩, ⟨_, rfl, rfl⟩, trivial⟩ ⟨⟨dPre.upS _, fun w h => h.2.2.1⟩, trivial⟩
  have hty := right_put hf.ty
  rw [e4] at hty
  have hpl := params_le hf.ty
  have hA1 : (byteI k :: textN nm).length + 1 ≤ maxLen := by
    simp only [maxLen, List.length_cons]; omega
  have hA2 : ((byteI k :: textN nm).length + 1) * 1 ≤ 140737488355328 := by
    simp only [List.length_cons]; omega
  have hp1 := hp1 ((byteI k :: textN nm).length + 1) (bc (byteI k :: textN nm) ++ [.int .u8 (IntKind.u8.wrap p)]) (by rw [List.length_append, bc_len]; rfl) (by simp only [List.length_cons]; omega) hty.1
  refine svc_ok tabOk [5, 12] _ _ _ ?_
  refine .inr ⟨[0, 0, 2, 6, 14, 31, 0, 64, 255, 511], [4, 5, 8, 9], [(0, { dst := some 17, v := .one (.row 1), p := none, f := none }), (1, { dst := some 18, v := .one (.p 0 1), p := none, f := none }), (2, { dst := some 19, v := .one (.v (.int .i64 p)), p := none, f := none }), (3, { dst := some 20, v := .one (.v (.int .u8 (IntKind.u8.wrap p))), p := none, f := none }), (6, { dst := some 23, v := .one (.p 0 3), p := none, f := none }), (7, { dst := some 24, v := ttA (.mk ak an anm ala alc als aaa aac aus), p := none, f := none })], by kernel_rfl, rfl, by kernel_rfl, by kernel_rfl, rfl, rfl, rfl, rfl, ?_⟩
  refine cgo_go _ [4] rfl (by kernel_rfl) (by kernel_rfl) ⟨⟨rfl, rfl⟩, ⟨rfl, rfl⟩, ⟨rfl, rfl⟩, ⟨rfl, rfl⟩, ⟨rfl, rfl⟩, ⟨rfl, rfl⟩, trivial⟩ ⟨?_, trivial⟩
  refine ⟨_, rfl, rfl, _, rfl, ?_⟩
  refine cgo_go _ [5] rfl (by kernel_rfl) (by kernel_rfl) ⟨⟨rfl, rfl⟩, ⟨rfl, trivial⟩, ⟨rfl, trivial⟩, ⟨rfl, trivial⟩, ⟨rfl, rfl⟩, ⟨rfl, rfl⟩, trivial⟩ ⟨?_, trivial⟩
  refine ⟨_, rfl, rfl, _, rfl, ?_⟩
  refine ⟨{}, ⟨trivial, Nat.one_pos, .inr rfl, hA1, hA2⟩, ?_⟩
  refine cgo_go { s := [(22, .one (.row 3)), (21, .one (.sl 2 0 1 1)), (1, .one (.p 0 0)), (4, .one (.row 1))], m := [(3, .own 5 1 ((byteI k :: textN nm).length + 1) (bc (byteI k :: textN nm) ++ [.int .u8 (IntKind.u8.wrap p)])), (1, .dead), (2, .cells 5 [.v (.int .u8 (IntKind.u8.wrap p))]), (1, .own 5 1 (byteI k :: textN nm).length (bc (byteI k :: textN nm))), (0, .cells 38 (dA k p nm (.mk ak an anm ala alc als aaa aac aus) (.mk bk bn bnm bla blc bls baa bac bus) fx ca cc cts))], k := 4, f := [dPre (DD.mk k p nm (.mk ak an anm ala alc als aaa aac aus) (.mk bk bn bnm bla blc bls baa bac bus) fx ca cc cts)] } [8] rfl (by kernel_rfl) (by kernel_rfl) ⟨⟨rfl, trivial⟩, ⟨rfl, trivial⟩, ⟨rfl, trivial⟩, ⟨rfl, trivial⟩, ⟨rfl, rfl⟩, ⟨rfl, rfl⟩, trivial⟩ ⟨?_, trivial⟩
  refine ⟨_, rfl, rfl, _, rfl, ?_⟩
  refine callVC_lend [3] hp1 rfl ⟨rfl, trivial⟩ rfl rfl (fun w h => h.1.2.hty) (fun _ _ => ⟨rfl, rfl⟩) (fun _ _ => ?_)
  refine cgo_go _ [9] rfl (by kernel_rfl) (by kernel_rfl) ⟨⟨rfl, trivial⟩, ⟨rfl, trivial⟩, ⟨rfl, trivial⟩, ⟨rfl, trivial⟩, ⟨rfl, trivial⟩, ⟨rfl, trivial⟩, trivial⟩ ⟨?_, trivial⟩
  refine ⟨_, rfl, rfl, _, rfl, ?_⟩
  refine cgo_end _ rfl (by kernel_rfl) ⟨⟨rfl, trivial⟩, ⟨rfl, trivial⟩, ⟨rfl, trivial⟩, ⟨rfl, trivial⟩, ⟨rfl, trivial⟩, ⟨rfl, trivial⟩, trivial⟩ ?_
  have hH : headN D = byteI k :: (textN nm ++ (byteI p :: putT y1)) := by rw [headN, e1, e2, e3, e4]
  refine Walks.ent (st' := dSt k p nm (.mk ak an anm ala alc als aaa aac aus) (.mk bk bn bnm bla blc bls baa bac bus) fx ca cc cts (headN D)) ?_ ?_
  · exact ent_ren [(1, .own 4), (0, .blk 0)] rfl rfl rfl rfl (Nat.zero_le _) ⟨⟨_, rfl, rfl⟩, ⟨_, rfl, rfl⟩, trivial⟩ ⟨⟨_, _, rfl, by rw [hH]; simp; omega, by rw [hH]; simp [bc, byteI_ok]⟩, ⟨_, rfl, rfl⟩, trivial⟩ ⟨⟨dPre.upS _, fun w h => h.2.1⟩, trivial⟩
  obtain ⟨Hd, hHd⟩ : ∃ H, headN D = H := ⟨_, rfl⟩
  rw [hHd] at hhl ⊢
  have hspec : declN D = Hd ++ bodyN D := by rw [declN, hHd]
  refine svc_ok tabOk [12] _ _ _ ?_
  obtain ⟨bv, hbv⟩ : ∃ b, valB k = b := ⟨_, rfl⟩
  have hv : PCall Tryz.prog 52 [.int .i64 k] (fun _ => True) (fun r => r = .bool bv) (fun _ _ => True) := by rw [← hbv]; exact hv
  refine callVC_plain hv (fun _ => rfl) (fun _ _ => trivial) ?_
  rintro r rfl
  have hbv' : valB D.kind = bv := by rw [e1]; exact hbv
  cases bv with
  | true =>
    have hvl := right_put (hf.val hbv')
    rw [e5] at hvl
    have hbody : bodyN D = putT y2 := by rw [bodyN, if_pos hbv', e5]
    refine callVC_lend [1] (hp2 Hd.length (bc Hd) (bc_len _) (by omega) hvl.1) rfl ⟨rfl, trivial⟩ rfl rfl (fun w h => h.2.1.2.hval) (fun _ _ => ⟨rfl, rfl⟩) (fun _ _ => ?_)
    refine ⟨_, rfl, (), trivial, rfl, ?_⟩
    exact ent_ren [(0, .own 2)] rfl rfl rfl rfl (Nat.zero_le _) ⟨⟨_, rfl, rfl⟩, trivial⟩ ⟨⟨_, _, rfl, by rw [hspec, hbody]; simp, by rw [hspec, hbody]; simp [bc]⟩, trivial⟩ ⟨⟨Up.true, fun _ _ => trivial⟩, trivial⟩
  | false =>
  have hnv : ¬ valB D.kind = true := by rw [hbv']; simp
  refine bsplit_i (fun g => ?_) (fun g => ?_)
  rotate_left
  · have g : decide (k = 4) = false := g
    have g := of_decide_eq_false g
    have hbody : bodyN D = [] := by rw [bodyN, if_neg hnv, if_neg (by rw [e1]; exact g)]
    refine ⟨_, rfl, (), trivial, rfl, ?_⟩
    exact ent_ren [(0, .own 1)] rfl rfl rfl rfl (Nat.zero_le _) ⟨⟨_, rfl, rfl⟩, trivial⟩ ⟨⟨_, _, rfl, by rw [hspec, hbody]; simp, by rw [hspec, hbody]; simp [bc]⟩, trivial⟩ ⟨⟨Up.true, fun _ _ => trivial⟩, trivial⟩
  have g : decide (k = 4) = true := g
  have g := of_decide_eq_true g
  obtain ⟨f1, f2, f3, f4⟩ := hf.fam (by rw [e1]; exact g)
  have hcl : D.cts.length = cts.length := by rw [e7, List.length_map]
  have hbody : bodyN D = byteI fx :: byteI cts.length :: ctsN (cts.map ctM) := by rw [bodyN, if_neg hnv, if_pos (by rw [e1]; exact g), e6, hcl, e7]
  rw [hcl] at f3
  refine ⟨{}, ⟨trivial, Nat.one_pos, .inr rfl, ?_, ?_⟩, ?_⟩
  · show Hd.length + 2 ≤ maxLen
    simp only [maxLen]; omega
  · show (Hd.length + 2) * 1 ≤ _
    omega
  refine ⟨⟨Nat, fun j => j ≤ cts.length,
    fun j => { s := [(1, .one (.p 0 0)), (4, .one (.row 1)), (49, .one (.v (.slice ca cts.length cc))), (50, .one (.v (.int .i64 (cts.length : Int)))), (51, .one (.v (.int .i64 (j : Int))))], m := [(1, .own 5 1 (Hd ++ (byteI fx :: byteI cts.length :: ctsN ((cts.map ctM).take j))).length (bc (Hd ++ (byteI fx :: byteI cts.length :: ctsN ((cts.map ctM).take j))))), (0, .cells 38 (dA k p nm (.mk ak an anm ala alc als aaa aac aus) (.mk bk bn bnm bla blc bls baa bac bus) fx ca cc cts))], k := 2, f := [dPre (DD.mk k p nm (.mk ak an anm ala alc als aaa aac aus) (.mk bk bn bnm bla blc bls baa bac bus) fx ca cc cts)] },
    fun j => cts.length - j, ⟨0, Nat.zero_le _, ?_⟩, ?_⟩⟩
  · exact ent_ren [(1, .own 3), (0, .blk 0)] rfl rfl rfl rfl (Nat.zero_le _) ⟨⟨_, rfl, rfl⟩, ⟨_, rfl, rfl⟩, ⟨_, rfl, rfl⟩, ⟨_, rfl, rfl⟩, ⟨_, rfl, rfl⟩, trivial⟩ ⟨⟨_, _, rfl, by simp [ctsN], by simp [bc, ctsN, byteI_ok]⟩, ⟨_, rfl, rfl⟩, trivial⟩ ⟨⟨dPre.upS _, fun w h => h.2.1⟩, trivial⟩
  rintro j hj
  refine bsplit_i (fun hlt => ?_) (fun hge => ?_)
  rotate_left
  · have hge : cts.length ≤ j := by
      have h : decide ((j : Int) < (cts.length : Int)) = false := hge
      have := of_decide_eq_false h
      omega
    have he : (cts.map ctM).take j = cts.map ctM := List.take_of_length_le (by simpa using hge)
    refine ⟨_, rfl, (), trivial, rfl, ?_⟩
    exact ent_ren [(0, .own 1)] rfl rfl rfl rfl (Nat.zero_le _) ⟨⟨_, rfl, rfl⟩, trivial⟩ ⟨⟨_, _, rfl, by rw [hspec, hbody, he], by rw [hspec, hbody, he]⟩, trivial⟩ ⟨⟨Up.true, fun _ _ => trivial⟩, trivial⟩
  have hlt : j < cts.length := by
    have h : decide ((j : Int) < (cts.length : Int)) = true := hlt
    have := of_decide_eq_true h
    omega
  obtain ⟨c, hc⟩ : ∃ c, cts[j]? = some c := ⟨_, List.getElem?_eq_getElem hlt⟩
  have hct : (cts.map ctM)[j]? = some (ctM c) := by rw [List.getElem?_map, hc]; rfl
  have hmem : ctM c ∈ D.cts := by rw [e7]; exact List.mem_of_getElem? hct
  obtain ⟨hcw, hcr⟩ := f4 _ hmem
  have hcs := word_size hcw
  have hcp := right_put hcr
  have htk := ctsN_take hct
  have htl : (ctsN ((cts.map ctM).take j)).length ≤ 300039 * 8 := by
    have := ctsN_len (p := D.params) ((cts.map ctM).take j) (fun c' hc' => f4 c' (by rw [e7]; exact List.mem_of_mem_take hc'))
    have h2 : ((cts.map ctM).take j).length ≤ 8 := by rw [List.length_take, List.length_map]; omega
    exact Nat.le_trans this (Nat.mul_le_mul_left _ h2)
  obtain ⟨ys, hys⟩ : ∃ ys, Hd ++ (byteI fx :: byteI cts.length :: ctsN ((cts.map ctM).take j)) = ys := ⟨_, rfl⟩
  have hyl : ys.length ≤ 3000000 := by
    rw [← hys]
    simp only [List.length_append, List.length_cons]
    omega
  have hnext : Hd ++ (byteI fx :: byteI cts.length :: ctsN ((cts.map ctM).take (j + 1))) = ys ++ (textN c.1 ++ putT c.2.tm) := by
    rw [htk, ← hys]
    simp [ctN, ctM]
  have hc1 : c.1.size ≤ 32 := hcs
  have htn := textN_len c.1
  have htx := text_lc ys.length (bc ys) c.1 (bc_len _) (by omega) (by omega)
  rw [show textRes ys.length (bc ys) c.1 = { v := .one (.row 1), m := [(1, .own 5 1 (ys.length + (textN c.1).length) (bc ys ++ bc (textN c.1)))], k := 2 } by rw [textRes, textN_ok, bc_len]] at htx
  have hpc := put_lc c.2 (ys.length + (textN c.1).length) (bc ys ++ bc (textN c.1)) (by rw [List.length_append, bc_len, bc_len]) (by have := hcp.2.1; show _ + wT (ctM c).2 ≤ _; omega) hcp.1
  obtain ⟨Z, hZ⟩ : ∃ Z, putT c.2.tm = Z := ⟨_, rfl⟩
  rw [hZ] at hpc hnext
  obtain ⟨cn, ⟨tk, tn, tnm, tla, tlc, tls, taa, tac, tus⟩⟩ := c
  refine ⟨{ n := j }, ⟨rfl, hlt, fun w h => ?_⟩, ?_⟩
  · obtain ⟨⟨a, ha, _⟩, _⟩ := h.1.2.hcts j _ hc
    have ha : ca = some a := ha
    rw [ha]; rfl
  refine ⟨{ cs := ctCells (cn, TT.mk tk tn tnm tla tlc tls taa tac tus) }, ⟨ctCells_one (cn, TT.mk tk tn tnm tla tlc tls taa tac tus), rfl, fun w h => ?_⟩, ?_⟩
  · obtain ⟨⟨a, ha, h3⟩, _⟩ := h.1.2.hcts j _ hc
    have ha : ca = some a := ha
    exact ⟨_, by rw [ha]; rfl, h3⟩
  refine Walks.ent (st' := { s := [(1, .one (.p 0 0)), (4, .one (.row 1)), (49, .one (.v (.slice ca cts.length cc))), (50, .one (.v (.int .i64 (cts.length : Int)))), (51, .one (.v (.int .i64 (j : Int)))), (6, .one (.p 2 0))], m := [(1, .own 5 1 ys.length (bc ys)), (0, .cells 38 (dA k p nm (.mk ak an anm ala alc als aaa aac aus) (.mk bk bn bnm bla blc bls baa bac bus) fx ca cc cts)), (2, .cells 75 ((ctCells (cn, TT.mk tk tn tnm tla tlc tls taa tac tus)).map SA.v))], k := 3, f := [dPre (DD.mk k p nm (.mk ak an anm ala alc als aaa aac aus) (.mk bk bn bnm bla blc bls baa bac bus) fx ca cc cts)] }) ?_ ?_
  · exact ent_ren [(2, .blk 2), (1, .own 1), (0, .blk 0)] rfl rfl rfl rfl (Nat.zero_le _) ⟨⟨_, rfl, rfl⟩, ⟨_, rfl, rfl⟩, ⟨_, rfl, rfl⟩, ⟨_, rfl, rfl⟩, ⟨_, rfl, rfl⟩, ⟨_, rfl, rfl⟩, trivial⟩ ⟨⟨_, _, rfl, by rw [hys], by rw [hys]⟩, ⟨_, rfl, rfl⟩, ⟨_, rfl, rfl⟩, trivial⟩ ⟨⟨dPre.upS _, fun w h => h.1⟩, trivial⟩
  refine svc_ok tabOk [] _ _ _ ?_
  refine .inr ⟨[0, 0, 2, 7, 0, 16, 63, 127], [3, 6, 7], [(0, { dst := some 55, v := .one (.row 1), p := none, f := none }), (1, { dst := some 56, v := .one (.p 2 0), p := none, f := none }), (2, { dst := some 57, v := .one (.v (.string cn)), p := none, f := none }), (4, { dst := some 59, v := .one (.p 2 1), p := none, f := none }), (5, { dst := some 60, v := ttA (TT.mk tk tn tnm tla tlc tls taa tac tus), p := none, f := none })], by kernel_rfl, rfl, by kernel_rfl, by kernel_rfl, rfl, rfl, rfl, rfl, ?_⟩
  refine cgo_go _ [3] rfl (by kernel_rfl) (by kernel_rfl) ⟨⟨rfl, rfl⟩, ⟨rfl, rfl⟩, ⟨rfl, rfl⟩, ⟨rfl, rfl⟩, ⟨rfl, rfl⟩, trivial⟩ ⟨?_, trivial⟩
  refine ⟨_, rfl, rfl, _, rfl, ?_⟩
  refine callVC_lend [1] htx rfl ⟨rfl, trivial⟩ rfl rfl (fun _ _ => trivial) (fun _ _ => ⟨rfl, rfl⟩) (fun _ _ => ?_)
  refine cgo_go _ [6] rfl (by kernel_rfl) (by kernel_rfl) ⟨⟨rfl, trivial⟩, ⟨rfl, trivial⟩, ⟨rfl, trivial⟩, ⟨rfl, rfl⟩, ⟨rfl, rfl⟩, trivial⟩ ⟨?_, trivial⟩
  refine ⟨_, rfl, rfl, _, rfl, ?_⟩
  refine callVC_lend [3] hpc rfl ⟨rfl, trivial⟩ rfl rfl (fun w h => (h.2.1.2.hcts j _ hc).2.1) (fun _ _ => ⟨rfl, rfl⟩) (fun _ _ => ?_)
  refine cgo_go _ [7] rfl (by kernel_rfl) (by kernel_rfl) ⟨⟨rfl, trivial⟩, ⟨rfl, trivial⟩, ⟨rfl, trivial⟩, ⟨rfl, trivial⟩, ⟨rfl, trivial⟩, trivial⟩ ⟨?_, trivial⟩
  refine ⟨_, rfl, rfl, _, rfl, ?_⟩
  refine cgo_end _ rfl (by kernel_rfl) ⟨⟨rfl, trivial⟩, ⟨rfl, trivial⟩, ⟨rfl, trivial⟩, ⟨rfl, trivial⟩, ⟨rfl, trivial⟩, trivial⟩ ?_
  refine ⟨j + 1, hlt, by simp only; omega, ?_⟩
  exact ent_ren [(1, .own 4), (0, .blk 0)] rfl rfl rfl rfl (Nat.zero_le _) ⟨⟨_, rfl, rfl⟩, ⟨_, rfl, rfl⟩, ⟨_, rfl, rfl⟩, ⟨_, rfl, rfl⟩, ⟨_, rfl, oneI (wrapI (by omega) (by omega))⟩, trivial⟩ ⟨⟨_, _, rfl, by rw [hnext]; simp; omega, by rw [hnext]; simp [bc]⟩, ⟨_, rfl, rfl⟩, trivial⟩ ⟨⟨dPre.upS _, fun w h => h.2.2.1⟩, trivial⟩
end Go.Proofs.YtmkpiekbpakigaaGreatDoor
end
section
set_option linter.unusedVariables false
set_option linter.unusedSimpArgs false
namespace Go.Proofs.Sym
open Go.RowKit Go.Proofs.Base Go.Proofs.Mono
/-- The same contract, its arguments spelled otherwise. -/
theorem LCall.arg {P : Program} {f : FuncId} {args args' : List SV} {m : List (Nat × LB)} {b : Nat} {pre : World → Prop} {X : Type} {ok : X → Prop} {ret : X → LRes} (h : LCall P f args m b pre ok ret)
    (he : ∀ e, args'.map (SV.real e) = args.map (SV.real e)) (hl : ∀ x ∈ args, x.lt b) : LCall P f args' m b pre ok ret :=
  ⟨h.up, fun cx e w hw hn h0 hm _ => by rw [he]; exact h.run cx e w hw hn h0 hm hl⟩
end Go.Proofs.Sym
namespace Go.Proofs.YtmkpiekbpakigaaGreatDoor
open Go.RowKit Go.Proofs.Base Go.Proofs.Sym
def ddA (d : DD) : SV := .agg (d.cells.map SA.v)
theorem ddA_real (d : DD) (e : Env) : (ddA d).real e = d.dv := by
  show Value.agg (reals e (d.cells.map SA.v)).toArray = _
  rw [map_plain]
  rfl
theorem DD.cells_one (d : DD) : ∀ v ∈ d.cells, v.oneCell' = true := by
  intro v hv
  unfold DD.cells at hv
  simp only [List.mem_cons, List.mem_append, List.not_mem_nil, or_false] at hv
  rcases hv with rfl | rfl | rfl | hv | hv | rfl | rfl
  · rfl
  · rfl
  · rfl
  · exact TT.cells_one _ v hv
  · exact TT.cells_one _ v hv
  · rfl
  · rfl
/-- Declarations in a row. -/
structure DsIn (w : World) (A : Option Addr) (c : Nat) (ds : List DD) : Prop where
  at' : ∀ (j : Nat) d, ds[j]? = some d → (∃ a, A = some a ∧ ∀ l u, d.cells[l]? = some u → w.cell? ((a.add (j * 15)).add l) = some u) ∧ DDIn w d
  nil : A = none → ds.length = 0 ∧ c = 0
  le : ds.length ≤ c
  max : c ≤ maxLen
theorem DsIn.up (A : Option Addr) (c : Nat) (ds : List DD) : Up fun w => DsIn w A c ds := by
  intro w w' h hd
  refine ⟨fun j d hj => ?_, hd.nil, hd.le, hd.max⟩
  obtain ⟨⟨a, ha, h1⟩, h2⟩ := hd.at' j d hj
  exact ⟨⟨a, ha, fun l u hl => h.cell (h1 l u hl)⟩, DDIn.up _ _ _ h h2⟩
def declsN (ds : List DM) : List Nat := ds.flatMap declN
def libN (ds : List DM) : List Nat := numB ds.length ++ declsN ds
def libB (ds : List DM) : Bool := decide (ds.length ≤ 64) && ds.all formedB
theorem declsN_take {ds : List DM} {j : Nat} {d : DM} (h : ds[j]? = some d) : declsN (ds.take (j + 1)) = declsN (ds.take j) ++ declN d := by
  rw [List.take_add_one, h]
  simp [declsN]
theorem declsN_len : ∀ (ds : List DM), (∀ d ∈ ds, formedB d = true) → (declsN ds).length ≤ 3000000 * ds.length
  | [], _ => by simp [declsN]
  | d :: r, h => by
    have h1 := declN_len (formed_parts (h d List.mem_cons_self))
    have h2 := declsN_len r (fun d hd => h d (List.mem_cons_of_mem _ hd))
    have : declsN (d :: r) = declN d ++ declsN r := rfl
    rw [this, List.length_append, List.length_cons]
    omega
def lPre (A : Option Addr) (c : Nat) (ds : List DD) (w : World) : Prop := ML w ∧ DsIn w A c ds
theorem lPre.upS (A : Option Addr) (c : Nat) (ds : List DD) : Up (lPre A c ds) := ML.up.and (DsIn.up _ _ _)
set_option maxHeartbeats 4000000 in
theorem Library_lc (A : Option Addr) (c : Nat) (ds : List DD) : LCall Tryz.prog 13 [.one (.v (.slice A ds.length c))] [] 0 (lPre A c ds) (fun _ : Unit => True) (fun _ => optRes (libB (ds.map DD.dm)) (libN (ds.map DD.dm))) := by
  refine lcall_of tabOk 33 [.tmp 2, .tmp 3] Tryz.func13 rfl rfl (by kernel_rfl) rfl _ (Nat.le_of_ble_eq_true rfl) (lPre.upS _ _ _) ?_
  refine svc_ok tabOk [10] _ _ _ ?_
  refine bsplit_i (fun h => ?_) (fun h => ?_)
  · have h : decide ((64 : Int) < (ds.length : Int)) = true := h
    have h := of_decide_eq_true h
    have hb : libB (ds.map DD.dm) = false := by
      unfold libB
      rw [List.length_map, decide_eq_false (by omega)]
      rfl
    rw [hb]
    refine ⟨_, rfl, (), trivial, rfl, ?_⟩
    exact ent_ren [] rfl rfl rfl rfl (Nat.zero_le _) ⟨⟨_, rfl, rfl⟩, trivial⟩ trivial ⟨⟨Up.true, fun _ _ => trivial⟩, trivial⟩
  have h : decide ((64 : Int) < (ds.length : Int)) = false := h
  have h := of_decide_eq_false h
  have hlen : ds.length ≤ 64 := by omega
  have hb0 : libB (ds.map DD.dm) = (ds.map DD.dm).all formedB := by
    unfold libB
    rw [List.length_map, decide_eq_true hlen]
    rfl
  have hnl := numB_len ds.length
  refine callVC_fresh 5 1 [.one (.row 0), .one (.v (.int .i64 (ds.length : Int)))] (fun e he hl => ⟨?_, ?_⟩) ?_
  · show [e.rv 0, _] = _
    rw [show e.rv 0 = Value.slice none 0 0 from he]
    rfl
  · intro x hx
    rcases List.mem_cons.1 hx with rfl | hx
    · exact Nat.lt_succ_self _
    · rw [List.mem_singleton.1 hx]
      trivial
  refine callVC_lend [0] (num_lc 0 [] ds.length rfl (Nat.zero_le _) (by omega)) rfl ⟨rfl, trivial⟩ rfl rfl (fun _ _ => trivial) (fun _ _ => ⟨rfl, rfl⟩) (fun _ _ => ?_)
  refine ⟨⟨Nat, fun j => j ≤ ds.length ∧ ((ds.map DD.dm).take j).all formedB = true,
    fun j => { s := [(4, .one (.row 0)), (15, .one (.v (.slice A ds.length c))), (16, .one (.v (.int .i64 (ds.length : Int)))), (17, .one (.v (.int .i64 (j : Int))))], m := [(0, .own 5 1 (numB ds.length ++ declsN ((ds.map DD.dm).take j)).length (bc (numB ds.length ++ declsN ((ds.map DD.dm).take j))))], k := 1, f := [lPre A c ds] },
    fun j => ds.length - j, ⟨0, ⟨Nat.zero_le _, rfl⟩, ?_⟩, ?_⟩⟩
  · exact ent_ren [(0, .own 1)] rfl rfl rfl rfl (Nat.zero_le _) ⟨⟨_, rfl, rfl⟩, ⟨_, rfl, rfl⟩, ⟨_, rfl, rfl⟩, ⟨_, rfl, rfl⟩, trivial⟩ ⟨⟨_, _, rfl, by simp [declsN], by simp [bc, declsN]⟩, trivial⟩ ⟨⟨lPre.upS _ _ _, fun w h => h.2.1⟩, trivial⟩
  rintro j ⟨hj, hA⟩
  refine bsplit_i (fun hlt => ?_) (fun hge => ?_)
  rotate_left
  · have hge : ds.length ≤ j := by
      have h : decide ((j : Int) < (ds.length : Int)) = false := hge
      have := of_decide_eq_false h
      omega
    have he : (ds.map DD.dm).take j = ds.map DD.dm := List.take_of_length_le (by simpa using hge)
    rw [he] at hA
    rw [hb0, hA]
    refine ⟨_, rfl, (), trivial, rfl, ?_⟩
    exact ent_ren [(0, .own 0)] rfl rfl rfl rfl (Nat.zero_le _) ⟨⟨_, rfl, rfl⟩, trivial⟩ ⟨⟨_, _, rfl, by rw [he, libN, List.length_map], by rw [he, libN, List.length_map]⟩, trivial⟩ ⟨⟨Up.true, fun _ _ => trivial⟩, trivial⟩
  have hlt : j < ds.length := by
    have h : decide ((j : Int) < (ds.length : Int)) = true := hlt
    have := of_decide_eq_true h
    omega
  obtain ⟨d, hd⟩ : ∃ d, ds[j]? = some d := ⟨_, List.getElem?_eq_getElem hlt⟩
  have hdm : (ds.map DD.dm)[j]? = some d.dm := by rw [List.getElem?_map, hd]; rfl
  have htk := declsN_take hdm
  have hbl : (declsN ((ds.map DD.dm).take j)).length ≤ 3000000 * 64 := by
    have := declsN_len ((ds.map DD.dm).take j) (fun d hd => List.all_eq_true.1 hA d hd)
    have h2 : ((ds.map DD.dm).take j).length ≤ 64 := by rw [List.length_take, List.length_map]; omega
    exact Nat.le_trans this (Nat.mul_le_mul_left _ h2)
  have hdl := (Decl_lc d).arg (args' := [ddA d]) (fun e => by show [(ddA d).real e] = _; rw [ddA_real]; rfl) (fun x hx => by rw [List.mem_singleton.1 hx]; trivial)
  have hfl := fun h => declN_len (@formed_parts d.dm h)
  have hall : ∀ b, formedB d.dm = b → ((ds.map DD.dm).take (j + 1)).all formedB = b := fun b hb => by
    rw [List.take_add_one, hdm, List.all_append, hA]
    simp [hb]
  have hany : formedB d.dm = false → (ds.map DD.dm).all formedB = false := fun hb => by
    cases hq : (ds.map DD.dm).all formedB with
    | false => rfl
    | true =>
      have := List.all_eq_true.1 hq d.dm (List.mem_of_getElem? hdm)
      rw [hb] at this
      cases this
  obtain ⟨b, hb⟩ : ∃ b, formedB d.dm = b := ⟨_, rfl⟩
  obtain ⟨Z, hZ⟩ : ∃ Z, declN d.dm = Z := ⟨_, rfl⟩
  rw [hb] at hdl hfl hany
  rw [hZ] at hdl hfl htk
  have hall := hall b hb
  obtain ⟨ys, hys⟩ : ∃ ys, numB ds.length ++ declsN ((ds.map DD.dm).take j) = ys := ⟨_, rfl⟩
  have hyl : ys.length ≤ 200000000 := by
    rw [← hys, List.length_append]
    omega
  obtain ⟨dk, dp, dnm, ⟨ak, an, anm, ala, alc, als, aaa, aac, aus⟩, ⟨bk, bn, bnm, bla, blc, bls, baa, bac, bus⟩, dfx, dca, dcc, dcts⟩ := d
  refine ⟨{ n := j }, ⟨rfl, hlt, fun w h => ?_⟩, ?_⟩
  · obtain ⟨⟨a, ha, _⟩, _⟩ := h.1.2.at' j _ hd
    rw [ha]; rfl
  refine ⟨{ cs := (DD.mk dk dp dnm (.mk ak an anm ala alc als aaa aac aus) (.mk bk bn bnm bla blc bls baa bac bus) dfx dca dcc dcts).cells }, ⟨DD.cells_one (DD.mk dk dp dnm (.mk ak an anm ala alc als aaa aac aus) (.mk bk bn bnm bla blc bls baa bac bus) dfx dca dcc dcts), rfl, fun w h => ?_⟩, ?_⟩
  · obtain ⟨⟨a, ha, h3⟩, _⟩ := h.1.2.at' j _ hd
    exact ⟨_, by rw [ha]; rfl, h3⟩
  refine callVC_lend [] hdl rfl trivial rfl rfl (fun w h => ⟨h.1.1, (h.1.2.at' j _ hd).2⟩) (fun _ _ => ?_) (fun _ _ => ?_)
  · cases b <;> exact ⟨rfl, rfl⟩
  cases b with
  | false =>
    rw [hb0, hany rfl]
    refine ⟨_, rfl, (), trivial, rfl, ?_⟩
    exact ent_ren [] rfl rfl rfl rfl (Nat.zero_le _) ⟨⟨_, rfl, rfl⟩, trivial⟩ trivial ⟨⟨Up.true, fun _ _ => trivial⟩, trivial⟩
  | true =>
    refine Walks.freeze 2 rfl (fun B cp g1 g2 g3 => ?_)
    have hZl := hfl rfl
    refine svc_ok tabOk [] _ _ _ ?_
    refine ⟨{ cs := bc Z }, ⟨⟨by rw [bc_len]; exact (Nat.mul_one _).symm, ?_, g1, fun w h => h.1⟩, Nat.one_pos, .inr rfl, ?_, ?_⟩, ?_⟩
    · intro u hu
      obtain ⟨q, _, rfl⟩ := List.mem_map.1 hu
      rfl
    · show (numB ds.length ++ declsN ((ds.map DD.dm).take j)).length + Z.length ≤ maxLen
      rw [hys]
      simp only [maxLen]; omega
    · show ((numB ds.length ++ declsN ((ds.map DD.dm).take j)).length + Z.length) * 1 ≤ _
      rw [hys]
      omega
    refine ⟨j + 1, ⟨hlt, hall⟩, by simp only; omega, ?_⟩
    exact ent_ren [(0, .own 3)] rfl rfl rfl rfl (Nat.zero_le _) ⟨⟨_, rfl, rfl⟩, ⟨_, rfl, rfl⟩, ⟨_, rfl, rfl⟩, ⟨_, rfl, oneI (wrapI (by omega) (by omega))⟩, trivial⟩ ⟨⟨_, _, rfl, by rw [htk]; simp; omega, by rw [htk]; simp [bc]⟩, trivial⟩ ⟨⟨lPre.upS _ _ _, fun w h => h.2.2.1⟩, trivial⟩
end Go.Proofs.YtmkpiekbpakigaaGreatDoor
end
section
set_option linter.unusedVariables false
set_option linter.unusedSimpArgs false
namespace Go.Proofs.YtmkpiekbpakigaaGreatDoor
open Go.RowKit Go.Proofs.Base Go.Proofs.Sym
theorem needC {b : Bool} (c : Bool) (h : b = c) : LCall Tryz.prog 70 [.one (.v (.bool b))] [] 0 (fun _ => True) (fun _ : Unit => True) (fun _ => needRes c) := by
  rw [h]
  exact need_lc c
def Bytes (l : List Nat) : Prop := ∀ b ∈ l, b < 256
theorem Bytes.take {l : List Nat} (h : Bytes l) (n : Nat) : Bytes (l.take n) := fun b hb => h b (List.mem_of_mem_take hb)
theorem Bytes.drop {l : List Nat} (h : Bytes l) (n : Nat) : Bytes (l.drop n) := fun b hb => h b (List.mem_of_mem_drop hb)
/-- The reader's block. -/
def rM (A : Option Addr) (c : Nat) (l : List Nat) (left : Int) : LB := .cells 91 [.v (.slice A l.length c), .v (.int .i64 left)]
def tornR (b : Nat) : LRes := { m := [], k := b, ch := some [{ v := tornV, recovered := false }] }
theorem add0 (a : Addr) : a.add 0 = a := by cases a; rfl
theorem cut0 (A : Option Addr) (c : Nat) : cutA A c 0 1 = A := by
  unfold cutA
  split
  · rfl
  · cases A with
    | none => rfl
    | some a => simp [add0]
theorem cut_none {A : Option Addr} {c n z : Nat} (h : cutA A c n z = none) : A = none := by
  unfold cutA at h
  split at h
  · exact h
  · cases A with
    | none => rfl
    | some a => simp at h
theorem BtIn.taken {w : World} {A : Option Addr} {c : Nat} {l : List Nat} (h : BtIn w A c l) {n : Nat} (hn : n ≤ l.length) : BtIn w A c (l.take n) := by
  refine ⟨fun j u hj => h.cells j u ?_, fun hA => ?_, ?_, h.max⟩
  · simp only [bc, List.map_take] at hj ⊢
    rw [List.getElem?_take] at hj
    split at hj
    · exact hj
    · cases hj
  · have := h.nil hA
    rw [List.length_take]
    omega
  · have := h.le
    rw [List.length_take]
    omega
theorem BtIn.rest {w : World} {A : Option Addr} {c : Nat} {l : List Nat} (h : BtIn w A c l) {n : Nat} (hn : n ≤ l.length) : BtIn w (cutA A c n 1) (c - n) (l.drop n) := by
  have hle := h.le
  refine ⟨fun j u hj => ?_, fun hA => ?_, ?_, ?_⟩
  · simp only [bc, List.map_drop, List.getElem?_drop] at hj
    obtain ⟨a, ha, hc⟩ := h.cells _ _ hj
    have hjl : n + j < l.length := by
      have := (List.getElem?_eq_some_iff.1 hj).1
      simpa using this
    refine ⟨a.add n, ?_, ?_⟩
    · unfold cutA
      split
      · rename_i hb
        have : c = n := by rw [← Nat.beq_eq]; exact hb
        omega
      · rw [ha]
        simp
    · rw [← hc]
      congr 1
      simp only [Addr.add]
      by_cases h1 : n = 0 <;> by_cases h2 : j = 0 <;> simp [h1, h2, Nat.add_assoc]
  · have := h.nil (cut_none hA)
    rw [List.length_drop]
    omega
  · rw [List.length_drop]
    omega
  · have := h.max
    omega
def takeRes (A : Option Addr) (c : Nat) (l : List Nat) (left : Int) (n : Nat) : Bool → LRes
  | true => { v := .one (.v (.slice A n c)), m := [(0, rM (cutA A c n 1) (c - n) (l.drop n) left)], k := 1, F := fun w => BtIn w A c (l.take n) ∧ BtIn w (cutA A c n 1) (c - n) (l.drop n) }
  | false => tornR 1
theorem sliceEq {A B : Option Addr} {n m c d : Nat} (h1 : A = B) (h2 : n = m) (h3 : c = d) : SV.one (SA.v (.slice A n c)) = SV.one (SA.v (.slice B m d)) := by rw [h1, h2, h3]
theorem cellsEq {A B : Option Addr} {n m c d : Nat} {x : List SA} (h1 : A = B) (h2 : n = m) (h3 : c = d) : SA.v (.slice A n c) :: x = SA.v (.slice B m d) :: x := by rw [h1, h2, h3]
theorem take_lc (A : Option Addr) (c : Nat) (l : List Nat) (left : Int) (n : Nat) (b : Bool) (hb : decide ((n : Int) ≤ (l.length : Int)) = b) :
    LCall Tryz.prog 108 [.one (.p 0 0), .one (.v (.int .i64 (n : Int)))] [(0, rM A c l left)] 1 (fun w => BtIn w A c l) (fun _ : Unit => True) (fun _ => takeRes A c l left n b) := by
  by_cases hcl : l.length ≤ c
  rotate_left
  · exact ⟨BtIn.up _ _ _, fun cx e w hw hn0 he hm hlt => absurd hm.fact.1.le hcl⟩
  have hN := needC b hb
  refine lcall_of tabOk 30 [.tmp 4] Tryz.func108 rfl rfl (by kernel_rfl) rfl _ (Nat.le_of_ble_eq_true rfl) (BtIn.up _ _ _) ?_
  refine svc_ok tabOk [] _ _ _ ?_
  cases b with
  | false =>
    refine callVC_lend [] hN rfl trivial rfl rfl (fun _ _ => trivial) (fun _ _ => ⟨rfl, rfl⟩) (fun _ _ => ?_)
    refine ⟨(), trivial, rfl, ?_⟩
    exact ent_ren [(0, .blk 0)] rfl rfl rfl rfl (Nat.le_refl _) ⟨⟨_, rfl, rfl⟩, trivial⟩ trivial ⟨⟨Up.true, fun _ _ => trivial⟩, trivial⟩
  | true =>
    have hn : n ≤ l.length := by
      have := of_decide_eq_true hb
      omega
    refine callVC_lend [] hN rfl trivial rfl rfl (fun _ _ => trivial) (fun _ _ => ⟨rfl, rfl⟩) (fun _ _ => ?_)
    refine ⟨{ n := 0, m := n }, ⟨rfl, rfl, Nat.zero_le _, by show n ≤ c; omega⟩, ?_⟩
    refine ⟨{ n := n, m := l.length }, ⟨rfl, rfl, hn, hcl⟩, ?_⟩
    refine ⟨_, rfl, (), trivial, rfl, ?_⟩
    exact ent_ren [(0, .blk 0)] rfl rfl rfl rfl (Nat.le_refl _) ⟨⟨_, rfl, sliceEq (cut0 A c) rfl rfl⟩, trivial⟩ ⟨⟨_, rfl, cellsEq rfl (by rw [List.length_drop]) rfl⟩, trivial⟩ ⟨⟨(BtIn.up _ _ _).and (BtIn.up _ _ _), fun w h => ⟨h.2.1.taken hn, h.2.1.rest hn⟩⟩, trivial⟩
/-- What a reading of one value comes to. -/
def rdRes (o : Option (Value × List Nat × Int)) (x : Option Addr × Nat) : LRes := match o with
  | some (v, l, left) => { v := .one (.v v), m := [(0, rM x.1 x.2 l left)], k := 1, F := fun w => BtIn w x.1 x.2 l }
  | none => tornR 1
def rdByte (most : Nat) : List Nat → Option (Nat × List Nat)
  | [] => none
  | b :: r => if b ≤ most then some (b, r) else none
def intO (left : Int) : Option (Nat × List Nat) → Option (Value × List Nat × Int)
  | some (n, r) => some (.int .i64 (n : Int), r, left)
  | none => none
theorem byte_lc (A : Option Addr) (c : Nat) (l : List Nat) (left : Int) (most : Nat) (hB : Bytes l) :
    LCall Tryz.prog 109 [.one (.p 0 0), .one (.v (.int .i64 (most : Int)))] [(0, rM A c l left)] 1 (fun w => BtIn w A c l) (fun _ : Option Addr × Nat => True) (rdRes (intO left (rdByte most l))) := by
  cases l with
  | nil =>
    have hT := take_lc A c [] left 1 false rfl
    refine lcall_of tabOk 16 [.tmp 4] Tryz.func109 rfl rfl (by kernel_rfl) rfl _ (Nat.le_of_ble_eq_true rfl) (BtIn.up _ _ _) ?_
    refine svc_ok tabOk [] _ _ _ ?_
    refine callVC_lend [0] hT rfl ⟨rfl, trivial⟩ rfl rfl (fun w h => h.1) (fun _ _ => ⟨rfl, rfl⟩) (fun _ _ => ?_)
    refine ⟨(none, 0), trivial, rfl, ?_⟩
    exact ent_ren [(0, .blk 0)] rfl rfl rfl rfl (Nat.le_refl _) ⟨⟨_, rfl, rfl⟩, trivial⟩ trivial ⟨⟨Up.true, fun _ _ => trivial⟩, trivial⟩
  | cons x r =>
    have hT := take_lc A c (x :: r) left 1 true (decide_eq_true (by simp only [List.length_cons]; omega))
    have hx : x < 256 := hB x List.mem_cons_self
    have hxw : IntKind.i64.wrap (x : Int) = (x : Int) := wrapI (by omega) (by omega)
    obtain ⟨b, hb⟩ : ∃ b, decide (x ≤ most) = b := ⟨_, rfl⟩
    have hN := needC (b := decide (IntKind.i64.wrap (x : Int) ≤ (most : Int))) b (by rw [hxw, ← hb]; simp)
    have hrd : rdByte most (x :: r) = if b then some (x, r) else none := by
      rw [rdByte, ← hb]
      by_cases h : x ≤ most <;> simp [h]
    rw [hrd]
    refine lcall_of tabOk 16 [.tmp 4] Tryz.func109 rfl rfl (by kernel_rfl) rfl _ (Nat.le_of_ble_eq_true rfl) (BtIn.up _ _ _) ?_
    refine svc_ok tabOk [] _ _ _ ?_
    refine callVC_lend [0] hT rfl ⟨rfl, trivial⟩ rfl rfl (fun w h => h.1) (fun _ _ => ⟨rfl, rfl⟩) (fun _ _ => ?_)
    refine ⟨{ n := 0 }, ⟨rfl, Nat.one_pos, fun w h => ?_⟩, ?_⟩
    · obtain ⟨a, ha, _⟩ := h.1.1.cells 0 _ rfl
      rw [ha]; rfl
    refine ⟨{ v := .int .u8 (x : Int) }, fun w h => ?_, ?_⟩
    · obtain ⟨a, ha, hc⟩ := h.1.1.cells 0 _ rfl
      exact ⟨_, by rw [ha]; rfl, hc⟩
    cases b with
    | false =>
      refine callVC_lend [] hN rfl trivial rfl rfl (fun _ _ => trivial) (fun _ _ => ⟨rfl, rfl⟩) (fun _ _ => ?_)
      refine ⟨(none, 0), trivial, rfl, ?_⟩
      exact ent_ren [(0, .blk 0)] rfl rfl rfl rfl (Nat.le_refl _) ⟨⟨_, rfl, rfl⟩, trivial⟩ trivial ⟨⟨Up.true, fun _ _ => trivial⟩, trivial⟩
    | true =>
      refine callVC_lend [] hN rfl trivial rfl rfl (fun _ _ => trivial) (fun _ _ => ⟨rfl, rfl⟩) (fun _ _ => ?_)
      refine ⟨_, rfl, (cutA A c 1 1, c - 1), trivial, rfl, ?_⟩
      exact ent_ren [(0, .blk 0)] rfl rfl rfl rfl (Nat.le_refl _) ⟨⟨_, rfl, oneI hxw⟩, trivial⟩ ⟨⟨_, rfl, rfl⟩, trivial⟩ ⟨⟨BtIn.up _ _ _, fun w h => h.2.1.2⟩, trivial⟩
end Go.Proofs.YtmkpiekbpakigaaGreatDoor
end
section
set_option linter.unusedVariables false
set_option linter.unusedSimpArgs false
namespace Go.Proofs.YtmkpiekbpakigaaGreatDoor
open Go.ChangeShapes Go.WideShapes Go.ChangeAt Go.RowKit Go.Proofs.Base Go.Proofs.Sym
theorem cells41 : Tryz.prog.cellsOf 25 = 5 := by kernel_rfl
theorem cells44 : Tryz.prog.cellsOf 38 = 15 := by kernel_rfl
theorem cells93 : Tryz.prog.cellsOf 75 = 6 := by kernel_rfl
theorem cells5 : Tryz.prog.cellsOf 5 = 1 := by kernel_rfl
theorem cells9 : Tryz.prog.cellsOf 9 = 1 := by kernel_rfl
theorem cells32 : Tryz.prog.cellsOf 22 = 1 := by kernel_rfl
theorem cells39 : Tryz.prog.cellsOf 23 = 1 := by kernel_rfl
theorem cells42 : Tryz.prog.cellsOf 36 = 1 := by kernel_rfl
theorem ml_of {w : World} (h : w.ShapedOpen Tryz.prog) : ML w :=
  Go.Proofs.cell_of_shapedOpen_int (zero := #[.int .i64 0]) (t := 3) h (of_decide_eq_true (by kernel_rfl)) (by kernel_rfl) rfl (by kernel_rfl) (by kernel_rfl) Tryz.underlying3
theorem i64_of {n : Int} (h : (Lit.int .i64 n).wf = true) : I64 n := by
  simp only [Lit.wf, Bool.and_eq_true, decide_eq_true_eq] at h
  exact h
section
variable {H : Type} {enc : TypeId × Value → H} {w : World} {base : Nat} {sp : Nat → Bool} {held : Bool}
/-- A slice, opened, whose elements' cells read as something. -/
theorem row_cells {α : Type} {e t : TypeId} {z : Nat} (C : α → List Value) (In : α → Prop) (ht : Tryz.prog.underlying t = some (.slice e)) (hz : Tryz.prog.cellsOf e = z) (hC : ∀ a, (C a).length = z) {fuel : Nat} {cs : List Value} {x : DataW H × List MemPlace}
    (h : DataW.trod enc Tryz.prog w base sp held fuel t cs = some x) (ih : ∀ n, n < fuel → ∀ cs x, DataW.trod enc Tryz.prog w base sp held n e cs = some x → ∃ a, cs = C a ∧ In a) :
    ∃ (A : Option Addr) (c : Nat) (us : List α), cs = [.slice A us.length c] ∧ us.length ≤ c ∧ c ≤ maxLen ∧ (A = none → us.length = 0 ∧ c = 0) ∧ ∀ j a, us[j]? = some a → (∃ ad, A = some ad ∧ ∀ l u, (C a)[l]? = some u → w.cell? ((ad.add (j * z)).add l) = some u) ∧ In a := by
  rcases DataW.trod_slice ht h with ⟨hcs, -⟩ | ⟨a, len, cap, elems, rest, n, hfu, hcs, _, _, hl, hm, hlen, hel, _, _⟩
  · exact ⟨none, 0, [], hcs, Nat.le_refl _, Nat.zero_le _, fun _ => ⟨rfl, rfl⟩, fun j a hj => by simp at hj⟩
  · obtain ⟨us, h1, h2⟩ := choose_list (Q := fun j y => (∀ i c, (C y)[i]? = some c → w.cell? ((a.add (j * z)).add i) = some c) ∧ In y) len fun j hj => by
      have h3 := hel j hj
      rw [List.getElem?_eq_getElem (by omega), hz] at h3
      obtain ⟨cs', h4, h5⟩ := Option.bind_eq_some_iff.1 h3
      obtain ⟨y, rfl, hy⟩ := ih n (by omega) _ _ h5
      obtain ⟨_, h6, h7⟩ := World.cells?_some h4
      refine ⟨y, fun i c hi => ?_, hy⟩
      rw [h7 i (by have := (List.getElem?_eq_some_iff.1 hi).1; rw [hC] at this; exact this), hi]
    refine ⟨some a, cap, us, by rw [hcs, h1], by omega, hm, fun h => (by cases h), fun j y hj => ?_⟩
    obtain ⟨h3, h4⟩ := h2 j y hj
    exact ⟨⟨a, rfl, h3⟩, h4⟩
theorem levels_cells {fuel : Nat} {cs : List Value} {x : DataW H × List MemPlace} (h : DataW.trod enc Tryz.prog w base sp held fuel 22 cs = some x) :
    ∃ (A : Option Addr) (c : Nat) (ls : List Lv), cs = [.slice A ls.length c] ∧ ls.length ≤ c ∧ c ≤ maxLen ∧ (A = none → ls.length = 0 ∧ c = 0) ∧ LvRow w A ls := by
  obtain ⟨A, c, ls, h1, h2, h3, h4, h5⟩ := row_cells Lv.cells (fun _ => True) Tryz.underlying22 cells24 (fun _ => rfl) h (fun n _ cs x hx => by
    obtain ⟨l, hl, _⟩ := level_cells hx
    exact ⟨l, hl, trivial⟩)
  refine ⟨A, c, ls, h1, h2, h3, h4, ⟨by simp only [maxLen] at h3; omega, fun hp => ?_⟩⟩
  obtain ⟨⟨a, ha, h6⟩, _⟩ := h5 0 _ (List.getElem?_eq_getElem hp)
  obtain ⟨b, off, spot⟩ := a
  have hspot : spot = none := by
    have := h6 0 _ rfl
    simpa [Addr.add] using World.cell?_spot this
  subst hspot
  refine ⟨b, off, ha, fun j l hj => ?_⟩
  obtain ⟨⟨a2, ha2, h3⟩, _⟩ := h5 j l hj
  rw [ha] at ha2
  cases ha2
  simp only [add_plain] at h3
  exact ⟨h3 0 _ rfl, h3 1 _ rfl, h3 2 _ rfl, h3 3 _ rfl, h3 4 _ rfl⟩
theorem tts_at {w : World} {B : Option Addr} : ∀ (ts : List TT) (j : Nat), (∀ i t, ts[i]? = some t → (∃ a, B = some a ∧ ∀ l u, t.cells[l]? = some u → w.cell? ((a.add ((j + i) * 5)).add l) = some u) ∧ TTIn w t) → TTs w B j ts
  | [], _, _ => by unfold TTs; trivial
  | t :: r, j, h => by
    unfold TTs
    obtain ⟨h1, h2⟩ := h 0 t rfl
    refine ⟨h1, h2, tts_at r (j + 1) fun i t' hi => ?_⟩
    have := h (i + 1) t' hi
    rw [show j + (i + 1) = j + 1 + i by omega] at this
    exact this
set_option maxRecDepth 100000 in
/-- Five cells that read as a term. -/
theorem term_cells : ∀ (fuel : Nat) (cs : List Value) (x : DataW H × List MemPlace), DataW.trod enc Tryz.prog w base sp held fuel 25 cs = some x → ∃ t : TT, cs = t.cells ∧ TTIn w t := by
  intro fuel
  induction fuel using Nat.strongRecOn with
  | _ fuel ih =>
  intro cs x h
  obtain ⟨ys, m, hfu, hx, hl, hlen, hf⟩ := DataW.trod_struct Tryz.underlying25 h
  match ys, hlen with
  | [y0, y1, y2, y3, y4], _ =>
    have h0 := hf 0 _ rfl
    have h1 := hf 1 _ rfl
    have h2 := hf 2 _ rfl
    have h3 := hf 3 _ rfl
    have h4 := hf 4 _ rfl
    rw [cells41] at hl
    match cs, hl with
    | [c0, c1, c2, c3, c4], _ =>
      simp [cells3, cells9, cells32, cells39] at h0 h1 h2 h3 h4
      obtain ⟨k, e0, _, s0⟩ := DataW.trod_int Tryz.underlying3 h0
      obtain ⟨n, e1, _, s1⟩ := DataW.trod_int Tryz.underlying3 h1
      obtain ⟨s, e2, _, s2⟩ := DataW.trod_string Tryz.underlying9 h2
      obtain ⟨la, lc, ls, e3, g1, g2, g3, g4⟩ := levels_cells h3
      obtain ⟨aa, ac, us, e4, g5, g6, g7, g8⟩ := row_cells TT.cells (TTIn w) Tryz.underlying23 cells41 TT.cells_len h4 (fun n hn cs x hx => ih n (by omega) cs x hx)
      simp only [List.cons.injEq, and_true] at e0 e1 e2 e3 e4
      subst e0 e1 e2 e3 e4
      refine ⟨.mk k n s la lc ls aa ac us, rfl, ?_⟩
      unfold TTIn
      refine ⟨⟨i64_of s0, i64_of s1, s2, g4, g3, g1, g2, g7, g5, g6⟩, tts_at us 0 fun i t hi => ?_⟩
      rw [Nat.zero_add]
      exact g8 i t hi
theorem ctCells_len3 (c : ByteArray × TT) : (ctCells c).length = 6 := by
  rw [ctCells, List.length_cons, TT.cells_len]
set_option maxRecDepth 100000 in
theorem con_cells {fuel : Nat} {cs : List Value} {x : DataW H × List MemPlace} (h : DataW.trod enc Tryz.prog w base sp held fuel 75 cs = some x) : ∃ c : ByteArray × TT, cs = ctCells c ∧ TTIn w c.2 ∧ c.1.size ≤ maxLen := by
  obtain ⟨ys, m, hfu, hx, hl, hlen, hf⟩ := DataW.trod_struct Tryz.underlying75 h
  match ys, hlen with
  | [y0, y1], _ =>
    have h0 := hf 0 _ rfl
    have h1 := hf 1 _ rfl
    rw [cells93] at hl
    match cs, hl with
    | [c0, c1, c2, c3, c4, c5], _ =>
      simp [cells9, cells41] at h0 h1
      obtain ⟨s, e0, _, s0⟩ := DataW.trod_string Tryz.underlying9 h0
      obtain ⟨t, e1, ht⟩ := term_cells _ _ _ h1
      simp only [List.cons.injEq, and_true] at e0
      subst e0
      exact ⟨(s, t), by rw [ctCells, ← e1], ht, s0⟩
set_option maxRecDepth 100000 in
theorem decl_cells {fuel : Nat} {cs : List Value} {x : DataW H × List MemPlace} (h : DataW.trod enc Tryz.prog w base sp held fuel 38 cs = some x) : ∃ d : DD, cs = d.cells ∧ DDIn w d := by
  obtain ⟨ys, m, hfu, hx, hl, hlen, hf⟩ := DataW.trod_struct Tryz.underlying38 h
  match ys, hlen with
  | [y0, y1, y2, y3, y4, y5, y6], _ =>
    have h0 := hf 0 _ rfl
    have h1 := hf 1 _ rfl
    have h2 := hf 2 _ rfl
    have h3 := hf 3 _ rfl
    have h4 := hf 4 _ rfl
    have h5 := hf 5 _ rfl
    have h6 := hf 6 _ rfl
    rw [cells44] at hl
    match cs, hl with
    | [c0, c1, c2, c3, c4, c5, c6, c7, c8, c9, c10, c11, c12, c13, c14], _ =>
      simp [cells3, cells9, cells41, cells42] at h0 h1 h2 h3 h4 h5 h6
      obtain ⟨k, e0, _, s0⟩ := DataW.trod_int Tryz.underlying3 h0
      obtain ⟨p, e1, _, s1⟩ := DataW.trod_int Tryz.underlying3 h1
      obtain ⟨s, e2, _, s2⟩ := DataW.trod_string Tryz.underlying9 h2
      obtain ⟨ty, e3, ht⟩ := term_cells _ _ _ h3
      obtain ⟨vl, e4, hv⟩ := term_cells _ _ _ h4
      obtain ⟨fx, e5, _, s5⟩ := DataW.trod_int Tryz.underlying3 h5
      obtain ⟨ca, cc, cts, e6, g1, g2, g3, g4⟩ := row_cells ctCells (fun c => TTIn w c.2 ∧ c.1.size ≤ maxLen) Tryz.underlying36 cells93 ctCells_len3 h6 (fun n hn cs x hx => con_cells hx)
      simp only [List.cons.injEq, and_true] at e0 e1 e2 e5 e6
      subst e0 e1 e2 e5 e6
      refine ⟨⟨k, p, s, ty, vl, fx, ca, cc, cts⟩, ?_, ⟨i64_of s0, i64_of s1, s2, ht, hv, i64_of s5, fun j c hj => ?_, g3, g1, g2⟩⟩
      · rw [DD.cells]
        simp only
        rw [← e3, ← e4]
        rfl
      · obtain ⟨a, b⟩ := g4 j c hj
        exact ⟨a, b⟩
set_option maxRecDepth 100000 in
theorem term_open {r : Reach} {b0 : Nat} {v : Value} {d : DataW H} {ps : List MemPlace} (hval : Value.okWide Tryz.prog w r b0 25 v) (h : DataW.Trod enc Tryz.prog w base sp held 25 v d ps) : ∃ t : TT, v = t.val ∧ TTIn w t := by
  obtain ⟨cs, rfl, hsz⟩ := okWide_struct Tryz.underlying25 hval
  obtain ⟨fuel, hf⟩ := h
  obtain ⟨t, hc, ht⟩ := term_cells _ _ _ hf
  obtain ⟨cs⟩ := cs
  simp only [Value.cells] at hc
  exact ⟨t, by rw [show cs = t.cells from hc]; rfl, ht⟩
theorem dd_len' (d : DD) : d.cells.length = 15 := by
  unfold DD.cells
  simp [TT.cells_len]
set_option maxRecDepth 100000 in
theorem decls_open {r : Reach} {b0 : Nat} {v : Value} {d : DataW H} {ps : List MemPlace} (hval : Value.okWide Tryz.prog w r b0 26 v) (h : DataW.Trod enc Tryz.prog w base sp held 26 v d ps) :
    ∃ (A : Option Addr) (c : Nat) (ds : List DD), v = .slice A ds.length c ∧ DsIn w A c ds := by
  obtain ⟨A, len, cap, rfl⟩ := okWide_slice Tryz.underlying26 hval
  obtain ⟨fuel, hf⟩ := h
  obtain ⟨A', c', ds, e, g1, g2, g3, g4⟩ := row_cells DD.cells (DDIn w) Tryz.underlying26 cells44 dd_len' hf (fun n hn cs x hx => decl_cells hx)
  simp [Value.cells] at e
  obtain ⟨rfl, rfl, rfl⟩ := e
  exact ⟨_, _, ds, rfl, ⟨g4, g3, g1, g2⟩⟩
set_option maxRecDepth 100000 in
theorem bytes_open {r : Reach} {b0 : Nat} {v : Value} {d : DataW H} {ps : List MemPlace} (hval : Value.okWide Tryz.prog w r b0 30 v) (h : DataW.Trod enc Tryz.prog w base sp held 30 v d ps) :
    ∃ (A : Option Addr) (c : Nat) (l : List Nat), v = .slice A l.length c ∧ BtIn w A c l ∧ Bytes l := by
  obtain ⟨A, len, cap, rfl⟩ := okWide_slice Tryz.underlying30 hval
  obtain ⟨fuel, hf⟩ := h
  obtain ⟨A', c', l, e, g1, g2, g3, g4⟩ := row_cells (fun n : Nat => [Value.int .u8 (n : Int)]) (fun n => n < 256) Tryz.underlying30 cells5 (fun _ => rfl) hf (fun n hn cs x hx => by
    obtain ⟨b, e1, _, hb⟩ := DataW.trod_int Tryz.underlying5 hx
    simp only [Lit.wf, Bool.and_eq_true, decide_eq_true_eq] at hb
    have h1 : (0 : Int) ≤ b := hb.1
    have h2 : b ≤ 255 := hb.2
    exact ⟨b.toNat, by rw [e1, Int.toNat_of_nonneg h1], by omega⟩)
  simp [Value.cells] at e
  obtain ⟨rfl, rfl, rfl⟩ := e
  refine ⟨_, _, l, rfl, ⟨fun j u hj => ?_, g3, g1, g2⟩, fun b hb => ?_⟩
  · simp only [bc, List.getElem?_map] at hj
    cases hq : l[j]? with
    | none => rw [hq] at hj; cases hj
    | some n =>
      rw [hq] at hj
      cases hj
      obtain ⟨⟨ad, ha, hc⟩, _⟩ := g4 j n hq
      refine ⟨ad, ha, ?_⟩
      have := hc 0 _ rfl
      rw [Nat.mul_one, Addr.add_add, Nat.add_zero] at this
      exact this
  · obtain ⟨j, hj⟩ := List.getElem?_of_mem hb
    exact (g4 j b hj).2
end
end Go.Proofs.YtmkpiekbpakigaaGreatDoor
end
section
set_option linter.unusedVariables false
set_option linter.unusedSimpArgs false
namespace Go.Proofs.YtmkpiekbpakigaaGreatDoor
open Go.ChangeShapes Go.WideShapes Go.ChangeAt Go.RowKit Go.Proofs.Base Go.Proofs.Sym
def lawTys : List TypeId := [3, 9, 102, 22, 30, 23, 25, 38, 26]
theorem lawTys_ok : ∀ t ∈ lawTys, Tryz.prog.readableRec t = true ∧ t < Tryz.prog.types.size := by
  have h : (lawTys.all fun t => Tryz.prog.readableRec t && decide (t < Tryz.prog.types.size)) = true := by kernel_rfl
  intro t ht
  have := List.all_eq_true.1 h t ht
  simpa using this
theorem lawTys_stand (t : TypeId) (h : t ∈ lawTys) : Tryz.prog.wantsStandIn t = false := by
  have h2 : (lawTys.all fun t => !Tryz.prog.wantsStandIn t) = true := by kernel_rfl
  have := List.all_eq_true.1 h2 t h
  simpa using this
set_option maxRecDepth 100000 in
theorem int_open {H : Type} {enc : TypeId × Value → H} {w : World} {base : Nat} {sp : Nat → Bool} {held : Bool} {r : Reach} {b0 : Nat} {v : Value} {d : DataW H} {ps : List MemPlace} (hval : Value.okWide Tryz.prog w r b0 3 v) (h : DataW.Trod enc Tryz.prog w base sp held 3 v d ps) : ∃ n : Int, v = .int .i64 n ∧ I64 n := by
  obtain ⟨n, rfl⟩ := okWide_int Tryz.underlying3 hval
  obtain ⟨fuel, hf⟩ := h
  obtain ⟨k, e0, _, s0⟩ := DataW.trod_int Tryz.underlying3 hf
  simp [Value.cells] at e0
  subst e0
  exact ⟨n, rfl, i64_of s0⟩
mutual
def flatD : DataW Unit → List Value
  | .lit (.int k n) => [.int k n]
  | .agg xs => flatDs xs
  | _ => []
def flatDs : List (DataW Unit) → List Value
  | [] => []
  | x :: r => flatD x ++ flatDs r
end
/-- A world for the witnesses: the settled one, the tables of package utf8 laid. -/
noncomputable def utfHeap (h : Array Obj) : Array Obj := (h.modify 1 (setTab (flatD Rows.laid_unicode_utf8_first).toArray)).modify 2 (setTab (flatD Rows.laid_unicode_utf8_acceptRanges).toArray)
noncomputable def utfWorld (os : Os) : World :=
  { World.holding Tryz.prog os ⟨#[], #[], []⟩ with heap := utfHeap (World.holding Tryz.prog os ⟨#[], #[], []⟩).heap }
end Go.Proofs.YtmkpiekbpakigaaGreatDoor
end
section
set_option linter.unusedVariables false
set_option linter.unusedSimpArgs false
namespace Go.Proofs.YtmkpiekbpakigaaGreatDoor
open Go.RowKit Go.Proofs.Base Go.Proofs.Sym
def valN (ds : List Nat) : Nat := ds.foldl (fun a b => a * 256 + b) 0
theorem valN_snoc (ds : List Nat) (d : Nat) : valN (ds ++ [d]) = valN ds * 256 + d := by simp [valN]
theorem valN_lt : ∀ (n : Nat) (ds : List Nat), ds.length = n → Bytes ds → valN ds < 256 ^ n := by
  intro n
  induction n with
  | zero =>
    intro ds h _
    rw [List.eq_nil_of_length_eq_zero h]
    decide
  | succ n ih =>
    intro ds h hB
    have hne : ds ≠ [] := fun e => by rw [e] at h; cases h
    rw [← List.dropLast_concat_getLast hne, valN_snoc]
    have h1 := ih ds.dropLast (by rw [List.length_dropLast]; omega) (fun b hb => hB b ((List.dropLast_sublist ds).subset hb))
    have h2 := hB _ (List.getLast_mem hne)
    rw [Nat.pow_succ]
    omega
/-- One digit more, as the machine reckons it. -/
theorem or_digit (a d : Nat) (ha : a < 1099511627776) (hd : d < 256) :
    IntKind.i64.wrap (((BitVec.ofInt IntKind.i64.bits (IntKind.i64.wrap ((a : Int) * 2 ^ (min 8 IntKind.i64.bits))) ||| BitVec.ofInt IntKind.i64.bits (IntKind.i64.wrap (d : Int))).toNat : Nat) : Int) = ((a * 256 + d : Nat) : Int) := by
  have e1 : IntKind.i64.wrap ((a : Int) * 2 ^ (min 8 IntKind.i64.bits)) = ((a * 256 : Nat) : Int) := by
    have : ((a : Int) * 2 ^ (min 8 IntKind.i64.bits)) = ((a * 256 : Nat) : Int) := by
      rw [Int.natCast_mul]
      rfl
    rw [this]
    exact wrapI (by omega) (by omega)
  have e2 : IntKind.i64.wrap (d : Int) = (d : Int) := wrapI (by omega) (by omega)
  rw [e1, e2]
  have e3 : ∀ x : Nat, BitVec.ofInt IntKind.i64.bits (x : Int) = BitVec.ofNat 64 x := fun x => BitVec.ofInt_natCast _ _
  rw [e3, e3]
  have e4 : (BitVec.ofNat 64 (a * 256) ||| BitVec.ofNat 64 d).toNat = a * 256 + d := by
    rw [BitVec.toNat_or, BitVec.toNat_ofNat, BitVec.toNat_ofNat, Nat.mod_eq_of_lt (by omega), Nat.mod_eq_of_lt (by omega)]
    have := Nat.shiftLeft_add_eq_or_of_lt (b := d) (i := 8) (by omega) a
    rw [Nat.shiftLeft_eq] at this
    exact this.symm
  have key : ∀ X : Nat, X = a * 256 + d → IntKind.i64.wrap (X : Int) = ((a * 256 + d : Nat) : Int) := by
    rintro _ rfl
    exact wrapI (by omega) (by omega)
  exact key _ e4
def rdNum (most : Nat) (l : List Nat) : Option (Nat × List Nat) := match rdByte 6 l with
  | none => none
  | some (n, r) => match decide (n ≤ r.length) with
    | false => none
    | true => match decide (n = 0) || !decide (r.headD 0 = 0) with
      | false => none
      | true => match decide (valN (r.take n) ≤ most) with
        | false => none
        | true => some (valN (r.take n), r.drop n)
theorem rdByte_some {most : Nat} {l r : List Nat} {n : Nat} (h : rdByte most l = some (n, r)) : l = n :: r ∧ n ≤ most := by
  cases l with
  | nil => cases h
  | cons b t =>
    rw [rdByte] at h
    by_cases hb : b ≤ most
    · rw [if_pos hb] at h
      cases h
      exact ⟨rfl, hb⟩
    · rw [if_neg hb] at h
      cases h
def numSR (A : Option Addr) (c : Nat) (B : Option Addr) (d : Nat) (ds rs : List Nat) (left : Int) (most n : Nat) : St :=
  { s := [(0, .one (.p 0 0)), (1, .one (.v (.int .i64 (most : Int)))), (5, .one (.v (.slice A n c)))], m := [(0, rM B d rs left)], k := 1, f := [fun w => BtIn w A c ds ∧ BtIn w B d rs], b := 1 }
set_option maxHeartbeats 2000000 in
theorem num_lcR (A : Option Addr) (c : Nat) (l : List Nat) (left : Int) (most : Nat) (hB : Bytes l) :
    LCall Tryz.prog 64 [.one (.p 0 0), .one (.v (.int .i64 (most : Int)))] [(0, rM A c l left)] 1 (fun w => BtIn w A c l) (fun _ : Option Addr × Nat => True) (rdRes (intO left (rdNum most l))) := by
  have hby := byte_lc A c l left 6 hB
  unfold rdNum
  cases hr : rdByte 6 l with
  | none =>
    rw [hr] at hby
    refine lcall_of tabOk 40 [.tmp 4] Tryz.func64 rfl rfl (by kernel_rfl) rfl _ (Nat.le_of_ble_eq_true rfl) (BtIn.up _ _ _) ?_
    refine svc_ok tabOk [] _ _ _ ?_
    refine callVC_lend [0] hby rfl ⟨rfl, trivial⟩ rfl rfl (fun w h => h.1) (fun _ _ => ⟨rfl, rfl⟩) (fun _ _ => ?_)
    refine ⟨(none, 0), trivial, rfl, ?_⟩
    exact ent_ren [(0, .blk 0)] rfl rfl rfl rfl (Nat.le_refl _) ⟨⟨_, rfl, rfl⟩, trivial⟩ trivial ⟨⟨Up.true, fun _ _ => trivial⟩, trivial⟩
  | some q =>
    obtain ⟨n, r⟩ := q
    obtain ⟨rfl, hn6⟩ := rdByte_some hr
    rw [hr] at hby
    have hBr : Bytes r := fun b hb => hB b (List.mem_cons_of_mem _ hb)
    simp only
    obtain ⟨b1, e1⟩ : ∃ b, decide (n ≤ r.length) = b := ⟨_, rfl⟩
    have e1' : decide ((n : Int) ≤ (r.length : Int)) = b1 := by rw [← e1]; simp
    rw [e1]
    have hT := fun x : Option Addr × Nat => take_lc x.1 x.2 r left n b1 e1'
    refine lcall_of tabOk 40 [.tmp 4] Tryz.func64 rfl rfl (by kernel_rfl) rfl _ (Nat.le_of_ble_eq_true rfl) (BtIn.up _ _ _) ?_
    refine svc_ok tabOk [2] _ _ _ ?_
    refine callVC_lend [0] hby rfl ⟨rfl, trivial⟩ rfl rfl (fun w h => h.1) (fun _ _ => ⟨rfl, rfl⟩) (fun x _ => ?_)
    cases b1 with
    | false =>
      refine callVC_lend [0] (hT x) rfl ⟨rfl, trivial⟩ rfl rfl (fun w h => h.1) (fun _ _ => ⟨rfl, rfl⟩) (fun _ _ => ?_)
      refine ⟨(none, 0), trivial, rfl, ?_⟩
      exact ent_ren [(0, .blk 0)] rfl rfl rfl rfl (Nat.le_refl _) ⟨⟨_, rfl, rfl⟩, trivial⟩ trivial ⟨⟨Up.true, fun _ _ => trivial⟩, trivial⟩
    | true =>
    have hnr : n ≤ r.length := of_decide_eq_true e1
    refine callVC_lend [0] (hT x) rfl ⟨rfl, trivial⟩ rfl rfl (fun w h => h.1) (fun _ _ => ⟨rfl, rfl⟩) (fun _ _ => ?_)
    have hdig : ∀ {w}, BtIn w x.1 x.2 (r.take n) → ∀ {j d : Nat}, (r.take n)[j]? = some d → ∃ a, x.1 = some a ∧ w.cell? (a.add (j * 1)) = some (.int .u8 (d : Int)) := fun h j d hj => by
      obtain ⟨a, ha, hc⟩ := h.cells j _ (bc_get hj)
      exact ⟨a, ha, by rw [Nat.mul_one]; exact hc⟩
    obtain ⟨b2, e2⟩ : ∃ b, (decide (n = 0) || !decide (r.headD 0 = 0)) = b := ⟨_, rfl⟩
    rw [e2]
    have hds : Bytes (r.take n) := hBr.take n
    have hdl : (r.take n).length = n := by rw [List.length_take]; omega
    have hvl := fun j (hj : j ≤ n) => valN_lt j ((r.take n).take j) (by rw [List.length_take]; omega) (hds.take j)
    obtain ⟨b3, e3⟩ : ∃ b, decide (valN (r.take n) ≤ most) = b := ⟨_, rfl⟩
    rw [e3]
    have hN3 := needC (b := decide (((valN (r.take n) : Nat) : Int) ≤ (most : Int))) b3 (by rw [← e3]; simp)
    have hup2 : Up fun w => BtIn w x.1 x.2 (r.take n) ∧ BtIn w (cutA x.1 x.2 n 1) (x.2 - n) (r.drop n) := (BtIn.up _ _ _).and (BtIn.up _ _ _)
    refine Walks.ent (st' := numSR x.1 x.2 (cutA x.1 x.2 n 1) (x.2 - n) (r.take n) (r.drop n) left most n) ?_ ?_
    · exact ent_ren [(0, .blk 0)] rfl rfl rfl rfl (Nat.le_refl _) ⟨⟨_, rfl, rfl⟩, ⟨_, rfl, rfl⟩, ⟨_, rfl, rfl⟩, trivial⟩ ⟨⟨_, rfl, rfl⟩, trivial⟩ ⟨⟨hup2, fun w h => h.1⟩, trivial⟩
    obtain ⟨S, hS⟩ : ∃ S, S = (match b2 with | true => numSR x.1 x.2 (cutA x.1 x.2 n 1) (x.2 - n) (r.take n) (r.drop n) left most n | false => numSR x.1 x.2 (cutA x.1 x.2 n 1) (x.2 - n) (r.take n) (r.drop n) left most n) := ⟨_, rfl⟩
    cases b2 with
    | false =>
      have hn0 : ¬ n = 0 := fun e => by rw [e] at e2; cases e2
      have hz : r.headD 0 = 0 := by
        rw [decide_eq_false hn0, Bool.false_or] at e2
        simpa only [Bool.not_eq_false', decide_eq_true_eq] using e2
      refine svc_ok tabOk [] _ _ _ ?_
      refine bsplit_i (fun h0 => ?_) (fun h0 => ?_)
      · have h0 : decide ((n : Int) = 0) = true := h0
        exact absurd (by have := of_decide_eq_true h0; omega) hn0
      cases r with
      | nil => exact absurd (Nat.eq_zero_of_le_zero hnr) hn0
      | cons d r' =>
      have hz : d = 0 := hz
      subst hz
      have h00 : ((0 :: r').take n)[0]? = some 0 := by
        obtain ⟨n', rfl⟩ : ∃ n', n = n' + 1 := ⟨n - 1, by omega⟩
        rfl
      refine ⟨{ n := 0 }, ⟨rfl, Nat.pos_of_ne_zero hn0, fun w h => ?_⟩, ?_⟩
      · obtain ⟨a, ha, _⟩ := hdig h.1.1 h00
        rw [ha]; rfl
      refine ⟨{ v := .int .u8 0 }, fun w h => ?_, ?_⟩
      · obtain ⟨a, ha, hc⟩ := hdig h.1.1 h00
        exact ⟨_, by rw [ha]; rfl, hc⟩
      refine callVC_lend [] (needC (b := !decide ((0 : Int) = 0)) false rfl) rfl trivial rfl rfl (fun _ _ => trivial) (fun _ _ => ⟨rfl, rfl⟩) (fun _ _ => ?_)
      exact ⟨(none, 0), trivial, rfl, ent_ren [(0, .blk 0)] rfl rfl rfl rfl (Nat.le_refl _) ⟨⟨_, rfl, rfl⟩, trivial⟩ trivial ⟨⟨Up.true, fun _ _ => trivial⟩, trivial⟩⟩
    | true =>
    refine Walks.cut (numSR x.1 x.2 (cutA x.1 x.2 n 1) (x.2 - n) (r.take n) (r.drop n) left most n) ?_ ?_
    · refine svc_ok tabOk [] _ _ _ ?_
      refine bsplit_i (fun h0 => ?_) (fun h0 => ?_)
      · refine callVC_lend [] (needC (b := true) true rfl) rfl trivial rfl rfl (fun _ _ => trivial) (fun _ _ => ⟨rfl, rfl⟩) (fun _ _ => ?_)
        exact ent_ren [(0, .blk 0)] rfl rfl rfl rfl (Nat.le_refl _) ⟨⟨_, rfl, rfl⟩, ⟨_, rfl, rfl⟩, ⟨_, rfl, rfl⟩, trivial⟩ ⟨⟨_, rfl, rfl⟩, trivial⟩ ⟨⟨hup2, fun w h => h.2.1⟩, trivial⟩
      have h0 : decide ((n : Int) = 0) = false := h0
      have hn0 : ¬ n = 0 := fun e => by rw [e] at h0; cases h0
      have hz : ¬ r.headD 0 = 0 := by
        rw [decide_eq_false hn0, Bool.false_or] at e2
        simpa only [Bool.not_eq_true', decide_eq_false_iff_not] using e2
      cases r with
      | nil => exact absurd (Nat.eq_zero_of_le_zero hnr) hn0
      | cons d r' =>
      have hz : ¬ d = 0 := hz
      have h00 : ((d :: r').take n)[0]? = some d := by
        obtain ⟨n', rfl⟩ : ∃ n', n = n' + 1 := ⟨n - 1, by omega⟩
        rfl
      refine ⟨{ n := 0 }, ⟨rfl, Nat.pos_of_ne_zero hn0, fun w h => ?_⟩, ?_⟩
      · obtain ⟨a, ha, _⟩ := hdig h.1.1 h00
        rw [ha]; rfl
      refine ⟨{ v := .int .u8 (d : Int) }, fun w h => ?_, ?_⟩
      · obtain ⟨a, ha, hc⟩ := hdig h.1.1 h00
        exact ⟨_, by rw [ha]; rfl, hc⟩
      refine callVC_lend [] (needC (b := !decide ((d : Int) = 0)) true (by simp; omega)) rfl trivial rfl rfl (fun _ _ => trivial) (fun _ _ => ⟨rfl, rfl⟩) (fun _ _ => ?_)
      exact ent_ren [(0, .blk 0)] rfl rfl rfl rfl (Nat.le_refl _) ⟨⟨_, rfl, rfl⟩, ⟨_, rfl, rfl⟩, ⟨_, rfl, rfl⟩, trivial⟩ ⟨⟨_, rfl, rfl⟩, trivial⟩ ⟨⟨hup2, fun w h => h.2.1⟩, trivial⟩
    · refine svc_ok tabOk [] _ _ _ ?_
      refine ⟨⟨Nat, fun j => j ≤ n,
        fun j => { s := [(0, .one (.p 0 0)), (1, .one (.v (.int .i64 (most : Int)))), (6, .one (.v (.int .i64 (valN ((r.take n).take j) : Nat)))), (23, .one (.v (.slice x.1 n x.2))), (24, .one (.v (.int .i64 (n : Int)))), (25, .one (.v (.int .i64 (j : Int))))], m := [(0, rM (cutA x.1 x.2 n 1) (x.2 - n) (r.drop n) left)], k := 1, f := [fun w => BtIn w x.1 x.2 (r.take n) ∧ BtIn w (cutA x.1 x.2 n 1) (x.2 - n) (r.drop n)], b := 1 },
        fun j => n - j, ⟨0, Nat.zero_le _, ?_⟩, ?_⟩⟩
      · exact ent_ren [(0, .blk 0)] rfl rfl rfl rfl (Nat.le_refl _) ⟨⟨_, rfl, rfl⟩, ⟨_, rfl, rfl⟩, ⟨_, rfl, rfl⟩, ⟨_, rfl, rfl⟩, ⟨_, rfl, rfl⟩, ⟨_, rfl, rfl⟩, trivial⟩ ⟨⟨_, rfl, rfl⟩, trivial⟩ ⟨⟨hup2, fun w h => h.1⟩, trivial⟩
      rintro j hj
      refine bsplit_i (fun hlt => ?_) (fun hge => ?_)
      · have hlt : j < n := by
          have h : decide ((j : Int) < (n : Int)) = true := hlt
          have := of_decide_eq_true h
          omega
        obtain ⟨d, hd⟩ : ∃ d, (r.take n)[j]? = some d := ⟨_, List.getElem?_eq_getElem (by omega)⟩
        have hd256 : d < 256 := hds d (List.mem_of_getElem? hd)
        have hsn : valN ((r.take n).take (j + 1)) = valN ((r.take n).take j) * 256 + d := by
          rw [List.take_add_one, hd, ← valN_snoc]
          rfl
        have hvj : valN ((r.take n).take j) < 1099511627776 := by
          have := hvl j (by omega)
          have h2 : 256 ^ j ≤ 256 ^ 5 := Nat.pow_le_pow_right (by decide) (by omega)
          exact Nat.lt_of_lt_of_le this h2
        refine ⟨{ n := j }, ⟨rfl, hlt, fun w h => ?_⟩, ?_⟩
        · obtain ⟨a, ha, _⟩ := hdig h.1.1 hd
          rw [ha]; rfl
        refine ⟨{ v := .int .u8 (d : Int) }, fun w h => ?_, ?_⟩
        · obtain ⟨a, ha, hc⟩ := hdig h.1.1 hd
          exact ⟨_, by rw [ha]; rfl, hc⟩
        refine ⟨{ n := 8 }, rfl, ?_⟩
        refine ⟨j + 1, hlt, by simp only; omega, ?_⟩
        exact ent_ren [(0, .blk 0)] rfl rfl rfl rfl (Nat.le_refl _) ⟨⟨_, rfl, rfl⟩, ⟨_, rfl, rfl⟩, ⟨_, rfl, oneI (by rw [hsn]; exact or_digit _ _ hvj hd256)⟩, ⟨_, rfl, rfl⟩, ⟨_, rfl, rfl⟩, ⟨_, rfl, oneI (wrapI (by omega) (by omega))⟩, trivial⟩ ⟨⟨_, rfl, rfl⟩, trivial⟩ ⟨⟨hup2, fun w h => h.1⟩, trivial⟩
      · have hge : j = n := by
          have h : decide ((j : Int) < (n : Int)) = false := hge
          have := of_decide_eq_false h
          omega
        subst hge
        have htt : (r.take j).take j = r.take j := List.take_of_length_le (by rw [List.length_take]; omega)
        have hN3 := needC (b := decide (((valN ((r.take j).take j) : Nat) : Int) ≤ (most : Int))) b3 (by rw [htt, ← e3]; simp)
        refine callVC_lend [] hN3 rfl trivial rfl rfl (fun _ _ => trivial) (fun _ _ => by cases b3 <;> exact ⟨rfl, rfl⟩) (fun _ _ => ?_)
        cases b3 with
        | false => exact ⟨(none, 0), trivial, rfl, ent_ren [(0, .blk 0)] rfl rfl rfl rfl (Nat.le_refl _) ⟨⟨_, rfl, rfl⟩, trivial⟩ trivial ⟨⟨Up.true, fun _ _ => trivial⟩, trivial⟩⟩
        | true =>
          refine ⟨_, rfl, (cutA x.1 x.2 j 1, x.2 - j), trivial, rfl, ?_⟩
          exact ent_ren [(0, .blk 0)] rfl rfl rfl rfl (Nat.le_refl _) ⟨⟨_, rfl, oneI (by rw [htt])⟩, trivial⟩ ⟨⟨_, rfl, rfl⟩, trivial⟩ ⟨⟨BtIn.up _ _ _, fun w h => h.2.1.2⟩, trivial⟩
end Go.Proofs.YtmkpiekbpakigaaGreatDoor
end
section
set_option linter.unusedVariables false
set_option linter.unusedSimpArgs false
namespace Go.Proofs.Sym
open Go.RowKit Go.Proofs.Base Go.Proofs.Mono
theorem Mem.row_seen2 {cx : Cx} {e : Env} {m : List (Nat × LB)} {k : Nat} {f : List (World → Prop)} {w : World} (h : Mem cx e m k f w) {i E z n : Nat} {xs : List Value} (hi : get i m = some (.own E z n xs)) (H' : Nat → Prop) (hH : ∀ g, At e m i g → ¬ H' g) :
    ∃ A c, e.rv i = .slice A n c ∧ (∀ a, A = some a → a.spot = none) ∧ (A = none → n = 0 ∧ c = 0) ∧ n ≤ c ∧ c ≤ maxLen ∧ SlAt (hide H' w) A xs := by
  have h1 := h.own i E z n xs hi
  rcases h1.2 with ⟨hv, h0⟩ | ⟨g, cap, cur, hv, _, hh, hnc, hcm, hcs, ht⟩
  · refine ⟨none, 0, by rw [hv, h0], fun _ ha => (by cases ha), fun _ => ⟨h0, rfl⟩, by omega, by simp [maxLen], ?_⟩
    have : xs = [] := List.eq_nil_of_length_eq_zero (by rw [h1.1, h0, Nat.zero_mul])
    rw [this]
    exact SlAt.nil _ _
  · refine ⟨some ⟨g, 0, none⟩, cap, hv, fun a ha => (by cases ha; rfl), fun hn => (by cases hn), hnc, hcm, fun j u hj => ⟨_, rfl, ?_⟩⟩
    have hb := hide_block hh (hH g ⟨_, hi, by simp only [LB.block, hv, Value.ownBlock]⟩)
    rw [add_off, cell_of_row _ g (0 + j) cur E (0, 0) hb]
    rw [← ht, List.getElem?_take] at hj
    split at hj
    · simpa using hj
    · cases hj
theorem sat_freeze2 {cx : Cx} {e : Env} {st : St} {a : Act} {w : World} (hS : Sat cx e st a w) {i E z n : Nat} {xs : List Value} (hi : get i st.m = some (.own E z n xs)) :
    ∃ A c, (∀ a, A = some a → a.spot = none) ∧ (A = none → n = 0 ∧ c = 0) ∧ n ≤ c ∧ c ≤ maxLen ∧ Sat cx e (freeze i (.slice A n c) (fun w => SlAt w A xs) st) a w := by
  have hm := hS.mem
  have hat : ∀ {v : Value} {j g}, At e ((i, LB.dead) :: frzM i v st.m) j g → j ≠ i ∧ At e st.m j g := by
    rintro v j g ⟨b, hb, hg⟩
    rcases get_cons hb with ⟨rfl, rfl⟩ | ⟨hne, hb⟩
    · cases hg
    · obtain ⟨b0, h1, h2⟩ := get_frzM hb
      refine ⟨hne, b0, h1, ?_⟩
      rcases h2 with ⟨u, cs, rfl, rfl⟩ | ⟨rfl, _⟩
      · exact hg
      · exact hg
  obtain ⟨A, c, hv, h0, h1, h2, h3, h4⟩ := hm.row_seen2 hi (fun g => cx.H g ∨ ∃ j, j ≠ i ∧ At e st.m j g) (by
    intro g hg hx
    rcases hx with hx | ⟨j, hne, hx⟩
    · rcases hm.free i g hg with h | h
      · exact Nat.lt_irrefl _ (Nat.lt_of_lt_of_le (cx.hH g hx) h)
      · exact cx.hG g h hx
    · exact hne (hm.apart _ _ _ hx hg))
  refine ⟨A, c, h0, h1, h2, h3, hS.base, hS.size, hS.defers, fun t u hu => ?_, hm.fr, hm.ids, hm.low, fun j t cs hj => ?_, fun j E' z' n' xs' hj => ?_, fun j b hj => ?_, fun j g hg => hm.free j g (hat hg).2, fun j l g hj hl => hm.apart j l g (hat hj).2 (hat hl).2, fun F hF => ?_, fun F hF => ?_⟩
  · obtain ⟨u0, h5, rfl⟩ := get_frzS hu
    obtain ⟨h6, h7⟩ := hS.slots _ _ h5
    exact ⟨frzV_lt rfl h6, by rw [h7, frzV_ok hv]⟩
  · rcases get_cons hj with ⟨rfl, e1⟩ | ⟨hne, hj⟩
    · cases e1
    · obtain ⟨b0, h5, h6⟩ := get_frzM hj
      rcases h6 with ⟨u, cs0, rfl, h7⟩ | ⟨h7, h8⟩
      · cases h7
        rw [frzAs_ok hv]
        exact hm.cells _ _ _ h5
      · exact absurd h7.symm (h8 _ _)
  · rcases get_cons hj with ⟨rfl, e1⟩ | ⟨hne, hj⟩
    · cases e1
    · obtain ⟨b0, h5, h6⟩ := get_frzM hj
      rcases h6 with ⟨u, cs0, rfl, h7⟩ | ⟨h7, h8⟩
      · cases h7
      · rw [← h7] at h5
        exact hm.own _ _ _ _ _ h5
  · rcases get_cons hj with ⟨rfl, e1⟩ | ⟨hne, hj⟩
    · subst e1
      exact ⟨(hm.sc _ _ hi).1, trivial⟩
    · obtain ⟨b0, h5, h6⟩ := get_frzM hj
      obtain ⟨h7, h8⟩ := hm.sc _ _ h5
      refine ⟨h7, ?_⟩
      rcases h6 with ⟨u, cs0, rfl, rfl⟩ | ⟨rfl, _⟩
      · intro x hx
        obtain ⟨q, hq, rfl⟩ := List.mem_map.1 hx
        exact frzA_lt rfl (h8 q hq)
      · exact h8
  · rcases List.mem_cons.1 hF with rfl | hF
    · exact SlAt.up A xs
    · exact hm.up F hF
  · have hsub : ∀ g, (cx.H g ∨ Own e ((i, LB.dead) :: frzM i (.slice A n c) st.m) g) → (cx.H g ∨ ∃ j, j ≠ i ∧ At e st.m j g) := by
      rintro g (hx | ⟨j, hx⟩)
      · exact .inl hx
      · exact .inr ⟨j, hat hx⟩
    rcases List.mem_cons.1 hF with rfl | hF
    · exact SlAt.up A xs _ _ (hide_ext fun g o hg hn => ⟨hg, fun hx => hn (hsub g hx)⟩) h4
    · refine hm.up F hF _ _ (hide_ext fun g o hg hn => ⟨hg, fun hx => hn ?_⟩) (hm.facts F hF)
      rcases hsub g hx with hx | ⟨j, _, hx⟩
      · exact .inl hx
      · exact .inr ⟨j, hx⟩
theorem Walks.freeze2 {P : Program} {N : Nat} {c : Code} {K : Exit → St → Prop} {st : St} (i : Nat) {E z n : Nat} {xs : List Value} (hi : get i st.m = some (.own E z n xs))
    (h : ∀ A cp, (∀ a, A = some a → a.spot = none) → (A = none → n = 0 ∧ cp = 0) → n ≤ cp → cp ≤ maxLen → Walks P N c K (Sym.freeze i (.slice A n cp) (fun w => SlAt w A xs) st)) : Walks P N c K st :=
  ⟨fun cx e a w hn hS => let ⟨A, cp, h0, h1, h2, h3, hS'⟩ := sat_freeze2 hS hi; (h A cp h0 h1 h2 h3).run cx e a w hn hS'⟩
theorem Ent.trans {a b c : St} (h : Ent a b) (h' : Ent b c) : Ent a c := ⟨fun cx e x w hS => let ⟨e1, h1⟩ := h.run cx e x w hS; h'.run cx e1 x w h1⟩
/-- A nil slice in a slot, told as an own row that holds nothing. -/
theorem ent_fresh {st : St} (t E z : Nat) (h : get t st.s = some (.one (.v (.slice none 0 0)))) : Ent st { st with s := (t, .one (.row st.k)) :: st.s, m := (st.k, .own E z 0 []) :: st.m, k := st.k + 1 } := by
  refine ⟨fun cx e a w hS => ?_⟩
  have hm := hS.mem
  have he := e.eqTo_row st.k (none, 0, 0)
  have hm2 := hm.grow (v := (none, 0, 0)) (E := E) (z := z) (n := 0) (xs := []) none (fun i hi => by cases hi) (w' := w) ⟨rfl, rfl, rfl, Nat.le_refl _, fun _ _ _ => rfl⟩ (World.ownsRow_nil w 0 E z) (fun g hg => by cases hg)
  refine ⟨e.setRow st.k (none, 0, 0), hS.base, hS.size, hS.defers, fun i v hi => ?_, hm2⟩
  rcases get_cons hi with ⟨rfl, rfl⟩ | ⟨hne, hi⟩
  · refine ⟨Nat.lt_succ_self _, ?_⟩
    rw [(hS.slots _ _ h).2]
    show _ = some ((e.setRow st.k (none, 0, 0)).rv st.k)
    rw [Env.setRow_self]
    rfl
  · obtain ⟨h1, h2⟩ := hS.slots i v hi
    exact ⟨SV.lt_mono (Nat.le_succ _) h1, by rw [h2, SV.real_eq he h1]⟩
/-- A nil slice in a cell of a block, told as an own row that holds nothing. -/
theorem ent_freshC {st : St} (i E z : Nat) {t : TypeId} {cs : List SA} (cs' : List SA) (hi : get i st.m = some (.cells t cs))
    (hr : ∀ e : Env, e.rv st.k = .slice none 0 0 → reals e cs' = reals e cs) (hl : (∀ c ∈ cs, c.lt st.k) → ∀ c ∈ cs', c.lt (st.k + 1)) :
    Ent st { st with m := (i, .cells t cs') :: (st.k, .own E z 0 []) :: st.m, k := st.k + 1 } := by
  refine ⟨fun cx e a w hS => ?_⟩
  have hm := hS.mem
  have hik := hm.sc _ _ hi
  have he := e.eqTo_row st.k (none, 0, 0)
  have hm2 := hm.grow (v := (none, 0, 0)) (E := E) (z := z) (n := 0) (xs := []) none (fun i hi => by cases hi) (w' := w) ⟨rfl, rfl, rfl, Nat.le_refl _, fun _ _ _ => rfl⟩ (World.ownsRow_nil w 0 E z) (fun g hg => by cases hg)
  have hi2 : get i ((st.k, LB.own E z 0 []) :: kill none st.m) = some (.cells t cs) := by
    rw [get_ne (Nat.ne_of_lt hik.1)]
    exact hi
  have hb : Blk w ((e.setRow st.k (none, 0, 0)).blk i) t (reals (e.setRow st.k (none, 0, 0)) cs').toArray := by
    rw [hr _ (Env.setRow_self e st.k _)]
    exact hm2.cells _ _ _ hi2
  have hm3 := hm2.set hi2 (hl hik.2) hb (fun _ _ => rfl) rfl rfl rfl rfl
  refine ⟨e.setRow st.k (none, 0, 0), hS.base, hS.size, hS.defers, fun j v hj => ?_, hm3⟩
  obtain ⟨h1, h2⟩ := hS.slots j v hj
  exact ⟨SV.lt_mono (Nat.le_succ _) h1, by rw [h2, SV.real_eq he h1]⟩
/-- A walk in two parts: the first one comes to one of some states. -/
theorem Walks.cutX {P : Program} {N : Nat} {x y : Code} {K : Exit → St → Prop} {st : St} {X : Type} (Ok : X → Prop) (s : X → St) (h1 : Walks P N x (fun ex st' => match ex with | .normal => ∃ q, Ok q ∧ Ent st' (s q) | ex => K ex st') st) (h2 : ∀ q, Ok q → Walks P N y K (s q)) : Walks P N (.seq x y) K st := by
  refine Walks.seq (h1.mono fun ex st' hK => ?_)
  cases ex with
  | normal =>
    obtain ⟨q, hq, he⟩ := hK
    exact Walks.ent he (h2 q hq)
  | _ => exact hK
end Go.Proofs.Sym
end
section
set_option linter.unusedVariables false
set_option linter.unusedSimpArgs false
namespace Go.Proofs.YtmkpiekbpakigaaGreatDoor
open Go.RowKit Go.Proofs.Base Go.Proofs.Sym
def strN (l : List Nat) : ByteArray := ⟨(l.map UInt8.ofNat).toArray⟩
theorem strN_size (l : List Nat) : (strN l).size = l.length := by
  rw [size_list]
  simp [strN]
theorem strN_bytes {w : World} {A : Option Addr} {c : Nat} {l : List Nat} (h : BtIn w A c l) (hB : Bytes l) : BytesAt w A (strN l).data.toList := by
  intro j b hj
  simp only [strN, List.getElem?_map] at hj
  cases hq : l[j]? with
  | none => rw [hq] at hj; cases hj
  | some x =>
    rw [hq] at hj
    cases hj
    obtain ⟨a, ha, hc⟩ := h.cells j _ (bc_get hq)
    refine ⟨a, ha, ?_⟩
    rw [hc]
    have := hB x (List.mem_of_getElem? hq)
    simp [Nat.mod_eq_of_lt this]
def rdName (l : List Nat) : Option (ByteArray × List Nat) := match rdNum 32 l with
  | none => none
  | some (n, r) => match decide (n ≤ r.length) with
    | false => none
    | true => match wordB (strN (r.take n)) with
      | false => none
      | true => some (strN (r.take n), r.drop n)
def strO (left : Int) : Option (ByteArray × List Nat) → Option (Value × List Nat × Int)
  | some (s, r) => some (.string s, r, left)
  | none => none
theorem rdNum_sub {most : Nat} {l r : List Nat} {n : Nat} (h : rdNum most l = some (n, r)) : ∃ k, r = l.drop k ∧ k ≤ l.length ∧ n ≤ most ∧ 1 ≤ k := by
  unfold rdNum at h
  cases hb : rdByte 6 l with
  | none => rw [hb] at h; cases h
  | some q =>
    obtain ⟨n1, r1⟩ := q
    rw [hb] at h
    obtain ⟨rfl, h6⟩ := rdByte_some hb
    simp only at h
    split at h
    · cases h
    · rename_i hle
      have hle := of_decide_eq_true hle
      split at h
      · cases h
      · split at h
        · cases h
        · rename_i hv
          cases h
          exact ⟨n1 + 1, by simp, by simp; omega, of_decide_eq_true hv, by omega⟩
def mPre (A : Option Addr) (c : Nat) (l : List Nat) (w : World) : Prop := ML w ∧ BtIn w A c l
theorem mPre.upS (A : Option Addr) (c : Nat) (l : List Nat) : Up (mPre A c l) := ML.up.and (BtIn.up _ _ _)
theorem name_lc (A : Option Addr) (c : Nat) (l : List Nat) (left : Int) (hB : Bytes l) :
    LCall Tryz.prog 111 [.one (.p 0 0)] [(0, rM A c l left)] 1 (mPre A c l) (fun _ : Option Addr × Nat => True) (rdRes (strO left (rdName l))) := by
  have hnum := num_lcR A c l left 32 hB
  unfold rdName
  cases hr : rdNum 32 l with
  | none =>
    rw [hr] at hnum
    refine lcall_of tabOk 13 [.tmp 2] Tryz.func111 rfl rfl (by kernel_rfl) rfl _ (Nat.le_of_ble_eq_true rfl) (mPre.upS _ _ _) ?_
    refine svc_ok tabOk [] _ _ _ ?_
    refine callVC_lend [0] hnum rfl ⟨rfl, trivial⟩ rfl rfl (fun w h => h.1.2) (fun _ _ => ⟨rfl, rfl⟩) (fun _ _ => ?_)
    exact ⟨(none, 0), trivial, rfl, ent_ren [(0, .blk 0)] rfl rfl rfl rfl (Nat.le_refl _) ⟨⟨_, rfl, rfl⟩, trivial⟩ trivial ⟨⟨Up.true, fun _ _ => trivial⟩, trivial⟩⟩
  | some q =>
    obtain ⟨n, r⟩ := q
    rw [hr] at hnum
    obtain ⟨k, hrk, _, _⟩ := rdNum_sub hr
    have hBr : Bytes r := by rw [hrk]; exact hB.drop k
    simp only
    obtain ⟨b1, e1⟩ : ∃ b, decide (n ≤ r.length) = b := ⟨_, rfl⟩
    have e1' : decide ((n : Int) ≤ (r.length : Int)) = b1 := by rw [← e1]; simp
    rw [e1]
    have hT := fun x : Option Addr × Nat => take_lc x.1 x.2 r left n b1 e1'
    have hw := word_pc (strN (r.take n))
    obtain ⟨b2, e2⟩ : ∃ b, wordB (strN (r.take n)) = b := ⟨_, rfl⟩
    rw [e2] at hw
    rw [e2]
    refine lcall_of tabOk 13 [.tmp 2] Tryz.func111 rfl rfl (by kernel_rfl) rfl _ (Nat.le_of_ble_eq_true rfl) (mPre.upS _ _ _) ?_
    refine svc_ok tabOk [] _ _ _ ?_
    refine callVC_lend [0] hnum rfl ⟨rfl, trivial⟩ rfl rfl (fun w h => h.1.2) (fun _ _ => ⟨rfl, rfl⟩) (fun x _ => ?_)
    cases b1 with
    | false =>
      refine callVC_lend [0] (hT x) rfl ⟨rfl, trivial⟩ rfl rfl (fun w h => h.1) (fun _ _ => ⟨rfl, rfl⟩) (fun _ _ => ?_)
      exact ⟨(none, 0), trivial, rfl, ent_ren [(0, .blk 0)] rfl rfl rfl rfl (Nat.le_refl _) ⟨⟨_, rfl, rfl⟩, trivial⟩ trivial ⟨⟨Up.true, fun _ _ => trivial⟩, trivial⟩⟩
    | true =>
    have hnr : n ≤ r.length := of_decide_eq_true e1
    refine callVC_lend [0] (hT x) rfl ⟨rfl, trivial⟩ rfl rfl (fun w h => h.1) (fun _ _ => ⟨rfl, rfl⟩) (fun _ _ => ?_)
    refine ⟨{ b := strN (r.take n) }, ⟨by rw [strN_size, List.length_take]; omega, fun w h => strN_bytes h.1.1 (hBr.take n)⟩, ?_⟩
    refine callVC_plain hw (fun _ => rfl) (fun w h => h.2.2.1.1) ?_
    rintro v rfl
    refine callVC_lend [] (needC (b := b2) b2 rfl) rfl trivial rfl rfl (fun _ _ => trivial) (fun _ _ => by cases b2 <;> exact ⟨rfl, rfl⟩) (fun _ _ => ?_)
    cases b2 with
    | false => exact ⟨(none, 0), trivial, rfl, ent_ren [(0, .blk 0)] rfl rfl rfl rfl (Nat.le_refl _) ⟨⟨_, rfl, rfl⟩, trivial⟩ trivial ⟨⟨Up.true, fun _ _ => trivial⟩, trivial⟩⟩
    | true =>
      refine ⟨_, rfl, (cutA x.1 x.2 n 1, x.2 - n), trivial, rfl, ?_⟩
      exact ent_ren [(0, .blk 0)] rfl rfl rfl rfl (Nat.le_refl _) ⟨⟨_, rfl, rfl⟩, trivial⟩ ⟨⟨_, rfl, rfl⟩, trivial⟩ ⟨⟨BtIn.up _ _ _, fun w h => h.2.2.1.2⟩, trivial⟩
def lvOf : List Nat → Lv
  | d0 :: d1 :: d2 :: d3 :: d4 :: _ => ⟨(d0 : Int), (d1 : Int) - 1, (d2 : Int) - 1, (d3 : Int) - 1, (d4 : Int) - 1⟩
  | _ => ⟨0, 0, 0, 0, 0⟩
def lvsAt : Nat → List Nat → List Lv
  | 0, _ => []
  | n + 1, l => lvOf l :: lvsAt n (l.drop 5)
theorem lvsAt_len : ∀ (n : Nat) (l : List Nat), (lvsAt n l).length = n
  | 0, _ => rfl
  | n + 1, l => by simp [lvsAt, lvsAt_len n]
theorem lvsAt_snoc : ∀ (n : Nat) (l : List Nat), lvsAt (n + 1) l = lvsAt n l ++ [lvOf (l.drop (5 * n))]
  | 0, l => by simp [lvsAt]
  | n + 1, l => by
    rw [lvsAt, lvsAt_snoc n (l.drop 5), lvsAt, List.drop_drop]
    simp only [List.cons_append, List.cons.injEq, true_and]
    congr 4
    omega
def rdLevels (n : Nat) (l : List Nat) : Option (List Lv × List Nat) := match decide (5 * n ≤ l.length) with
  | false => none
  | true => some (lvsAt n l, l.drop (5 * n))
structure LX where
  la : Option Addr
  lc : Nat
  ra : Option Addr
  rc : Nat
def levRes (left : Int) (n : Nat) (o : Option (List Lv × List Nat)) (x : LX) : LRes := match o with
  | some (ls, r) => { v := .one (.v (.slice x.la n x.lc)), m := [(0, rM x.ra x.rc r (left - n))], k := 1, F := fun w => BtIn w x.ra x.rc r ∧ LvRow w x.la ls }
  | none => tornR 1
def LX.ok (n : Nat) (x : LX) : Prop := (x.la = none → n = 0 ∧ x.lc = 0) ∧ n ≤ x.lc ∧ x.lc ≤ maxLen
def lvQ (d0 d1 d2 d3 d4 : Nat) : Nat → List SA
  | 0 => [.v (.int .i64 d0), .v (.int .i64 0), .v (.int .i64 0), .v (.int .i64 0), .v (.int .i64 0)]
  | 1 => [.v (.int .i64 d0), .v (.int .i64 ((d1 : Int) - 1)), .v (.int .i64 0), .v (.int .i64 0), .v (.int .i64 0)]
  | 2 => [.v (.int .i64 d0), .v (.int .i64 ((d1 : Int) - 1)), .v (.int .i64 ((d2 : Int) - 1)), .v (.int .i64 0), .v (.int .i64 0)]
  | 3 => [.v (.int .i64 d0), .v (.int .i64 ((d1 : Int) - 1)), .v (.int .i64 ((d2 : Int) - 1)), .v (.int .i64 ((d3 : Int) - 1)), .v (.int .i64 0)]
  | _ => [.v (.int .i64 d0), .v (.int .i64 ((d1 : Int) - 1)), .v (.int .i64 ((d2 : Int) - 1)), .v (.int .i64 ((d3 : Int) - 1)), .v (.int .i64 ((d4 : Int) - 1))]
theorem dig_wrap {d : Nat} (h : d < 256) : IntKind.i64.wrap (IntKind.i64.wrap (d : Int) - 1) = (d : Int) - 1 := by
  rw [wrapI (n := (d : Int)) (by omega) (by omega), wrapI (by omega) (by omega)]
def lvsC (ls : List Lv) : List Value := ls.flatMap lvCells
theorem lvsC_get {ls : List Lv} : ∀ {j : Nat} {l : Lv}, ls[j]? = some l → ∀ q u, (lvCells l)[q]? = some u → (lvsC ls)[j * 5 + q]? = some u := by
  induction ls with
  | nil => intro j l h; simp at h
  | cons a r ih =>
    intro j l h q u hq
    have e1 : lvsC (a :: r) = lvCells a ++ lvsC r := rfl
    rw [e1]
    cases j with
    | zero =>
      simp only [List.getElem?_cons_zero, Option.some.injEq] at h
      subst h
      have hlt := (List.getElem?_eq_some_iff.1 hq).1
      rw [Nat.zero_mul, Nat.zero_add, List.getElem?_append_left hlt]
      exact hq
    | succ j =>
      simp only [List.getElem?_cons_succ] at h
      have e5 : (lvCells a).length = 5 := rfl
      rw [List.getElem?_append_right (by rw [e5]; omega), e5, show (j + 1) * 5 + q - 5 = j * 5 + q by omega]
      exact ih h q u hq
theorem lvRow_of {w : World} {A : Option Addr} {ls : List Lv} (hl : ls.length ≤ 9223372036854775807) (hs : ∀ a, A = some a → a.spot = none) (h : SlAt w A (lvsC ls)) : LvRow w A ls := by
  refine ⟨hl, fun hp => ?_⟩
  have hat : ∀ {j : Nat} {l : Lv}, ls[j]? = some l → ∀ q u, (lvCells l)[q]? = some u → ∃ a, A = some a ∧ w.cell? (a.add (j * 5 + q)) = some u := fun hj q u hq => h _ _ (lvsC_get hj q u hq)
  obtain ⟨l0, hl0⟩ : ∃ l, ls[0]? = some l := ⟨_, List.getElem?_eq_getElem hp⟩
  obtain ⟨a, ha, _⟩ := hat hl0 0 _ rfl
  have hsp := hs a ha
  obtain ⟨g, o, sp⟩ := a
  cases hsp
  refine ⟨g, o, ha, fun j l hj => ?_⟩
  have hq : ∀ q u, (lvCells l)[q]? = some u → w.cell? ⟨g, o + j * 5 + q, none⟩ = some u := fun q u hq => by
    obtain ⟨a, ha2, hc⟩ := hat hj q u hq
    rw [ha] at ha2
    cases ha2
    rw [add_off, ← Nat.add_assoc] at hc
    exact hc
  exact ⟨hq 0 _ rfl, hq 1 _ rfl, hq 2 _ rfl, hq 3 _ rfl, hq 4 _ rfl⟩
end Go.Proofs.YtmkpiekbpakigaaGreatDoor
end
section
set_option linter.unusedVariables false
set_option linter.unusedSimpArgs false
namespace Go.Proofs.YtmkpiekbpakigaaGreatDoor
open Go.RowKit Go.Proofs.Base Go.Proofs.Sym
theorem five_of {l : List Nat} (h : 5 ≤ l.length) : ∃ d0 d1 d2 d3 d4 r, l = d0 :: d1 :: d2 :: d3 :: d4 :: r := by
  match l, h with
  | d0 :: d1 :: d2 :: d3 :: d4 :: r, _ => exact ⟨d0, d1, d2, d3, d4, r, rfl⟩
set_option maxHeartbeats 4000000 in
theorem levels_lc (A : Option Addr) (c : Nat) (l : List Nat) (left : Int) (n : Nat) (hB : Bytes l) (hn : n ≤ 255) (h1 : -100000 ≤ left) (h2 : left ≤ 100000) :
    LCall Tryz.prog 147 [.one (.p 0 0), .one (.v (.int .i64 (n : Int)))] [(0, rM A c l left)] 1 (fun w => BtIn w A c l) (LX.ok n) (levRes left n (rdLevels n l)) := by
  by_cases hcl : l.length ≤ c
  rotate_left
  · exact ⟨BtIn.up _ _ _, fun cx e w hw hn0 he hm hlt => absurd hm.fact.1.le hcl⟩
  refine lcall_of tabOk 48 [.tmp 4] Tryz.func147 rfl rfl (by kernel_rfl) rfl _ (Nat.le_of_ble_eq_true rfl) (BtIn.up _ _ _) ?_
  refine svc_ok tabOk [14] _ _ _ ?_
  refine ⟨⟨Nat × (Option Addr × Nat), fun x => x.1 ≤ n ∧ 5 * x.1 ≤ l.length ∧ (l.drop (5 * x.1)).length ≤ x.2.2,
    fun x => { s := [(0, .one (.p 0 0)), (5, .one (.row 1)), (10, .one (.v (.int .i64 (n : Int)))), (11, .one (.v (.int .i64 (x.1 : Int))))], m := [(0, rM x.2.1 x.2.2 (l.drop (5 * x.1)) (left - x.1)), (1, .own 102 5 x.1 (lvsC (lvsAt x.1 l)))], k := 2, f := [fun w => BtIn w x.2.1 x.2.2 (l.drop (5 * x.1))], b := 1 },
    fun x => n - x.1, ⟨(0, (A, c)), ⟨Nat.zero_le _, by omega, hcl⟩, ?_⟩, ?_⟩⟩
  · refine Ent.trans (ent_fresh 5 102 5 rfl) ?_
    exact ent_ren [(1, .own 1), (0, .blk 0)] rfl rfl rfl rfl (Nat.le_of_ble_eq_true rfl) ⟨⟨_, rfl, rfl⟩, ⟨_, rfl, rfl⟩, ⟨_, rfl, rfl⟩, ⟨_, rfl, rfl⟩, trivial⟩ ⟨⟨_, rfl, by simp⟩, ⟨_, _, rfl, rfl, rfl⟩, trivial⟩ ⟨⟨BtIn.up _ _ _, fun w h => h.1⟩, trivial⟩
  rintro ⟨j, a, ca⟩ ⟨hj, hjl, hca⟩
  simp only at hj hjl hca
  refine bsplit_i (fun hlt => ?_) (fun hge => ?_)
  rotate_left
  · have hge : j = n := by
      have h : decide ((j : Int) < (n : Int)) = false := hge
      have := of_decide_eq_false h
      omega
    subst hge
    have hrd : rdLevels j l = some (lvsAt j l, l.drop (5 * j)) := by rw [rdLevels, decide_eq_true hjl]
    rw [hrd]
    refine Walks.freeze2 1 rfl (fun B cp g0 g1 g2 g3 => ?_)
    refine svc_ok tabOk [] _ _ _ ?_
    refine ⟨_, rfl, ⟨B, cp, a, ca⟩, ⟨g1, g2, g3⟩, rfl, ?_⟩
    exact ent_ren [(0, .blk 0)] rfl rfl rfl rfl (Nat.le_refl _) ⟨⟨_, rfl, rfl⟩, trivial⟩ ⟨⟨_, rfl, rfl⟩, trivial⟩ ⟨⟨(BtIn.up _ _ _).and (LvRow.up _ _), fun w h => ⟨h.2.1, lvRow_of (by rw [lvsAt_len]; omega) g0 h.1⟩⟩, trivial⟩
  have hlt : j < n := by
    have h : decide ((j : Int) < (n : Int)) = true := hlt
    have := of_decide_eq_true h
    omega
  have hsub : IntKind.i64.wrap ((left - (j : Int)) - 1) = left - ((j + 1 : Nat) : Int) := by
    rw [wrapI (by omega) (by omega)]
    omega
  obtain ⟨b, hb⟩ : ∃ b, decide ((5 : Int) ≤ ((l.drop (5 * j)).length : Int)) = b := ⟨_, rfl⟩
  have hT := take_lc a ca (l.drop (5 * j)) (IntKind.i64.wrap ((left - (j : Int)) - 1)) 5 b hb
  cases b with
  | false =>
    have hlen : ¬ 5 * n ≤ l.length := by
      have := of_decide_eq_false hb
      rw [List.length_drop] at this
      omega
    have hrd : rdLevels n l = none := by rw [rdLevels, decide_eq_false hlen]
    rw [hrd]
    refine callVC_lend [0] hT rfl ⟨rfl, trivial⟩ rfl rfl (fun w h => h.1) (fun _ _ => ⟨rfl, rfl⟩) (fun _ _ => ?_)
    exact ⟨⟨some ⟨0, 0, none⟩, n, none, 0⟩, ⟨fun h => (by cases h), Nat.le_refl _, (by show n ≤ maxLen; simp only [maxLen]; omega)⟩, rfl, ent_ren [(0, .blk 0)] rfl rfl rfl rfl (Nat.le_refl _) ⟨⟨_, rfl, rfl⟩, trivial⟩ trivial ⟨⟨Up.true, fun _ _ => trivial⟩, trivial⟩⟩
  | true =>
  have hlen5 : 5 ≤ (l.drop (5 * j)).length := by
    have := of_decide_eq_true hb
    omega
  have hjl2 : 5 * (j + 1) ≤ l.length := by
    rw [List.length_drop] at hlen5
    omega
  have hBd : Bytes (l.drop (5 * j)) := hB.drop _
  have hnext : l.drop (5 * (j + 1)) = (l.drop (5 * j)).drop 5 := by
    rw [List.drop_drop]
    congr 1
  have hsn := lvsAt_snoc j l
  obtain ⟨d0, d1, d2, d3, d4, r, hd⟩ := five_of hlen5
  rw [hd] at hBd hsn hT hnext
  have g0 : d0 < 256 := hBd _ (by simp)
  have g1 : d1 < 256 := hBd _ (by simp)
  have g2 : d2 < 256 := hBd _ (by simp)
  have g3 : d3 < 256 := hBd _ (by simp)
  have g4 : d4 < 256 := hBd _ (by simp)
  have hxs : lvsC (lvsAt (j + 1) l) = lvsC (lvsAt j l) ++ [.int .i64 (d0 : Int), .int .i64 ((d1 : Int) - 1), .int .i64 ((d2 : Int) - 1), .int .i64 ((d3 : Int) - 1), .int .i64 ((d4 : Int) - 1)] := by
    rw [hsn]
    simp [lvsC, lvOf, lvCells]
  have hw0 : IntKind.i64.wrap (d0 : Int) = (d0 : Int) := wrapI (by omega) (by omega)
  refine callVC_lend [0] hT rfl ⟨by rw [hd]; rfl, trivial⟩ rfl rfl (fun w h => by rw [← hd]; exact h.1) (fun _ _ => ⟨rfl, rfl⟩) (fun _ _ => ?_)
  have hbt : ∀ {w}, BtIn w a ca (List.take 5 (d0 :: d1 :: d2 :: d3 :: d4 :: r)) → BtIn w (cutA a ca 1 1) (ca - 1) [d1, d2, d3, d4] := fun h => h.rest (n := 1) (by simp)
  have hat : ∀ {w}, BtIn w a ca (List.take 5 (d0 :: d1 :: d2 :: d3 :: d4 :: r)) → ∀ {q d : Nat}, ([d1, d2, d3, d4] : List Nat)[q]? = some d → ∃ g, cutA a ca 1 1 = some g ∧ w.cell? (g.add (q * 1)) = some (.int .u8 (d : Int)) := fun h q d hq => by
    obtain ⟨g, hg, hc⟩ := (hbt h).cells q _ (bc_get hq)
    exact ⟨g, hg, by rw [Nat.mul_one]; exact hc⟩
  refine ⟨{ n := 0 }, ⟨rfl, by decide, fun w h => ?_⟩, ?_⟩
  · obtain ⟨g, hg, _⟩ := h.1.1.cells 0 _ rfl
    rw [hg]; rfl
  refine ⟨{ v := .int .u8 (d0 : Int) }, fun w h => ?_, ?_⟩
  · obtain ⟨g, hg, hc⟩ := h.1.1.cells 0 _ rfl
    exact ⟨_, by rw [hg]; rfl, hc⟩
  refine ⟨{ n := 1, m := 5 }, ⟨rfl, rfl, by decide, by show 5 ≤ ca; omega⟩, ?_⟩
  refine ⟨⟨Nat, fun q => q ≤ 4,
    fun q => { s := [(0, .one (.p 0 0)), (5, .one (.row 1)), (7, .one (.p 2 0)), (10, .one (.v (.int .i64 (n : Int)))), (11, .one (.v (.int .i64 (j : Int)))), (28, .one (.v (.slice (cutA a ca 1 1) 4 (ca - 1)))), (29, .one (.v (.int .i64 4))), (30, .one (.v (.int .i64 (q : Int))))], m := [(0, rM (cutA a ca 5 1) (ca - 5) r (left - ((j + 1 : Nat) : Int))), (1, .own 102 5 j (lvsC (lvsAt j l))), (2, .cells 102 (lvQ d0 d1 d2 d3 d4 q))], k := 3, f := [fun w => BtIn w a ca (List.take 5 (d0 :: d1 :: d2 :: d3 :: d4 :: r)) ∧ BtIn w (cutA a ca 5 1) (ca - 5) r], b := 1 },
    fun q => 4 - q, ⟨0, Nat.zero_le _, ?_⟩, ?_⟩⟩
  · exact ent_ren [(2, .blk 2), (1, .own 1), (0, .blk 0)] rfl rfl rfl rfl (Nat.le_of_ble_eq_true rfl) ⟨⟨_, rfl, rfl⟩, ⟨_, rfl, rfl⟩, ⟨_, rfl, rfl⟩, ⟨_, rfl, rfl⟩, ⟨_, rfl, rfl⟩, ⟨_, rfl, rfl⟩, ⟨_, rfl, rfl⟩, ⟨_, rfl, rfl⟩, trivial⟩ ⟨⟨_, rfl, by rw [hsub]; rfl⟩, ⟨_, _, rfl, rfl, rfl⟩, ⟨_, rfl, by rw [hw0]; rfl⟩, trivial⟩ ⟨⟨(BtIn.up _ _ _).and (BtIn.up _ _ _), fun w h => h.1⟩, trivial⟩
  rintro q hq
  have hq5 : q = 0 ∨ q = 1 ∨ q = 2 ∨ q = 3 ∨ q = 4 := by omega
  rcases hq5 with rfl | rfl | rfl | rfl | rfl
  · refine ⟨{ n := 0 }, ⟨rfl, by decide, fun w h => ?_⟩, ?_⟩
    · obtain ⟨g, hg, _⟩ := hat h.1.1 (q := 0) rfl
      rw [hg]; rfl
    refine ⟨{ v := .int .u8 (d1 : Int) }, fun w h => ?_, ?_⟩
    · obtain ⟨g, hg, hc⟩ := hat h.1.1 (q := 0) rfl
      exact ⟨_, by rw [hg]; rfl, hc⟩
    refine ⟨{ n := 0 }, ⟨rfl, by decide⟩, ?_⟩
    refine ⟨1, by decide, by decide, ?_⟩
    exact ent_ren [(2, .blk 2), (1, .own 1), (0, .blk 0)] rfl rfl rfl rfl (Nat.le_of_ble_eq_true rfl) ⟨⟨_, rfl, rfl⟩, ⟨_, rfl, rfl⟩, ⟨_, rfl, rfl⟩, ⟨_, rfl, rfl⟩, ⟨_, rfl, rfl⟩, ⟨_, rfl, rfl⟩, ⟨_, rfl, rfl⟩, ⟨_, rfl, oneI (wrapI (by decide) (by decide))⟩, trivial⟩ ⟨⟨_, rfl, rfl⟩, ⟨_, _, rfl, rfl, rfl⟩, ⟨_, rfl, by rw [dig_wrap g1]; rfl⟩, trivial⟩ ⟨⟨(BtIn.up _ _ _).and (BtIn.up _ _ _), fun w h => h.1⟩, trivial⟩
  · refine ⟨{ n := 1 }, ⟨rfl, by decide, fun w h => ?_⟩, ?_⟩
    · obtain ⟨g, hg, _⟩ := hat h.1.1 (q := 1) rfl
      rw [hg]; rfl
    refine ⟨{ v := .int .u8 (d2 : Int) }, fun w h => ?_, ?_⟩
    · obtain ⟨g, hg, hc⟩ := hat h.1.1 (q := 1) rfl
      exact ⟨_, by rw [hg]; rfl, hc⟩
    refine ⟨{ n := 1 }, ⟨rfl, by decide⟩, ?_⟩
    refine ⟨2, by decide, by decide, ?_⟩
    exact ent_ren [(2, .blk 2), (1, .own 1), (0, .blk 0)] rfl rfl rfl rfl (Nat.le_of_ble_eq_true rfl) ⟨⟨_, rfl, rfl⟩, ⟨_, rfl, rfl⟩, ⟨_, rfl, rfl⟩, ⟨_, rfl, rfl⟩, ⟨_, rfl, rfl⟩, ⟨_, rfl, rfl⟩, ⟨_, rfl, rfl⟩, ⟨_, rfl, oneI (wrapI (by decide) (by decide))⟩, trivial⟩ ⟨⟨_, rfl, rfl⟩, ⟨_, _, rfl, rfl, rfl⟩, ⟨_, rfl, by rw [dig_wrap g2]; rfl⟩, trivial⟩ ⟨⟨(BtIn.up _ _ _).and (BtIn.up _ _ _), fun w h => h.1⟩, trivial⟩
  · refine ⟨{ n := 2 }, ⟨rfl, by decide, fun w h => ?_⟩, ?_⟩
    · obtain ⟨g, hg, _⟩ := hat h.1.1 (q := 2) rfl
      rw [hg]; rfl
    refine ⟨{ v := .int .u8 (d3 : Int) }, fun w h => ?_, ?_⟩
    · obtain ⟨g, hg, hc⟩ := hat h.1.1 (q := 2) rfl
      exact ⟨_, by rw [hg]; rfl, hc⟩
    refine ⟨{ n := 2 }, ⟨rfl, by decide⟩, ?_⟩
    refine ⟨3, by decide, by decide, ?_⟩
    exact ent_ren [(2, .blk 2), (1, .own 1), (0, .blk 0)] rfl rfl rfl rfl (Nat.le_of_ble_eq_true rfl) ⟨⟨_, rfl, rfl⟩, ⟨_, rfl, rfl⟩, ⟨_, rfl, rfl⟩, ⟨_, rfl, rfl⟩, ⟨_, rfl, rfl⟩, ⟨_, rfl, rfl⟩, ⟨_, rfl, rfl⟩, ⟨_, rfl, oneI (wrapI (by decide) (by decide))⟩, trivial⟩ ⟨⟨_, rfl, rfl⟩, ⟨_, _, rfl, rfl, rfl⟩, ⟨_, rfl, by rw [dig_wrap g3]; rfl⟩, trivial⟩ ⟨⟨(BtIn.up _ _ _).and (BtIn.up _ _ _), fun w h => h.1⟩, trivial⟩
  · refine ⟨{ n := 3 }, ⟨rfl, by decide, fun w h => ?_⟩, ?_⟩
    · obtain ⟨g, hg, _⟩ := hat h.1.1 (q := 3) rfl
      rw [hg]; rfl
    refine ⟨{ v := .int .u8 (d4 : Int) }, fun w h => ?_, ?_⟩
    · obtain ⟨g, hg, hc⟩ := hat h.1.1 (q := 3) rfl
      exact ⟨_, by rw [hg]; rfl, hc⟩
    refine ⟨{ n := 3 }, ⟨rfl, by decide⟩, ?_⟩
    refine ⟨4, by decide, by decide, ?_⟩
    exact ent_ren [(2, .blk 2), (1, .own 1), (0, .blk 0)] rfl rfl rfl rfl (Nat.le_of_ble_eq_true rfl) ⟨⟨_, rfl, rfl⟩, ⟨_, rfl, rfl⟩, ⟨_, rfl, rfl⟩, ⟨_, rfl, rfl⟩, ⟨_, rfl, rfl⟩, ⟨_, rfl, rfl⟩, ⟨_, rfl, rfl⟩, ⟨_, rfl, oneI (wrapI (by decide) (by decide))⟩, trivial⟩ ⟨⟨_, rfl, rfl⟩, ⟨_, _, rfl, rfl, rfl⟩, ⟨_, rfl, by rw [dig_wrap g4]; rfl⟩, trivial⟩ ⟨⟨(BtIn.up _ _ _).and (BtIn.up _ _ _), fun w h => h.1⟩, trivial⟩
  · refine ⟨{}, ⟨trivial, by decide, .inr rfl, ?_, ?_⟩, ?_⟩
    · show j + 1 ≤ maxLen
      simp only [maxLen]; omega
    · show (j + 1) * _ ≤ 140737488355328
      refine Nat.le_trans (Nat.mul_le_mul_right _ (show j + 1 ≤ 256 by omega)) (by decide)
    refine ⟨(j + 1, (cutA a ca 5 1, ca - 5)), ⟨hlt, hjl2, ?_⟩, by simp only; omega, ?_⟩
    · simp only
      rw [hnext]
      simp only [List.drop_succ_cons, List.drop_zero]
      rw [hd] at hca
      simp only [List.length_cons] at hca
      omega
    exact ent_ren [(1, .own 4), (0, .blk 0)] rfl rfl rfl rfl (Nat.le_of_ble_eq_true rfl) ⟨⟨_, rfl, rfl⟩, ⟨_, rfl, rfl⟩, ⟨_, rfl, rfl⟩, ⟨_, rfl, oneI (wrapI (by omega) (by omega))⟩, trivial⟩ ⟨⟨_, rfl, by rw [hnext]; rfl⟩, ⟨_, _, rfl, rfl, by rw [hxs]⟩, trivial⟩ ⟨⟨BtIn.up _ _ _, fun w h => by have h := h.1.2; rw [hnext]; exact h⟩, trivial⟩
end Go.Proofs.YtmkpiekbpakigaaGreatDoor
end
section
set_option linter.unusedVariables false
set_option linter.unusedSimpArgs false
namespace Go.Proofs.YtmkpiekbpakigaaGreatDoor
open Go.RowKit Go.Proofs.Base Go.Proofs.Sym
/-- What stands in a node behind its kind. -/
structure ND where
  n : Int
  s : ByteArray
  ls : List Lv
  a : Nat
def noS : ByteArray := ⟨#[]⟩
def rdNode (k : Nat) (left : Int) (r : List Nat) : Option (ND × Int × List Nat) := match k with
  | 1 => match rdNum 1099511627776 r with
    | none => none
    | some (n, r) => some (⟨n, noS, [], 0⟩, left, r)
  | 3 => match rdLevels 1 r with
    | none => none
    | some (ls, r) => some (⟨0, noS, ls, 0⟩, left - 1, r)
  | 4 => match rdName r with
    | none => none
    | some (s, r) => match rdByte 4 r with
      | none => none
      | some (m, r) => match rdLevels m r with
        | none => none
        | some (ls, r) => some (⟨0, s, ls, 0⟩, left - m, r)
  | 5 => some (⟨0, noS, [], 2⟩, left, r)
  | 6 => some (⟨0, noS, [], 2⟩, left, r)
  | 7 => some (⟨0, noS, [], 2⟩, left, r)
  | 8 => some (⟨0, noS, [], 3⟩, left, r)
  | 9 => match rdNum 31 r with
    | none => none
    | some (n, r) => match rdName r with
      | none => none
      | some (s, r) => some (⟨n, s, [], 1⟩, left, r)
  | _ => some (⟨0, noS, [], 0⟩, left, r)
def rdTerms (f : Int → List Nat → Option (Tm × Int × List Nat)) : Nat → Int → List Nat → Option (List Tm × Int × List Nat)
  | 0, left, l => some ([], left, l)
  | n + 1, left, l => match f left l with
    | none => none
    | some (t, left, l) => match rdTerms f n left l with
      | none => none
      | some (ts, left, l) => some (t :: ts, left, l)
def rdTerm : Nat → Int → List Nat → Option (Tm × Int × List Nat)
  | 0, _, _ => none
  | fuel + 1, left, l => match decide (0 ≤ left - 1) with
    | false => none
    | true => match rdByte 9 l with
      | none => none
      | some (k, r) => match rdNode k (left - 1) r with
        | none => none
        | some (nd, left, r) => match rdTerms (rdTerm fuel) nd.a left r with
          | none => none
          | some (ts, left, r) => some (.mk k nd.n nd.s nd.ls ts, left, r)
def Sub2 (l r : List Nat) : Prop := ∃ k, r = l.drop k
theorem Sub2.refl (l : List Nat) : Sub2 l l := ⟨0, rfl⟩
theorem Sub2.trans {a b c : List Nat} (h : Sub2 a b) (h' : Sub2 b c) : Sub2 a c := by
  obtain ⟨k, rfl⟩ := h
  obtain ⟨j, rfl⟩ := h'
  exact ⟨k + j, by rw [List.drop_drop]⟩
theorem Sub2.bytes {l r : List Nat} (h : Sub2 l r) (hB : Bytes l) : Bytes r := by
  obtain ⟨k, rfl⟩ := h
  exact hB.drop k
theorem rdByte_sub {most : Nat} {l r : List Nat} {n : Nat} (h : rdByte most l = some (n, r)) : Sub2 l r ∧ n ≤ most := by
  obtain ⟨rfl, h2⟩ := rdByte_some h
  exact ⟨⟨1, rfl⟩, h2⟩
theorem rdNum_sub2 {most : Nat} {l r : List Nat} {n : Nat} (h : rdNum most l = some (n, r)) : Sub2 l r ∧ n ≤ most := by
  obtain ⟨k, h1, _, h3, _⟩ := rdNum_sub h
  exact ⟨⟨k, h1⟩, h3⟩
theorem rdName_some {l r : List Nat} {s : ByteArray} (h : rdName l = some (s, r)) : Sub2 l r ∧ wordB s = true := by
  unfold rdName at h
  cases hr : rdNum 32 l with
  | none => rw [hr] at h; cases h
  | some q =>
    obtain ⟨n, r1⟩ := q
    rw [hr] at h
    simp only at h
    split at h
    · cases h
    · split at h
      · cases h
      · rename_i hw
        cases h
        exact ⟨(rdNum_sub2 hr).1.trans ⟨n, rfl⟩, hw⟩
theorem rdLevels_some {n : Nat} {l r : List Nat} {ls : List Lv} (h : rdLevels n l = some (ls, r)) : Sub2 l r ∧ ls.length = n := by
  unfold rdLevels at h
  split at h
  · cases h
  · cases h
    exact ⟨⟨_, rfl⟩, lvsAt_len _ _⟩
theorem rdNode_some {k : Nat} {left left' : Int} {r r' : List Nat} {nd : ND} (hk : k ≤ 9) (h : rdNode k left r = some (nd, left', r')) : Sub2 r r' ∧ left' ≤ left ∧ left - 4 ≤ left' ∧ nd.a ≤ 3 ∧ nd.ls.length ≤ 4 ∧ nd.s.size ≤ 32 ∧ 0 ≤ nd.n ∧ nd.n ≤ 1099511627776 := by
  have hkk : k = 0 ∨ k = 1 ∨ k = 2 ∨ k = 3 ∨ k = 4 ∨ k = 5 ∨ k = 6 ∨ k = 7 ∨ k = 8 ∨ k = 9 := by omega
  have h0 : noS.size ≤ 32 := Nat.zero_le _
  rcases hkk with rfl | rfl | rfl | rfl | rfl | rfl | rfl | rfl | rfl | rfl <;> simp only [rdNode] at h
  · cases h; exact ⟨Sub2.refl _, by omega, by omega, by simp, by simp, h0, by simp, by simp⟩
  · cases hr : rdNum 1099511627776 r with
    | none => rw [hr] at h; cases h
    | some q =>
      obtain ⟨n, r1⟩ := q
      rw [hr] at h
      cases h
      obtain ⟨g1, g2⟩ := rdNum_sub2 hr
      exact ⟨g1, by omega, by omega, by simp, by simp, h0, by simp, by simp only; omega⟩
  · cases h; exact ⟨Sub2.refl _, by omega, by omega, by simp, by simp, h0, by simp, by simp⟩
  · cases hr : rdLevels 1 r with
    | none => rw [hr] at h; cases h
    | some q =>
      obtain ⟨ls, r1⟩ := q
      rw [hr] at h
      cases h
      obtain ⟨g1, g2⟩ := rdLevels_some hr
      exact ⟨g1, by omega, by omega, by simp, by simp only; omega, h0, by simp, by simp⟩
  · cases hr : rdName r with
    | none => rw [hr] at h; cases h
    | some q =>
      obtain ⟨s, r1⟩ := q
      rw [hr] at h
      obtain ⟨g1, g2⟩ := rdName_some hr
      simp only at h
      cases hr2 : rdByte 4 r1 with
      | none => rw [hr2] at h; cases h
      | some q =>
        obtain ⟨m, r2⟩ := q
        rw [hr2] at h
        obtain ⟨g3, g4⟩ := rdByte_sub hr2
        simp only at h
        cases hr3 : rdLevels m r2 with
        | none => rw [hr3] at h; cases h
        | some q =>
          obtain ⟨ls, r3⟩ := q
          rw [hr3] at h
          obtain ⟨g5, g6⟩ := rdLevels_some hr3
          cases h
          exact ⟨(g1.trans g3).trans g5, by omega, by omega, by simp, by simp only; omega, word_size g2, by simp, by simp⟩
  · cases h; exact ⟨Sub2.refl _, by omega, by omega, by simp, by simp, h0, by simp, by simp⟩
  · cases h; exact ⟨Sub2.refl _, by omega, by omega, by simp, by simp, h0, by simp, by simp⟩
  · cases h; exact ⟨Sub2.refl _, by omega, by omega, by simp, by simp, h0, by simp, by simp⟩
  · cases h; exact ⟨Sub2.refl _, by omega, by omega, by simp, by simp, h0, by simp, by simp⟩
  · cases hr : rdNum 31 r with
    | none => rw [hr] at h; cases h
    | some q =>
      obtain ⟨n, r1⟩ := q
      rw [hr] at h
      obtain ⟨g1, g2⟩ := rdNum_sub2 hr
      simp only at h
      cases hr2 : rdName r1 with
      | none => rw [hr2] at h; cases h
      | some q =>
        obtain ⟨s, r2⟩ := q
        rw [hr2] at h
        obtain ⟨g3, g4⟩ := rdName_some hr2
        cases h
        exact ⟨g1.trans g3, by omega, by omega, by simp, by simp, word_size g4, by simp, by simp only; omega⟩
theorem rdTerms_some {f : Int → List Nat → Option (Tm × Int × List Nat)} (hf : ∀ left l t left' l', f left l = some (t, left', l') → Sub2 l l' ∧ left' ≤ left ∧ -4 ≤ left') :
    ∀ (n : Nat) (left : Int) (l : List Nat) (ts : List Tm) (left' : Int) (l' : List Nat), -4 ≤ left → rdTerms f n left l = some (ts, left', l') → Sub2 l l' ∧ left' ≤ left ∧ -4 ≤ left' ∧ ts.length = n
  | 0, left, l, ts, left', l', h4, h => by
    cases h
    exact ⟨Sub2.refl _, by omega, h4, rfl⟩
  | n + 1, left, l, ts, left', l', h4, h => by
    rw [rdTerms] at h
    cases hr : f left l with
    | none => rw [hr] at h; cases h
    | some q =>
      obtain ⟨t, left1, l1⟩ := q
      rw [hr] at h
      obtain ⟨g1, g2, g3⟩ := hf _ _ _ _ _ hr
      simp only at h
      cases hr2 : rdTerms f n left1 l1 with
      | none => rw [hr2] at h; cases h
      | some q =>
        obtain ⟨ts2, left2, l2⟩ := q
        rw [hr2] at h
        obtain ⟨g4, g5, g6, g7⟩ := rdTerms_some hf n left1 l1 _ _ _ g3 hr2
        cases h
        exact ⟨g1.trans g4, by omega, g6, by simp [g7]⟩
theorem rdTerm_some : ∀ (fuel : Nat) (left : Int) (l : List Nat) (t : Tm) (left' : Int) (l' : List Nat), rdTerm fuel left l = some (t, left', l') → Sub2 l l' ∧ left' ≤ left ∧ -4 ≤ left'
  | 0, _, _, _, _, _, h => by cases h
  | fuel + 1, left, l, t, left', l', h => by
    rw [rdTerm] at h
    split at h
    · cases h
    · rename_i hd
      have hd := of_decide_eq_true hd
      cases hr : rdByte 9 l with
      | none => rw [hr] at h; cases h
      | some q =>
        obtain ⟨k, r⟩ := q
        rw [hr] at h
        obtain ⟨g1, g2⟩ := rdByte_sub hr
        simp only at h
        cases hr2 : rdNode k (left - 1) r with
        | none => rw [hr2] at h; cases h
        | some q =>
          obtain ⟨nd, left1, r1⟩ := q
          rw [hr2] at h
          obtain ⟨g3, g4, g5, _⟩ := rdNode_some g2 hr2
          simp only at h
          cases hr3 : rdTerms (rdTerm fuel) nd.a left1 r1 with
          | none => rw [hr3] at h; cases h
          | some q =>
            obtain ⟨ts, left2, r2⟩ := q
            rw [hr3] at h
            obtain ⟨g6, g7, g8, _⟩ := rdTerms_some (fun a b c d e he => rdTerm_some fuel a b c d e he) nd.a left1 r1 _ _ _ (by omega) hr3
            cases h
            exact ⟨(g1.trans g3).trans g6, by omega, g8⟩
end Go.Proofs.YtmkpiekbpakigaaGreatDoor
end
