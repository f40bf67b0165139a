/- The reference's term (50). -/
import Derived.Test.YtmkpiekbpakigaaGreatDoorRh
set_option linter.unusedVariables false
set_option linter.unusedSimpArgs false
namespace Go.Proofs.YtmkpiekbpakigaaGreatDoor
open Go.RowKit Go.Proofs.Base Go.Proofs.Sym

def kA (k n : Int) : List Nat := if k = 1 ∨ k = 9 then numB n.toNat else []
def kB (k : Int) (s : ByteArray) : List Nat := if k = 4 ∨ k = 9 then textN s else []
def kC (k : Int) (ls : List Lv) : List Nat := if k = 4 then [byteI ls.length] else []
theorem kind_parts (k n : Int) (s : ByteArray) (ls : List Lv) : kindN k n s ls = (kA k n ++ kB k s) ++ kC k ls := by
  unfold kindN kA kB kC
  by_cases h1 : k = 1
  · subst h1; simp
  by_cases h9 : k = 9
  · subst h9; simp
  by_cases h4 : k = 4
  · subst h4; simp
  simp [h1, h9, h4]
set_option maxHeartbeats 4000000 in
theorem termR_lc (t : TT) (hw : wT t.tm ≤ 1000000) (hok : PutOk t.tm) : LCall Tryz.prog 50 [ttA t] [] 0 (fun w => TTIn w t) (fun _ : Unit => True) (fun _ => rowRes (putT t.tm)) := by
  induction hsz : SizeOf.sizeOf t using Nat.strongRecOn generalizing t with
  | _ z ih =>
  obtain ⟨k, n, s, la, lc, ls, aa, ac, us⟩ := t
  subst hsz
  rw [tt_tm] at hw hok
  have hspec : putT (TT.mk k n s la lc ls aa ac us).tm = byteI k :: (kindN k n s ls ++ (lvsN ls ++ putTs (us.map TT.tm))) := by rw [tt_tm, putT]
  rw [hspec]
  unfold PutOk at hok
  obtain ⟨hok, hoks⟩ := hok
  rw [List.length_map] at hok
  unfold wT at hw
  have hkl := kindN_len hok
  have hll := hok.levels
  have hal := hok.args
  have hnm := hok.name
  have hnum := hok.num
  have htl := textN_len s
  have hpl := putTs_len _ hoks
  have hlsl := lvsN_len ls
  rw [kind_parts] at hkl ⊢
  have hsmall : s.size ≤ 1000 := by omega
  have hA1 : (k = 1 ∨ k = 9) → kA k n = numB n.toNat := fun h => by rw [kA, if_pos h]
  have hA2 : ¬ (k = 1 ∨ k = 9) → kA k n = [] := fun h => by rw [kA, if_neg h]
  have hB1 : (k = 4 ∨ k = 9) → kB k s = textN s := fun h => by rw [kB, if_pos h]
  have hB2 : ¬ (k = 4 ∨ k = 9) → kB k s = [] := fun h => by rw [kB, if_neg h]
  have hC1 : k = 4 → kC k ls = [byteI ls.length] := fun h => by rw [kC, if_pos h]
  have hC2 : ¬ k = 4 → kC k ls = [] := fun h => by rw [kC, if_neg h]
  obtain ⟨KA, hKA⟩ : ∃ x, kA k n = x := ⟨_, rfl⟩
  obtain ⟨KB, hKB⟩ : ∃ x, kB k s = x := ⟨_, rfl⟩
  obtain ⟨KC, hKC⟩ : ∃ x, kC k ls = x := ⟨_, rfl⟩
  rw [hKA] at hA1 hA2
  rw [hKB] at hB1 hB2
  rw [hKC] at hC1 hC2
  rw [hKA, hKB, hKC] at hkl ⊢
  clear hKA hKB hKC hspec
  simp only [List.length_append] at hkl
  refine lcall_of tabOk 77 [.tmp 2] Tryz.func50 rfl rfl (by kernel_rfl) rfl _ (Nat.le_of_ble_eq_true rfl) (TTIn.upS _) ?_
  refine svc_ok tabOk [2] _ _ _ ?_
  refine Walks.ent (st' := { s := [(1, .one (.p 0 0)), (3, .one (.row 1))], m := [(0, .cells 25 ((TT.mk k n s la lc ls aa ac us).cells.map SA.v)), (1, .own 5 1 ([byteI k]).length (bc ([byteI k])))], k := 2, f := [fun w => TTIn w (TT.mk k n s la lc ls aa ac us)] }) (Ent.trans (ent_own 3 1 1 1 rfl rfl rfl (by decide) rfl) (ent_ren [(0, .blk 0), (1, .own 2)] rfl rfl rfl rfl (Nat.le_of_ble_eq_true rfl) ⟨⟨_, rfl, rfl⟩, ⟨_, rfl, rfl⟩, trivial⟩ ⟨⟨_, rfl, rfl⟩, ⟨_, _, rfl, rfl, by rw [byteI_ok]; rfl⟩, trivial⟩ ⟨⟨TTIn.upS _, fun w h => h.1⟩, trivial⟩)) ?_
  refine Walks.cut ({ s := [(1, .one (.p 0 0)), (3, .one (.row 1))], m := [(0, .cells 25 ((TT.mk k n s la lc ls aa ac us).cells.map SA.v)), (1, .own 5 1 (byteI k :: KA).length (bc (byteI k :: KA)))], k := 2, f := [fun w => TTIn w (TT.mk k n s la lc ls aa ac us)] }) ?_ ?_
  · refine svc_ok tabOk [] _ _ _ ?_
    refine bsplit_i (fun h1 => ?_) (fun h1 => ?_)
    · have h1 : decide (k = 1) = true := h1
      have h1 := of_decide_eq_true h1
      have hb := hnum (.inl h1)
      have hKA := hA1 (.inl h1)
      subst hKA
      obtain ⟨N, rfl⟩ : ∃ N : Nat, n = N := ⟨n.toNat, by omega⟩
      have hnl := numB_len N
      refine callVC_plain (numR_pc N (by omega)) (fun _ => rfl) (fun _ _ => trivial) ?_
      rintro r ⟨A, c, rfl, hA0⟩
      refine ⟨{ cs := bc (numB N) }, ⟨⟨by rw [bc_len]; exact (Nat.mul_one _).symm, bc_one _, hA0, fun w h => (h.1 _ _ rfl).cells⟩, Nat.one_pos, .inr rfl, ?_, ?_⟩, ?_⟩
      · show ([byteI k]).length + (numB N).length ≤ maxLen
        simp only [maxLen, List.length_cons, List.length_append, List.length_nil]; omega
      · show (([byteI k]).length + (numB N).length) * 1 ≤ _
        simp only [List.length_cons, List.length_append, List.length_nil]; omega
      exact ent_ren [(0, .blk 0), (1, .own 2)] rfl rfl rfl rfl (Nat.le_of_ble_eq_true rfl) ⟨⟨_, rfl, rfl⟩, ⟨_, rfl, rfl⟩, trivial⟩ ⟨⟨_, rfl, rfl⟩, ⟨_, _, rfl, by simp; omega, by simp [bc]⟩, trivial⟩ ⟨⟨TTIn.upS _, fun w h => h.2.1⟩, trivial⟩
    have h1 : decide (k = 1) = false := h1
    have h1 := of_decide_eq_false h1
    refine bsplit_i (fun h9 => ?_) (fun h9 => ?_)
    · have h9 : decide (k = 9) = true := h9
      have h9 := of_decide_eq_true h9
      have hb := hnum (.inr h9)
      have hKA := hA1 (.inr h9)
      subst hKA
      obtain ⟨N, rfl⟩ : ∃ N : Nat, n = N := ⟨n.toNat, by omega⟩
      have hnl := numB_len N
      refine callVC_plain (numR_pc N (by omega)) (fun _ => rfl) (fun _ _ => trivial) ?_
      rintro r ⟨A, c, rfl, hA0⟩
      refine ⟨{ cs := bc (numB N) }, ⟨⟨by rw [bc_len]; exact (Nat.mul_one _).symm, bc_one _, hA0, fun w h => (h.1 _ _ rfl).cells⟩, Nat.one_pos, .inr rfl, ?_, ?_⟩, ?_⟩
      · show ([byteI k]).length + (numB N).length ≤ maxLen
        simp only [maxLen, List.length_cons, List.length_append, List.length_nil]; omega
      · show (([byteI k]).length + (numB N).length) * 1 ≤ _
        simp only [List.length_cons, List.length_append, List.length_nil]; omega
      exact ent_ren [(0, .blk 0), (1, .own 2)] rfl rfl rfl rfl (Nat.le_of_ble_eq_true rfl) ⟨⟨_, rfl, rfl⟩, ⟨_, rfl, rfl⟩, trivial⟩ ⟨⟨_, rfl, rfl⟩, ⟨_, _, rfl, by simp; omega, by simp [bc]⟩, trivial⟩ ⟨⟨TTIn.upS _, fun w h => h.2.1⟩, trivial⟩
    have h9 : decide (k = 9) = false := h9
    have h9 := of_decide_eq_false h9
    have hKA := hA2 (by omega)
    subst hKA
    exact ent_ren [(0, .blk 0), (1, .own 1)] rfl rfl rfl rfl (Nat.le_of_ble_eq_true rfl) ⟨⟨_, rfl, rfl⟩, ⟨_, rfl, rfl⟩, trivial⟩ ⟨⟨_, rfl, rfl⟩, ⟨_, _, rfl, rfl, rfl⟩, trivial⟩ ⟨⟨TTIn.upS _, fun w h => h.1⟩, trivial⟩
  refine Walks.cut ({ s := [(1, .one (.p 0 0)), (3, .one (.row 1))], m := [(0, .cells 25 ((TT.mk k n s la lc ls aa ac us).cells.map SA.v)), (1, .own 5 1 (byteI k :: (KA ++ KB)).length (bc (byteI k :: (KA ++ KB))))], k := 2, f := [fun w => TTIn w (TT.mk k n s la lc ls aa ac us)] }) ?_ ?_
  · refine svc_ok tabOk [] _ _ _ ?_
    refine bsplit_i (fun h4 => ?_) (fun h4 => ?_)
    · have h4 : decide (k = 4) = true := h4
      have h4 := of_decide_eq_true h4
      have hKB := hB1 (.inl h4)
      subst hKB
      refine callVC_plain (textR_pc s hsmall) (fun _ => rfl) (fun _ _ => trivial) ?_
      rintro r ⟨A, c, rfl, hA0⟩
      refine ⟨{ cs := bc (textN s) }, ⟨⟨by rw [bc_len]; exact (Nat.mul_one _).symm, bc_one _, hA0, fun w h => (h.1 _ _ rfl).cells⟩, Nat.one_pos, .inr rfl, ?_, ?_⟩, ?_⟩
      · show (byteI k :: KA).length + (textN s).length ≤ maxLen
        simp only [maxLen, List.length_cons, List.length_append, List.length_nil]; omega
      · show ((byteI k :: KA).length + (textN s).length) * 1 ≤ _
        simp only [List.length_cons, List.length_append, List.length_nil]; omega
      exact ent_ren [(0, .blk 0), (1, .own 2)] rfl rfl rfl rfl (Nat.le_of_ble_eq_true rfl) ⟨⟨_, rfl, rfl⟩, ⟨_, rfl, rfl⟩, trivial⟩ ⟨⟨_, rfl, rfl⟩, ⟨_, _, rfl, by simp; omega, by simp [bc]⟩, trivial⟩ ⟨⟨TTIn.upS _, fun w h => h.2.1⟩, trivial⟩
    have h4 : decide (k = 4) = false := h4
    have h4 := of_decide_eq_false h4
    refine bsplit_i (fun h9 => ?_) (fun h9 => ?_)
    · have h9 : decide (k = 9) = true := h9
      have h9 := of_decide_eq_true h9
      have hKB := hB1 (.inr h9)
      subst hKB
      refine callVC_plain (textR_pc s hsmall) (fun _ => rfl) (fun _ _ => trivial) ?_
      rintro r ⟨A, c, rfl, hA0⟩
      refine ⟨{ cs := bc (textN s) }, ⟨⟨by rw [bc_len]; exact (Nat.mul_one _).symm, bc_one _, hA0, fun w h => (h.1 _ _ rfl).cells⟩, Nat.one_pos, .inr rfl, ?_, ?_⟩, ?_⟩
      · show (byteI k :: KA).length + (textN s).length ≤ maxLen
        simp only [maxLen, List.length_cons, List.length_append, List.length_nil]; omega
      · show ((byteI k :: KA).length + (textN s).length) * 1 ≤ _
        simp only [List.length_cons, List.length_append, List.length_nil]; omega
      exact ent_ren [(0, .blk 0), (1, .own 2)] rfl rfl rfl rfl (Nat.le_of_ble_eq_true rfl) ⟨⟨_, rfl, rfl⟩, ⟨_, rfl, rfl⟩, trivial⟩ ⟨⟨_, rfl, rfl⟩, ⟨_, _, rfl, by simp; omega, by simp [bc]⟩, trivial⟩ ⟨⟨TTIn.upS _, fun w h => h.2.1⟩, trivial⟩
    have h9 : decide (k = 9) = false := h9
    have h9 := of_decide_eq_false h9
    have hKB := hB2 (by omega)
    subst hKB
    exact ent_ren [(0, .blk 0), (1, .own 1)] rfl rfl rfl rfl (Nat.le_of_ble_eq_true rfl) ⟨⟨_, rfl, rfl⟩, ⟨_, rfl, rfl⟩, trivial⟩ ⟨⟨_, rfl, rfl⟩, ⟨_, _, rfl, by simp, by simp⟩, trivial⟩ ⟨⟨TTIn.upS _, fun w h => h.1⟩, trivial⟩
  refine Walks.cut ({ s := [(1, .one (.p 0 0)), (3, .one (.row 1))], m := [(0, .cells 25 ((TT.mk k n s la lc ls aa ac us).cells.map SA.v)), (1, .own 5 1 (byteI k :: ((KA ++ KB) ++ KC)).length (bc (byteI k :: ((KA ++ KB) ++ KC))))], k := 2, f := [fun w => TTIn w (TT.mk k n s la lc ls aa ac us)] }) ?_ ?_
  · refine svc_ok tabOk [] _ _ _ ?_
    refine bsplit_i (fun h4 => ?_) (fun h4 => ?_)
    · have h4 : decide (k = 4) = true := h4
      have h4 := of_decide_eq_true h4
      have hKC := hC1 h4
      subst hKC
      refine ⟨{}, ⟨trivial, Nat.one_pos, .inr rfl, ?_, ?_⟩, ?_⟩
      · show (byteI k :: (KA ++ KB)).length + 1 ≤ maxLen
        simp only [maxLen, List.length_cons, List.length_append]; omega
      · show ((byteI k :: (KA ++ KB)).length + 1) * 1 ≤ _
        simp only [List.length_cons, List.length_append]; omega
      exact ent_ren [(0, .blk 0), (1, .own 3)] rfl rfl rfl rfl (Nat.le_of_ble_eq_true rfl) ⟨⟨_, rfl, rfl⟩, ⟨_, rfl, rfl⟩, trivial⟩ ⟨⟨_, rfl, rfl⟩, ⟨_, _, rfl, by simp; omega, by simp [bc, byteI_ok]⟩, trivial⟩ ⟨⟨TTIn.upS _, fun w h => h.1⟩, trivial⟩
    have h4 : decide (k = 4) = false := h4
    have h4 := of_decide_eq_false h4
    have hKC := hC2 h4
    subst hKC
    exact ent_ren [(0, .blk 0), (1, .own 1)] rfl rfl rfl rfl (Nat.le_of_ble_eq_true rfl) ⟨⟨_, rfl, rfl⟩, ⟨_, rfl, rfl⟩, trivial⟩ ⟨⟨_, rfl, rfl⟩, ⟨_, _, rfl, by simp, by simp⟩, trivial⟩ ⟨⟨TTIn.upS _, fun w h => h.1⟩, trivial⟩
  clear hA1 hA2 hB1 hB2 hC1 hC2
  obtain ⟨K, hK⟩ : ∃ K, (KA ++ KB) ++ KC = K := ⟨_, rfl⟩
  have hkl : K.length ≤ 46 := by rw [← hK]; simp only [List.length_append]; omega
  rw [hK]
  clear hK
  refine Walks.cut ({ s := [(1, .one (.p 0 0)), (3, .one (.row 1))], m := [(0, .cells 25 ((TT.mk k n s la lc ls aa ac us).cells.map SA.v)), (1, .own 5 1 (byteI k :: (K ++ lvsN ls)).length (bc (byteI k :: (K ++ lvsN ls))))], k := 2, f := [fun w => TTIn w (TT.mk k n s la lc ls aa ac us)] }) ?_ ?_
  · refine svc_ok tabOk [] _ _ _ ?_
    refine ⟨⟨Nat, fun j => j ≤ ls.length, fun j => { s := [(1, .one (.p 0 0)), (3, .one (.row 1)), (4, .one (.v (.int .i64 (j : Int))))], m := [(0, .cells 25 ((TT.mk k n s la lc ls aa ac us).cells.map SA.v)), (1, .own 5 1 (byteI k :: (K ++ lvsN (ls.take j))).length (bc (byteI k :: (K ++ lvsN (ls.take j)))))], k := 2, f := [fun w => TTIn w (TT.mk k n s la lc ls aa ac us)] }, fun j => ls.length - j, ⟨0, Nat.zero_le _, ent_ren [(0, .blk 0), (1, .own 1)] rfl rfl rfl rfl (Nat.le_of_ble_eq_true rfl) ⟨⟨_, rfl, rfl⟩, ⟨_, rfl, rfl⟩, ⟨_, rfl, rfl⟩, trivial⟩ ⟨⟨_, rfl, rfl⟩, ⟨_, _, rfl, by simp [lvsN], by simp [lvsN]⟩, trivial⟩ ⟨⟨TTIn.upS _, fun w h => h.1⟩, trivial⟩⟩, ?_⟩⟩
    rintro j hj
    refine bsplit_i (fun hlt => ?_) (fun hge => ?_)
    rotate_left
    · have hge : ls.length ≤ j := by
        have h : decide ((j : Int) < (ls.length : Int)) = false := hge
        have := of_decide_eq_false h
        omega
      exact ent_ren [(0, .blk 0), (1, .own 1)] rfl rfl rfl rfl (Nat.le_of_ble_eq_true rfl) ⟨⟨_, rfl, rfl⟩, ⟨_, rfl, rfl⟩, trivial⟩ ⟨⟨_, rfl, rfl⟩, ⟨_, _, rfl, by rw [List.take_of_length_le hge], by rw [List.take_of_length_le hge]⟩, trivial⟩ ⟨⟨TTIn.upS _, fun w h => h.1⟩, trivial⟩
    have hlt : j < ls.length := by
      have h : decide ((j : Int) < (ls.length : Int)) = true := hlt
      have := of_decide_eq_true h
      omega
    obtain ⟨l, hl⟩ : ∃ l, ls[j]? = some l := ⟨_, List.getElem?_eq_getElem hlt⟩
    have htk := lvsN_take hl
    have hlj : (lvsN (ls.take j)).length = 5 * j := by rw [lvsN_len, List.length_take]; omega
    have hl5 : (lvN l).length = 5 := rfl
    have hlv := levelR_pc l
    obtain ⟨Y, hY⟩ : ∃ Y, lvN l = Y := ⟨_, rfl⟩
    rw [hY] at hlv htk hl5
    refine ⟨{ n := j }, ⟨rfl, hlt, fun w h => ?_⟩, ?_⟩
    · obtain ⟨a, ha, _⟩ := lvRow_at h.1.node.hls hl
      rw [ha]; rfl
    refine ⟨{ cs := lvCells l }, ⟨lvCells_one l, rfl, fun w h => ?_⟩, ?_⟩
    · obtain ⟨a, ha, hc⟩ := lvRow_at h.1.node.hls hl
      exact ⟨_, by rw [ha]; rfl, hc⟩
    refine callVC_plain hlv (fun _ => rfl) (fun _ _ => trivial) ?_
    rintro r ⟨A, c, rfl, hA0⟩
    refine ⟨{ cs := bc Y }, ⟨⟨by rw [bc_len]; exact (Nat.mul_one _).symm, bc_one _, hA0, fun w h => (h.1 _ _ rfl).cells⟩, Nat.one_pos, .inr rfl, ?_, ?_⟩, ?_⟩
    · show (byteI k :: (K ++ lvsN (ls.take j))).length + (Y).length ≤ maxLen
      simp only [maxLen, List.length_cons, List.length_append, List.length_nil]; omega
    · show ((byteI k :: (K ++ lvsN (ls.take j))).length + (Y).length) * 1 ≤ _
      simp only [List.length_cons, List.length_append, List.length_nil]; omega
    refine ⟨j + 1, hlt, by simp only; omega, ?_⟩
    exact ent_ren [(0, .blk 0), (1, .own 2)] rfl rfl rfl rfl (Nat.le_of_ble_eq_true rfl) ⟨⟨_, rfl, rfl⟩, ⟨_, rfl, rfl⟩, ⟨_, rfl, oneI (wrapI (by omega) (by omega))⟩, trivial⟩ ⟨⟨_, rfl, rfl⟩, ⟨_, _, rfl, by rw [htk]; simp only [List.length_cons, List.length_append]; omega, by rw [htk]; simp [bc]⟩, trivial⟩ ⟨⟨TTIn.upS _, fun w h => h.2.1⟩, trivial⟩
  refine svc_ok tabOk [] _ _ _ ?_
  refine ⟨⟨Nat, fun j => j ≤ us.length, fun j => { s := [(1, .one (.p 0 0)), (3, .one (.row 1)), (5, .one (.v (.int .i64 (j : Int))))], m := [(0, .cells 25 ((TT.mk k n s la lc ls aa ac us).cells.map SA.v)), (1, .own 5 1 (byteI k :: (K ++ (lvsN ls ++ putTs ((us.map TT.tm).take j)))).length (bc (byteI k :: (K ++ (lvsN ls ++ putTs ((us.map TT.tm).take j))))))], k := 2, f := [fun w => TTIn w (TT.mk k n s la lc ls aa ac us)] }, fun j => us.length - j, ⟨0, Nat.zero_le _, ent_ren [(0, .blk 0), (1, .own 1)] rfl rfl rfl rfl (Nat.le_of_ble_eq_true rfl) ⟨⟨_, rfl, rfl⟩, ⟨_, rfl, rfl⟩, ⟨_, rfl, rfl⟩, trivial⟩ ⟨⟨_, rfl, rfl⟩, ⟨_, _, rfl, by simp [putTs], by simp [putTs]⟩, trivial⟩ ⟨⟨TTIn.upS _, fun w h => h.1⟩, trivial⟩⟩, ?_⟩⟩
  rintro j hj
  refine bsplit_i (fun hlt => ?_) (fun hge => ?_)
  rotate_left
  · have hge : us.length ≤ j := by
      have h : decide ((j : Int) < (us.length : Int)) = false := hge
      have := of_decide_eq_false h
      omega
    refine ⟨_, rfl, (), trivial, rfl, ?_⟩
    have he : (us.map TT.tm).take j = us.map TT.tm := List.take_of_length_le (by simpa using hge)
    exact ent_ren [(0, .own 1)] rfl rfl rfl rfl (Nat.zero_le _) ⟨⟨_, rfl, rfl⟩, trivial⟩ ⟨⟨_, _, rfl, by rw [he], by rw [he]⟩, trivial⟩ ⟨⟨Up.true, fun _ _ => trivial⟩, trivial⟩
  have hlt : j < us.length := by
    have h : decide ((j : Int) < (us.length : Int)) = true := hlt
    have := of_decide_eq_true h
    omega
  obtain ⟨u, hu⟩ : ∃ u, us[j]? = some u := ⟨_, List.getElem?_eq_getElem hlt⟩
  have hum : (us.map TT.tm)[j]? = some u.tm := by rw [List.getElem?_map, hu]; rfl
  have htk := putTs_take hum
  have hwj := wTs_take hum
  have hokj := putOks_mem hoks (List.mem_of_getElem? hum)
  have hpj := putTs_len _ (putOks_take j hoks)
  have hpu := putT_len _ hokj
  have hrec := PCall.of_row (vals := [u.val]) (enters Tryz.func50 (by kernel_rfl) (by kernel_rfl)) (ih _ (tt_size (List.mem_of_getElem? hu)) u (by omega) hokj rfl) (fun e => by
    show [Value.agg (reals e (u.cells.map SA.v)).toArray] = _
    rw [map_plain]
    rfl) (fun x hx => by
    rw [List.mem_singleton.1 hx]
    intro x hx
    obtain ⟨q, hq, rfl⟩ := List.mem_map.1 hx
    exact TT.cells_one u q hq)
  obtain ⟨Y, hY⟩ : ∃ Y, putT u.tm = Y := ⟨_, rfl⟩
  rw [hY] at hrec htk hpu
  obtain ⟨T, hT⟩ : ∃ T, putTs ((us.map TT.tm).take j) = T := ⟨_, rfl⟩
  have hTl : T.length + Y.length ≤ 1000000 := by rw [← hT]; omega
  obtain ⟨uk, un, uname, ula, ulc, uls, uaa, uac, uus⟩ := u
  refine ⟨{ n := j }, ⟨rfl, hlt, fun w h => ?_⟩, ?_⟩
  · obtain ⟨⟨a, ha, _⟩, _⟩ := h.1.arg hu
    rw [ha]
    rfl
  refine ⟨{ cs := (TT.mk uk un uname ula ulc uls uaa uac uus).cells }, ⟨TT.cells_one (TT.mk uk un uname ula ulc uls uaa uac uus), rfl, fun w h => ?_⟩, ?_⟩
  · obtain ⟨⟨a, ha, hc⟩, _⟩ := h.1.arg hu
    exact ⟨_, by rw [ha]; rfl, hc⟩
  refine callVC_plain hrec (fun _ => rfl) (fun w h => (h.1.arg hu).2) ?_
  rintro r ⟨A, c, rfl, hA0⟩
  refine ⟨{ cs := bc Y }, ⟨⟨by rw [bc_len]; exact (Nat.mul_one _).symm, bc_one _, hA0, fun w h => (h.1 _ _ rfl).cells⟩, Nat.one_pos, .inr rfl, ?_, ?_⟩, ?_⟩
  · show (byteI k :: (K ++ (lvsN ls ++ putTs ((us.map TT.tm).take j)))).length + (Y).length ≤ maxLen
    rw [hT]; simp only [maxLen, List.length_cons, List.length_append, List.length_nil]; omega
  · show ((byteI k :: (K ++ (lvsN ls ++ putTs ((us.map TT.tm).take j)))).length + (Y).length) * 1 ≤ _
    rw [hT]; simp only [List.length_cons, List.length_append, List.length_nil]; omega
  refine ⟨j + 1, hlt, by simp only; omega, ?_⟩
  exact ent_ren [(0, .blk 0), (1, .own 2)] rfl rfl rfl rfl (Nat.le_of_ble_eq_true rfl) ⟨⟨_, rfl, rfl⟩, ⟨_, rfl, rfl⟩, ⟨_, rfl, oneI (wrapI (by omega) (by omega))⟩, trivial⟩ ⟨⟨_, rfl, rfl⟩, ⟨_, _, rfl, by rw [htk]; simp only [List.length_cons, List.length_append]; omega, by rw [htk]; simp [bc]⟩, trivial⟩ ⟨⟨TTIn.upS _, fun w h => h.2.1⟩, trivial⟩
end Go.Proofs.YtmkpiekbpakigaaGreatDoor
