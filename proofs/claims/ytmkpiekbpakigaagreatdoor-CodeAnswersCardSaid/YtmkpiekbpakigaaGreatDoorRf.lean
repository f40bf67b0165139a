/- The reference's Right (61), Any (48). -/
import Derived.Test.YtmkpiekbpakigaaGreatDoorRe
set_option linter.unusedVariables false
set_option linter.unusedSimpArgs false
namespace Go.Proofs.YtmkpiekbpakigaaGreatDoor
open Go.RowKit Go.Proofs.Base Go.Proofs.Sym

mutual
theorem nodesR_ok : ∀ (t : TT) (p v d : Int), allT p v d t.tm = true → nodesR 3000 t = if cntT t.tm ≤ 3000 then cntT t.tm else 3001
  | .mk k n s la lc ls aa ac us, p, v, d, h => by
    rw [tt_tm] at h ⊢
    unfold allT at h
    rw [Bool.and_eq_true] at h
    obtain ⟨_, _, _, _, _, hl⟩ := nodeB_parts h.1
    have hl := (leveled_parts hl).1
    have hl4 := (levOf_le k).2
    rw [nodesR, wrapI (n := 1 + (ls.length : Int)) (by omega) (by omega), cntT]
    rcases nodesA_ok us 0 (1 + ls.length) k p v d h.2 (by omega) (by omega) with ⟨g1, g2⟩ | ⟨g1, g2⟩
    · rw [if_neg (by omega), if_pos g1, g2]
    · rw [if_neg (show ¬ (1 + (ls.length : Int) + cntTs (us.map TT.tm) ≤ 3000) by omega)]
      split <;> omega
theorem nodesA_ok : ∀ (us : List TT) (i : Nat) (n k p v d : Int), allTs k p v d i (us.map TT.tm) = true → 0 ≤ n → n ≤ 6001 →
    (n + cntTs (us.map TT.tm) ≤ 3000 ∧ nodesA 3000 us n = n + cntTs (us.map TT.tm)) ∨ (3000 < n + cntTs (us.map TT.tm) ∧ 3000 < nodesA 3000 us n)
  | [], i, n, k, p, v, d, h, h0, h1 => by
    rw [List.map_nil, cntTs, nodesA]
    omega
  | t :: r, i, n, k, p, v, d, h, h0, h1 => by
    rw [List.map_cons] at h ⊢
    rw [allTs, Bool.and_eq_true] at h
    have h2 := nodesR_ok t _ _ _ h.1
    have h3 := cntT_pos t.tm
    have h4 := cntTs_pos (r.map TT.tm)
    rw [cntTs, nodesA]
    by_cases hn : n ≤ 3000
    · rw [if_pos hn]
      have hb : 0 ≤ nodesR 3000 t ∧ nodesR 3000 t ≤ 3001 := by rw [h2]; split <;> omega
      rw [wrapI (by omega) (by omega)]
      have ih := nodesA_ok r (i + 1) (n + nodesR 3000 t) k p v d h.2 (by omega) (by omega)
      rw [h2] at ih ⊢
      split at ih
      · rename_i hc
        rw [if_pos hc]
        omega
      · rename_i hc
        rw [if_neg hc]
        omega
    · rw [if_neg hn]
      omega
end
mutual
theorem vis_le (p v d : Int) : ∀ (t : Tm) (c : Int), allT p v d t = true → 0 ≤ c → c ≤ 3000 → (visT c t).1 ≤ c + cntT t
  | .mk k n s ls args, c, h, h0, h1 => by
    unfold allT at h
    rw [Bool.and_eq_true] at h
    obtain ⟨_, _, _, _, _, hl⟩ := nodeB_parts h.1
    have hl := (leveled_parts hl).1
    have hl4 := (levOf_le k).2
    have hc := cntB_eq (ls := ls) h0 h1 (by omega)
    have hp := cntTs_pos args
    unfold visT cntT
    by_cases hle : cntB c ls ≤ 3000
    · have hd : decide (cntB c ls ≤ 3000) = true := decide_eq_true hle
      simp only [hd]
      rw [hc] at hle ⊢
      have := viss_le k p v d args 0 (c + (1 + ls.length)) h.2 (by omega) hle
      omega
    · have hd : decide (cntB c ls ≤ 3000) = false := decide_eq_false hle
      simp only [hd]
      omega
theorem viss_le (k p v d : Int) : ∀ (ts : List Tm) (i : Nat) (c : Int), allTs k p v d i ts = true → 0 ≤ c → c ≤ 3000 → (visTs c ts).1 ≤ c + cntTs ts
  | [], i, c, _, h0, h1 => by
    unfold visTs cntTs
    simp
  | t :: r, i, c, h, h0, h1 => by
    unfold allTs at h
    rw [Bool.and_eq_true] at h
    unfold visTs cntTs
    have hle := vis_le p _ _ t c h.1 h0 h1
    have hp := cntTs_pos r
    have hp2 := cntT_pos t
    rcases vis_ok p _ _ t c h.1 h0 h1 with ⟨g1, g2, g3⟩ | ⟨g1, g2⟩
    · rw [g1]
      simp only
      rw [g2]
      have := viss_le k p v d r (i + 1) (c + cntT t) h.2 (by omega) g3
      omega
    · rw [g1]
      simp only
      omega
end
theorem nodes_eq {p v : Int} {t : TT} (h : allT p v 0 t.tm = true) : decide (nodesR 3000 t ≤ 3000) = decide (nodesV t.tm ≤ 3000) := by
  rw [decide_eq_decide, nodesR_ok t _ _ _ h]
  unfold nodesV
  rcases vis_ok p v 0 t.tm 0 h (by omega) (by omega) with ⟨g1, g2, g3⟩ | ⟨g1, g2⟩
  · rw [g2]
    repeat' split
    all_goals omega
  · have hc : ¬ cntT t.tm ≤ 3000 := by
      intro hc
      have := vis_le p v 0 t.tm 0 h (by omega) (by omega)
      omega
    rw [if_neg hc]
    split <;> omega
theorem right_eq (p v : Int) (t : TT) : rightB p v t.tm = (decide (0 ≤ p) && (decide (p ≤ 4) && (decide (0 ≤ v) && (decide (v ≤ 1099511627776) && (decide (nodesR 3000 t ≤ 3000) && allT p v 0 t.tm))))) := by
  unfold rightB
  cases h : allT p v 0 t.tm with
  | false => simp
  | true => rw [nodes_eq h]
theorem RightR_pc (p v : Int) (t : TT) : PCall Tryz.prog 61 [t.val, .int .i64 p, .int .i64 v] (fun w => TTIn w t) (fun r => r = .bool (rightB p v t.tm)) (fun _ _ => True) := by
  have hn := nodes_pc 3000 (by omega) (by omega) t
  have ha := rightR_pc p v 0 t
  have hs := right_eq p v t
  obtain ⟨Z, hZ⟩ : ∃ Z, rightB p v t.tm = Z := ⟨_, rfl⟩
  rw [hZ] at hs ⊢
  clear hZ
  obtain ⟨nr, hnr⟩ : ∃ x, nodesR 3000 t = x := ⟨_, rfl⟩
  obtain ⟨a, hae⟩ : ∃ x, allT p v 0 t.tm = x := ⟨_, rfl⟩
  rw [hnr] at hn hs
  rw [hae] at ha hs
  obtain ⟨k, n, s, la, lc, ls, aa, ac, us⟩ := t
  refine pcall_of tabOk 32 [.tmp 6] Tryz.func61 rfl rfl (by kernel_rfl) rfl _ (Nat.le_of_ble_eq_true rfl) (TTIn.upS _) (fun _ => Up.true) ?_
  refine svc_ok tabOk [] _ _ _ ?_
  refine bsplit_i (fun h1 => ?_) (fun h1 => ?_)
  rotate_left
  · exact ⟨_, rfl, Told.val (by rw [hs, show decide (0 ≤ p) = false from h1]; rfl)⟩
  refine bsplit_i (fun h2 => ?_) (fun h2 => ?_)
  rotate_left
  · exact ⟨_, rfl, Told.val (by rw [hs, show decide (0 ≤ p) = true from h1, show decide (p ≤ 4) = false from h2]; rfl)⟩
  refine bsplit_i (fun h3 => ?_) (fun h3 => ?_)
  rotate_left
  · exact ⟨_, rfl, Told.val (by rw [hs, show decide (0 ≤ p) = true from h1, show decide (p ≤ 4) = true from h2, show decide (0 ≤ v) = false from h3]; rfl)⟩
  refine bsplit_i (fun h4 => ?_) (fun h4 => ?_)
  rotate_left
  · exact ⟨_, rfl, Told.val (by rw [hs, show decide (0 ≤ p) = true from h1, show decide (p ≤ 4) = true from h2, show decide (0 ≤ v) = true from h3, show decide (v ≤ 1099511627776) = false from h4]; rfl)⟩
  rw [show decide (0 ≤ p) = true from h1, show decide (p ≤ 4) = true from h2, show decide (0 ≤ v) = true from h3, show decide (v ≤ 1099511627776) = true from h4] at hs
  refine callVC_plain hn (fun _ => rfl) (fun w h => h.1) ?_
  rintro r rfl
  refine bsplit_i (fun h5 => ?_) (fun h5 => ?_)
  rotate_left
  · exact ⟨_, rfl, Told.val (by rw [hs, show decide (nr ≤ 3000) = false from h5]; rfl)⟩
  rw [show decide (nr ≤ 3000) = true from h5] at hs
  refine callVC_plain ha (fun _ => rfl) (fun w h => h.2.1) ?_
  rintro r rfl
  exact ⟨_, rfl, Told.val (by rw [hs]; rfl)⟩
theorem AnyR_pc (t : TT) : PCall Tryz.prog 48 [t.val] (fun w => TTIn w t) (fun r => r = .bool (rightB 4 1099511627776 t.tm)) (fun _ _ => True) := by
  have hr := RightR_pc 4 1099511627776 t
  obtain ⟨Z, hZ⟩ : ∃ Z, rightB 4 1099511627776 t.tm = Z := ⟨_, rfl⟩
  rw [hZ] at hr ⊢
  obtain ⟨k, n, s, la, lc, ls, aa, ac, us⟩ := t
  refine pcall_of tabOk 5 [.tmp 2] Tryz.func48 rfl rfl (by kernel_rfl) rfl _ (Nat.le_of_ble_eq_true rfl) (TTIn.upS _) (fun _ => Up.true) ?_
  refine svc_ok tabOk [] _ _ _ ?_
  refine callVC_plain hr (fun _ => rfl) (fun w h => h.1) ?_
  rintro r rfl
  exact ⟨_, rfl, Told.val rfl⟩
end Go.Proofs.YtmkpiekbpakigaaGreatDoor
