/- Levels in place of parameters: the plain law of the statement LevelInsts. -/
import Derived.Test.YtmkpiekbpakigaaDoorLv12
set_option linter.unusedVariables false
set_option linter.unusedSimpArgs false
namespace Go.Proofs.YtmkpiekbpakigaaDoor
open Go.RowKit Go.Proofs.Base

theorem Lv.up_of {b : Lv} {n : Int} (h : (Lv.up b n).2 = true) : b.right = true ∧ 0 ≤ n ∧ n ≤ 100 - b.b ∧ (Lv.up b n).1 = ⟨b.b + n, Lv.up1 b.p0 n, Lv.up1 b.p1 n, Lv.up1 b.p2 n, Lv.up1 b.p3 n⟩ := by
  unfold Lv.up at *
  split at h
  · rename_i hc
    rw [if_pos hc]
    exact ⟨hc.1, hc.2.1, hc.2.2, rfl⟩
  · cases h
theorem Lv.p_up {b : Lv} {n : Int} (h : (Lv.up b n).2 = true) (k : Nat) : (Lv.up b n).1.p k = Lv.up1 (b.p k) n := by
  rw [(Lv.up_of h).2.2.2]
  unfold Lv.p
  split <;> rfl
theorem Lv.up_right {b : Lv} {n : Int} (h : (Lv.up b n).2 = true) : (Lv.up b n).1.right = true := by
  obtain ⟨hr, h0, h1, he⟩ := Lv.up_of h
  have hb := Lv.right_bd hr
  rw [he]
  unfold Lv.right Lv.up1
  simp only [decide_eq_true_eq]
  refine ⟨?_, ?_, ?_, ?_, ?_, ?_⟩ <;> (repeat' split) <;> omega
theorem valGo_up {b : Lv} {n : Int} (h : (Lv.up b n).2 = true) (vals : List Int) : ∀ k, (Lv.up b n).1.valGo vals k = b.valGo vals k + n
  | 0 => by
    rw [Lv.valGo, Lv.valGo, (Lv.up_of h).2.2.2]
  | k + 1 => by
    obtain ⟨hr, h0, h1, he⟩ := Lv.up_of h
    have ih := valGo_up h vals k
    have hp := Lv.p_up h k
    have hge := Lv.p_ge hr k
    by_cases e1 : b.p k = -1
    · rw [valGo_pos b vals k e1, valGo_pos _ vals k (by rw [hp, up1_yes e1, e1]), ih]
    · rw [valGo_neg b vals k e1, valGo_neg _ vals k (by rw [hp, up1_no e1]; omega), ih, hp, up1_no e1]
      unfold mxi
      repeat' split
      all_goals omega
theorem value_up {b : Lv} {n : Int} (h : (Lv.up b n).2 = true) (vals : List Int) : (Lv.up b n).1.value vals = b.value vals + n := by
  unfold Lv.value
  rw [if_pos (Lv.up_right h), if_pos (Lv.up_of h).1]
  exact valGo_up h vals _
theorem valGo_ge {b : Lv} (vals : List Int) : ∀ k, b.b ≤ b.valGo vals k
  | 0 => Int.le_refl _
  | k + 1 => by
    have ih := valGo_ge (b := b) vals k
    by_cases e1 : b.p k = -1
    · rw [valGo_pos b vals k e1]; exact ih
    · rw [valGo_neg b vals k e1]
      exact Int.le_trans ih (le_mxi_l _ _)
theorem value_nonneg (b : Lv) (vals : List Int) : 0 ≤ b.value vals := by
  unfold Lv.value
  split
  · rename_i hr
    have := (Lv.right_bd hr).2.2.2.2.1
    exact Int.le_trans this (valGo_ge vals _)
  · exact Int.le_refl _
theorem num_right {n : Int} (h0 : 0 ≤ n) (h1 : n ≤ 100) : (Lv.num n).right = true := by
  unfold Lv.right Lv.num
  simp only [decide_eq_true_eq]
  omega
theorem valGo_num (n : Int) (vals : List Int) : ∀ k, (Lv.num n).valGo vals k = n
  | 0 => rfl
  | k + 1 => by
    rw [valGo_pos _ vals k (by unfold Lv.p Lv.num; split <;> rfl), valGo_num n vals k]
theorem value_num {n : Int} (h0 : 0 ≤ n) (h1 : n ≤ 100) (vals : List Int) : (Lv.num n).value vals = n := by
  unfold Lv.value
  rw [if_pos (num_right h0 h1), valGo_num]
theorem value_fold (vals : List Int) : ∀ (ps : List Lv) (acc : Lv), acc.right = true → (∀ p ∈ ps, p.right = true) → (ps.foldl Lv.max2 acc).right = true ∧ (ps.foldl Lv.max2 acc).value vals = ps.foldl (fun a p => mxi a (p.value vals)) (acc.value vals)
  | [], acc, ha, _ => ⟨ha, rfl⟩
  | p :: r, acc, ha, hp => by
    have h1 := hp p List.mem_cons_self
    have h2 := Lv.max2_right ha h1
    have ih := value_fold vals r (acc.max2 p) h2 (fun q hq => hp q (List.mem_cons_of_mem _ hq))
    simp only [List.foldl_cons]
    rw [ih.2, Lv.value_max ha h1]
    exact ⟨ih.1, rfl⟩
theorem clampv_id {v : Int} (h0 : 0 ≤ v) (h1 : v ≤ 1048576) : clampv v = v := by
  unfold clampv mni mxi
  split <;> split <;> omega
theorem instGo_law (l : Lv) (hl : l.right = true) (bs : List Lv) (vals : List Int) (hv : ∀ b ∈ bs, b.value vals ≤ 1048576) : ∀ k ps, k ≤ bs.length → l.instGo bs k = some ps →
    (∀ p ∈ ps, p.right = true) ∧ ps.foldl (fun a p => mxi a (p.value vals)) 0 = l.valGo (bs.map fun b => b.value vals) (min k 4)
  | 0, ps, _, h => by
    have hb := Lv.right_bd hl
    rw [Lv.instGo] at h
    cases h
    refine ⟨fun p hp => by rw [List.mem_singleton.1 hp]; exact num_right (by omega) (by omega), ?_⟩
    simp only [List.foldl_cons, List.foldl_nil, Nat.zero_min]
    rw [value_num (by omega) (by omega), mxi_r (by omega)]
    rfl
  | k + 1, ps, hk, h => by
    rw [Lv.instGo] at h
    cases h1 : l.instGo bs k with
    | none => rw [h1] at h; simp at h
    | some qs =>
      obtain ⟨ih1, ih2⟩ := instGo_law l hl bs vals hv k qs (by omega) h1
      have hbk : bs[k]? = some bs[k] := List.getElem?_eq_getElem (by omega)
      rw [h1, hbk] at h
      simp only at h
      split at h
      · cases h
      · rename_i hr
        have hr : bs[k].right = true := by simpa using hr
        split at h
        · rename_i hc
          cases h
          refine ⟨ih1, ?_⟩
          rw [ih2]
          by_cases h4 : 4 ≤ k
          · rw [show min k 4 = 4 by omega, show min (k + 1) 4 = 4 by omega]
          · have hp : l.p k = -1 := by
              rcases hc with hc | hc
              · omega
              · exact hc
            rw [show min k 4 = k by omega, show min (k + 1) 4 = k + 1 by omega, valGo_pos l _ k hp]
        · rename_i hc
          split at h
          · rename_i hu
            cases h
            have hk4 : k < 4 := by omega
            have hp : ¬ l.p k = -1 := fun e => hc (.inr e)
            refine ⟨fun p hp => ?_, ?_⟩
            · rcases List.mem_append.1 hp with hp | hp
              · exact ih1 p hp
              · rw [List.mem_singleton.1 hp]
                exact Lv.up_right hu
            · rw [List.foldl_append, ih2]
              simp only [List.foldl_cons, List.foldl_nil]
              rw [show min k 4 = k by omega, show min (k + 1) 4 = k + 1 by omega, valGo_neg l _ k hp, value_up hu]
              have hg : (bs.map fun b => b.value vals).getD k 0 = bs[k].value vals := by simp [List.getD, hbk]
              rw [hg, clampv_id (value_nonneg _ _) (hv _ (List.getElem_mem _))]
          · cases h
/-- THE LAW: the value of a level with others in place is that by theirs. -/
theorem inst_law {l : Lv} {bs : List Lv} {vals : List Int} (h : (l.inst bs).2 = true) : (l.inst bs).1.right = true ∧ ((∀ b ∈ bs, b.value vals ≤ 1048576) → (l.inst bs).1.value vals = l.value (bs.map fun b => b.value vals)) := by
  unfold Lv.inst at *
  split at h
  · rename_i hc
    rw [if_pos hc]
    unfold Lv.instFin at *
    cases hg : l.instGo bs bs.length with
    | none => rw [hg] at h; cases h
    | some ps =>
      simp only
      have hr : ∀ p ∈ ps, p.right = true := by
        -- with no bound on the values
        have key : ∀ k ps, k ≤ bs.length → l.instGo bs k = some ps → ∀ p ∈ ps, p.right = true := by
          intro k
          induction k with
          | zero =>
            intro ps _ h p hp
            have hb := Lv.right_bd hc.1
            rw [Lv.instGo] at h
            cases h
            rw [List.mem_singleton.1 hp]
            exact num_right (by omega) (by omega)
          | succ k ih =>
            intro ps hk h p hp
            rw [Lv.instGo] at h
            cases h1 : l.instGo bs k with
            | none => rw [h1] at h; simp at h
            | some qs =>
              have hbk : bs[k]? = some bs[k] := List.getElem?_eq_getElem (by omega)
              rw [h1, hbk] at h
              simp only at h
              split at h
              · cases h
              · split at h
                · cases h
                  exact ih _ (by omega) h1 p hp
                · split at h
                  · rename_i hu
                    cases h
                    rcases List.mem_append.1 hp with hp | hp
                    · exact ih _ (by omega) h1 p hp
                    · rw [List.mem_singleton.1 hp]
                      exact Lv.up_right hu
                  · cases h
        exact key bs.length ps (Nat.le_refl _) hg
      have hall : ps.all Lv.right = true := List.all_eq_true.2 hr
      have hm : Lv.maxl ps = ps.foldl Lv.max2 (Lv.num 0) := by unfold Lv.maxl; rw [if_pos hall]
      have hf := value_fold vals ps (Lv.num 0) (num_right (by decide) (by decide)) hr
      rw [hm]
      refine ⟨hf.1, fun hv => ?_⟩
      rw [hf.2, value_num (by decide) (by decide), (instGo_law l hc.1 bs vals hv bs.length ps (Nat.le_refl _) hg).2]
      unfold Lv.value
      rw [if_pos hc.1, List.length_map]
  · cases h
theorem inst_none {l : Lv} {bs : List Lv} (h : (l.inst bs).2 = false) : (l.inst bs).1 = ⟨0, 0, 0, 0, 0⟩ := by
  unfold Lv.inst at *
  split at h
  · rename_i hc
    rw [if_pos hc]
    unfold Lv.instFin at *
    split at h
    · cases h
    · rfl
  · rename_i hc
    rw [if_neg hc]
end Go.Proofs.YtmkpiekbpakigaaDoor
