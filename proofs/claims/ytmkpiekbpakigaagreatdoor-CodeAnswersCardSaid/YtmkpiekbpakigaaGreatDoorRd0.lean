/- The reference's Width (145), shape (143), binds (146). -/
import Derived.Test.YtmkpiekbpakigaaGreatDoorRc
set_option linter.unusedVariables false
set_option linter.unusedSimpArgs false
namespace Go.Proofs.YtmkpiekbpakigaaGreatDoor
open Go.RowKit Go.Proofs.Base Go.Proofs.Sym

def widU (l : Lv) : Nat → Int
  | 0 => 0
  | k + 1 => if 0 ≤ l.p k then ((k : Int) + 1) else widU l k
theorem widU_4 (l : Lv) : widU l 4 = l.width := by
  obtain ⟨b, p0, p1, p2, p3⟩ := l
  simp only [widU, Lv.width, Lv.p]
  (repeat' split) <;> omega
set_option maxHeartbeats 2000000 in
theorem lvWidthR_pc (l : Lv) : PCall Tryz.prog 145 [l.val] (fun _ => True) (fun r => r = .int .i64 l.width) (fun _ _ => True) := by
  have h4 := widU_4 l
  have hst : ∀ k b, decide (0 ≤ l.p k) = b → widU l (k + 1) = if b = true then ((k : Int) + 1) else widU l k := fun k b hb => by
    rw [widU]
    by_cases h : 0 ≤ l.p k
    · rw [if_pos h, if_pos (by rw [← hb, decide_eq_true h])]
    · rw [if_neg h, if_neg (by rw [← hb, decide_eq_false h]; decide)]
  have h0 : widU l 0 = 0 := rfl
  obtain ⟨W, hW⟩ : ∃ W, widU l = W := ⟨_, rfl⟩
  rw [hW] at h4 h0
  simp only [hW] at hst
  rw [← h4]
  clear hW h4
  obtain ⟨b, p0, p1, p2, p3⟩ := l
  refine pcall_of tabOk 17 [.tmp 2] Tryz.func145 rfl rfl (by kernel_rfl) rfl _ (Nat.le_of_ble_eq_true rfl) Up.true (fun _ => Up.true) ?_
  refine svc_ok tabOk [] _ _ _ ?_
  refine ⟨⟨Nat, fun j => j ≤ 4,
    fun j => { s := [(1, .one (.p 0 0)), (3, .one (.v (.int .i64 (W j)))), (4, .one (.v (.int .i64 (j : Int))))], m := [(0, .cells 102 [.v (.int .i64 b), .v (.int .i64 p0), .v (.int .i64 p1), .v (.int .i64 p2), .v (.int .i64 p3)])], k := 1, f := [] },
    fun j => 4 - j, ⟨0, Nat.zero_le _, ?_⟩, ?_⟩⟩
  · exact ent_ren [(0, .blk 0)] rfl rfl rfl rfl (Nat.le_of_ble_eq_true rfl) ⟨⟨_, rfl, rfl⟩, ⟨_, rfl, oneI h0.symm⟩, ⟨_, rfl, rfl⟩, trivial⟩ ⟨⟨_, rfl, rfl⟩, trivial⟩ trivial
  rintro j hj
  refine bsplit_i (fun hlt => ?_) (fun hge => ?_)
  rotate_left
  · have hge : j = 4 := by
      have h : decide ((j : Int) < 4) = false := hge
      have := of_decide_eq_false h
      omega
    exact ⟨_, rfl, Told.val (by rw [hge])⟩
  have hlt : j < 4 := by
    have h : decide ((j : Int) < 4) = true := hlt
    have := of_decide_eq_true h
    omega
  match j, hlt with
  | 0, _ =>
    refine ⟨{ n := 0 }, ⟨rfl, (show 0 < 4 by decide)⟩, ?_⟩
    refine bsplit_i (fun h => ?_) (fun h => ?_)
    · exact ⟨1, by decide, by decide, ent_ren [(0, .blk 0)] rfl rfl rfl rfl (Nat.le_of_ble_eq_true rfl) ⟨⟨_, rfl, rfl⟩, ⟨_, rfl, oneI (hst 0 _ h).symm⟩, ⟨_, rfl, rfl⟩, trivial⟩ ⟨⟨_, rfl, rfl⟩, trivial⟩ trivial⟩
    · exact ⟨1, by decide, by decide, ent_ren [(0, .blk 0)] rfl rfl rfl rfl (Nat.le_of_ble_eq_true rfl) ⟨⟨_, rfl, rfl⟩, ⟨_, rfl, oneI (hst 0 _ h).symm⟩, ⟨_, rfl, rfl⟩, trivial⟩ ⟨⟨_, rfl, rfl⟩, trivial⟩ trivial⟩
  | 1, _ =>
    refine ⟨{ n := 1 }, ⟨rfl, (show 1 < 4 by decide)⟩, ?_⟩
    refine bsplit_i (fun h => ?_) (fun h => ?_)
    · exact ⟨2, by decide, by decide, ent_ren [(0, .blk 0)] rfl rfl rfl rfl (Nat.le_of_ble_eq_true rfl) ⟨⟨_, rfl, rfl⟩, ⟨_, rfl, oneI (hst 1 _ h).symm⟩, ⟨_, rfl, rfl⟩, trivial⟩ ⟨⟨_, rfl, rfl⟩, trivial⟩ trivial⟩
    · exact ⟨2, by decide, by decide, ent_ren [(0, .blk 0)] rfl rfl rfl rfl (Nat.le_of_ble_eq_true rfl) ⟨⟨_, rfl, rfl⟩, ⟨_, rfl, oneI (hst 1 _ h).symm⟩, ⟨_, rfl, rfl⟩, trivial⟩ ⟨⟨_, rfl, rfl⟩, trivial⟩ trivial⟩
  | 2, _ =>
    refine ⟨{ n := 2 }, ⟨rfl, (show 2 < 4 by decide)⟩, ?_⟩
    refine bsplit_i (fun h => ?_) (fun h => ?_)
    · exact ⟨3, by decide, by decide, ent_ren [(0, .blk 0)] rfl rfl rfl rfl (Nat.le_of_ble_eq_true rfl) ⟨⟨_, rfl, rfl⟩, ⟨_, rfl, oneI (hst 2 _ h).symm⟩, ⟨_, rfl, rfl⟩, trivial⟩ ⟨⟨_, rfl, rfl⟩, trivial⟩ trivial⟩
    · exact ⟨3, by decide, by decide, ent_ren [(0, .blk 0)] rfl rfl rfl rfl (Nat.le_of_ble_eq_true rfl) ⟨⟨_, rfl, rfl⟩, ⟨_, rfl, oneI (hst 2 _ h).symm⟩, ⟨_, rfl, rfl⟩, trivial⟩ ⟨⟨_, rfl, rfl⟩, trivial⟩ trivial⟩
  | 3, _ =>
    refine ⟨{ n := 3 }, ⟨rfl, (show 3 < 4 by decide)⟩, ?_⟩
    refine bsplit_i (fun h => ?_) (fun h => ?_)
    · exact ⟨4, by decide, by decide, ent_ren [(0, .blk 0)] rfl rfl rfl rfl (Nat.le_of_ble_eq_true rfl) ⟨⟨_, rfl, rfl⟩, ⟨_, rfl, oneI (hst 3 _ h).symm⟩, ⟨_, rfl, rfl⟩, trivial⟩ ⟨⟨_, rfl, rfl⟩, trivial⟩ trivial⟩
    · exact ⟨4, by decide, by decide, ent_ren [(0, .blk 0)] rfl rfl rfl rfl (Nat.le_of_ble_eq_true rfl) ⟨⟨_, rfl, rfl⟩, ⟨_, rfl, oneI (hst 3 _ h).symm⟩, ⟨_, rfl, rfl⟩, trivial⟩ ⟨⟨_, rfl, rfl⟩, trivial⟩ trivial⟩
/-- How many levels a kind has; -1: any up to four. -/
def lvlOf (k : Int) : Int := if k = 3 then 1 else if k = 4 then -1 else 0
theorem shape_at (k : Int) (a l : Int) (h1 : argOf k = a) (h2 : lvlOf k = l) : (fun r : Value => r = .tuple #[.int .i64 a, .int .i64 l]) = fun r => r = .tuple #[.int .i64 (argOf k), .int .i64 (lvlOf k)] := by rw [h1, h2]
theorem shape_pc (k : Int) : PCall Tryz.prog 143 [.int .i64 k] (fun _ => True) (fun r => r = .tuple #[.int .i64 (argOf k), .int .i64 (lvlOf k)]) (fun _ _ => True) := by
  refine pcall_of tabOk 17 [.tmp 2, .tmp 3] Tryz.func143 rfl rfl (by kernel_rfl) rfl _ (Nat.le_of_ble_eq_true rfl) Up.true (fun _ => Up.true) ?_
  have fin : ∀ a l, argOf k = a → lvlOf k = l → Value.tuple #[.int .i64 a, .int .i64 l] = .tuple #[.int .i64 (argOf k), .int .i64 (lvlOf k)] := fun a l h1 h2 => by rw [h1, h2]
  refine svc_ok tabOk [] _ _ _ ?_
  refine bsplit_i (fun h3 => ?_) (fun h3 => ?_)
  · have h3 : decide (k = 3) = true := h3
    have h3 := of_decide_eq_true h3
    exact ⟨_, rfl, ⟨fun _ _ _ _ _ => ⟨fin 0 (1) (by subst h3; rfl) (by subst h3; rfl), trivial⟩⟩⟩
  have h3 : decide (k = 3) = false := h3
  have h3 := of_decide_eq_false h3
  refine bsplit_i (fun h4 => ?_) (fun h4 => ?_)
  · have h4 : decide (k = 4) = true := h4
    have h4 := of_decide_eq_true h4
    exact ⟨_, rfl, ⟨fun _ _ _ _ _ => ⟨fin 0 (-1) (by subst h4; rfl) (by subst h4; rfl), trivial⟩⟩⟩
  have h4 : decide (k = 4) = false := h4
  have h4 := of_decide_eq_false h4
  have hl : lvlOf k = 0 := by unfold lvlOf; rw [if_neg h3, if_neg h4]
  refine bsplit_i (fun h5 => ?_) (fun h5 => ?_)
  · have h5 : decide (k = 5) = true := h5
    have h5 := of_decide_eq_true h5
    exact ⟨_, rfl, ⟨fun _ _ _ _ _ => ⟨fin 2 0 (by subst h5; rfl) hl, trivial⟩⟩⟩
  have h5 : decide (k = 5) = false := h5
  have h5 := of_decide_eq_false h5
  refine bsplit_i (fun h6 => ?_) (fun h6 => ?_)
  · have h6 : decide (k = 6) = true := h6
    have h6 := of_decide_eq_true h6
    exact ⟨_, rfl, ⟨fun _ _ _ _ _ => ⟨fin 2 0 (by subst h6; rfl) hl, trivial⟩⟩⟩
  have h6 : decide (k = 6) = false := h6
  have h6 := of_decide_eq_false h6
  refine bsplit_i (fun h7 => ?_) (fun h7 => ?_)
  · have h7 : decide (k = 7) = true := h7
    have h7 := of_decide_eq_true h7
    exact ⟨_, rfl, ⟨fun _ _ _ _ _ => ⟨fin 2 0 (by subst h7; rfl) hl, trivial⟩⟩⟩
  have h7 : decide (k = 7) = false := h7
  have h7 := of_decide_eq_false h7
  refine bsplit_i (fun h8 => ?_) (fun h8 => ?_)
  · have h8 : decide (k = 8) = true := h8
    have h8 := of_decide_eq_true h8
    exact ⟨_, rfl, ⟨fun _ _ _ _ _ => ⟨fin 3 0 (by subst h8; rfl) hl, trivial⟩⟩⟩
  have h8 : decide (k = 8) = false := h8
  have h8 := of_decide_eq_false h8
  refine bsplit_i (fun h9 => ?_) (fun h9 => ?_)
  · have h9 : decide (k = 9) = true := h9
    have h9 := of_decide_eq_true h9
    exact ⟨_, rfl, ⟨fun _ _ _ _ _ => ⟨fin 1 0 (by subst h9; rfl) hl, trivial⟩⟩⟩
  have h9 : decide (k = 9) = false := h9
  have h9 := of_decide_eq_false h9
  exact ⟨_, rfl, ⟨fun _ _ _ _ _ => ⟨fin 0 0 (by unfold argOf; simp [h5, h6, h7, h8, h9]) hl, trivial⟩⟩⟩
def bindsB (k a : Int) : Bool := ((decide (k = 6) || decide (k = 7)) && decide (a = 1)) || (decide (k = 8) && decide (a = 2))
theorem bindsB_eq {k a : Int} (h0 : 0 ≤ a) : bindsB k a = decide (deepI k a = 1) := by
  unfold bindsB deepI boundOfK
  rw [Bool.eq_iff_iff]
  simp only [Bool.or_eq_true, Bool.and_eq_true, decide_eq_true_eq]
  repeat' split
  all_goals omega
theorem binds_pc (k a : Int) : PCall Tryz.prog 146 [.int .i64 k, .int .i64 a] (fun _ => True) (fun r => r = .bool (bindsB k a)) (fun _ _ => True) := by
  refine pcall_of tabOk 23 [.tmp 4] Tryz.func146 rfl rfl (by kernel_rfl) rfl _ (Nat.le_of_ble_eq_true rfl) Up.true (fun _ => Up.true) ?_
  have fin : ∀ b1 b2 b3 b4 b5, decide (k = 6) = b1 → decide (k = 7) = b2 → decide (a = 1) = b3 → decide (k = 8) = b4 → decide (a = 2) = b5 → bindsB k a = (((b1 || b2) && b3) || (b4 && b5)) := fun b1 b2 b3 b4 b5 h1 h2 h3 h4 h5 => by rw [bindsB, h1, h2, h3, h4, h5]
  obtain ⟨c2, e2⟩ : ∃ b, decide (k = 7) = b := ⟨_, rfl⟩
  obtain ⟨c3, e3⟩ : ∃ b, decide (a = 1) = b := ⟨_, rfl⟩
  obtain ⟨c4, e4⟩ : ∃ b, decide (k = 8) = b := ⟨_, rfl⟩
  obtain ⟨c5, e5⟩ : ∃ b, decide (a = 2) = b := ⟨_, rfl⟩
  refine svc_ok tabOk [] _ _ _ ?_
  refine bsplit_i (fun h1 => ?_) (fun h1 => ?_)
  · refine bsplit_i (fun h3 => ?_) (fun h3 => ?_)
    · exact ⟨_, rfl, Told.val (by rw [fin _ _ _ _ _ h1 e2 h3 e4 e5]; cases c2 <;> cases c4 <;> cases c5 <;> rfl)⟩
    · refine bsplit_i (fun h4 => ?_) (fun h4 => ?_)
      · exact ⟨_, rfl, Told.val (by rw [fin _ _ _ _ _ h1 e2 h3 h4 rfl]; cases c2 <;> rfl)⟩
      · exact ⟨_, rfl, Told.val (by rw [fin _ _ _ _ _ h1 e2 h3 h4 e5]; cases c2 <;> cases c5 <;> rfl)⟩
  · refine bsplit_i (fun h2 => ?_) (fun h2 => ?_)
    · refine bsplit_i (fun h3 => ?_) (fun h3 => ?_)
      · exact ⟨_, rfl, Told.val (by rw [fin _ _ _ _ _ h1 h2 h3 e4 e5]; cases c4 <;> cases c5 <;> rfl)⟩
      · refine bsplit_i (fun h4 => ?_) (fun h4 => ?_)
        · exact ⟨_, rfl, Told.val (by rw [fin _ _ _ _ _ h1 h2 h3 h4 rfl]; rfl)⟩
        · exact ⟨_, rfl, Told.val (by rw [fin _ _ _ _ _ h1 h2 h3 h4 e5]; cases c5 <;> rfl)⟩
    · refine bsplit_i (fun h4 => ?_) (fun h4 => ?_)
      · exact ⟨_, rfl, Told.val (by rw [fin _ _ _ _ _ h1 h2 e3 h4 rfl]; cases c3 <;> rfl)⟩
      · exact ⟨_, rfl, Told.val (by rw [fin _ _ _ _ _ h1 h2 e3 h4 e5]; cases c3 <;> cases c5 <;> rfl)⟩
end Go.Proofs.YtmkpiekbpakigaaGreatDoor
