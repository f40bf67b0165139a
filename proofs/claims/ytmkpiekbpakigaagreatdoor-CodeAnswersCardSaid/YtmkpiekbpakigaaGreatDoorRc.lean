/- The reference's levels: Right (144), Width (145); shape (143), binds (146). -/
import Derived.Test.YtmkpiekbpakigaaGreatDoorRb
set_option linter.unusedVariables false
set_option linter.unusedSimpArgs false
namespace Go.Proofs.YtmkpiekbpakigaaGreatDoor
open Go.RowKit Go.Proofs.Base Go.Proofs.Sym

theorem Lv.right_all {l : Lv} (h0 : 0 ≤ l.b) (h1 : l.b ≤ 100) (h : ∀ i, i < 4 → -1 ≤ l.p i ∧ l.p i ≤ l.b) : l.right = true := by
  unfold Lv.right
  exact decide_eq_true ⟨h 0 (by decide), h 1 (by decide), h 2 (by decide), h 3 (by decide), h0, h1⟩
theorem Lv.right_no {l : Lv} {i : Nat} (hi : i < 4) (h : ¬ (-1 ≤ l.p i ∧ l.p i ≤ l.b)) : l.right = false := by
  unfold Lv.right
  refine decide_eq_false fun ⟨g0, g1, g2, g3, _⟩ => h ?_
  match i, hi with
  | 0, _ => exact g0
  | 1, _ => exact g1
  | 2, _ => exact g2
  | 3, _ => exact g3
theorem Lv.right_nob {l : Lv} (h : ¬ (0 ≤ l.b ∧ l.b ≤ 100)) : l.right = false := by
  unfold Lv.right
  exact decide_eq_false fun ⟨_, _, _, _, g⟩ => h g
set_option maxHeartbeats 2000000 in
theorem lvRightR_pc (l : Lv) : PCall Tryz.prog 144 [l.val] (fun _ => True) (fun r => r = .bool l.right) (fun _ _ => True) := by
  have hall := @Lv.right_all l
  have hno := fun i => @Lv.right_no l i
  have hnob := @Lv.right_nob l
  obtain ⟨R, hR⟩ : ∃ R, l.right = R := ⟨_, rfl⟩
  rw [hR] at hall hno hnob ⊢
  clear hR
  obtain ⟨b, p0, p1, p2, p3⟩ := l
  have hall : 0 ≤ b → b ≤ 100 → (∀ i, i < 4 → -1 ≤ (Lv.mk b p0 p1 p2 p3).p i ∧ (Lv.mk b p0 p1 p2 p3).p i ≤ b) → R = true := hall
  have hno : ∀ i, i < 4 → ¬ (-1 ≤ (Lv.mk b p0 p1 p2 p3).p i ∧ (Lv.mk b p0 p1 p2 p3).p i ≤ b) → R = false := fun i h1 h2 => hno i h1 h2
  have hnob : ¬ (0 ≤ b ∧ b ≤ 100) → R = false := hnob
  refine pcall_of tabOk 37 [.tmp 2] Tryz.func144 rfl rfl (by kernel_rfl) rfl _ (Nat.le_of_ble_eq_true rfl) Up.true (fun _ => Up.true) ?_
  refine svc_ok tabOk [6] _ _ _ ?_
  refine bsplit_i (fun h1 => ?_) (fun h1 => ?_)
  · have h1 : decide (b < 0) = true := h1
    have h1 := of_decide_eq_true h1
    exact ⟨_, rfl, Told.val (by rw [hnob (by omega)])⟩
  have h1 : decide (b < 0) = false := h1
  have h1 := of_decide_eq_false h1
  refine bsplit_i (fun h2 => ?_) (fun h2 => ?_)
  · have h2 : decide (100 < b) = true := h2
    have h2 := of_decide_eq_true h2
    exact ⟨_, rfl, Told.val (by rw [hnob (by omega)])⟩
  have h2 : decide (100 < b) = false := h2
  have h2 := of_decide_eq_false h2
  refine ⟨⟨Nat, fun j => j ≤ 4 ∧ ∀ i, i < j → -1 ≤ (Lv.mk b p0 p1 p2 p3).p i ∧ (Lv.mk b p0 p1 p2 p3).p i ≤ b,
    fun j => { s := [(1, .one (.p 0 0)), (3, .one (.v (.int .i64 (j : Int))))], m := [(0, .cells 102 [.v (.int .i64 b), .v (.int .i64 p0), .v (.int .i64 p1), .v (.int .i64 p2), .v (.int .i64 p3)])], k := 1, f := [] },
    fun j => 4 - j, ⟨0, ⟨Nat.zero_le _, fun i hi => absurd hi (Nat.not_lt_zero _)⟩, ?_⟩, ?_⟩⟩
  · exact ent_ren [(0, .blk 0)] rfl rfl rfl rfl (Nat.le_of_ble_eq_true rfl) ⟨⟨_, rfl, rfl⟩, ⟨_, rfl, rfl⟩, trivial⟩ ⟨⟨_, rfl, rfl⟩, trivial⟩ trivial
  rintro j ⟨hj, hok⟩
  refine bsplit_i (fun hlt => ?_) (fun hge => ?_)
  rotate_left
  · have hge : 4 ≤ j := by
      have h : decide ((j : Int) < 4) = false := hge
      have := of_decide_eq_false h
      omega
    exact ⟨_, rfl, Told.val (by rw [hall (by omega) (by omega) (fun i hi => hok i (by omega))])⟩
  have hlt : j < 4 := by
    have h : decide ((j : Int) < 4) = true := hlt
    have := of_decide_eq_true h
    omega
  match j, hlt, hok with
  | 0, _, hok =>
    obtain ⟨c1, e1⟩ : ∃ c, decide (p0 < -1) = c := ⟨_, rfl⟩
    obtain ⟨c2, e2⟩ : ∃ c, decide (100 < p0) = c := ⟨_, rfl⟩
    obtain ⟨c3, e3⟩ : ∃ c, decide (b < p0) = c := ⟨_, rfl⟩
    refine svc_ok tabOk [] _ _ _ ?_
    cases c1 with
    | true =>
      refine .inl ⟨21, [0, 0, 3, 7, 15, 31, 63, 63, 255, 511, 1023, 2047, 4095, 8191, 8191, 32767, 65535, 8191, 139263, 524287, 1048575], fun vs i => match i with
        | 2 => { c := { n := 0 } }
        | 4 => { b := some true }
        | _ => {}, by kernel_rfl, rfl, by kernel_rfl, by kernel_rfl, by kernel_rfl, by decide, fun vals => ?_⟩
      refine ⟨fun _ => ⟨rfl, (show 0 < 4 by decide)⟩, ?_⟩
      refine ⟨fun _ => e1, ?_⟩
      intro _
      have h := of_decide_eq_true e1
      have hq : (Lv.mk b p0 p1 p2 p3).p 0 = p0 := rfl
      exact ⟨_, rfl, Told.val (by rw [hno 0 (by decide) (by rw [hq]; omega)])⟩
    | false =>
    cases c2 with
    | true =>
      refine .inl ⟨21, [0, 0, 3, 7, 15, 31, 63, 63, 255, 511, 1023, 2047, 4095, 8191, 8191, 32767, 65535, 8191, 139263, 524287, 1048575], fun vs i => match i with
        | 2 => { c := { n := 0 } }
        | 4 => { b := some false }
        | 8 => { c := { n := 0 } }
        | 10 => { b := some true }
        | _ => {}, by kernel_rfl, rfl, by kernel_rfl, by kernel_rfl, by kernel_rfl, by decide, fun vals => ?_⟩
      refine ⟨fun _ => ⟨rfl, (show 0 < 4 by decide)⟩, ?_⟩
      refine ⟨fun _ => e1, ?_⟩
      refine ⟨fun _ => ⟨rfl, (show 0 < 4 by decide)⟩, ?_⟩
      refine ⟨fun _ => e2, ?_⟩
      intro _
      have h := of_decide_eq_true e2
      have hq : (Lv.mk b p0 p1 p2 p3).p 0 = p0 := rfl
      exact ⟨_, rfl, Told.val (by rw [hno 0 (by decide) (by rw [hq]; omega)])⟩
    | false =>
    cases c3 with
    | true =>
      refine .inl ⟨21, [0, 0, 3, 7, 15, 31, 63, 63, 255, 511, 1023, 2047, 4095, 8191, 8191, 32767, 65535, 8191, 139263, 524287, 1048575], fun vs i => match i with
        | 2 => { c := { n := 0 } }
        | 4 => { b := some false }
        | 8 => { c := { n := 0 } }
        | 10 => { b := some false }
        | 15 => { c := { n := 0 } }
        | 19 => { b := some true }
        | _ => {}, by kernel_rfl, rfl, by kernel_rfl, by kernel_rfl, by kernel_rfl, by decide, fun vals => ?_⟩
      refine ⟨fun _ => ⟨rfl, (show 0 < 4 by decide)⟩, ?_⟩
      refine ⟨fun _ => e1, ?_⟩
      refine ⟨fun _ => ⟨rfl, (show 0 < 4 by decide)⟩, ?_⟩
      refine ⟨fun _ => e2, ?_⟩
      refine ⟨fun _ => ⟨rfl, (show 0 < 4 by decide)⟩, ?_⟩
      refine ⟨fun _ => e3, ?_⟩
      intro _
      have h := of_decide_eq_true e3
      have hq : (Lv.mk b p0 p1 p2 p3).p 0 = p0 := rfl
      exact ⟨_, rfl, Told.val (by rw [hno 0 (by decide) (by rw [hq]; omega)])⟩
    | false =>
      refine .inl ⟨21, [0, 0, 3, 7, 15, 31, 63, 63, 255, 511, 1023, 2047, 4095, 8191, 8191, 32767, 65535, 8191, 139263, 524287, 1048575], fun vs i => match i with
        | 2 => { c := { n := 0 } }
        | 4 => { b := some false }
        | 8 => { c := { n := 0 } }
        | 10 => { b := some false }
        | 15 => { c := { n := 0 } }
        | 19 => { b := some false }
        | _ => {}, by kernel_rfl, rfl, by kernel_rfl, by kernel_rfl, by kernel_rfl, by decide, fun vals => ?_⟩
      refine ⟨fun _ => ⟨rfl, (show 0 < 4 by decide)⟩, ?_⟩
      refine ⟨fun _ => e1, ?_⟩
      refine ⟨fun _ => ⟨rfl, (show 0 < 4 by decide)⟩, ?_⟩
      refine ⟨fun _ => e2, ?_⟩
      refine ⟨fun _ => ⟨rfl, (show 0 < 4 by decide)⟩, ?_⟩
      refine ⟨fun _ => e3, ?_⟩
      intro _
      have h1' := of_decide_eq_false e1
      have h3' := of_decide_eq_false e3
      have hq : (Lv.mk b p0 p1 p2 p3).p 0 = p0 := rfl
      refine ⟨1, ⟨by decide, fun i hi => ?_⟩, by decide, ?_⟩
      · by_cases hij : i = 0
        · subst hij
          rw [hq]
          omega
        · exact hok i (by omega)
      · exact ent_ren [(0, .blk 0)] rfl rfl rfl rfl (Nat.le_of_ble_eq_true rfl) ⟨⟨_, rfl, rfl⟩, ⟨_, rfl, rfl⟩, trivial⟩ ⟨⟨_, rfl, rfl⟩, trivial⟩ trivial
  | 1, _, hok =>
    obtain ⟨c1, e1⟩ : ∃ c, decide (p1 < -1) = c := ⟨_, rfl⟩
    obtain ⟨c2, e2⟩ : ∃ c, decide (100 < p1) = c := ⟨_, rfl⟩
    obtain ⟨c3, e3⟩ : ∃ c, decide (b < p1) = c := ⟨_, rfl⟩
    refine svc_ok tabOk [] _ _ _ ?_
    cases c1 with
    | true =>
      refine .inl ⟨21, [0, 0, 3, 7, 15, 31, 63, 63, 255, 511, 1023, 2047, 4095, 8191, 8191, 32767, 65535, 8191, 139263, 524287, 1048575], fun vs i => match i with
        | 2 => { c := { n := 1 } }
        | 4 => { b := some true }
        | _ => {}, by kernel_rfl, rfl, by kernel_rfl, by kernel_rfl, by kernel_rfl, by decide, fun vals => ?_⟩
      refine ⟨fun _ => ⟨rfl, (show 1 < 4 by decide)⟩, ?_⟩
      refine ⟨fun _ => e1, ?_⟩
      intro _
      have h := of_decide_eq_true e1
      have hq : (Lv.mk b p0 p1 p2 p3).p 1 = p1 := rfl
      exact ⟨_, rfl, Told.val (by rw [hno 1 (by decide) (by rw [hq]; omega)])⟩
    | false =>
    cases c2 with
    | true =>
      refine .inl ⟨21, [0, 0, 3, 7, 15, 31, 63, 63, 255, 511, 1023, 2047, 4095, 8191, 8191, 32767, 65535, 8191, 139263, 524287, 1048575], fun vs i => match i with
        | 2 => { c := { n := 1 } }
        | 4 => { b := some false }
        | 8 => { c := { n := 1 } }
        | 10 => { b := some true }
        | _ => {}, by kernel_rfl, rfl, by kernel_rfl, by kernel_rfl, by kernel_rfl, by decide, fun vals => ?_⟩
      refine ⟨fun _ => ⟨rfl, (show 1 < 4 by decide)⟩, ?_⟩
      refine ⟨fun _ => e1, ?_⟩
      refine ⟨fun _ => ⟨rfl, (show 1 < 4 by decide)⟩, ?_⟩
      refine ⟨fun _ => e2, ?_⟩
      intro _
      have h := of_decide_eq_true e2
      have hq : (Lv.mk b p0 p1 p2 p3).p 1 = p1 := rfl
      exact ⟨_, rfl, Told.val (by rw [hno 1 (by decide) (by rw [hq]; omega)])⟩
    | false =>
    cases c3 with
    | true =>
      refine .inl ⟨21, [0, 0, 3, 7, 15, 31, 63, 63, 255, 511, 1023, 2047, 4095, 8191, 8191, 32767, 65535, 8191, 139263, 524287, 1048575], fun vs i => match i with
        | 2 => { c := { n := 1 } }
        | 4 => { b := some false }
        | 8 => { c := { n := 1 } }
        | 10 => { b := some false }
        | 15 => { c := { n := 1 } }
        | 19 => { b := some true }
        | _ => {}, by kernel_rfl, rfl, by kernel_rfl, by kernel_rfl, by kernel_rfl, by decide, fun vals => ?_⟩
      refine ⟨fun _ => ⟨rfl, (show 1 < 4 by decide)⟩, ?_⟩
      refine ⟨fun _ => e1, ?_⟩
      refine ⟨fun _ => ⟨rfl, (show 1 < 4 by decide)⟩, ?_⟩
      refine ⟨fun _ => e2, ?_⟩
      refine ⟨fun _ => ⟨rfl, (show 1 < 4 by decide)⟩, ?_⟩
      refine ⟨fun _ => e3, ?_⟩
      intro _
      have h := of_decide_eq_true e3
      have hq : (Lv.mk b p0 p1 p2 p3).p 1 = p1 := rfl
      exact ⟨_, rfl, Told.val (by rw [hno 1 (by decide) (by rw [hq]; omega)])⟩
    | false =>
      refine .inl ⟨21, [0, 0, 3, 7, 15, 31, 63, 63, 255, 511, 1023, 2047, 4095, 8191, 8191, 32767, 65535, 8191, 139263, 524287, 1048575], fun vs i => match i with
        | 2 => { c := { n := 1 } }
        | 4 => { b := some false }
        | 8 => { c := { n := 1 } }
        | 10 => { b := some false }
        | 15 => { c := { n := 1 } }
        | 19 => { b := some false }
        | _ => {}, by kernel_rfl, rfl, by kernel_rfl, by kernel_rfl, by kernel_rfl, by decide, fun vals => ?_⟩
      refine ⟨fun _ => ⟨rfl, (show 1 < 4 by decide)⟩, ?_⟩
      refine ⟨fun _ => e1, ?_⟩
      refine ⟨fun _ => ⟨rfl, (show 1 < 4 by decide)⟩, ?_⟩
      refine ⟨fun _ => e2, ?_⟩
      refine ⟨fun _ => ⟨rfl, (show 1 < 4 by decide)⟩, ?_⟩
      refine ⟨fun _ => e3, ?_⟩
      intro _
      have h1' := of_decide_eq_false e1
      have h3' := of_decide_eq_false e3
      have hq : (Lv.mk b p0 p1 p2 p3).p 1 = p1 := rfl
      refine ⟨2, ⟨by decide, fun i hi => ?_⟩, by decide, ?_⟩
      · by_cases hij : i = 1
        · subst hij
          rw [hq]
          omega
        · exact hok i (by omega)
      · exact ent_ren [(0, .blk 0)] rfl rfl rfl rfl (Nat.le_of_ble_eq_true rfl) ⟨⟨_, rfl, rfl⟩, ⟨_, rfl, rfl⟩, trivial⟩ ⟨⟨_, rfl, rfl⟩, trivial⟩ trivial
  | 2, _, hok =>
    obtain ⟨c1, e1⟩ : ∃ c, decide (p2 < -1) = c := ⟨_, rfl⟩
    obtain ⟨c2, e2⟩ : ∃ c, decide (100 < p2) = c := ⟨_, rfl⟩
    obtain ⟨c3, e3⟩ : ∃ c, decide (b < p2) = c := ⟨_, rfl⟩
    refine svc_ok tabOk [] _ _ _ ?_
    cases c1 with
    | true =>
      refine .inl ⟨21, [0, 0, 3, 7, 15, 31, 63, 63, 255, 511, 1023, 2047, 4095, 8191, 8191, 32767, 65535, 8191, 139263, 524287, 1048575], fun vs i => match i with
        | 2 => { c := { n := 2 } }
        | 4 => { b := some true }
        | _ => {}, by kernel_rfl, rfl, by kernel_rfl, by kernel_rfl, by kernel_rfl, by decide, fun vals => ?_⟩
      refine ⟨fun _ => ⟨rfl, (show 2 < 4 by decide)⟩, ?_⟩
      refine ⟨fun _ => e1, ?_⟩
      intro _
      have h := of_decide_eq_true e1
      have hq : (Lv.mk b p0 p1 p2 p3).p 2 = p2 := rfl
      exact ⟨_, rfl, Told.val (by rw [hno 2 (by decide) (by rw [hq]; omega)])⟩
    | false =>
    cases c2 with
    | true =>
      refine .inl ⟨21, [0, 0, 3, 7, 15, 31, 63, 63, 255, 511, 1023, 2047, 4095, 8191, 8191, 32767, 65535, 8191, 139263, 524287, 1048575], fun vs i => match i with
        | 2 => { c := { n := 2 } }
        | 4 => { b := some false }
        | 8 => { c := { n := 2 } }
        | 10 => { b := some true }
        | _ => {}, by kernel_rfl, rfl, by kernel_rfl, by kernel_rfl, by kernel_rfl, by decide, fun vals => ?_⟩
      refine ⟨fun _ => ⟨rfl, (show 2 < 4 by decide)⟩, ?_⟩
      refine ⟨fun _ => e1, ?_⟩
      refine ⟨fun _ => ⟨rfl, (show 2 < 4 by decide)⟩, ?_⟩
      refine ⟨fun _ => e2, ?_⟩
      intro _
      have h := of_decide_eq_true e2
      have hq : (Lv.mk b p0 p1 p2 p3).p 2 = p2 := rfl
      exact ⟨_, rfl, Told.val (by rw [hno 2 (by decide) (by rw [hq]; omega)])⟩
    | false =>
    cases c3 with
    | true =>
      refine .inl ⟨21, [0, 0, 3, 7, 15, 31, 63, 63, 255, 511, 1023, 2047, 4095, 8191, 8191, 32767, 65535, 8191, 139263, 524287, 1048575], fun vs i => match i with
        | 2 => { c := { n := 2 } }
        | 4 => { b := some false }
        | 8 => { c := { n := 2 } }
        | 10 => { b := some false }
        | 15 => { c := { n := 2 } }
        | 19 => { b := some true }
        | _ => {}, by kernel_rfl, rfl, by kernel_rfl, by kernel_rfl, by kernel_rfl, by decide, fun vals => ?_⟩
      refine ⟨fun _ => ⟨rfl, (show 2 < 4 by decide)⟩, ?_⟩
      refine ⟨fun _ => e1, ?_⟩
      refine ⟨fun _ => ⟨rfl, (show 2 < 4 by decide)⟩, ?_⟩
      refine ⟨fun _ => e2, ?_⟩
      refine ⟨fun _ => ⟨rfl, (show 2 < 4 by decide)⟩, ?_⟩
      refine ⟨fun _ => e3, ?_⟩
      intro _
      have h := of_decide_eq_true e3
      have hq : (Lv.mk b p0 p1 p2 p3).p 2 = p2 := rfl
      exact ⟨_, rfl, Told.val (by rw [hno 2 (by decide) (by rw [hq]; omega)])⟩
    | false =>
      refine .inl ⟨21, [0, 0, 3, 7, 15, 31, 63, 63, 255, 511, 1023, 2047, 4095, 8191, 8191, 32767, 65535, 8191, 139263, 524287, 1048575], fun vs i => match i with
        | 2 => { c := { n := 2 } }
        | 4 => { b := some false }
        | 8 => { c := { n := 2 } }
        | 10 => { b := some false }
        | 15 => { c := { n := 2 } }
        | 19 => { b := some false }
        | _ => {}, by kernel_rfl, rfl, by kernel_rfl, by kernel_rfl, by kernel_rfl, by decide, fun vals => ?_⟩
      refine ⟨fun _ => ⟨rfl, (show 2 < 4 by decide)⟩, ?_⟩
      refine ⟨fun _ => e1, ?_⟩
      refine ⟨fun _ => ⟨rfl, (show 2 < 4 by decide)⟩, ?_⟩
      refine ⟨fun _ => e2, ?_⟩
      refine ⟨fun _ => ⟨rfl, (show 2 < 4 by decide)⟩, ?_⟩
      refine ⟨fun _ => e3, ?_⟩
      intro _
      have h1' := of_decide_eq_false e1
      have h3' := of_decide_eq_false e3
      have hq : (Lv.mk b p0 p1 p2 p3).p 2 = p2 := rfl
      refine ⟨3, ⟨by decide, fun i hi => ?_⟩, by decide, ?_⟩
      · by_cases hij : i = 2
        · subst hij
          rw [hq]
          omega
        · exact hok i (by omega)
      · exact ent_ren [(0, .blk 0)] rfl rfl rfl rfl (Nat.le_of_ble_eq_true rfl) ⟨⟨_, rfl, rfl⟩, ⟨_, rfl, rfl⟩, trivial⟩ ⟨⟨_, rfl, rfl⟩, trivial⟩ trivial
  | 3, _, hok =>
    obtain ⟨c1, e1⟩ : ∃ c, decide (p3 < -1) = c := ⟨_, rfl⟩
    obtain ⟨c2, e2⟩ : ∃ c, decide (100 < p3) = c := ⟨_, rfl⟩
    obtain ⟨c3, e3⟩ : ∃ c, decide (b < p3) = c := ⟨_, rfl⟩
    refine svc_ok tabOk [] _ _ _ ?_
    cases c1 with
    | true =>
      refine .inl ⟨21, [0, 0, 3, 7, 15, 31, 63, 63, 255, 511, 1023, 2047, 4095, 8191, 8191, 32767, 65535, 8191, 139263, 524287, 1048575], fun vs i => match i with
        | 2 => { c := { n := 3 } }
        | 4 => { b := some true }
        | _ => {}, by kernel_rfl, rfl, by kernel_rfl, by kernel_rfl, by kernel_rfl, by decide, fun vals => ?_⟩
      refine ⟨fun _ => ⟨rfl, (show 3 < 4 by decide)⟩, ?_⟩
      refine ⟨fun _ => e1, ?_⟩
      intro _
      have h := of_decide_eq_true e1
      have hq : (Lv.mk b p0 p1 p2 p3).p 3 = p3 := rfl
      exact ⟨_, rfl, Told.val (by rw [hno 3 (by decide) (by rw [hq]; omega)])⟩
    | false =>
    cases c2 with
    | true =>
      refine .inl ⟨21, [0, 0, 3, 7, 15, 31, 63, 63, 255, 511, 1023, 2047, 4095, 8191, 8191, 32767, 65535, 8191, 139263, 524287, 1048575], fun vs i => match i with
        | 2 => { c := { n := 3 } }
        | 4 => { b := some false }
        | 8 => { c := { n := 3 } }
        | 10 => { b := some true }
        | _ => {}, by kernel_rfl, rfl, by kernel_rfl, by kernel_rfl, by kernel_rfl, by decide, fun vals => ?_⟩
      refine ⟨fun _ => ⟨rfl, (show 3 < 4 by decide)⟩, ?_⟩
      refine ⟨fun _ => e1, ?_⟩
      refine ⟨fun _ => ⟨rfl, (show 3 < 4 by decide)⟩, ?_⟩
      refine ⟨fun _ => e2, ?_⟩
      intro _
      have h := of_decide_eq_true e2
      have hq : (Lv.mk b p0 p1 p2 p3).p 3 = p3 := rfl
      exact ⟨_, rfl, Told.val (by rw [hno 3 (by decide) (by rw [hq]; omega)])⟩
    | false =>
    cases c3 with
    | true =>
      refine .inl ⟨21, [0, 0, 3, 7, 15, 31, 63, 63, 255, 511, 1023, 2047, 4095, 8191, 8191, 32767, 65535, 8191, 139263, 524287, 1048575], fun vs i => match i with
        | 2 => { c := { n := 3 } }
        | 4 => { b := some false }
        | 8 => { c := { n := 3 } }
        | 10 => { b := some false }
        | 15 => { c := { n := 3 } }
        | 19 => { b := some true }
        | _ => {}, by kernel_rfl, rfl, by kernel_rfl, by kernel_rfl, by kernel_rfl, by decide, fun vals => ?_⟩
      refine ⟨fun _ => ⟨rfl, (show 3 < 4 by decide)⟩, ?_⟩
      refine ⟨fun _ => e1, ?_⟩
      refine ⟨fun _ => ⟨rfl, (show 3 < 4 by decide)⟩, ?_⟩
      refine ⟨fun _ => e2, ?_⟩
      refine ⟨fun _ => ⟨rfl, (show 3 < 4 by decide)⟩, ?_⟩
      refine ⟨fun _ => e3, ?_⟩
      intro _
      have h := of_decide_eq_true e3
      have hq : (Lv.mk b p0 p1 p2 p3).p 3 = p3 := rfl
      exact ⟨_, rfl, Told.val (by rw [hno 3 (by decide) (by rw [hq]; omega)])⟩
    | false =>
      refine .inl ⟨21, [0, 0, 3, 7, 15, 31, 63, 63, 255, 511, 1023, 2047, 4095, 8191, 8191, 32767, 65535, 8191, 139263, 524287, 1048575], fun vs i => match i with
        | 2 => { c := { n := 3 } }
        | 4 => { b := some false }
        | 8 => { c := { n := 3 } }
        | 10 => { b := some false }
        | 15 => { c := { n := 3 } }
        | 19 => { b := some false }
        | _ => {}, by kernel_rfl, rfl, by kernel_rfl, by kernel_rfl, by kernel_rfl, by decide, fun vals => ?_⟩
      refine ⟨fun _ => ⟨rfl, (show 3 < 4 by decide)⟩, ?_⟩
      refine ⟨fun _ => e1, ?_⟩
      refine ⟨fun _ => ⟨rfl, (show 3 < 4 by decide)⟩, ?_⟩
      refine ⟨fun _ => e2, ?_⟩
      refine ⟨fun _ => ⟨rfl, (show 3 < 4 by decide)⟩, ?_⟩
      refine ⟨fun _ => e3, ?_⟩
      intro _
      have h1' := of_decide_eq_false e1
      have h3' := of_decide_eq_false e3
      have hq : (Lv.mk b p0 p1 p2 p3).p 3 = p3 := rfl
      refine ⟨4, ⟨by decide, fun i hi => ?_⟩, by decide, ?_⟩
      · by_cases hij : i = 3
        · subst hij
          rw [hq]
          omega
        · exact hok i (by omega)
      · exact ent_ren [(0, .blk 0)] rfl rfl rfl rfl (Nat.le_of_ble_eq_true rfl) ⟨⟨_, rfl, rfl⟩, ⟨_, rfl, rfl⟩, trivial⟩ ⟨⟨_, rfl, rfl⟩, trivial⟩ trivial
end Go.Proofs.YtmkpiekbpakigaaGreatDoor
