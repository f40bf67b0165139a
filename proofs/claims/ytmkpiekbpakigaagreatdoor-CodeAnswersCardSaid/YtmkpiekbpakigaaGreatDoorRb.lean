/- The reference's letter (102), digit (103), Word (60). -/
import Derived.Test.YtmkpiekbpakigaaGreatDoorRa
set_option linter.unusedVariables false
set_option linter.unusedSimpArgs false
namespace Go.Proofs.YtmkpiekbpakigaaGreatDoor
open Go.RowKit Go.Proofs.Base Go.Proofs.Sym

theorem letterR_pc (c : Int) : PCall Tryz.prog 102 [.int .u8 c] (fun _ => True) (fun r => r = .bool (letterR c)) (fun _ _ => True) := by
  refine pcall_of tabOk 17 [.tmp 2] Tryz.func102 rfl rfl (by kernel_rfl) rfl _ (Nat.le_of_ble_eq_true rfl) Up.true (fun _ => Up.true) ?_
  refine svc_ok tabOk [] _ _ _ ?_
  have fin : ∀ b1 b2 b3 b4, decide (97 ≤ c) = b1 → decide (c ≤ 122) = b2 → decide (65 ≤ c) = b3 → decide (c ≤ 90) = b4 → letterR c = ((b1 && b2) || (b3 && b4)) := fun b1 b2 b3 b4 h1 h2 h3 h4 => by rw [letterR, h1, h2, h3, h4]
  obtain ⟨b2, e2⟩ : ∃ b, decide (c ≤ 122) = b := ⟨_, rfl⟩
  obtain ⟨b3, e3⟩ : ∃ b, decide (65 ≤ c) = b := ⟨_, rfl⟩
  obtain ⟨b4, e4⟩ : ∃ b, decide (c ≤ 90) = b := ⟨_, rfl⟩
  refine bsplit_i (fun h1 => ?_) (fun h1 => ?_)
  · refine bsplit_i (fun h2 => ?_) (fun h2 => ?_)
    · exact ⟨_, rfl, Told.val (by rw [fin _ _ _ _ h1 h2 e3 e4]; cases b3 <;> cases b4 <;> rfl)⟩
    · refine bsplit_i (fun h3 => ?_) (fun h3 => ?_)
      · exact ⟨_, rfl, Told.val (by rw [fin _ _ _ _ h1 h2 h3 rfl]; rfl)⟩
      · exact ⟨_, rfl, Told.val (by rw [fin _ _ _ _ h1 h2 h3 e4]; cases b4 <;> rfl)⟩
  · refine bsplit_i (fun h3 => ?_) (fun h3 => ?_)
    · exact ⟨_, rfl, Told.val (by rw [fin _ _ _ _ h1 e2 h3 rfl]; cases b2 <;> rfl)⟩
    · exact ⟨_, rfl, Told.val (by rw [fin _ _ _ _ h1 e2 h3 e4]; cases b2 <;> cases b4 <;> rfl)⟩
theorem digitR_pc (c : Int) : PCall Tryz.prog 103 [.int .u8 c] (fun _ => True) (fun r => r = .bool (digitR c)) (fun _ _ => True) := by
  refine pcall_of tabOk 9 [.tmp 2] Tryz.func103 rfl rfl (by kernel_rfl) rfl _ (Nat.le_of_ble_eq_true rfl) Up.true (fun _ => Up.true) ?_
  refine svc_ok tabOk [] _ _ _ ?_
  refine bsplit_i (fun h1 => ?_) (fun h1 => ?_)
  · have h1 : decide (48 ≤ c) = true := h1
    exact ⟨_, rfl, Told.val (by rw [digitR, h1]; rfl)⟩
  · have h1 : decide (48 ≤ c) = false := h1
    exact ⟨_, rfl, Told.val (by rw [digitR, h1]; rfl)⟩
theorem wscan_at {L : List UInt8} {j : Nat} (h : j < L.length) (b : Bool) : wscan b (L.drop j) = (if (b && !letterR ((L.getD j 0).toNat : Int)) = true then none else if L.getD j 0 = 46 then wscan true (L.drop (j + 1)) else if signR ((L.getD j 0).toNat : Int) = true then wscan false (L.drop (j + 1)) else none) := by
  rw [List.drop_eq_getElem_cons h, wscan]
  simp [List.getD, List.getElem?_eq_getElem h]
theorem str_list {x : List UInt8} {s : ByteArray} : ((⟨x.toArray⟩ : ByteArray) = s) ↔ x = s.data.toList := by
  obtain ⟨⟨l⟩⟩ := s
  constructor
  · intro h
    cases h
    rfl
  · rintro rfl
    rfl
def wordsV : List Value := wordsL.map fun x => .string ⟨x.toArray⟩
theorem word_end {s : ByteArray} {b : Bool} (h1 : 1 ≤ s.size) (h2 : s.size ≤ 32) (hb : wordR s.data.toList = b) : wordB s = b := by
  rw [← word_eq, decide_eq_true h1, decide_eq_true h2, hb]
  rfl
theorem wordR_none {L : List UInt8} (h : wscan true L = none) : wordR L = false := by
  unfold wordR
  rw [h]
theorem wordR_some {L : List UInt8} {b : Bool} (h : wscan true L = some b) : wordR L = (!wordsL.any (fun x => decide (x = L)) && !b) := by
  unfold wordR
  rw [h]
set_option maxHeartbeats 2000000 in
theorem WordR_pc (s : ByteArray) : PCall Tryz.prog 60 [.string s] (fun _ => True) (fun r => r = .bool (wordB s)) (fun _ _ => True) := by
  refine pcall_of tabOk 69 [.tmp 2] Tryz.func60 rfl rfl (by kernel_rfl) rfl _ (Nat.le_of_ble_eq_true rfl) Up.true (fun _ => Up.true) ?_
  have hsz := size_list s
  have hend := fun b => @word_end s b
  obtain ⟨W, hW⟩ : ∃ W, wordB s = W := ⟨_, rfl⟩
  have hW1 := (word_eq s).trans hW
  rw [hW] at hend
  rw [hW]
  refine svc_ok tabOk [15] _ _ _ ?_
  refine bsplit_i (fun h1 => ?_) (fun h1 => ?_)
  · have h1 : decide ((s.size : Int) < 1) = true := h1
    have h1 := of_decide_eq_true h1
    rw [decide_eq_false (by omega)] at hW1
    exact ⟨_, rfl, Told.val (by rw [← hW1]; rfl)⟩
  have h1 : decide ((s.size : Int) < 1) = false := h1
  have h1 := of_decide_eq_false h1
  refine bsplit_i (fun h2 => ?_) (fun h2 => ?_)
  · have h2 : decide ((32 : Int) < (s.size : Int)) = true := h2
    have h2 := of_decide_eq_true h2
    rw [decide_eq_false (p := s.size ≤ 32) (by omega)] at hW1
    exact ⟨_, rfl, Told.val (by rw [← hW1, Bool.false_and, Bool.and_false])⟩
  have h2 : decide ((32 : Int) < (s.size : Int)) = false := h2
  have h2 := of_decide_eq_false h2
  have hend := fun b => hend b (by omega) (by omega)
  clear hW1 hW
  refine ⟨⟨Nat × Bool, fun x => x.1 ≤ s.size ∧ wscan true s.data.toList = wscan x.2 (s.data.toList.drop x.1),
    fun x => { s := [(0, .one (.v (.string s))), (3, .one (.v (.bool x.2))), (4, .one (.v (.int .i64 (x.1 : Int))))], m := [], k := 0, f := [] },
    fun x => s.size - x.1, ⟨(0, true), ⟨Nat.zero_le _, rfl⟩, ?_⟩, ?_⟩⟩
  · exact ent_ren [] rfl rfl rfl rfl (Nat.zero_le _) ⟨⟨_, rfl, rfl⟩, ⟨_, rfl, rfl⟩, ⟨_, rfl, rfl⟩, trivial⟩ trivial trivial
  rintro ⟨j, b⟩ ⟨hj, hsc⟩
  simp only at hj hsc
  refine bsplit_i (fun hlt => ?_) (fun hge => ?_)
  rotate_left
  · have hge : s.size ≤ j := by
      have h : decide ((j : Int) < (s.size : Int)) = false := hge
      have := of_decide_eq_false h
      omega
    rw [List.drop_eq_nil_of_le (by omega)] at hsc
    have hw := wordR_some (b := b) hsc
    refine Walks.blk 0 rfl rfl (fun g => ?_)
    refine Walks.ent (st' := { s := [(0, .one (.v (.string s))), (3, .one (.v (.bool b))), (5, .one (.v (.slice (some ⟨g, 0, none⟩) 16 16)))], m := [], k := 0, f := [fun w => SlAt w (some ⟨g, 0, none⟩) wordsV] }) (ent_ren [] rfl rfl rfl rfl (Nat.zero_le _) ⟨⟨_, rfl, rfl⟩, ⟨_, rfl, rfl⟩, ⟨_, rfl, rfl⟩, trivial⟩ trivial ⟨⟨SlAt.up _ _, fun w h => h.1⟩, trivial⟩) ?_
    refine svc_ok tabOk [] _ _ _ ?_
    refine ⟨⟨Nat, fun j => j ≤ 16 ∧ (wordsL.take j).any (fun x => decide (x = s.data.toList)) = false,
      fun j => { s := [(0, .one (.v (.string s))), (3, .one (.v (.bool b))), (5, .one (.v (.slice (some ⟨g, 0, none⟩) 16 16))), (6, .one (.v (.int .i64 (j : Int))))], m := [], k := 0, f := [fun w => SlAt w (some ⟨g, 0, none⟩) wordsV] },
      fun j => 16 - j, ⟨0, ⟨Nat.zero_le _, rfl⟩, ?_⟩, ?_⟩⟩
    · exact ent_ren [] rfl rfl rfl rfl (Nat.zero_le _) ⟨⟨_, rfl, rfl⟩, ⟨_, rfl, rfl⟩, ⟨_, rfl, rfl⟩, ⟨_, rfl, rfl⟩, trivial⟩ trivial ⟨⟨SlAt.up _ _, fun w h => h.1⟩, trivial⟩
    rintro q ⟨hq, hany⟩
    refine bsplit_i (fun hlt => ?_) (fun hge => ?_)
    · have hlt : q < 16 := by
        have h : decide ((q : Int) < 16) = true := hlt
        have := of_decide_eq_true h
        omega
      have hlen : wordsL.length = 16 := rfl
      obtain ⟨x, hx⟩ : ∃ x, wordsL[q]? = some x := ⟨_, List.getElem?_eq_getElem (by omega)⟩
      refine ⟨{ n := q }, ⟨rfl, hlt, fun w h => rfl⟩, ?_⟩
      refine ⟨{ v := .string ⟨x.toArray⟩ }, fun w h => ?_, ?_⟩
      · obtain ⟨a, ha, hcell⟩ := h.1 q _ (show wordsV[q]? = some (.string ⟨x.toArray⟩) by rw [wordsV, List.getElem?_map, hx]; rfl)
        cases ha
        exact ⟨_, rfl, by rw [Nat.mul_one]; exact hcell⟩
      refine bsplit_i (fun he => ?_) (fun he => ?_)
      · have he : decide ((⟨x.toArray⟩ : ByteArray) = s) = true := he
        have he := str_list.1 (of_decide_eq_true he)
        have : wordsL.any (fun x => decide (x = s.data.toList)) = true := List.any_eq_true.2 ⟨x, List.mem_of_getElem? hx, decide_eq_true he⟩
        rw [this] at hw
        exact ⟨_, rfl, Told.val (by rw [hend _ hw]; rfl)⟩
      · have he : decide ((⟨x.toArray⟩ : ByteArray) = s) = false := he
        have he := of_decide_eq_false he
        refine ⟨q + 1, ⟨hlt, ?_⟩, by simp only; omega, ?_⟩
        · rw [List.take_add_one, hx, List.any_append, hany]
          simp only [Option.toList, List.any_cons, List.any_nil]
          rw [decide_eq_false (fun h => he (str_list.2 h))]
          rfl
        · exact ent_ren [] rfl rfl rfl rfl (Nat.zero_le _) ⟨⟨_, rfl, rfl⟩, ⟨_, rfl, rfl⟩, ⟨_, rfl, rfl⟩, ⟨_, rfl, oneI (wrapI (by omega) (by omega))⟩, trivial⟩ trivial ⟨⟨SlAt.up _ _, fun w h => h.1⟩, trivial⟩
    · have hge : 16 ≤ q := by
        have h : decide ((q : Int) < 16) = false := hge
        have := of_decide_eq_false h
        omega
      rw [List.take_of_length_le (show wordsL.length ≤ q from hge)] at hany
      rw [hany] at hw
      exact ⟨_, rfl, Told.val (by rw [hend _ hw]; rfl)⟩
  have hlt2 : j < s.size := by
    have h : decide ((j : Int) < (s.size : Int)) = true := hlt
    have := of_decide_eq_true h
    omega
  clear hlt
  have hlt := hlt2
  clear hlt2
  rw [wscan_at (by omega)] at hsc
  -- ROUND
  have hl := letterR_pc ((s.data.toList.getD j 0).toNat : Int)
  have hd := digitR_pc ((s.data.toList.getD j 0).toNat : Int)
  have hc46 : decide (((s.data.toList.getD j 0).toNat : Int) = 46) = decide (s.data.toList.getD j 0 = 46) := by
    rw [decide_eq_decide]
    have e46 : (46 : UInt8).toNat = 46 := rfl
    constructor
    · intro h
      exact UInt8.toNat_inj.1 (by omega)
    · intro h
      rw [h]
      rfl
  obtain ⟨dv, hdv⟩ : ∃ b, digitR ((s.data.toList.getD j 0).toNat : Int) = b := ⟨_, rfl⟩
  rw [hdv] at hd
  obtain ⟨lv, hlv⟩ : ∃ b, letterR ((s.data.toList.getD j 0).toNat : Int) = b := ⟨_, rfl⟩
  rw [hlv] at hl hsc
  cases lv with
  | false =>
    cases b with
    | true =>
      rw [if_pos (show (true && !false) = true from rfl)] at hsc
      refine ⟨{ n := j }, ⟨rfl, hlt⟩, ?_⟩
      refine callVC_plain hl (fun _ => rfl) (fun _ _ => trivial) ?_
      rintro r rfl
      exact ⟨_, rfl, Told.val (by rw [hend _ (wordR_none hsc)])⟩
    | false =>
      rw [if_neg (show ¬ (false && !false) = true by decide)] at hsc
      refine ⟨{ n := j }, ⟨rfl, hlt⟩, ?_⟩
      refine bsplit_i (fun h46 => ?_) (fun h46 => ?_)
      · have h46 : decide (((s.data.toList.getD j 0).toNat : Int) = 46) = true := h46
        rw [hc46] at h46
        rw [if_pos (of_decide_eq_true h46)] at hsc
        refine ⟨(j + 1, true), ⟨hlt, hsc⟩, by simp only; omega, ?_⟩
        exact ent_ren [] rfl rfl rfl rfl (Nat.zero_le _) ⟨⟨_, rfl, rfl⟩, ⟨_, rfl, rfl⟩, ⟨_, rfl, oneI (wrapI (by omega) (by omega))⟩, trivial⟩ trivial trivial
      have h46 : decide (((s.data.toList.getD j 0).toNat : Int) = 46) = false := h46
      rw [hc46] at h46
      rw [if_neg (of_decide_eq_false h46)] at hsc
      refine ⟨{ n := j }, ⟨rfl, hlt⟩, ?_⟩
      refine callVC_plain hl (fun _ => rfl) (fun _ _ => trivial) ?_
      rintro r rfl
      cases dv with
      | true =>
        refine ⟨{ n := j }, ⟨rfl, hlt⟩, ?_⟩
        refine callVC_plain hd (fun _ => rfl) (fun _ _ => trivial) ?_
        rintro r rfl
        rw [if_pos (show signR ((s.data.toList.getD j 0).toNat : Int) = true by rw [signR, hlv, hdv]; rfl)] at hsc
        refine ⟨(j + 1, false), ⟨hlt, hsc⟩, by simp only; omega, ?_⟩
        exact ent_ren [] rfl rfl rfl rfl (Nat.zero_le _) ⟨⟨_, rfl, rfl⟩, ⟨_, rfl, rfl⟩, ⟨_, rfl, oneI (wrapI (by omega) (by omega))⟩, trivial⟩ trivial trivial
      | false =>
        refine ⟨{ n := j }, ⟨rfl, hlt⟩, ?_⟩
        refine callVC_plain hd (fun _ => rfl) (fun _ _ => trivial) ?_
        rintro r rfl
        refine ⟨{ n := j }, ⟨rfl, hlt⟩, ?_⟩
        refine bsplit_i (fun h95 => ?_) (fun h95 => ?_)
        · have h95 : (!decide (((s.data.toList.getD j 0).toNat : Int) = 95)) = true := h95
          rw [if_neg (show ¬ signR ((s.data.toList.getD j 0).toNat : Int) = true by rw [signR, hlv, hdv]; intro h; rw [show decide (((s.data.toList.getD j 0).toNat : Int) = 95) = true from h] at h95; cases h95)] at hsc
          exact ⟨_, rfl, Told.val (by rw [hend _ (wordR_none hsc)])⟩
        · have h95 : (!decide (((s.data.toList.getD j 0).toNat : Int) = 95)) = false := h95
          rw [if_pos (show signR ((s.data.toList.getD j 0).toNat : Int) = true by rw [signR, hlv, hdv]; cases hq : decide (((s.data.toList.getD j 0).toNat : Int) = 95) with | true => rfl | false => rw [hq] at h95; cases h95)] at hsc
          refine ⟨(j + 1, false), ⟨hlt, hsc⟩, by simp only; omega, ?_⟩
          exact ent_ren [] rfl rfl rfl rfl (Nat.zero_le _) ⟨⟨_, rfl, rfl⟩, ⟨_, rfl, rfl⟩, ⟨_, rfl, oneI (wrapI (by omega) (by omega))⟩, trivial⟩ trivial trivial
  | true =>
    rw [if_neg (show ¬ (b && !true) = true by cases b <;> decide)] at hsc
    cases b with
    | true =>
      refine ⟨{ n := j }, ⟨rfl, hlt⟩, ?_⟩
      refine callVC_plain hl (fun _ => rfl) (fun _ _ => trivial) ?_
      rintro r rfl
      refine ⟨{ n := j }, ⟨rfl, hlt⟩, ?_⟩
      refine bsplit_i (fun h46 => ?_) (fun h46 => ?_)
      · have h46 : decide (((s.data.toList.getD j 0).toNat : Int) = 46) = true := h46
        rw [hc46] at h46
        rw [if_pos (of_decide_eq_true h46)] at hsc
        refine ⟨(j + 1, true), ⟨hlt, hsc⟩, by simp only; omega, ?_⟩
        exact ent_ren [] rfl rfl rfl rfl (Nat.zero_le _) ⟨⟨_, rfl, rfl⟩, ⟨_, rfl, rfl⟩, ⟨_, rfl, oneI (wrapI (by omega) (by omega))⟩, trivial⟩ trivial trivial
      have h46 : decide (((s.data.toList.getD j 0).toNat : Int) = 46) = false := h46
      rw [hc46] at h46
      rw [if_neg (of_decide_eq_false h46)] at hsc
      refine ⟨{ n := j }, ⟨rfl, hlt⟩, ?_⟩
      refine callVC_plain hl (fun _ => rfl) (fun _ _ => trivial) ?_
      rintro r rfl
      rw [if_pos (letter_sign hlv)] at hsc
      refine ⟨(j + 1, false), ⟨hlt, hsc⟩, by simp only; omega, ?_⟩
      exact ent_ren [] rfl rfl rfl rfl (Nat.zero_le _) ⟨⟨_, rfl, rfl⟩, ⟨_, rfl, rfl⟩, ⟨_, rfl, oneI (wrapI (by omega) (by omega))⟩, trivial⟩ trivial trivial
    | false =>
      refine ⟨{ n := j }, ⟨rfl, hlt⟩, ?_⟩
      refine bsplit_i (fun h46 => ?_) (fun h46 => ?_)
      · have h46 : decide (((s.data.toList.getD j 0).toNat : Int) = 46) = true := h46
        rw [hc46] at h46
        rw [if_pos (of_decide_eq_true h46)] at hsc
        refine ⟨(j + 1, true), ⟨hlt, hsc⟩, by simp only; omega, ?_⟩
        exact ent_ren [] rfl rfl rfl rfl (Nat.zero_le _) ⟨⟨_, rfl, rfl⟩, ⟨_, rfl, rfl⟩, ⟨_, rfl, oneI (wrapI (by omega) (by omega))⟩, trivial⟩ trivial trivial
      have h46 : decide (((s.data.toList.getD j 0).toNat : Int) = 46) = false := h46
      rw [hc46] at h46
      rw [if_neg (of_decide_eq_false h46)] at hsc
      refine ⟨{ n := j }, ⟨rfl, hlt⟩, ?_⟩
      refine callVC_plain hl (fun _ => rfl) (fun _ _ => trivial) ?_
      rintro r rfl
      rw [if_pos (letter_sign hlv)] at hsc
      refine ⟨(j + 1, false), ⟨hlt, hsc⟩, by simp only; omega, ?_⟩
      exact ent_ren [] rfl rfl rfl rfl (Nat.zero_le _) ⟨⟨_, rfl, rfl⟩, ⟨_, rfl, rfl⟩, ⟨_, rfl, oneI (wrapI (by omega) (by omega))⟩, trivial⟩ trivial trivial
end Go.Proofs.YtmkpiekbpakigaaGreatDoor
