/- CopyBytes, and the walk of the statement LevelTexts. -/
import Derived.Test.YtmkpiekbpakigaaDoorLvP
import Derived.Test.YtmkpiekbpakigaaDoorSymK
import Derived.Test.YtmkpiekbpakigaaDoorLv13
set_option linter.unusedVariables false
set_option linter.unusedSimpArgs false
namespace Go.Proofs.YtmkpiekbpakigaaDoor
open Go.RowKit Go.Proofs.Base Go.Proofs.Sym

/-- A copy of bytes. -/
theorem copyBytes_pc (A : Option Addr) (n c : Nat) (l : List UInt8) (hn : n = l.length) (hl : l.length ≤ 140737488355328) (h0 : A = none → n = 0 ∧ c = 0) :
    PCall Tryd.prog 20 [.slice A n c] (fun w => BytesAt w A l) (fun r => ∃ B k, r = .slice B n k) (fun r w => ∃ B k, r = .slice B n k ∧ (B = none → n = 0 ∧ k = 0) ∧ BytesAt w B l) := by
  refine pcall_of tabOk 9 [.tmp 2] Tryd.func20 rfl rfl (by kernel_rfl) rfl _ (Nat.le_of_ble_eq_true rfl) (BytesAt.up A l) (fun _ => Up.ex fun _ => Up.ex fun _ => Up.and (Up.pure _) (Up.and (Up.pure _) (BytesAt.up _ _))) ?_
  refine svc_ok tabOk [] _ _ _ ?_
  refine ⟨{ cs := byteCells l }, ⟨⟨?_, byteCells_one l, h0, fun w h => bytesAt_iff.1 h.1⟩, Nat.zero_lt_one, .inr rfl, ?_, ?_⟩, ?_⟩
  · show (byteCells l).length = n * 1
    rw [byteCells_len, hn, Nat.mul_one]
  · show 0 + n ≤ maxLen
    simp only [maxLen]; omega
  · show (0 + n) * 1 ≤ 140737488355328
    omega
  refine ⟨_, rfl, ⟨fun cx e w hG hm => ?_⟩⟩
  obtain ⟨B, k, hv, h1, h2, h3, h4⟩ := hm.told_row (i := 1) hG rfl
  have hz : 0 + n = n := Nat.zero_add n
  have hv : e.rv 1 = .slice B (0 + n) k := hv
  rw [hz] at hv
  refine ⟨⟨B, k, hv⟩, B, k, hv, fun hb => ?_, bytesAt_iff.2 h4⟩
  obtain ⟨h5, h6⟩ := h1 hb
  exact ⟨by rw [← hz]; exact h5, h6⟩
theorem bytes_empty {l : List UInt8} : ((⟨l.toArray⟩ : ByteArray) = ⟨#[]⟩) ↔ l = [] := by
  constructor
  · intro h
    have := congrArg (fun x : ByteArray => x.data.toList) h
    simpa using this
  · rintro rfl; rfl
theorem text_right (a : Lv) : decide ((⟨a.text.toArray⟩ : ByteArray) = ⟨#[]⟩) = !a.right := by
  cases h : a.right
  · rw [text_no h]; rfl
  · have := text_ne h
    simp [bytes_empty, this]
theorem texts_eq {a b : Lv} (ha : a.right = true) (hb : b.right = true) : decide ((⟨a.text.toArray⟩ : ByteArray) = ⟨b.text.toArray⟩) = decide (a = b) := by
  rw [Bool.eq_iff_iff, decide_eq_true_iff, decide_eq_true_iff]
  constructor
  · intro h
    have := congrArg (fun x : ByteArray => x.data.toList) h
    exact text_inj ha hb (by simpa using this)
  · rintro rfl; rfl
theorem text_len (a : Lv) : a.text.length ≤ 1000000 := by
  unfold Lv.text
  split
  · rename_i hr
    have hp : ∀ k, a.p k ≤ 100 := fun k => by
      have h1 := Lv.p_le_b hr k
      have h2 := (Lv.right_bd hr).2.2.2.2.2
      omega
    have hb := Lv.right_bd hr
    have h100 : ∀ x ∈ a.full, x.length ≤ 100 := by
      intro x hx
      unfold Lv.full at hx
      rcases List.mem_append.1 hx with hx | hx
      · split at hx
        · cases hx
        · rw [List.mem_singleton.1 hx]
          have := itoa_len a.b (by omega) (by omega)
          omega
      · exact parts_len a hp 4 (Nat.le_refl _) x hx
    have hl : a.full.length ≤ 5 := by
      unfold Lv.full
      have := partsGo_len a 4
      split <;> simp <;> omega
    have := join_len (M := 100) (xs := a.full) (sep := [32, 124, 32]) h100
    have h5 : ([32, 124, 32] : List UInt8).length + 100 = 103 := rfl
    rw [h5] at this
    have : 103 * a.full.length ≤ 103 * 5 := Nat.mul_le_mul_left _ hl
    omega
  · simp
theorem eq_vals2 (a b : Lv) : (decide (a.b = b.b) && (decide (a.p0 = b.p0) && (decide (a.p1 = b.p1) && (decide (a.p2 = b.p2) && (decide (a.p3 = b.p3) && true))))) = decide (a = b) := by
  rw [← eq_vals, Bool.and_true]
  rfl
theorem texts_pc (a b : Lv) : PCall Tryd.prog 6 [a.val, b.val] Tab (fun r => r = .bool true) (fun _ _ => True) := by
  have hla := text_len a
  refine pcall_of tabOk 45 [.tmp 4] Tryd.func6 rfl rfl (by kernel_rfl) rfl _ (Nat.le_of_ble_eq_true rfl) Tab.upS (fun _ => Up.true) ?_
  refine svc_ok tabOk [] _ _ _ ?_
  refine callVC_plain alive7_pc (fun _ => rfl) (fun _ h => h.1) ?_
  rintro r rfl
  refine callVC_plain (string_pc a) (fun _ => rfl) (fun _ h => h.2.1) ?_
  rintro r rfl
  refine callVC_plain (string_pc b) (fun _ => rfl) (fun _ h => h.2.2.1) ?_
  rintro r rfl
  refine callVC_plain (right_pc a) (fun _ => rfl) (fun _ _ => trivial) ?_
  rintro r rfl
  refine bsplit_i (fun h => ?_) (fun h => ?_)
  · exfalso
    have h : (!((!decide ((⟨a.text.toArray⟩ : ByteArray) = ⟨#[]⟩)) == a.right)) = true := h
    rw [text_right] at h
    cases hr : a.right <;> rw [hr] at h <;> simp at h
  refine callVC_plain (right_pc b) (fun _ => rfl) (fun _ _ => trivial) ?_
  rintro r rfl
  refine bsplit_i (fun h2 => ?_) (fun h2 => ?_)
  · exfalso
    have h2 : (!((!decide ((⟨b.text.toArray⟩ : ByteArray) = ⟨#[]⟩)) == b.right)) = true := h2
    rw [text_right] at h2
    cases hr : b.right <;> rw [hr] at h2 <;> simp at h2
  refine bsplit_i (fun h3 => ?_) (fun h3 => ?_)
  · exact ⟨_, rfl, Told.val rfl⟩
  have hra : a.right = true := by
    have h3 : decide ((⟨a.text.toArray⟩ : ByteArray) = ⟨#[]⟩) = false := h3
    rw [text_right] at h3
    simpa using h3
  refine bsplit_i (fun h4 => ?_) (fun h4 => ?_)
  · rintro u ⟨A, c, rfl⟩
    refine callVC_plain (copyBytes_pc (some A) _ c a.text rfl (by omega) (fun h => by cases h)) (fun _ => rfl) (fun w h => ?_) ?_
    · obtain ⟨⟨A', c', h5, h6⟩, _⟩ := h
      cases h5
      simpa using h6
    rintro r ⟨B, k, rfl⟩
    exact ⟨_, rfl, Told.val (congrArg Value.bool (decide_eq_true rfl))⟩
  · exfalso
    have h4 : (decide ((⟨a.text.toArray⟩ : ByteArray) = ⟨b.text.toArray⟩) == (decide (a.b = b.b) && (decide (a.p0 = b.p0) && (decide (a.p1 = b.p1) && (decide (a.p2 = b.p2) && (decide (a.p3 = b.p3) && true)))))) = false := h4
    rw [eq_vals2] at h4
    cases hrb : b.right with
    | true =>
      rw [texts_eq hra hrb] at h4
      simp at h4
    | false =>
      have h5 : decide ((⟨a.text.toArray⟩ : ByteArray) = ⟨b.text.toArray⟩) = false := by
        rw [text_no hrb]
        rw [text_right, hra]
        rfl
      have h6 : decide (a = b) = false := by
        rw [decide_eq_false_iff_not]
        rintro rfl
        rw [hra] at hrb
        cases hrb
      rw [h5, h6] at h4
      simp at h4
/-- The walk of LevelTexts. -/
theorem texts_true (a b : Lv) (w : World) (ht : Tab w) : Calls Tryd.prog 6 #[a.val, b.val] w fun e w' => e = .returned (.bool true) ∧ Below w.heap.size w w' :=
  ((texts_pc a b).run w (fun _ => False) (fun _ h => h.elim) (Tab.upS _ _ (fun g o hg ho => by rw [hide_get, hg]; simp) ht)).mono fun en w' ⟨r, h1, h2, _, h4⟩ => ⟨by rw [h1, h2], h4⟩
end Go.Proofs.YtmkpiekbpakigaaDoor
