/- The reference's Num (10), Term (12). -/
import Derived.Test.YtmkpiekbpakigaaGreatDoorRi
set_option linter.unusedVariables false
set_option linter.unusedSimpArgs false
namespace Go.Proofs.YtmkpiekbpakigaaGreatDoor
open Go.RowKit Go.Proofs.Base Go.Proofs.Sym

theorem NumR_lc (n : Int) : LCall Tryz.prog 10 [.one (.v (.int .i64 n))] [] 0 (fun _ => True) (fun _ : Unit => True) (fun _ => optRes (numOkB n) (numB n.toNat)) := by
  refine lcall_of tabOk 12 [.tmp 2, .tmp 3] Tryz.func10 rfl rfl (by kernel_rfl) rfl _ (Nat.le_of_ble_eq_true rfl) Up.true ?_
  refine svc_ok tabOk [] _ _ _ ?_
  have fin : ∀ b1 b2, decide (n < 0) = b1 → decide (1099511627776 < n) = b2 → numOkB n = (!b1 && !b2) := fun b1 b2 h1 h2 => by
    rw [← h1, ← h2, numOkB, Bool.eq_iff_iff]
    simp
  refine bsplit_i (fun h1 => ?_) (fun h1 => ?_)
  · have hb : numOkB n = false := (fin _ _ h1 rfl).trans (by rfl)
    rw [hb]
    exact ⟨_, rfl, (), trivial, rfl, ent_ren [] rfl rfl rfl rfl (Nat.zero_le _) ⟨⟨_, rfl, rfl⟩, trivial⟩ trivial ⟨⟨Up.true, fun _ _ => trivial⟩, trivial⟩⟩
  refine bsplit_i (fun h2 => ?_) (fun h2 => ?_)
  · have hb : numOkB n = false := (fin _ _ h1 h2).trans (by rfl)
    rw [hb]
    exact ⟨_, rfl, (), trivial, rfl, ent_ren [] rfl rfl rfl rfl (Nat.zero_le _) ⟨⟨_, rfl, rfl⟩, trivial⟩ trivial ⟨⟨Up.true, fun _ _ => trivial⟩, trivial⟩⟩
  have hb : numOkB n = true := (fin _ _ h1 h2).trans (by rfl)
  have h1 : decide (n < 0) = false := h1
  have h2 : decide (1099511627776 < n) = false := h2
  have h1 := of_decide_eq_false h1
  have h2 := of_decide_eq_false h2
  rw [hb]
  obtain ⟨N, rfl⟩ : ∃ N : Nat, n = N := ⟨n.toNat, by omega⟩
  rw [Int.toNat_natCast]
  refine callVC_lend [] (numR_lc N (by omega)) rfl trivial rfl rfl (fun _ _ => trivial) (fun _ _ => ⟨rfl, rfl⟩) (fun _ _ => ?_)
  exact ⟨_, rfl, (), trivial, rfl, ent_ren [(0, .own 0)] rfl rfl rfl rfl (Nat.zero_le _) ⟨⟨_, rfl, rfl⟩, trivial⟩ ⟨⟨_, _, rfl, rfl, rfl⟩, trivial⟩ ⟨⟨Up.true, fun _ _ => trivial⟩, trivial⟩⟩
theorem TermR_lc (t : TT) : LCall Tryz.prog 12 [.one (.v t.val)] [] 0 (fun w => TTIn w t) (fun _ : Unit => True) (fun _ => optRes (codeB t.tm) (putT t.tm)) := by
  have ha := AnyR_pc t
  have hf := far_pc t
  have hc := @code_ok t.tm
  have hput := fun h1 h2 => termR_lc t h1 h2
  have hcode : codeB t.tm = (rightB 4 1099511627776 t.tm && nearT t.tm) := rfl
  obtain ⟨a, hae⟩ : ∃ x, rightB 4 1099511627776 t.tm = x := ⟨_, rfl⟩
  obtain ⟨f, hfe⟩ : ∃ x, nearT t.tm = x := ⟨_, rfl⟩
  obtain ⟨b, hb⟩ : ∃ x, codeB t.tm = x := ⟨_, rfl⟩
  rw [hae] at ha hcode
  rw [hfe] at hf hcode
  rw [hb] at hc hcode ⊢
  obtain ⟨Y, hY⟩ : ∃ Y, putT t.tm = Y := ⟨_, rfl⟩
  rw [hY] at hput ⊢
  obtain ⟨W, hW⟩ : ∃ W, wT t.tm = W := ⟨_, rfl⟩
  obtain ⟨O, hO⟩ : ∃ O, PutOk t.tm = O := ⟨_, rfl⟩
  rw [hW, hO] at hput hc
  obtain ⟨k, n, s, la, lc, ls, aa, ac, us⟩ := t
  refine lcall_of tabOk 13 [.tmp 2, .tmp 3] Tryz.func12 rfl rfl (by kernel_rfl) rfl _ (Nat.le_of_ble_eq_true rfl) (TTIn.upS _) ?_
  refine svc_ok tabOk [] _ _ _ ?_
  refine callVC_plain ha (fun _ => rfl) (fun w h => h.1) ?_
  rintro r rfl
  cases a with
  | false =>
    have hcode : b = false := hcode
    subst hcode
    exact ⟨_, rfl, (), trivial, rfl, ent_ren [] rfl rfl rfl rfl (Nat.zero_le _) ⟨⟨_, rfl, rfl⟩, trivial⟩ trivial ⟨⟨Up.true, fun _ _ => trivial⟩, trivial⟩⟩
  | true =>
  refine callVC_plain hf (fun _ => rfl) (fun w h => h.2.1) ?_
  rintro r rfl
  cases f with
  | false =>
    have hcode : b = false := hcode
    subst hcode
    exact ⟨_, rfl, (), trivial, rfl, ent_ren [] rfl rfl rfl rfl (Nat.zero_le _) ⟨⟨_, rfl, rfl⟩, trivial⟩ trivial ⟨⟨Up.true, fun _ _ => trivial⟩, trivial⟩⟩
  | true =>
  have hcode : b = true := hcode
  subst hcode
  obtain ⟨g1, g2, g3⟩ := hc rfl
  refine callVC_lend [] (hput (by omega) g1) rfl trivial rfl rfl (fun w h => h.2.2.1) (fun _ _ => ⟨rfl, rfl⟩) (fun _ _ => ?_)
  exact ⟨_, rfl, (), trivial, rfl, ent_ren [(0, .own 1)] rfl rfl rfl rfl (Nat.zero_le _) ⟨⟨_, rfl, rfl⟩, trivial⟩ ⟨⟨_, _, rfl, rfl, rfl⟩, trivial⟩ ⟨⟨Up.true, fun _ _ => trivial⟩, trivial⟩⟩
end Go.Proofs.YtmkpiekbpakigaaGreatDoor
