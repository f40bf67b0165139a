/- What the claim needs of Cb0, Cb1, in one text. -/
import Derived.Test.YtmkpiekbpakigaaGreatDoorDomi
section
set_option linter.unusedVariables false
set_option linter.unusedSimpArgs false
namespace Go.Proofs.YtmkpiekbpakigaaGreatDoor
open Go.RowKit Go.Proofs.Base Go.Proofs.Sym
theorem rdDecls_more : ∀ (n : Nat) (left : Int) (l : List Nat) (ds : List DM) (left' : Int) (r : List Nat), rdDecls n left l = some (ds, left', r) → ∀ x, rdDecls n left (l ++ x) = some (ds, left', r ++ x)
  | 0, left, l, ds, left', r, h, x => by
    cases h
    rfl
  | n + 1, left, l, ds, left', r, h, x => by
    rw [rdDecls] at h ⊢
    cases h1 : rdDecl l with
    | none => rw [h1] at h; cases h
    | some q =>
    obtain ⟨d, left1, l1⟩ := q
    rw [h1] at h
    rw [rdDecl_more h1]
    simp only at h ⊢
    cases h2 : rdDecls n left1 l1 with
    | none => rw [h2] at h; cases h
    | some q =>
    obtain ⟨ds2, left2, l2⟩ := q
    rw [h2] at h
    rw [rdDecls_more n _ _ _ _ _ h2]
    cases h
    rfl
theorem rdLib_more {l : List Nat} {ds : List DM} (h : rdLib l = some ds) (x : Nat) : rdLib (l ++ [x]) = none := by
  unfold rdLib at h ⊢
  cases h1 : rdNum 64 l with
  | none => rw [h1] at h; cases h
  | some q =>
  obtain ⟨n, r⟩ := q
  rw [h1] at h
  rw [rdNum_more h1]
  simp only at h ⊢
  cases h2 : rdDecls n 0 r with
  | none => rw [h2] at h; cases h
  | some q =>
  obtain ⟨ds2, left2, l2⟩ := q
  rw [h2] at h
  rw [rdDecls_more n _ _ _ _ _ h2]
  simp only at h ⊢
  rw [decide_eq_false (by rw [List.length_append, List.length_singleton]; omega)]
theorem libN_len {ds : List DM} (h : libB ds = true) : (libN ds).length ≤ 200000000 := by
  unfold libB at h
  rw [Bool.and_eq_true, decide_eq_true_eq, List.all_eq_true] at h
  have h1 := declsN_len ds h.2
  have h2 := numB_len ds.length
  unfold libN
  rw [List.length_append]
  omega
theorem put_code_len {t : Tm} (h : codeB t = true) : (putT t).length ≤ 300000 := by
  obtain ⟨h1, h2, _⟩ := code_ok h
  exact Nat.le_trans (putT_len t h1) h2
def numOkB (n : Int) : Bool := decide (0 ≤ n) && decide (n ≤ 1099511627776)
theorem NumI_lc (n : Int) : LCall Tryz.prog 9 [.one (.v (.int .i64 n))] [] 0 (fun _ => True) (fun _ : Unit => True) (fun _ => optRes (numOkB n) (numB n.toNat)) := by
  by_cases hn : 0 ≤ n ∧ n ≤ 1099511627776
  · obtain ⟨m, rfl⟩ : ∃ m : Nat, n = (m : Int) := ⟨n.toNat, by omega⟩
    have h := Num_lc m (by omega)
    rw [show numOkB (m : Int) = true by unfold numOkB; simp; omega, Int.toNat_natCast]
    exact h
  have hb : numOkB n = false := by
    unfold numOkB
    rw [Bool.and_eq_false_iff, decide_eq_false_iff_not, decide_eq_false_iff_not]
    omega
  rw [hb]
  refine lcall_of tabOk 12 [.tmp 2, .tmp 3] Tryz.func9 rfl rfl (by kernel_rfl) rfl _ (Nat.le_of_ble_eq_true rfl) Up.true ?_
  refine svc_ok tabOk [] _ _ _ ?_
  refine bsplit_i (fun h1 => ?_) (fun h1 => ?_)
  · exact ⟨_, rfl, (), trivial, rfl, ent_ren [] rfl rfl rfl rfl (Nat.zero_le _) ⟨⟨_, rfl, rfl⟩, trivial⟩ trivial ⟨⟨Up.true, fun _ _ => trivial⟩, trivial⟩⟩
  refine bsplit_i (fun h2 => ?_) (fun h2 => ?_)
  · exact ⟨_, rfl, (), trivial, rfl, ent_ren [] rfl rfl rfl rfl (Nat.zero_le _) ⟨⟨_, rfl, rfl⟩, trivial⟩ trivial ⟨⟨Up.true, fun _ _ => trivial⟩, trivial⟩⟩
  exfalso
  have h1 : decide (n < 0) = false := h1
  have h2 : decide (1099511627776 < n) = false := h2
  have := of_decide_eq_false h1
  have := of_decide_eq_false h2
  omega
theorem copy_lc (A : Option Addr) (c : Nat) (l : List Nat) (hl : l.length ≤ 140737488355328) : LCall Tryz.prog 22 [.one (.v (.slice A l.length c))] [] 0 (fun w => BtIn w A c l) (fun _ : Unit => True) (fun _ => { v := .one (.row 0), m := [(0, .own 5 1 l.length (bc l))], k := 1 }) := by
  by_cases hA : A = none ∧ (l.length ≠ 0 ∨ c ≠ 0)
  · refine ⟨BtIn.up _ _ _, fun cx e w hw0 hn0 he0 hm hlt => ?_⟩
    exfalso
    have := hm.fact.1.nil hA.1
    have := hA.2
    omega
  refine lcall_of tabOk 9 [.tmp 2] Tryz.func22 rfl rfl (by kernel_rfl) rfl _ (Nat.le_of_ble_eq_true rfl) (BtIn.up _ _ _) ?_
  refine svc_ok tabOk [] _ _ _ ?_
  refine ⟨{ cs := bc l }, ⟨⟨by rw [bc_len]; exact (Nat.mul_one _).symm, ?_, ?_, fun w h => h.1.cells⟩, Nat.one_pos, .inr rfl, ?_, ?_⟩, ?_⟩
  · intro u hu
    obtain ⟨q, _, rfl⟩ := List.mem_map.1 hu
    rfl
  · intro h
    refine Classical.byContradiction fun hne => hA ⟨h, ?_⟩
    omega
  · show 0 + l.length ≤ maxLen
    simp only [maxLen]; omega
  · show (0 + l.length) * 1 ≤ _
    omega
  refine ⟨_, rfl, (), trivial, rfl, ?_⟩
  exact ent_ren [(0, .own 1)] rfl rfl rfl rfl (Nat.zero_le _) ⟨⟨_, rfl, rfl⟩, trivial⟩ ⟨⟨_, _, rfl, by simp, by simp⟩, trivial⟩ ⟨⟨Up.true, fun _ _ => trivial⟩, trivial⟩
theorem TermA_lc (t : TT) : LCall Tryz.prog 11 [ttA t] [] 0 (fun w => ML w ∧ TTIn w t) (fun _ : Unit => True) (fun _ => optRes (codeB t.tm) (putT t.tm)) :=
  LCall.arg (Term_lc t) (fun e => by
    show [Value.agg (reals e (t.cells.map SA.v)).toArray] = _
    rw [map_plain]
    rfl) (fun x hx => by
    rw [List.mem_singleton.1 hx]
    trivial)
theorem same_true (A B : Option Addr) (c d : Nat) (l : List Nat) (hl : l.length ≤ 9223372036854775807) : PCall Tryz.prog 15 [.slice A l.length c, .slice B l.length d] (fun w => BtIn w A c l ∧ BtIn w B d l) (fun u => u = .bool true) (fun _ _ => True) := by
  have h := sameBytes_pc A B c d l l hl
  simpa using h
theorem sameT_true (a b : TT) (h : a.tm = b.tm) : PCall Tryz.prog 39 [a.val, b.val] (samePre a b) (fun r => r = .bool true) (fun _ _ => True) := by
  have h2 := same_pc a b
  rw [sameT_of a b h] at h2
  exact h2
theorem sameD_true (a b : DD) (h : a.dm = b.dm) : PCall Tryz.prog 21 [a.dv, b.dv] (sdPre a b) (fun r => r = .bool true) (fun _ _ => True) := by
  have h2 := sameDecl_pc a b
  rw [sameD_of h] at h2
  exact h2
end Go.Proofs.YtmkpiekbpakigaaGreatDoor
end
