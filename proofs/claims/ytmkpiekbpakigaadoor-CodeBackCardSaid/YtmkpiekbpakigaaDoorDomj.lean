/- What the claim needs of Cb0, Cb1, in one text. -/
import Derived.Test.YtmkpiekbpakigaaDoorDomi
section
set_option linter.unusedVariables false
set_option linter.unusedSimpArgs false
namespace Go.Proofs.YtmkpiekbpakigaaDoor
open Go.RowKit Go.Proofs.Base Go.Proofs.Sym
theorem rdDecls_more : ∀ (n : Nat) (left : Int) (l : List Nat) (ds : List DM) (left' : Int) (r : List Nat), rdDecls n left l = some (ds, left', r) → ∀ x, rdDecls n left (l ++ x) = some (ds, left', r ++ x)
  | 0, left, l, ds, left', r, h, x => by
    cases h
    rfl
  | n + 1, left, l, ds, left', r, h, x => by
    rw [rdDecls] at h ⊢
    cases h1 : rdDecl l with
    | none => rw [h1] at h; cases h
    | some q =>
    obtain ⟨d, left1, l1⟩ := q
    rw [h1] at h
    rw [rdDecl_more h1]
    simp only at h ⊢
    cases h2 : rdDecls n left1 l1 with
    | none => rw [h2] at h; cases h
    | some q =>
    obtain ⟨ds2, left2, l2⟩ := q
    rw [h2] at h
    rw [rdDecls_more n _ _ _ _ _ h2]
    cases h
    rfl
theorem rdLib_more {l : List Nat} {ds : List DM} (h : rdLib l = some ds) (x : Nat) : rdLib (l ++ [x]) = none := by
  unfold rdLib at h ⊢
  cases h1 : rdNum 64 l with
  | none => rw [h1] at h; cases h
  | some q =>
  obtain ⟨n, r⟩ := q
  rw [h1] at h
  rw [rdNum_more h1]
  simp only at h ⊢
  cases h2 : rdDecls n 0 r with
  | none => rw [h2] at h; cases h
  | some q =>
  obtain ⟨ds2, left2, l2⟩ := q
  rw [h2] at h
  rw [rdDecls_more n _ _ _ _ _ h2]
  simp only at h ⊢
  rw [decide_eq_false (by rw [List.length_append, List.length_singleton]; omega)]
theorem libN_len {ds : List DM} (h : libB ds = true) : (libN ds).length ≤ 200000000 := by
  unfold libB at h
  rw [Bool.and_eq_true, decide_eq_true_eq, List.all_eq_true] at h
  have h1 := declsN_len ds h.2
  have h2 := numB_len ds.length
  unfold libN
  rw [List.length_append]
  omega
theorem put_code_len {t : Tm} (h : codeB t = true) : (putT t).length ≤ 300000 := by
  obtain ⟨h1, h2, _⟩ := code_ok h
  exact Nat.le_trans (putT_len t h1) h2
def numOkB (n : Int) : Bool := decide (0 ≤ n) && decide (n ≤ 1099511627776)
theorem NumI_lc (n : Int) : LCall Tryd.prog 28 [.one (.v (.int .i64 n))] [] 0 (fun _ => True) (fun _ : Unit => True) (fun _ => optRes (numOkB n) (numB n.toNat)) := by
  by_cases hn : 0 ≤ n ∧ n ≤ 1099511627776
  · obtain ⟨m, rfl⟩ : ∃ m : Nat, n = (m : Int) := ⟨n.toNat, by omega⟩
    have h := Num_lc m (by omega)
    rw [show numOkB (m : Int) = true by unfold numOkB; simp; omega, Int.toNat_natCast]
    exact h
  have hb : numOkB n = false := by
    unfold numOkB
    rw [Bool.and_eq_false_iff, decide_eq_false_iff_not, decide_eq_false_iff_not]
    omega
  rw [hb]
  refine lcall_of tabOk 12 [.tmp 2, .tmp 3] Tryd.func28 rfl rfl (by kernel_rfl) rfl _ (Nat.le_of_ble_eq_true rfl) Up.true ?_
  refine svc_ok tabOk [] _ _ _ ?_
  refine bsplit_i (fun h1 => ?_) (fun h1 => ?_)
  · exact ⟨_, rfl, (), trivial, rfl, ent_ren [] rfl rfl rfl rfl (Nat.zero_le _) ⟨⟨_, rfl, rfl⟩, trivial⟩ trivial ⟨⟨Up.true, fun _ _ => trivial⟩, trivial⟩⟩
  refine bsplit_i (fun h2 => ?_) (fun h2 => ?_)
  · exact ⟨_, rfl, (), trivial, rfl, ent_ren [] rfl rfl rfl rfl (Nat.zero_le _) ⟨⟨_, rfl, rfl⟩, trivial⟩ trivial ⟨⟨Up.true, fun _ _ => trivial⟩, trivial⟩⟩
  exfalso
  have h1 : decide (n < 0) = false := h1
  have h2 : decide (1099511627776 < n) = false := h2
  have := of_decide_eq_false h1
  have := of_decide_eq_false h2
  omega
theorem copy_lc (A : Option Addr) (c : Nat) (l : List Nat) (hl : l.length ≤ 140737488355328) : LCall Tryd.prog 20 [.one (.v (.slice A l.length c))] [] 0 (fun w => BtIn w A c l) (fun _ : Unit => True) (fun _ => { v := .one (.row 0), m := [(0, .own 5 1 l.length (bc l))], k := 1 }) := by
  by_cases hA : A = none ∧ (l.length ≠ 0 ∨ c ≠ 0)
  · refine ⟨BtIn.up _ _ _, fun cx e w hw0 hn0 he0 hm hlt => ?_⟩
    exfalso
    have := hm.fact.1.nil hA.1
    have := hA.2
    omega
  refine lcall_of tabOk 9 [.tmp 2] Tryd.func20 rfl rfl (by kernel_rfl) rfl _ (Nat.le_of_ble_eq_true rfl) (BtIn.up _ _ _) ?_
  refine svc_ok tabOk [] _ _ _ ?_
  refine ⟨{ cs := bc l }, ⟨⟨by rw [bc_len]; exact (Nat.mul_one _).symm, ?_, ?_, fun w h => h.1.cells⟩, Nat.one_pos, .inr rfl, ?_, ?_⟩, ?_⟩
  · intro u hu
    obtain ⟨q, _, rfl⟩ := List.mem_map.1 hu
    rfl
  · intro h
    refine Classical.byContradiction fun hne => hA ⟨h, ?_⟩
    omega
  · show 0 + l.length ≤ maxLen
    simp only [maxLen]; omega
  · show (0 + l.length) * 1 ≤ _
    omega
  refine ⟨_, rfl, (), trivial, rfl, ?_⟩
  exact ent_ren [(0, .own 1)] rfl rfl rfl rfl (Nat.zero_le _) ⟨⟨_, rfl, rfl⟩, trivial⟩ ⟨⟨_, _, rfl, by simp, by simp⟩, trivial⟩ ⟨⟨Up.true, fun _ _ => trivial⟩, trivial⟩
theorem TermA_lc (t : TT) : LCall Tryd.prog 31 [ttA t] [] 0 (fun w => ML w ∧ TTIn w t) (fun _ : Unit => True) (fun _ => optRes (codeB t.tm) (putT t.tm)) :=
  LCall.arg (Term_lc t) (fun e => by
    show [Value.agg (reals e (t.cells.map SA.v)).toArray] = _
    rw [map_plain]
    rfl) (fun x hx => by
    rw [List.mem_singleton.1 hx]
    trivial)
theorem same_true (A B : Option Addr) (c d : Nat) (l : List Nat) (hl : l.length ≤ 9223372036854775807) : PCall Tryd.prog 30 [.slice A l.length c, .slice B l.length d] (fun w => BtIn w A c l ∧ BtIn w B d l) (fun u => u = .bool true) (fun _ _ => True) := by
  have h := sameBytes_pc A B c d l l hl
  simpa using h
theorem sameT_true (a b : TT) (h : a.tm = b.tm) : PCall Tryd.prog 33 [a.val, b.val] (samePre a b) (fun r => r = .bool true) (fun _ _ => True) := by
  have h2 := same_pc a b
  rw [sameT_of a b h] at h2
  exact h2
theorem sameD_true (a b : DD) (h : a.dm = b.dm) : PCall Tryd.prog 34 [a.dv, b.dv] (sdPre a b) (fun r => r = .bool true) (fun _ _ => True) := by
  have h2 := sameDecl_pc a b
  rw [sameD_of h] at h2
  exact h2
end Go.Proofs.YtmkpiekbpakigaaDoor
end
section
set_option linter.unusedVariables false
set_option linter.unusedSimpArgs false
namespace Go.Proofs.YtmkpiekbpakigaaDoor
open Go.RowKit Go.Proofs.Base Go.Proofs.Sym
def cbPre (t : TT) (A : Option Addr) (c : Nat) (ds : List DD) (B : Option Addr) (cb : Nat) (b : List Nat) (w : World) : Prop := (ML w ∧ TTIn w t) ∧ DsIn w A c ds ∧ BtIn w B cb b
theorem cbPre.upS (t : TT) (A : Option Addr) (c : Nat) (ds : List DD) (B : Option Addr) (cb : Nat) (b : List Nat) : Up (cbPre t A c ds B cb b) := (ML.up.and (TTIn.upS _)).and ((DsIn.up _ _ _).and (BtIn.up _ _ _))
theorem bc_one (l : List Nat) : ∀ u ∈ bc l, u.oneCell' = true := by
  intro u hu
  obtain ⟨q, _, rfl⟩ := List.mem_map.1 hu
  rfl
def cbN (S : List (Nat × SV)) (M : Nat × LB) (F : World → Prop) (l : List Nat) (i : Nat) : Bool → St
  | true => { s := (i, .one (.row 1)) :: (10, .one (.v (.bool true))) :: S, m := [M, (1, .own 5 1 l.length (bc l))], k := 2, f := [F] }
  | false => { s := (i, .one (.v (.slice none 0 0))) :: (10, .one (.v (.bool false))) :: S, m := [M], k := 1, f := [F] }
set_option maxHeartbeats 4000000 in
theorem codeBack_pc (n : Int) (t : TT) (A : Option Addr) (c : Nat) (ds : List DD) (B : Option Addr) (cb : Nat) (b : List Nat) (hBy : Bytes b) : PCall Tryd.prog 8 [.int .i64 n, t.val, .slice A ds.length c, .slice B b.length cb] (cbPre t A c ds B cb b) (fun r => r = .bool true) (fun _ _ => True) := by
  have hg8 := great8_pc t
  obtain ⟨g8, hg8e⟩ : ∃ g, decide (3600 < nodesR 3600 t) = g := ⟨_, rfl⟩
  rw [hg8e] at hg8
  have hg := great_pc A c ds
  have hNum := NumI_lc n
  have hTake := fun (l : List Nat) A c h1 h2 => TakeNum_lc A c l h1 h2
  have hNumBack : numOkB n = true → n = (n.toNat : Int) ∧ (numB n.toNat).length ≤ 100 ∧ ∀ r, rdNum 1099511627776 (numB n.toNat ++ r) = some (n.toNat, r) := fun h => by
    unfold numOkB at h
    rw [Bool.and_eq_true, decide_eq_true_eq, decide_eq_true_eq] at h
    have := numB_len n.toNat
    exact ⟨by omega, by omega, fun r => rdNum_back (by omega) (by omega) r⟩
  have hNumBy := numB_bytes n.toNat
  obtain ⟨nb, hnb⟩ : ∃ x, numOkB n = x := ⟨_, rfl⟩
  obtain ⟨ny, hny⟩ : ∃ x, numB n.toNat = x := ⟨_, rfl⟩
  rw [hnb] at hNum hNumBack
  rw [hny] at hNum hNumBack hNumBy
  have hTerm := TermA_lc t
  have hTermBack := fun h r => @rdWhole_back t.tm h r
  have hTermLen := fun h => @put_code_len t.tm h
  have hTermBy := putT_bytes t.tm
  have hTermSame := fun (x : TT) h => sameT_true x t h
  obtain ⟨tm, htm⟩ : ∃ m, t.tm = m := ⟨_, rfl⟩
  rw [htm] at hTerm hTermBack hTermLen hTermBy hTermSame
  obtain ⟨tb, htb⟩ : ∃ x, codeB tm = x := ⟨_, rfl⟩
  obtain ⟨ty, hty⟩ : ∃ x, putT tm = x := ⟨_, rfl⟩
  rw [htb] at hTerm hTermBack hTermLen
  rw [hty] at hTerm hTermBack hTermBy hTermLen
  have hLib := Library_lc A c ds
  obtain ⟨dms, hdms⟩ : ∃ x, ds.map DD.dm = x := ⟨_, rfl⟩
  rw [hdms] at hLib
  have hLibLen := fun h => @libN_len dms h
  have hLibBack := fun h => @rdLib_back dms h
  have hLibBy := libN_bytes dms
  obtain ⟨lb, hlb⟩ : ∃ x, libB dms = x := ⟨_, rfl⟩
  obtain ⟨ly, hly⟩ : ∃ x, libN dms = x := ⟨_, rfl⟩
  rw [hlb] at hLib hLibLen hLibBack
  rw [hly] at hLib hLibLen hLibBack hLibBy
  obtain ⟨tk, tn, tnm, tla, tlc, tls, taa, tac, tus⟩ := t
  refine pcall_of tabOk 190 [.tmp 8] Tryd.func8 rfl rfl (by kernel_rfl) rfl _ (Nat.le_of_ble_eq_true rfl) (cbPre.upS _ _ _ _ _ _ _) (fun _ => Up.true) ?_
  refine svc_ok tabOk [3] _ _ _ ?_
  refine callVC_plain alive_pc (fun _ => rfl) (fun w h => h.1.1.1) ?_
  rintro r rfl
  refine Walks.ent (st' := { s := [(0, .one (.v (.int .i64 n))), (2, .one (.v (.slice A ds.length c))), (3, .one (.v (.slice B b.length cb))), (5, .one (.p 0 0))], m := [(0, .cells 41 ((TT.mk tk tn tnm tla tlc tls taa tac tus).cells.map SA.v))], k := 1, f := [fun w => cbPre (TT.mk tk tn tnm tla tlc tls taa tac tus) A c ds B cb b w] }) (ent_ren [(0, .blk 0)] rfl rfl rfl rfl (Nat.le_of_ble_eq_true rfl) ⟨⟨_, rfl, rfl⟩, ⟨_, rfl, rfl⟩, ⟨_, rfl, rfl⟩, ⟨_, rfl, rfl⟩, trivial⟩ ⟨⟨_, rfl, rfl⟩, trivial⟩ ⟨⟨cbPre.upS _ _ _ _ _ _ _, fun w h => h.2.1⟩, trivial⟩) ?_
  refine svc_ok tabOk [5] _ _ _ ?_
  refine callVC_plain hg8 (fun _ => rfl) (fun w h => h.1.1.2) ?_
  rintro r rfl
  cases g8 with
  | true => exact ⟨_, rfl, Told.val rfl⟩
  | false =>
  refine callVC_plain hg (fun _ => rfl) (fun w h => h.2.1.2.1) ?_
  rintro r ⟨gb, rfl⟩
  cases gb with
  | true => exact ⟨_, rfl, Told.val rfl⟩
  | false =>
  refine bsplit_i (fun h300 => ?_) (fun h300 => ?_)
  · exact ⟨_, rfl, Told.val rfl⟩
  have hbl : b.length ≤ 300 := by
    have h : decide ((300 : Int) < (b.length : Int)) = false := h300
    have := of_decide_eq_false h
    omega
  refine Walks.told (p := B = none → b.length = 0 ∧ cb = 0) (fun w h => h.2.2.1.2.2.nil) (fun hB0 => ?_)
  refine Walks.told (p := ds.length ≤ 9223372036854775807) (fun w h => Nat.le_trans h.2.2.1.2.1.le h.2.2.1.2.1.max) (fun hdsl => ?_)
  refine Walks.ent (st' := { s := [(0, .one (.v (.int .i64 n))), (2, .one (.v (.slice A ds.length c))), (3, .one (.v (.slice B b.length cb))), (5, .one (.p 0 0))], m := [(0, .cells 41 ((TT.mk tk tn tnm tla tlc tls taa tac tus).cells.map SA.v))], k := 1, f := [fun w => cbPre (TT.mk tk tn tnm tla tlc tls taa tac tus) A c ds B cb b w] }) (ent_ren [(0, .blk 0)] rfl rfl rfl rfl (Nat.le_of_ble_eq_true rfl) ⟨⟨_, rfl, rfl⟩, ⟨_, rfl, rfl⟩, ⟨_, rfl, rfl⟩, ⟨_, rfl, rfl⟩, trivial⟩ ⟨⟨_, rfl, rfl⟩, trivial⟩ ⟨⟨cbPre.upS _ _ _ _ _ _ _, fun w h => h.2.2.1⟩, trivial⟩) ?_
  refine Walks.cut (cbN [(0, .one (.v (.int .i64 n))), (2, .one (.v (.slice A ds.length c))), (3, .one (.v (.slice B b.length cb))), (5, .one (.p 0 0))] (0, .cells 41 ((TT.mk tk tn tnm tla tlc tls taa tac tus).cells.map SA.v)) (cbPre (TT.mk tk tn tnm tla tlc tls taa tac tus) A c ds B cb b) ny 9 nb) ?_ ?_
  · cases nb with
    | false =>
      refine svc_ok tabOk [] _ _ _ ?_
      refine callVC_lend [] hNum rfl trivial rfl rfl (fun _ _ => trivial) (fun _ _ => ⟨rfl, rfl⟩) (fun _ _ => ?_)
      exact ent_ren [(0, .blk 0)] rfl rfl rfl rfl (Nat.le_of_ble_eq_true rfl) ⟨⟨_, rfl, rfl⟩, ⟨_, rfl, rfl⟩, ⟨_, rfl, rfl⟩, ⟨_, rfl, rfl⟩, ⟨_, rfl, rfl⟩, ⟨_, rfl, rfl⟩, trivial⟩ ⟨⟨_, rfl, rfl⟩, trivial⟩ ⟨⟨cbPre.upS _ _ _ _ _ _ _, fun w h => h.2.1⟩, trivial⟩
    | true =>
      refine svc_ok tabOk [] _ _ _ ?_
      refine callVC_lend [] hNum rfl trivial rfl rfl (fun _ _ => trivial) (fun _ _ => ⟨rfl, rfl⟩) (fun _ _ => ?_)
      exact ent_ren [(0, .blk 0), (1, .own 1)] rfl rfl rfl rfl (Nat.le_of_ble_eq_true rfl) ⟨⟨_, rfl, rfl⟩, ⟨_, rfl, rfl⟩, ⟨_, rfl, rfl⟩, ⟨_, rfl, rfl⟩, ⟨_, rfl, rfl⟩, ⟨_, rfl, rfl⟩, trivial⟩ ⟨⟨_, rfl, rfl⟩, ⟨_, _, rfl, rfl, rfl⟩, trivial⟩ ⟨⟨cbPre.upS _ _ _ _ _ _ _, fun w h => h.2.1⟩, trivial⟩
  refine Walks.cut ({ s := [(0, .one (.v (.int .i64 n))), (2, .one (.v (.slice A ds.length c))), (3, .one (.v (.slice B b.length cb))), (5, .one (.p 0 0))], m := [(0, .cells 41 ((TT.mk tk tn tnm tla tlc tls taa tac tus).cells.map SA.v))], k := 1, f := [fun w => cbPre (TT.mk tk tn tnm tla tlc tls taa tac tus) A c ds B cb b w] }) ?_ ?_
  · cases nb with
    | false =>
      refine svc_ok tabOk [] _ _ _ ?_
      exact ent_ren [(0, .blk 0)] rfl rfl rfl rfl (Nat.le_of_ble_eq_true rfl) ⟨⟨_, rfl, rfl⟩, ⟨_, rfl, rfl⟩, ⟨_, rfl, rfl⟩, ⟨_, rfl, rfl⟩, trivial⟩ ⟨⟨_, rfl, rfl⟩, trivial⟩ ⟨⟨cbPre.upS _ _ _ _ _ _ _, fun w h => h.1⟩, trivial⟩
    | true =>
    obtain ⟨hnn, hnl, hback⟩ := hNumBack rfl
    refine svc_ok tabOk [] _ _ _ ?_
    refine callVC_row 1 rfl (fun A1 c1 g1 g2 g3 => ?_)
    refine callVC_lend [] (copy_lc A1 c1 ny (by omega)) rfl trivial rfl rfl (fun w h => bt_of (l := ny) h.1 g1 g2 g3) (fun _ _ => ⟨rfl, rfl⟩) (fun _ _ => ?_)
    refine ⟨{ cs := bc b }, ⟨⟨by rw [bc_len]; exact (Nat.mul_one _).symm, bc_one b, hB0, fun w h => h.2.2.1.2.2.cells⟩, Nat.one_pos, .inr rfl, ?_, ?_⟩, ?_⟩
    · show ny.length + b.length ≤ maxLen
      simp only [maxLen]; omega
    · show (ny.length + b.length) * 1 ≤ _
      omega
    refine callVC_row 3 rfl (fun A3 c3 f1 f2 f3 => ?_)
    have hT := TakeNum_lc A3 c3 (ny ++ b) (hNumBy.app hBy) (by rw [List.length_append]; omega)
    rw [hback b] at hT
    refine callVC_lend [] hT (by rw [List.length_append]; rfl) trivial rfl rfl (fun w h => ⟨h.2.2.2.1.1.1, bt_of (l := ny ++ b) (by rw [bc_app]; exact h.1) (by rw [List.length_append]; exact f1) (by rw [List.length_append]; exact f2) f3⟩) (fun _ _ => ⟨rfl, rfl⟩) (fun x _ => ?_)
    obtain ⟨A12, c12⟩ := x
    refine bsplit_i (fun hne => ?_) (fun hne => ?_)
    · have h : (!decide ((n.toNat : Int) = n)) = true := hne
      rw [decide_eq_true hnn.symm] at h
      cases h
    refine callVC_plain (same_true A12 B c12 cb b (by omega)) (fun _ => rfl) (fun w h => ⟨h.1, h.2.2.2.2.1.2.2⟩) ?_
    rintro r rfl
    exact ent_ren [(0, .blk 0)] rfl rfl rfl rfl (Nat.le_of_ble_eq_true rfl) ⟨⟨_, rfl, rfl⟩, ⟨_, rfl, rfl⟩, ⟨_, rfl, rfl⟩, ⟨_, rfl, rfl⟩, trivial⟩ ⟨⟨_, rfl, rfl⟩, trivial⟩ ⟨⟨cbPre.upS _ _ _ _ _ _ _, fun w h => h.2.2.2.2.2.1⟩, trivial⟩
  refine Walks.cut (cbN [(0, .one (.v (.int .i64 n))), (2, .one (.v (.slice A ds.length c))), (3, .one (.v (.slice B b.length cb))), (5, .one (.p 0 0))] (0, .cells 41 ((TT.mk tk tn tnm tla tlc tls taa tac tus).cells.map SA.v)) (cbPre (TT.mk tk tn tnm tla tlc tls taa tac tus) A c ds B cb b) ty 14 tb) ?_ ?_
  · cases tb with
    | false =>
      refine svc_ok tabOk [] _ _ _ ?_
      refine callVC_lend [] hTerm rfl trivial rfl rfl (fun w h => h.1.1) (fun _ _ => ⟨rfl, rfl⟩) (fun _ _ => ?_)
      exact ent_ren [(0, .blk 0)] rfl rfl rfl rfl (Nat.le_of_ble_eq_true rfl) ⟨⟨_, rfl, rfl⟩, ⟨_, rfl, rfl⟩, ⟨_, rfl, rfl⟩, ⟨_, rfl, rfl⟩, ⟨_, rfl, rfl⟩, ⟨_, rfl, rfl⟩, trivial⟩ ⟨⟨_, rfl, rfl⟩, trivial⟩ ⟨⟨cbPre.upS _ _ _ _ _ _ _, fun w h => h.2.1⟩, trivial⟩
    | true =>
      refine svc_ok tabOk [] _ _ _ ?_
      refine callVC_lend [] hTerm rfl trivial rfl rfl (fun w h => h.1.1) (fun _ _ => ⟨rfl, rfl⟩) (fun _ _ => ?_)
      exact ent_ren [(0, .blk 0), (1, .own 1)] rfl rfl rfl rfl (Nat.le_of_ble_eq_true rfl) ⟨⟨_, rfl, rfl⟩, ⟨_, rfl, rfl⟩, ⟨_, rfl, rfl⟩, ⟨_, rfl, rfl⟩, ⟨_, rfl, rfl⟩, ⟨_, rfl, rfl⟩, trivial⟩ ⟨⟨_, rfl, rfl⟩, ⟨_, _, rfl, rfl, rfl⟩, trivial⟩ ⟨⟨cbPre.upS _ _ _ _ _ _ _, fun w h => h.2.1⟩, trivial⟩
  refine Walks.cut ({ s := [(0, .one (.v (.int .i64 n))), (2, .one (.v (.slice A ds.length c))), (3, .one (.v (.slice B b.length cb))), (5, .one (.p 0 0))], m := [(0, .cells 41 ((TT.mk tk tn tnm tla tlc tls taa tac tus).cells.map SA.v))], k := 1, f := [fun w => cbPre (TT.mk tk tn tnm tla tlc tls taa tac tus) A c ds B cb b w] }) ?_ ?_
  · cases tb with
    | false =>
      refine svc_ok tabOk [] _ _ _ ?_
      exact ent_ren [(0, .blk 0)] rfl rfl rfl rfl (Nat.le_of_ble_eq_true rfl) ⟨⟨_, rfl, rfl⟩, ⟨_, rfl, rfl⟩, ⟨_, rfl, rfl⟩, ⟨_, rfl, rfl⟩, trivial⟩ ⟨⟨_, rfl, rfl⟩, trivial⟩ ⟨⟨cbPre.upS _ _ _ _ _ _ _, fun w h => h.1⟩, trivial⟩
    | true =>
    have hnl := hTermLen rfl
    obtain ⟨left, hback⟩ := hTermBack rfl b
    refine svc_ok tabOk [] _ _ _ ?_
    refine callVC_row 1 rfl (fun A1 c1 g1 g2 g3 => ?_)
    refine callVC_lend [] (copy_lc A1 c1 ty (by omega)) rfl trivial rfl rfl (fun w h => bt_of (l := ty) h.1 g1 g2 g3) (fun _ _ => ⟨rfl, rfl⟩) (fun _ _ => ?_)
    refine ⟨{ cs := bc b }, ⟨⟨by rw [bc_len]; exact (Nat.mul_one _).symm, bc_one b, hB0, fun w h => h.2.2.1.2.2.cells⟩, Nat.one_pos, .inr rfl, ?_, ?_⟩, ?_⟩
    · show ty.length + b.length ≤ maxLen
      simp only [maxLen]; omega
    · show (ty.length + b.length) * 1 ≤ _
      omega
    refine callVC_row 3 rfl (fun A3 c3 f1 f2 f3 => ?_)
    have hT := TakeTerm_lc A3 c3 (ty ++ b) (hTermBy.app hBy) (by rw [List.length_append]; omega)
    rw [hback] at hT
    refine callVC_lend [] hT (by rw [List.length_append]; rfl) trivial rfl rfl (fun w h => ⟨h.2.2.2.1.1.1, bt_of (l := ty ++ b) (by rw [bc_app]; exact h.1) (by rw [List.length_append]; exact f1) (by rw [List.length_append]; exact f2) f3⟩) (fun x _ => ?_) (fun x hx => ?_)
    · obtain ⟨⟨⟨xk, xn, xnm, xla, xlc, xls, xaa, xac, xus⟩, ra3, rc3⟩, q⟩ := x
      exact ⟨rfl, rfl⟩
    obtain ⟨⟨⟨xk, xn, xnm, xla, xlc, xls, xaa, xac, xus⟩, ra3, rc3⟩, A12, c12⟩ := x
    have hsm := hTermSame _ hx
    refine callVC_plain hsm (fun _ => rfl) (fun w h => ⟨h.1.2, h.2.2.2.2.1.1.2⟩) ?_
    rintro r rfl
    refine callVC_plain (same_true A12 B c12 cb b (by omega)) (fun _ => rfl) (fun w h => ⟨h.2.1.1, h.2.2.2.2.2.1.2.2⟩) ?_
    rintro r rfl
    exact ent_ren [(0, .blk 0)] rfl rfl rfl rfl (Nat.le_of_ble_eq_true rfl) ⟨⟨_, rfl, rfl⟩, ⟨_, rfl, rfl⟩, ⟨_, rfl, rfl⟩, ⟨_, rfl, rfl⟩, trivial⟩ ⟨⟨_, rfl, rfl⟩, trivial⟩ ⟨⟨cbPre.upS _ _ _ _ _ _ _, fun w h => h.2.2.2.2.2.2.1⟩, trivial⟩
  refine Walks.cut ({ s := [(0, .one (.v (.int .i64 n))), (2, .one (.v (.slice A ds.length c))), (3, .one (.v (.slice B b.length cb))), (5, .one (.p 0 0))], m := [(0, .cells 41 ((TT.mk tk tn tnm tla tlc tls taa tac tus).cells.map SA.v))], k := 1, f := [fun w => cbPre (TT.mk tk tn tnm tla tlc tls taa tac tus) A c ds B cb b w] }) ?_ ?_
  · refine svc_ok tabOk [21] _ _ _ ?_
    refine ⟨⟨Nat, fun j => j ≤ ds.length, fun j => { s := [(0, .one (.v (.int .i64 n))), (2, .one (.v (.slice A ds.length c))), (3, .one (.v (.slice B b.length cb))), (5, .one (.p 0 0)), (18, .one (.v (.int .i64 (j : Int))))], m := [(0, .cells 41 ((TT.mk tk tn tnm tla tlc tls taa tac tus).cells.map SA.v))], k := 1, f := [fun w => cbPre (TT.mk tk tn tnm tla tlc tls taa tac tus) A c ds B cb b w] }, fun j => ds.length - j, ⟨0, Nat.zero_le _, ent_ren [(0, .blk 0)] rfl rfl rfl rfl (Nat.le_of_ble_eq_true rfl) ⟨⟨_, rfl, rfl⟩, ⟨_, rfl, rfl⟩, ⟨_, rfl, rfl⟩, ⟨_, rfl, rfl⟩, ⟨_, rfl, rfl⟩, trivial⟩ ⟨⟨_, rfl, rfl⟩, trivial⟩ ⟨⟨cbPre.upS _ _ _ _ _ _ _, fun w h => h.1⟩, trivial⟩⟩, ?_⟩⟩
    rintro j hj
    refine bsplit_i (fun hlt => ?_) (fun hge => ?_)
    rotate_left
    · exact ent_ren [(0, .blk 0)] rfl rfl rfl rfl (Nat.le_of_ble_eq_true rfl) ⟨⟨_, rfl, rfl⟩, ⟨_, rfl, rfl⟩, ⟨_, rfl, rfl⟩, ⟨_, rfl, rfl⟩, trivial⟩ ⟨⟨_, rfl, rfl⟩, trivial⟩ ⟨⟨cbPre.upS _ _ _ _ _ _ _, fun w h => h.1⟩, trivial⟩
    have hlt : j < ds.length := by
      have h : decide ((j : Int) < (ds.length : Int)) = true := hlt
      have := of_decide_eq_true h
      omega
    obtain ⟨d, hd⟩ : ∃ d, ds[j]? = some d := ⟨_, List.getElem?_eq_getElem hlt⟩
    have hDecl := DeclA_lc d
    have hDLen := fun h => declN_len (@formed_parts d.dm h)
    have hDBy := declN_bytes d.dm
    have hDBack := fun h r => @rdDecl_back d.dm h r
    have hDSame := fun (x : DD) h => sameD_true x d h
    obtain ⟨dm, hdm⟩ : ∃ m, d.dm = m := ⟨_, rfl⟩
    rw [hdm] at hDecl hDLen hDBy hDBack hDSame
    obtain ⟨db, hdb⟩ : ∃ x, formedB dm = x := ⟨_, rfl⟩
    rw [hdb] at hDecl hDLen hDBack
    obtain ⟨dy, hdy⟩ : ∃ x, declN dm = x := ⟨_, rfl⟩
    rw [hdy] at hDecl hDLen hDBy hDBack
    obtain ⟨dk, dp, dnm, ⟨dak, dan, danm, dala, dalc, dals, daaa, daac, daus⟩, ⟨dbk, dbn, dbnm, dbla, dblc, dbls, dbaa, dbac, dbus⟩, dfx, dca, dcc, dcts⟩ := d
    refine ⟨{ n := j }, ⟨rfl, hlt, fun w h => ?_⟩, ?_⟩
    · obtain ⟨⟨a, ha, _⟩, _⟩ := h.1.2.1.at' j _ hd
      rw [ha]; rfl
    refine ⟨{ cs := (DD.mk dk dp dnm (.mk dak dan danm dala dalc dals daaa daac daus) (.mk dbk dbn dbnm dbla dblc dbls dbaa dbac dbus) dfx dca dcc dcts).cells }, ⟨DD.cells_one (DD.mk dk dp dnm (.mk dak dan danm dala dalc dals daaa daac daus) (.mk dbk dbn dbnm dbla dblc dbls dbaa dbac dbus) dfx dca dcc dcts), rfl, fun w h => ?_⟩, ?_⟩
    · obtain ⟨⟨a, ha, h3⟩, _⟩ := h.1.2.1.at' j _ hd
      exact ⟨_, by rw [ha]; rfl, h3⟩
    refine callVC_lend [] hDecl rfl trivial rfl rfl (fun w h => ⟨h.1.1.1, (h.1.2.1.at' j _ hd).2⟩) (fun _ _ => ?_) (fun _ _ => ?_)
    · cases db <;> exact ⟨rfl, rfl⟩
    cases db with
    | false =>
      refine ⟨j + 1, hlt, by simp only; omega, ?_⟩
      exact ent_ren [(0, .blk 0)] rfl rfl rfl rfl (Nat.le_of_ble_eq_true rfl) ⟨⟨_, rfl, rfl⟩, ⟨_, rfl, rfl⟩, ⟨_, rfl, rfl⟩, ⟨_, rfl, rfl⟩, ⟨_, rfl, oneI (wrapI (by omega) (by omega))⟩, trivial⟩ ⟨⟨_, rfl, rfl⟩, trivial⟩ ⟨⟨cbPre.upS _ _ _ _ _ _ _, fun w h => h.2.1⟩, trivial⟩
    | true =>
    have hnl := hDLen rfl
    obtain ⟨left, hback⟩ := hDBack rfl b
    refine callVC_row 1 rfl (fun A1 c1 g1 g2 g3 => ?_)
    refine callVC_lend [] (copy_lc A1 c1 dy (by omega)) rfl trivial rfl rfl (fun w h => bt_of (l := dy) h.1 g1 g2 g3) (fun _ _ => ⟨rfl, rfl⟩) (fun _ _ => ?_)
    refine ⟨{ cs := bc b }, ⟨⟨by rw [bc_len]; exact (Nat.mul_one _).symm, bc_one b, hB0, fun w h => h.2.2.2.1.2.2.cells⟩, Nat.one_pos, .inr rfl, ?_, ?_⟩, ?_⟩
    · show dy.length + b.length ≤ maxLen
      simp only [maxLen]; omega
    · show (dy.length + b.length) * 1 ≤ _
      omega
    refine callVC_row 3 rfl (fun A3 c3 f1 f2 f3 => ?_)
    have hT := TakeDecl_lc A3 c3 (dy ++ b) (hDBy.app hBy) (by rw [List.length_append]; omega)
    rw [hback] at hT
    refine callVC_lend [] hT (by rw [List.length_append]; rfl) trivial rfl rfl (fun w h => ⟨h.2.2.2.2.1.1.1, bt_of (l := dy ++ b) (by rw [bc_app]; exact h.1) (by rw [List.length_append]; exact f1) (by rw [List.length_append]; exact f2) f3⟩) (fun x _ => ?_) (fun x hx => ?_)
    · obtain ⟨⟨⟨xk, xp, xnm, ⟨xak, xan, xanm, xala, xalc, xals, xaaa, xaac, xaus⟩, ⟨xbk, xbn, xbnm, xbla, xblc, xbls, xbaa, xbac, xbus⟩, xfx, xca, xcc, xcts⟩, ra3, rc3⟩, q⟩ := x
      exact ⟨rfl, rfl⟩
    obtain ⟨⟨⟨xk, xp, xnm, ⟨xak, xan, xanm, xala, xalc, xals, xaaa, xaac, xaus⟩, ⟨xbk, xbn, xbnm, xbla, xblc, xbls, xbaa, xbac, xbus⟩, xfx, xca, xcc, xcts⟩, ra3, rc3⟩, A22, c22⟩ := x
    have hsm := hDSame _ hx
    refine Walks.ent (st' := { s := [(0, .one (.v (.int .i64 n))), (2, .one (.v (.slice A ds.length c))), (3, .one (.v (.slice B b.length cb))), (5, .one (.p 0 0)), (18, .one (.v (.int .i64 (j : Int)))), (21, .one (.p 1 0)), (22, .one (.v (.slice A22 b.length c22))), (23, .one (.v (.bool true)))], m := [(0, .cells 41 ((TT.mk tk tn tnm tla tlc tls taa tac tus).cells.map SA.v)), (1, .cells 44 ((DD.mk xk xp xnm (.mk xak xan xanm xala xalc xals xaaa xaac xaus) (.mk xbk xbn xbnm xbla xblc xbls xbaa xbac xbus) xfx xca xcc xcts).cells.map SA.v))], k := 2, f := [fun w => cbPre (TT.mk tk tn tnm tla tlc tls taa tac tus) A c ds B cb b w ∧ BtIn w A22 c22 b ∧ DDIn w (DD.mk xk xp xnm (.mk xak xan xanm xala xalc xals xaaa xaac xaus) (.mk xbk xbn xbnm xbla xblc xbls xbaa xbac xbus) xfx xca xcc xcts)] }) (ent_ren [(0, .blk 0), (1, .blk 4)] rfl rfl rfl rfl (Nat.le_of_ble_eq_true rfl) ⟨⟨_, rfl, rfl⟩, ⟨_, rfl, rfl⟩, ⟨_, rfl, rfl⟩, ⟨_, rfl, rfl⟩, ⟨_, rfl, rfl⟩, ⟨_, rfl, rfl⟩, ⟨_, rfl, rfl⟩, ⟨_, rfl, rfl⟩, trivial⟩ ⟨⟨_, rfl, rfl⟩, ⟨_, rfl, rfl⟩, trivial⟩ ⟨⟨(cbPre.upS _ _ _ _ _ _ _).and ((BtIn.up _ _ _).and (DDIn.up _)), fun w h => ⟨h.2.2.2.2.2.1, h.1.1, h.1.2⟩⟩, trivial⟩) ?_
    refine Walks.told (p := ∃ a, A = some a) (fun w h => ?_) ?_
    · obtain ⟨⟨a, ha, _⟩, _⟩ := h.1.1.2.1.at' j _ hd
      exact ⟨a, ha⟩
    rintro ⟨a0, rfl⟩
    refine svc_ok tabOk [] _ _ _ ?_
    refine .inl ⟨17, [0, 1, 3, 7, 7, 7, 55, 119, 255, 511, 1023, 2047, 4095, 4095, 16383, 32767, 65535], fun vs i => match i with
      | 6 => { c := { n := j } }
      | 7 => { c := { cs := (DD.mk dk dp dnm (.mk dak dan danm dala dalc dals daaa daac daus) (.mk dbk dbn dbnm dbla dblc dbls dbaa dbac dbus) dfx dca dcc dcts).cells } }
      | 8 => { pre := sdPre (DD.mk xk xp xnm (.mk xak xan xanm xala xalc xals xaaa xaac xaus) (.mk xbk xbn xbnm xbla xblc xbls xbaa xbac xbus) xfx xca xcc xcts) (DD.mk dk dp dnm (.mk dak dan danm dala dalc dals daaa daac daus) (.mk dbk dbn dbnm dbla dblc dbls dbaa dbac dbus) dfx dca dcc dcts), R := fun u => u = .bool true, nf := fun _ => .bool true }
      | 14 => { pre := fun w => BtIn w A22 c22 b ∧ BtIn w B cb b, R := fun u => u = .bool true, nf := fun _ => .bool true }
      | _ => {}, by kernel_rfl, rfl, by kernel_rfl, by kernel_rfl, by kernel_rfl, by decide, fun vals => ?_⟩
    refine ⟨fun _ => ⟨rfl, hlt, fun w h => rfl⟩, ?_⟩
    refine ⟨fun _ => ⟨DD.cells_one (DD.mk dk dp dnm (.mk dak dan danm dala dalc dals daaa daac daus) (.mk dbk dbn dbnm dbla dblc dbls dbaa dbac dbus) dfx dca dcc dcts), rfl, fun w h => ?_⟩, ?_⟩
    · obtain ⟨⟨a, ha, h3⟩, _⟩ := h.1.1.2.1.at' j _ hd
      have ha : a0 = a := Option.some.inj ha
      subst ha
      exact ⟨_, rfl, h3⟩
    refine ⟨fun _ => ⟨hsm, fun w h => ⟨h.1.2.2, (h.1.1.2.1.at' j _ hd).2⟩, fun _ h => h⟩, ?_⟩
    refine ⟨fun _ => ⟨same_true A22 B c22 cb b (by omega), fun w h => ⟨h.2.1.2.1, h.2.1.1.2.2⟩, fun _ h => h⟩, ?_⟩
    intro _
    refine ⟨j + 1, hlt, by simp only; omega, ?_⟩
    exact ent_ren [(0, .blk 0)] rfl rfl rfl rfl (Nat.le_of_ble_eq_true rfl) ⟨⟨_, rfl, rfl⟩, ⟨_, rfl, rfl⟩, ⟨_, rfl, rfl⟩, ⟨_, rfl, rfl⟩, ⟨_, rfl, oneI (wrapI (by omega) (by omega))⟩, trivial⟩ ⟨⟨_, rfl, rfl⟩, trivial⟩ ⟨⟨cbPre.upS _ _ _ _ _ _ _, fun w h => h.2.2.1.1⟩, trivial⟩
  refine svc_ok tabOk [26] _ _ _ ?_
  refine callVC_lend [] hLib rfl trivial rfl rfl (fun w h => ⟨h.1.1.1, h.1.2.1⟩) (fun _ _ => ?_) (fun _ _ => ?_)
  · cases lb <;> exact ⟨rfl, rfl⟩
  cases lb with
  | false => exact ⟨_, rfl, Told.val rfl⟩
  | true =>
  refine Walks.freeze 1 rfl (fun A24 c24 g1 g2 g3 => ?_)
  have hll := hLibLen rfl
  have hlb := hLibBack rfl
  have hlm := rdLib_more hlb 0
  refine Walks.ent (st' := { s := [(0, .one (.v (.int .i64 n))), (2, .one (.v (.slice A ds.length c))), (3, .one (.v (.slice B b.length cb))), (5, .one (.p 0 0)), (24, .one (.v (.slice A24 ly.length c24)))], m := [(0, .cells 41 ((TT.mk tk tn tnm tla tlc tls taa tac tus).cells.map SA.v))], k := 1, f := [fun w => cbPre (TT.mk tk tn tnm tla tlc tls taa tac tus) A c ds B cb b w ∧ BtIn w A24 c24 ly] }) (ent_ren [(0, .blk 0)] rfl rfl rfl rfl (Nat.le_of_ble_eq_true rfl) ⟨⟨_, rfl, rfl⟩, ⟨_, rfl, rfl⟩, ⟨_, rfl, rfl⟩, ⟨_, rfl, rfl⟩, ⟨_, rfl, rfl⟩, trivial⟩ ⟨⟨_, rfl, rfl⟩, trivial⟩ ⟨⟨(cbPre.upS _ _ _ _ _ _ _).and (BtIn.up _ _ _), fun w h => ⟨h.2.2.1, bt_of (l := ly) h.1 g1 g2 g3⟩⟩, trivial⟩) ?_
  clear g1 g2 g3
  have hT1 := TakeLibrary_lc A24 c24 ly hLibBy (by omega)
  rw [hlb] at hT1
  refine svc_ok tabOk [27] _ _ _ ?_
  refine callVC_lend [] hT1 rfl trivial rfl rfl (fun w h => ⟨h.1.1.1.1, h.1.2⟩) (fun _ _ => ⟨rfl, rfl⟩) (fun y hy => ?_)
  obtain ⟨es, A25, c25⟩ := y
  have hel : es.length = ds.length := by
    have := congrArg List.length (show es.map DD.dm = dms from hy)
    rw [← hdms] at this
    simpa using this
  have hsame := fun (j : Nat) (e d : DD) (h1 : es[j]? = some e) (h2 : ds[j]? = some d) => sameD_true e d (by
    have h3 : es.map DD.dm = ds.map DD.dm := (show es.map DD.dm = dms from hy).trans hdms.symm
    have h4 := congrArg (·[j]?) h3
    simpa [h1, h2] using h4)
  refine Walks.ent (st' := { s := [(0, .one (.v (.int .i64 n))), (2, .one (.v (.slice A ds.length c))), (3, .one (.v (.slice B b.length cb))), (5, .one (.p 0 0)), (24, .one (.v (.slice A24 ly.length c24))), (25, .one (.v (.slice A25 es.length c25))), (26, .one (.v (.bool true)))], m := [(0, .cells 41 ((TT.mk tk tn tnm tla tlc tls taa tac tus).cells.map SA.v))], k := 1, f := [fun w => cbPre (TT.mk tk tn tnm tla tlc tls taa tac tus) A c ds B cb b w ∧ BtIn w A24 c24 ly ∧ DsIn w A25 c25 es] }) (ent_ren [(0, .blk 0)] rfl rfl rfl rfl (Nat.le_of_ble_eq_true rfl) ⟨⟨_, rfl, rfl⟩, ⟨_, rfl, rfl⟩, ⟨_, rfl, rfl⟩, ⟨_, rfl, rfl⟩, ⟨_, rfl, rfl⟩, ⟨_, rfl, rfl⟩, ⟨_, rfl, rfl⟩, trivial⟩ ⟨⟨_, rfl, rfl⟩, trivial⟩ ⟨⟨(cbPre.upS _ _ _ _ _ _ _).and ((BtIn.up _ _ _).and (DsIn.up _ _ _)), fun w h => ⟨h.2.1.1, h.2.1.2, h.1⟩⟩, trivial⟩) ?_
  refine svc_ok tabOk [28] _ _ _ ?_
  refine callVC_lend [] (copy_lc A24 c24 ly (by omega)) rfl trivial rfl rfl (fun w h => h.1.2.1) (fun _ _ => ⟨rfl, rfl⟩) (fun _ _ => ?_)
  refine ⟨{}, ⟨trivial, Nat.one_pos, .inr rfl, ?_, ?_⟩, ?_⟩
  · show ly.length + 1 ≤ maxLen
    simp only [maxLen]; omega
  · show (ly.length + 1) * 1 ≤ _
    omega
  refine callVC_row 3 rfl (fun A3 c3 f1 f2 f3 => ?_)
  have hT2 := TakeLibrary_lc A3 c3 (ly ++ [0]) (hLibBy.app (Bytes.cons (by decide) Bytes.nil)) (by rw [List.length_append, List.length_singleton]; omega)
  rw [hlm] at hT2
  refine callVC_lend [] hT2 (by rw [List.length_append]; rfl) trivial rfl rfl (fun w h => ⟨h.2.2.1.1.1.1, bt_of (l := ly ++ [0]) (by rw [bc_app]; exact h.1) (by rw [List.length_append]; exact f1) (by rw [List.length_append]; exact f2) f3⟩) (fun _ _ => ⟨rfl, rfl⟩) (fun _ _ => ?_)
  refine Walks.ent (st' := { s := [(0, .one (.v (.int .i64 n))), (2, .one (.v (.slice A ds.length c))), (3, .one (.v (.slice B b.length cb))), (5, .one (.p 0 0)), (25, .one (.v (.slice A25 es.length c25))), (26, .one (.v (.bool true))), (28, .one (.v (.bool false)))], m := [(0, .cells 41 ((TT.mk tk tn tnm tla tlc tls taa tac tus).cells.map SA.v))], k := 1, f := [fun w => cbPre (TT.mk tk tn tnm tla tlc tls taa tac tus) A c ds B cb b w ∧ DsIn w A25 c25 es] }) (ent_ren [(0, .blk 0)] rfl rfl rfl rfl (Nat.le_of_ble_eq_true rfl) ⟨⟨_, rfl, rfl⟩, ⟨_, rfl, rfl⟩, ⟨_, rfl, rfl⟩, ⟨_, rfl, rfl⟩, ⟨_, rfl, rfl⟩, ⟨_, rfl, rfl⟩, ⟨_, rfl, rfl⟩, trivial⟩ ⟨⟨_, rfl, rfl⟩, trivial⟩ ⟨⟨(cbPre.upS _ _ _ _ _ _ _).and (DsIn.up _ _ _), fun w h => ⟨h.2.2.2.1.1, h.2.2.2.1.2.2⟩⟩, trivial⟩) ?_
  clear f1 f2 f3
  refine svc_ok tabOk [33] _ _ _ ?_
  refine bsplit_i (fun hne => ?_) (fun hne => ?_)
  · have h : (!decide ((es.length : Int) = (ds.length : Int))) = true := hne
    rw [hel, decide_eq_true rfl] at h
    cases h
  refine ⟨⟨Nat, fun j => j ≤ es.length, fun j => { s := [(0, .one (.v (.int .i64 n))), (2, .one (.v (.slice A ds.length c))), (3, .one (.v (.slice B b.length cb))), (5, .one (.p 0 0)), (25, .one (.v (.slice A25 es.length c25))), (29, .one (.v (.int .i64 (j : Int))))], m := [(0, .cells 41 ((TT.mk tk tn tnm tla tlc tls taa tac tus).cells.map SA.v))], k := 1, f := [fun w => cbPre (TT.mk tk tn tnm tla tlc tls taa tac tus) A c ds B cb b w ∧ DsIn w A25 c25 es] }, fun j => es.length - j, ⟨0, Nat.zero_le _, ent_ren [(0, .blk 0)] rfl rfl rfl rfl (Nat.le_of_ble_eq_true rfl) ⟨⟨_, rfl, rfl⟩, ⟨_, rfl, rfl⟩, ⟨_, rfl, rfl⟩, ⟨_, rfl, rfl⟩, ⟨_, rfl, rfl⟩, ⟨_, rfl, rfl⟩, trivial⟩ ⟨⟨_, rfl, rfl⟩, trivial⟩ ⟨⟨(cbPre.upS _ _ _ _ _ _ _).and (DsIn.up _ _ _), fun w h => ⟨h.1.1, h.1.2⟩⟩, trivial⟩⟩, ?_⟩⟩
  rintro j hj
  refine bsplit_i (fun hlt => ?_) (fun hge => ?_)
  rotate_left
  · exact ⟨_, rfl, Told.val rfl⟩
  have hlt : j < es.length := by
    have h : decide ((j : Int) < (es.length : Int)) = true := hlt
    have := of_decide_eq_true h
    omega
  have hlt2 : j < ds.length := hel ▸ hlt
  obtain ⟨e, he⟩ : ∃ e, es[j]? = some e := ⟨_, List.getElem?_eq_getElem hlt⟩
  obtain ⟨d, hd⟩ : ∃ d, ds[j]? = some d := ⟨_, List.getElem?_eq_getElem hlt2⟩
  have hsm := hsame j e d he hd
  obtain ⟨ek, ep, enm, ⟨eak, ean, eanm, eala, ealc, eals, eaaa, eaac, eaus⟩, ⟨ebk, ebn, ebnm, ebla, eblc, ebls, ebaa, ebac, ebus⟩, efx, eca, ecc, ects⟩ := e
  obtain ⟨dk, dp, dnm, ⟨dak, dan, danm, dala, dalc, dals, daaa, daac, daus⟩, ⟨dbk, dbn, dbnm, dbla, dblc, dbls, dbaa, dbac, dbus⟩, dfx, dca, dcc, dcts⟩ := d
  refine Walks.told (p := (∃ a, A25 = some a) ∧ ∃ a, A = some a) (fun w h => ?_) ?_
  · obtain ⟨⟨a, ha, _⟩, _⟩ := h.1.1.2.1.at' j _ hd
    obtain ⟨⟨a', ha', _⟩, _⟩ := h.1.2.at' j _ he
    exact ⟨⟨a', ha'⟩, a, ha⟩
  rintro ⟨⟨a1, rfl⟩, a0, rfl⟩
  refine svc_ok tabOk [] _ _ _ ?_
  refine .inl ⟨10, [0, 0, 3, 7, 0, 0, 48, 112, 255, 511], fun vs i => match i with
    | 2 => { c := { n := j } }
    | 3 => { c := { cs := (DD.mk ek ep enm (.mk eak ean eanm eala ealc eals eaaa eaac eaus) (.mk ebk ebn ebnm ebla eblc ebls ebaa ebac ebus) efx eca ecc ects).cells } }
    | 6 => { c := { n := j } }
    | 7 => { c := { cs := (DD.mk dk dp dnm (.mk dak dan danm dala dalc dals daaa daac daus) (.mk dbk dbn dbnm dbla dblc dbls dbaa dbac dbus) dfx dca dcc dcts).cells } }
    | 8 => { pre := sdPre (DD.mk ek ep enm (.mk eak ean eanm eala ealc eals eaaa eaac eaus) (.mk ebk ebn ebnm ebla eblc ebls ebaa ebac ebus) efx eca ecc ects) (DD.mk dk dp dnm (.mk dak dan danm dala dalc dals daaa daac daus) (.mk dbk dbn dbnm dbla dblc dbls dbaa dbac dbus) dfx dca dcc dcts), R := fun u => u = .bool true, nf := fun _ => .bool true }
    | _ => {}, by kernel_rfl, rfl, by kernel_rfl, by kernel_rfl, by kernel_rfl, by decide, fun vals => ?_⟩
  refine ⟨fun _ => ⟨rfl, hlt, fun w h => rfl⟩, ?_⟩
  refine ⟨fun _ => ⟨DD.cells_one (DD.mk ek ep enm (.mk eak ean eanm eala ealc eals eaaa eaac eaus) (.mk ebk ebn ebnm ebla eblc ebls ebaa ebac ebus) efx eca ecc ects), rfl, fun w h => ?_⟩, ?_⟩
  · obtain ⟨⟨a, ha, h3⟩, _⟩ := h.1.2.at' j _ he
    have ha : a1 = a := Option.some.inj ha
    subst ha
    exact ⟨_, rfl, h3⟩
  refine ⟨fun _ => ⟨rfl, hlt2, fun w h => rfl⟩, ?_⟩
  refine ⟨fun _ => ⟨DD.cells_one (DD.mk dk dp dnm (.mk dak dan danm dala dalc dals daaa daac daus) (.mk dbk dbn dbnm dbla dblc dbls dbaa dbac dbus) dfx dca dcc dcts), rfl, fun w h => ?_⟩, ?_⟩
  · obtain ⟨⟨a, ha, h3⟩, _⟩ := h.1.1.2.1.at' j _ hd
    have ha : a0 = a := Option.some.inj ha
    subst ha
    exact ⟨_, rfl, h3⟩
  refine ⟨fun _ => ⟨hsm, fun w h => ⟨(h.1.2.at' j _ he).2, (h.1.1.2.1.at' j _ hd).2⟩, fun _ h => h⟩, ?_⟩
  intro _
  refine ⟨j + 1, hlt, by simp only; omega, ?_⟩
  exact ent_ren [(0, .blk 0)] rfl rfl rfl rfl (Nat.le_of_ble_eq_true rfl) ⟨⟨_, rfl, rfl⟩, ⟨_, rfl, rfl⟩, ⟨_, rfl, rfl⟩, ⟨_, rfl, rfl⟩, ⟨_, rfl, rfl⟩, ⟨_, rfl, oneI (wrapI (by omega) (by omega))⟩, trivial⟩ ⟨⟨_, rfl, rfl⟩, trivial⟩ ⟨⟨(cbPre.upS _ _ _ _ _ _ _).and (DsIn.up _ _ _), fun w h => ⟨h.2.1.1, h.2.1.2⟩⟩, trivial⟩
theorem codeBack_true (n : Int) (t : TT) (A : Option Addr) (c : Nat) (ds : List DD) (B : Option Addr) (cb : Nat) (b : List Nat) (hBy : Bytes b) (w : World) (hp : cbPre t A c ds B cb b w) : Calls Tryd.prog 8 #[.int .i64 n, t.val, .slice A ds.length c, .slice B b.length cb] w fun e w' => e = .returned (.bool true) ∧ Below w.heap.size w w' :=
  ((codeBack_pc n t A c ds B cb b hBy).run w (fun _ => False) (fun _ h => h.elim) (cbPre.upS _ _ _ _ _ _ _ _ _ (fun g o hg ho => by rw [hide_get, hg]; simp) hp)).mono fun en w' ⟨r, h1, h2, _, h4⟩ => ⟨by rw [h1, h2], h4⟩
end Go.Proofs.YtmkpiekbpakigaaDoor
end
