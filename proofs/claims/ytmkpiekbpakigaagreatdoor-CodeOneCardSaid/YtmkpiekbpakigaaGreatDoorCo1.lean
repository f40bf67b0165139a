/- The law CodeOne (4) answers true. -/
import Derived.Test.YtmkpiekbpakigaaGreatDoorPv
set_option linter.unusedVariables false
set_option linter.unusedSimpArgs false
namespace Go.Proofs.YtmkpiekbpakigaaGreatDoor
open Go.RowKit Go.Proofs.Base Go.Proofs.Sym

def oPre (B : Option Addr) (cb : Nat) (b : List Nat) (w : World) : Prop := ML w ∧ BtIn w B cb b
theorem oPre.up (B : Option Addr) (cb : Nat) (b : List Nat) : Up (oPre B cb b) := ML.up.and (BtIn.up _ _ _)
def oF (A : Option Addr) (c : Nat) (B : Option Addr) (cb : Nat) (b : List Nat) (w : World) : Prop := (ML w ∧ BtIn w B cb b) ∧ BtIn w A c b
theorem oF.up (A : Option Addr) (c : Nat) (B : Option Addr) (cb : Nat) (b : List Nat) : Up (oF A c B cb b) := (ML.up.and (BtIn.up _ _ _)).and (BtIn.up _ _ _)
theorem same_len (A B : Option Addr) (c d n m : Nat) (l : List Nat) (hl : l.length ≤ 9223372036854775807) (hn : l.length = n) (hm : l.length = m) : PCall Tryz.prog 15 [.slice A n c, .slice B m d] (fun w => BtIn w A c l ∧ BtIn w B d l) (fun u => u = .bool true) (fun _ _ => True) := by
  subst hn hm
  exact same_true A B c d l hl
theorem TermRA_lc (t : TT) : LCall Tryz.prog 12 [ttA t] [] 0 (fun w => TTIn w t) (fun _ : Unit => True) (fun _ => optRes (codeB t.tm) (putT t.tm)) :=
  LCall.arg (TermR_lc t) (fun e => by
    show [Value.agg (reals e (t.cells.map SA.v)).toArray] = _
    rw [map_plain]
    rfl) (fun x hx => by
    rw [List.mem_singleton.1 hx]
    trivial)
def oN (S : List (Nat × SV)) (F : World → Prop) (x : Option Addr × Nat) : Option (Nat × List Nat) → St
  | some (n, r) => { s := (4, .one (.v (.int .i64 (n : Int)))) :: (5, .one (.v (.slice x.1 r.length x.2))) :: (6, .one (.v (.bool true))) :: S, m := [], k := 0, f := [fun w => F w ∧ BtIn w x.1 x.2 r] }
  | none => { s := (6, .one (.v (.bool false))) :: S, m := [], k := 0, f := [F] }
def oT (S : List (Nat × SV)) (F : World → Prop) (y : TX × (Option Addr × Nat)) : Option (Tm × Int × List Nat) → St
  | some (_, _, r) => { s := (9, .one (.p 0 0)) :: (5, .one (.v (.slice y.2.1 r.length y.2.2))) :: (6, .one (.v (.bool true))) :: S, m := [(0, .cells 25 (y.1.tt.cells.map SA.v))], k := 1, f := [fun w => F w ∧ (BtIn w y.2.1 y.2.2 r ∧ TTIn w y.1.tt)] }
  | none => { s := (6, .one (.v (.bool false))) :: S, m := [], k := 0, f := [F] }
def oD (S : List (Nat × SV)) (F : World → Prop) (y : DX × (Option Addr × Nat)) : Option (DM × Int × List Nat) → St
  | some (_, _, r) => { s := (12, .one (.p 0 0)) :: (5, .one (.v (.slice y.2.1 r.length y.2.2))) :: (6, .one (.v (.bool true))) :: S, m := [(0, .cells 38 (y.1.dd.cells.map SA.v))], k := 1, f := [fun w => F w ∧ (BtIn w y.2.1 y.2.2 r ∧ DDIn w y.1.dd)] }
  | none => { s := (6, .one (.v (.bool false))) :: S, m := [], k := 0, f := [F] }
set_option maxHeartbeats 4000000 in
theorem codeOne_pc (B : Option Addr) (cb : Nat) (b : List Nat) (hBy : Bytes b) : PCall Tryz.prog 4 [.slice B b.length cb] (oPre B cb b) (fun r => r = .bool true) (fun _ _ => True) := by
  have hnI : ∀ n r, rdNum 1099511627776 b = some (n, r) → b = numB n ++ r ∧ n ≤ 1099511627776 := fun n r h => rdNum_inv hBy h
  have htI : ∀ t l r, rdWhole b = some (t, l, r) → b = putT t ++ r ∧ codeB t = true := fun t l r h => rdWhole_inv hBy h
  have hdI : ∀ d l r, rdDecl b = some (d, l, r) → b = declN d ++ r ∧ formedB d = true := fun t l r h => rdDecl_inv hBy h
  have hlI : ∀ ds, rdLib b = some ds → b = libN ds ∧ libB ds = true := fun ds h => rdLib_inv hBy h
  have hN := fun A c h => TakeNum_lc A c b hBy h
  have hT := fun A c h => TakeTerm_lc A c b hBy h
  have hD := fun A c h => TakeDecl_lc A c b hBy h
  have hL := fun A c h => TakeLibrary_lc A c b hBy h
  obtain ⟨on, hon⟩ : ∃ x, rdNum 1099511627776 b = x := ⟨_, rfl⟩
  obtain ⟨ot, hot⟩ : ∃ x, rdWhole b = x := ⟨_, rfl⟩
  obtain ⟨od, hod⟩ : ∃ x, rdDecl b = x := ⟨_, rfl⟩
  obtain ⟨ol, hol⟩ : ∃ x, rdLib b = x := ⟨_, rfl⟩
  rw [hon] at hnI hN
  rw [hot] at htI hT
  rw [hod] at hdI hD
  rw [hol] at hlI hL
  clear hon hot hod hol
  refine pcall_of tabOk 116 [.tmp 2] Tryz.func4 rfl rfl (by kernel_rfl) rfl _ (Nat.le_of_ble_eq_true rfl) (oPre.up _ _ _) (fun _ => Up.true) ?_
  refine svc_ok tabOk [6] _ _ _ ?_
  refine callVC_plain alive_pc (fun _ => rfl) (fun w h => h.1.1) ?_
  rintro r rfl
  refine bsplit_i (fun h => ?_) (fun h => ?_)
  · exact ⟨_, rfl, Told.val rfl⟩
  have hbl : b.length ≤ 6000 := by
    have h : decide ((6000 : Int) < (b.length : Int)) = false := h
    have := of_decide_eq_false h
    omega
  clear h
  refine callVC_lend [] (copy_lc B cb b (by omega)) rfl trivial rfl rfl (fun w h => h.2.1.2) (fun _ _ => ⟨rfl, rfl⟩) (fun _ _ => ?_)
  refine Walks.freeze 0 rfl (fun A c g1 g2 g3 => ?_)
  refine Walks.ent (st' := { s := [(0, .one (.v (.slice B b.length cb))), (3, .one (.v (.slice A b.length c)))], m := [], k := 0, f := [oF A c B cb b] }) (ent_ren [] rfl rfl rfl rfl (Nat.le_of_ble_eq_true rfl) ⟨⟨_, rfl, rfl⟩, ⟨_, rfl, rfl⟩, trivial⟩ trivial ⟨⟨oF.up _ _ _ _ _, fun w h => ⟨⟨h.2.2.2.1.1, h.2.2.2.1.2⟩, bt_of (l := b) h.1 g1 g2 g3⟩⟩, trivial⟩) ?_
  clear g1 g2 g3
  refine Walks.cutX (X := Option Addr × Nat) (fun _ => True) (fun x => oN [(0, .one (.v (.slice B b.length cb))), (3, .one (.v (.slice A b.length c)))] (oF A c B cb b) x on) ?_ (fun x _ => ?_)
  · have hN := hN A c (by omega)
    cases on with
    | none =>
      refine svc_ok tabOk [] _ _ _ ?_
      refine callVC_lend [] hN rfl trivial rfl rfl (fun w h => ⟨h.1.1.1, h.1.2⟩) (fun _ _ => ⟨rfl, rfl⟩) (fun x _ => ?_)
      exact ⟨x, trivial, ent_ren [] rfl rfl rfl rfl (Nat.le_of_ble_eq_true rfl) ⟨⟨_, rfl, rfl⟩, ⟨_, rfl, rfl⟩, ⟨_, rfl, rfl⟩, trivial⟩ trivial ⟨⟨oF.up _ _ _ _ _, fun w h => h.2.1⟩, trivial⟩⟩
    | some q =>
      obtain ⟨n, r⟩ := q
      refine svc_ok tabOk [] _ _ _ ?_
      refine callVC_lend [] hN rfl trivial rfl rfl (fun w h => ⟨h.1.1.1, h.1.2⟩) (fun _ _ => ⟨rfl, rfl⟩) (fun x _ => ?_)
      exact ⟨x, trivial, ent_ren [] rfl rfl rfl rfl (Nat.le_of_ble_eq_true rfl) ⟨⟨_, rfl, rfl⟩, ⟨_, rfl, rfl⟩, ⟨_, rfl, rfl⟩, ⟨_, rfl, rfl⟩, ⟨_, rfl, rfl⟩, trivial⟩ trivial ⟨⟨(oF.up _ _ _ _ _).and (BtIn.up _ _ _), fun w h => ⟨h.2.1, h.1⟩⟩, trivial⟩⟩
  refine Walks.cut ({ s := [(0, .one (.v (.slice B b.length cb))), (3, .one (.v (.slice A b.length c)))], m := [], k := 0, f := [oF A c B cb b] }) ?_ ?_
  · cases on with
    | none =>
      refine svc_ok tabOk [] _ _ _ ?_
      exact ent_ren [] rfl rfl rfl rfl (Nat.le_of_ble_eq_true rfl) ⟨⟨_, rfl, rfl⟩, ⟨_, rfl, rfl⟩, trivial⟩ trivial ⟨⟨oF.up _ _ _ _ _, fun w h => h.1⟩, trivial⟩
    | some q =>
    obtain ⟨n, r⟩ := q
    obtain ⟨hb, hn⟩ := hnI n r rfl
    obtain ⟨Ar, cr⟩ := x
    have hR := NumR_lc (n : Int)
    rw [show numOkB (n : Int) = true by unfold numOkB; simp; omega, Int.toNat_natCast] at hR
    obtain ⟨Y, hY⟩ : ∃ Y, numB n = Y := ⟨_, rfl⟩
    rw [hY] at hR hb
    have hlen : b.length = Y.length + r.length := by rw [hb, List.length_append]
    refine Walks.told (p := Ar = none → r.length = 0 ∧ cr = 0) (fun w h => h.1.2.nil) (fun hA0 => ?_)
    refine svc_ok tabOk [] _ _ _ ?_
    refine callVC_lend [] hR rfl trivial rfl rfl (fun _ _ => trivial) (fun _ _ => ⟨rfl, rfl⟩) (fun _ _ => ?_)
    refine ⟨{ cs := bc r }, ⟨⟨by rw [bc_len]; exact (Nat.mul_one _).symm, bc_one r, hA0, fun w h => h.2.1.2.cells⟩, Nat.one_pos, .inr rfl, ?_, ?_⟩, ?_⟩
    · show Y.length + r.length ≤ maxLen
      simp only [maxLen]; omega
    · show (Y.length + r.length) * 1 ≤ _
      omega
    refine callVC_row 1 rfl (fun A3 c3 f1 f2 f3 => ?_)
    refine callVC_plain (same_len A3 B c3 cb (Y.length + r.length) b.length b (by omega) hlen rfl) (fun _ => rfl) (fun w h => ⟨bt_of (l := b) (by rw [hb, bc_app]; exact h.1) (by rw [hlen]; exact f1) (by rw [hlen]; exact f2) f3, h.2.2.1.1.1.2⟩) ?_
    rintro r rfl
    exact ent_ren [] rfl rfl rfl rfl (Nat.le_of_ble_eq_true rfl) ⟨⟨_, rfl, rfl⟩, ⟨_, rfl, rfl⟩, trivial⟩ trivial ⟨⟨oF.up _ _ _ _ _, fun w h => h.2.2.2.1.1⟩, trivial⟩
  refine Walks.cutX (X := TX × (Option Addr × Nat)) (fun y => TX.ok ot y.1) (fun y => oT [(0, .one (.v (.slice B b.length cb))), (3, .one (.v (.slice A b.length c)))] (oF A c B cb b) y ot) ?_ (fun y hy => ?_)
  · have hT := hT A c (by omega)
    cases ot with
    | none =>
      refine svc_ok tabOk [] _ _ _ ?_
      refine callVC_lend [] hT rfl trivial rfl rfl (fun w h => ⟨h.1.1.1, h.1.2⟩) (fun _ _ => ⟨rfl, rfl⟩) (fun x hx => ?_)
      exact ⟨x, hx, ent_ren [] rfl rfl rfl rfl (Nat.le_of_ble_eq_true rfl) ⟨⟨_, rfl, rfl⟩, ⟨_, rfl, rfl⟩, ⟨_, rfl, rfl⟩, trivial⟩ trivial ⟨⟨oF.up _ _ _ _ _, fun w h => h.2.1⟩, trivial⟩⟩
    | some q =>
      obtain ⟨t, l, r⟩ := q
      refine svc_ok tabOk [] _ _ _ ?_
      refine callVC_lend [] hT rfl trivial rfl rfl (fun w h => ⟨h.1.1.1, h.1.2⟩) (fun x _ => ?_) (fun x hx => ?_)
      · obtain ⟨⟨⟨xk, xn, xnm, xla, xlc, xls, xaa, xac, xus⟩, ra3, rc3⟩, q⟩ := x
        exact ⟨rfl, rfl⟩
      obtain ⟨⟨⟨xk, xn, xnm, xla, xlc, xls, xaa, xac, xus⟩, ra3, rc3⟩, q⟩ := x
      exact ⟨(⟨⟨xk, xn, xnm, xla, xlc, xls, xaa, xac, xus⟩, ra3, rc3⟩, q), hx, ent_ren [(0, .blk 0)] rfl rfl rfl rfl (Nat.le_of_ble_eq_true rfl) ⟨⟨_, rfl, rfl⟩, ⟨_, rfl, rfl⟩, ⟨_, rfl, rfl⟩, ⟨_, rfl, rfl⟩, ⟨_, rfl, rfl⟩, trivial⟩ ⟨⟨_, rfl, rfl⟩, trivial⟩ ⟨⟨(oF.up _ _ _ _ _).and ((BtIn.up _ _ _).and (TTIn.upS _)), fun w h => ⟨h.2.1, h.1⟩⟩, trivial⟩⟩
  refine Walks.cut ({ s := [(0, .one (.v (.slice B b.length cb))), (3, .one (.v (.slice A b.length c)))], m := [], k := 0, f := [oF A c B cb b] }) ?_ ?_
  · cases ot with
    | none =>
      refine svc_ok tabOk [] _ _ _ ?_
      exact ent_ren [] rfl rfl rfl rfl (Nat.le_of_ble_eq_true rfl) ⟨⟨_, rfl, rfl⟩, ⟨_, rfl, rfl⟩, trivial⟩ trivial ⟨⟨oF.up _ _ _ _ _, fun w h => h.1⟩, trivial⟩
    | some q =>
    obtain ⟨t, l, r⟩ := q
    obtain ⟨hb, hcd⟩ := htI t l r rfl
    obtain ⟨⟨tt, ra3, rc3⟩, Ar, cr⟩ := y
    have hy : tt.tm = t := hy
    have hR := TermRA_lc tt
    rw [hy, hcd] at hR
    obtain ⟨Y, hY⟩ : ∃ Y, putT t = Y := ⟨_, rfl⟩
    rw [hY] at hR hb
    clear hy
    obtain ⟨xk, xn, xnm, xla, xlc, xls, xaa, xac, xus⟩ := tt
    have hlen : b.length = Y.length + r.length := by rw [hb, List.length_append]
    refine Walks.told (p := Ar = none → r.length = 0 ∧ cr = 0) (fun w h => h.1.2.1.nil) (fun hA0 => ?_)
    refine svc_ok tabOk [] _ _ _ ?_
    refine callVC_lend [] hR rfl trivial rfl rfl (fun w h => h.1.2.2) (fun _ _ => ⟨rfl, rfl⟩) (fun _ _ => ?_)
    refine ⟨{ cs := bc r }, ⟨⟨by rw [bc_len]; exact (Nat.mul_one _).symm, bc_one r, hA0, fun w h => h.2.1.2.1.cells⟩, Nat.one_pos, .inr rfl, ?_, ?_⟩, ?_⟩
    · show Y.length + r.length ≤ maxLen
      simp only [maxLen]; omega
    · show (Y.length + r.length) * 1 ≤ _
      omega
    refine callVC_row 2 rfl (fun A3 c3 f1 f2 f3 => ?_)
    refine callVC_plain (same_len A3 B c3 cb (Y.length + r.length) b.length b (by omega) hlen rfl) (fun _ => rfl) (fun w h => ⟨bt_of (l := b) (by rw [hb, bc_app]; exact h.1) (by rw [hlen]; exact f1) (by rw [hlen]; exact f2) f3, h.2.2.1.1.1.2⟩) ?_
    rintro r rfl
    exact ent_ren [] rfl rfl rfl rfl (Nat.le_of_ble_eq_true rfl) ⟨⟨_, rfl, rfl⟩, ⟨_, rfl, rfl⟩, trivial⟩ trivial ⟨⟨oF.up _ _ _ _ _, fun w h => h.2.2.2.1.1⟩, trivial⟩
  refine Walks.cutX (X := DX × (Option Addr × Nat)) (fun y => DX.ok od y.1) (fun y => oD [(0, .one (.v (.slice B b.length cb))), (3, .one (.v (.slice A b.length c)))] (oF A c B cb b) y od) ?_ (fun y hy => ?_)
  · have hD := hD A c (by omega)
    cases od with
    | none =>
      refine svc_ok tabOk [] _ _ _ ?_
      refine callVC_lend [] hD rfl trivial rfl rfl (fun w h => ⟨h.1.1.1, h.1.2⟩) (fun _ _ => ⟨rfl, rfl⟩) (fun x hx => ?_)
      exact ⟨x, hx, ent_ren [] rfl rfl rfl rfl (Nat.le_of_ble_eq_true rfl) ⟨⟨_, rfl, rfl⟩, ⟨_, rfl, rfl⟩, ⟨_, rfl, rfl⟩, trivial⟩ trivial ⟨⟨oF.up _ _ _ _ _, fun w h => h.2.1⟩, trivial⟩⟩
    | some q =>
      obtain ⟨t, l, r⟩ := q
      refine svc_ok tabOk [] _ _ _ ?_
      refine callVC_lend [] hD rfl trivial rfl rfl (fun w h => ⟨h.1.1.1, h.1.2⟩) (fun x _ => ?_) (fun x hx => ?_)
      · obtain ⟨⟨⟨xk, xp, xnm, ⟨xak, xan, xanm, xala, xalc, xals, xaaa, xaac, xaus⟩, ⟨xbk, xbn, xbnm, xbla, xblc, xbls, xbaa, xbac, xbus⟩, xfx, xca, xcc, xcts⟩, ra3, rc3⟩, q⟩ := x
        exact ⟨rfl, rfl⟩
      obtain ⟨⟨⟨xk, xp, xnm, ⟨xak, xan, xanm, xala, xalc, xals, xaaa, xaac, xaus⟩, ⟨xbk, xbn, xbnm, xbla, xblc, xbls, xbaa, xbac, xbus⟩, xfx, xca, xcc, xcts⟩, ra3, rc3⟩, q⟩ := x
      exact ⟨(⟨⟨xk, xp, xnm, ⟨xak, xan, xanm, xala, xalc, xals, xaaa, xaac, xaus⟩, ⟨xbk, xbn, xbnm, xbla, xblc, xbls, xbaa, xbac, xbus⟩, xfx, xca, xcc, xcts⟩, ra3, rc3⟩, q), hx, ent_ren [(0, .blk 0)] rfl rfl rfl rfl (Nat.le_of_ble_eq_true rfl) ⟨⟨_, rfl, rfl⟩, ⟨_, rfl, rfl⟩, ⟨_, rfl, rfl⟩, ⟨_, rfl, rfl⟩, ⟨_, rfl, rfl⟩, trivial⟩ ⟨⟨_, rfl, rfl⟩, trivial⟩ ⟨⟨(oF.up _ _ _ _ _).and ((BtIn.up _ _ _).and (DDIn.up _)), fun w h => ⟨h.2.1, h.1⟩⟩, trivial⟩⟩
  refine Walks.cut ({ s := [(0, .one (.v (.slice B b.length cb))), (3, .one (.v (.slice A b.length c)))], m := [], k := 0, f := [oF A c B cb b] }) ?_ ?_
  · cases od with
    | none =>
      refine svc_ok tabOk [] _ _ _ ?_
      exact ent_ren [] rfl rfl rfl rfl (Nat.le_of_ble_eq_true rfl) ⟨⟨_, rfl, rfl⟩, ⟨_, rfl, rfl⟩, trivial⟩ trivial ⟨⟨oF.up _ _ _ _ _, fun w h => h.1⟩, trivial⟩
    | some q =>
    obtain ⟨t, l, r⟩ := q
    obtain ⟨hb, hcd⟩ := hdI t l r rfl
    obtain ⟨⟨dd, ra3, rc3⟩, Ar, cr⟩ := y
    have hy : dd.dm = t := hy
    have hR := DeclRA_lc dd
    rw [hy, hcd] at hR
    obtain ⟨Y, hY⟩ : ∃ Y, declN t = Y := ⟨_, rfl⟩
    rw [hY] at hR hb
    clear hy
    obtain ⟨xk, xp, xnm, ⟨xak, xan, xanm, xala, xalc, xals, xaaa, xaac, xaus⟩, ⟨xbk, xbn, xbnm, xbla, xblc, xbls, xbaa, xbac, xbus⟩, xfx, xca, xcc, xcts⟩ := dd
    have hlen : b.length = Y.length + r.length := by rw [hb, List.length_append]
    refine Walks.told (p := Ar = none → r.length = 0 ∧ cr = 0) (fun w h => h.1.2.1.nil) (fun hA0 => ?_)
    refine svc_ok tabOk [] _ _ _ ?_
    refine callVC_lend [] hR rfl trivial rfl rfl (fun w h => h.1.2.2) (fun _ _ => ⟨rfl, rfl⟩) (fun _ _ => ?_)
    refine ⟨{ cs := bc r }, ⟨⟨by rw [bc_len]; exact (Nat.mul_one _).symm, bc_one r, hA0, fun w h => h.2.1.2.1.cells⟩, Nat.one_pos, .inr rfl, ?_, ?_⟩, ?_⟩
    · show Y.length + r.length ≤ maxLen
      simp only [maxLen]; omega
    · show (Y.length + r.length) * 1 ≤ _
      omega
    refine callVC_row 2 rfl (fun A3 c3 f1 f2 f3 => ?_)
    refine callVC_plain (same_len A3 B c3 cb (Y.length + r.length) b.length b (by omega) hlen rfl) (fun _ => rfl) (fun w h => ⟨bt_of (l := b) (by rw [hb, bc_app]; exact h.1) (by rw [hlen]; exact f1) (by rw [hlen]; exact f2) f3, h.2.2.1.1.1.2⟩) ?_
    rintro r rfl
    exact ent_ren [] rfl rfl rfl rfl (Nat.le_of_ble_eq_true rfl) ⟨⟨_, rfl, rfl⟩, ⟨_, rfl, rfl⟩, trivial⟩ trivial ⟨⟨oF.up _ _ _ _ _, fun w h => h.2.2.2.1.1⟩, trivial⟩
  have hL := hL A c (by omega)
  refine svc_ok tabOk [] _ _ _ ?_
  cases ol with
  | none =>
    refine callVC_lend [] hL rfl trivial rfl rfl (fun w h => ⟨h.1.1.1, h.1.2⟩) (fun _ _ => ⟨rfl, rfl⟩) (fun x hx => ?_)
    refine callVC_plain (same_true A B c cb b (by omega)) (fun _ => rfl) (fun w h => ⟨h.2.1.2, h.2.1.1.2⟩) ?_
    rintro r rfl
    exact ⟨_, rfl, Told.val rfl⟩
  | some ds =>
    obtain ⟨hb, hlb⟩ := hlI ds rfl
    refine callVC_lend [] hL rfl trivial rfl rfl (fun w h => ⟨h.1.1.1, h.1.2⟩) (fun _ _ => ⟨rfl, rfl⟩) (fun y hy => ?_)
    obtain ⟨es, A15, c15⟩ := y
    have hy : es.map DD.dm = ds := hy
    have hR := LibraryR_lc A15 c15 es
    rw [hy, hlb, ← hb] at hR
    refine callVC_plain (same_true A B c cb b (by omega)) (fun _ => rfl) (fun w h => ⟨h.2.1.2, h.2.1.1.2⟩) ?_
    rintro r rfl
    refine callVC_lend [] hR rfl trivial rfl rfl (fun w h => h.2.1) (fun _ _ => ⟨rfl, rfl⟩) (fun _ _ => ?_)
    refine callVC_row 0 rfl (fun A3 c3 f1 f2 f3 => ?_)
    refine callVC_plain (same_true A3 B c3 cb b (by omega)) (fun _ => rfl) (fun w h => ⟨bt_of (l := b) h.1 f1 f2 f3, h.2.2.2.2.1.1.2⟩) ?_
    rintro r rfl
    exact ⟨_, rfl, Told.val rfl⟩
theorem codeOne_true (B : Option Addr) (cb : Nat) (b : List Nat) (hBy : Bytes b) (w : World) (hp : oPre B cb b w) : Calls Tryz.prog 4 #[.slice B b.length cb] w fun e w' => e = .returned (.bool true) ∧ Below w.heap.size w w' :=
  ((codeOne_pc B cb b hBy).run w (fun _ => False) (fun _ h => h.elim) (oPre.up _ _ _ _ _ (fun g o hg ho => by rw [hide_get, hg]; simp) hp)).mono fun en w' ⟨r, h1, h2, _, h4⟩ => ⟨by rw [h1, h2], h4⟩
end Go.Proofs.YtmkpiekbpakigaaGreatDoor
