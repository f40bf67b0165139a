/- The law CodeAnswers (3) answers true. -/
import Derived.Test.YtmkpiekbpakigaaGreatDoorRo
set_option linter.unusedVariables false
set_option linter.unusedSimpArgs false
namespace Go.Proofs.YtmkpiekbpakigaaGreatDoor
open Go.RowKit Go.Proofs.Base Go.Proofs.Sym

theorem Walks.seqX {P : Program} {N : Nat} {x y : Code} {K : Exit → St → Prop} {st : St} {X : Type} (s : X → St) (h1 : (∀ q, Walks P N y K (s q)) → Walks P N (.seq x y) K st) (h2 : ∀ q, Walks P N y K (s q)) : Walks P N (.seq x y) K st := h1 h2
def ol : Bool → List Nat → List Nat
  | true, ys => ys
  | false, _ => []
theorem bt_none (w : World) : BtIn w none 0 [] := ⟨fun j u h => (by cases h), fun _ => ⟨rfl, rfl⟩, Nat.le_refl _, Nat.zero_le _⟩
def caD (A : Option Addr) (c : Nat) (ds : List DD) (w : World) : Prop := ML w ∧ DsIn w A c ds
theorem caD.up (A : Option Addr) (c : Nat) (ds : List DD) : Up (caD A c ds) := ML.up.and (DsIn.up _ _ _)
def caPre (t : TT) (A : Option Addr) (c : Nat) (ds : List DD) (w : World) : Prop := (ML w ∧ TTIn w t) ∧ DsIn w A c ds
theorem caPre.up (t : TT) (A : Option Addr) (c : Nat) (ds : List DD) : Up (caPre t A c ds) := (ML.up.and (TTIn.upS _)).and (DsIn.up _ _ _)
def caF (t : TT) (A : Option Addr) (c : Nat) (ds : List DD) (L : List (Option Addr × Nat × List Nat)) (w : World) : Prop := caPre t A c ds w ∧ ∀ x ∈ L, BtIn w x.1 x.2.1 x.2.2
theorem caF.up (t : TT) (A : Option Addr) (c : Nat) (ds : List DD) (L : List (Option Addr × Nat × List Nat)) : Up (caF t A c ds L) := (caPre.up _ _ _ _).and fun w w' h hb x hx => BtIn.up _ _ _ _ _ h (hb x hx)
theorem caF.put {t : TT} {A : Option Addr} {c : Nat} {ds : List DD} {L : List (Option Addr × Nat × List Nat)} {w : World} {B : Option Addr} {cb : Nat} {l : List Nat} (h : caF t A c ds L w) (hb : BtIn w B cb l) : caF t A c ds ((B, cb, l) :: L) w :=
  ⟨h.1, fun x hx => (List.mem_cons.1 hx).elim (fun e => by rw [e]; exact hb) (h.2 x)⟩
def caG (A : Option Addr) (c : Nat) (ds : List DD) (x : DD) (L : List (Option Addr × Nat × List Nat)) (w : World) : Prop := (caD A c ds w ∧ DDIn w x) ∧ ∀ x ∈ L, BtIn w x.1 x.2.1 x.2.2
theorem caG.up (A : Option Addr) (c : Nat) (ds : List DD) (x : DD) (L : List (Option Addr × Nat × List Nat)) : Up (caG A c ds x L) := ((caD.up _ _ _).and (DDIn.up _)).and fun w w' h hb x hx => BtIn.up _ _ _ _ _ h (hb x hx)
theorem caG.put {A : Option Addr} {c : Nat} {ds : List DD} {x : DD} {L : List (Option Addr × Nat × List Nat)} {w : World} {B : Option Addr} {cb : Nat} {l : List Nat} (h : caG A c ds x L w) (hb : BtIn w B cb l) : caG A c ds x ((B, cb, l) :: L) w :=
  ⟨h.1, fun x hx => (List.mem_cons.1 hx).elim (fun e => by rw [e]; exact hb) (h.2 x)⟩
theorem mem0 {α : Type} (a : α) (l : List α) : a ∈ a :: l := List.mem_cons_self
theorem mem1 {α : Type} (a b : α) (l : List α) : a ∈ b :: a :: l := List.mem_cons_of_mem _ List.mem_cons_self
theorem BtIn.short {w : World} {B : Option Addr} {c : Nat} {l : List Nat} (h : BtIn w B c l) : l.length ≤ 9223372036854775807 := Nat.le_trans h.le (Nat.le_trans h.max (by decide))
theorem TermRB_lc (t : TT) : LCall Tryz.prog 12 [ttA t] [] 0 (fun w => TTIn w t) (fun _ : Unit => True) (fun _ => optRes (codeB t.tm) (putT t.tm)) :=
  LCall.arg (TermR_lc t) (fun e => by
    show [Value.agg (reals e (t.cells.map SA.v)).toArray] = _
    rw [map_plain]
    rfl) (fun x hx => by
    rw [List.mem_singleton.1 hx]
    trivial)
set_option maxHeartbeats 4000000 in
theorem codeAnswers_pc (n : Int) (t : TT) (A : Option Addr) (c : Nat) (ds : List DD) (hB : ∀ d ∈ ds, DDB d) : PCall Tryz.prog 3 [.int .i64 n, t.val, .slice A ds.length c] (caPre t A c ds) (fun r => r = .bool true) (fun _ _ => True) := by
  have hg8 := great8_pc t
  obtain ⟨g8, hg8e⟩ : ∃ g, decide (3600 < nodesR 3600 t) = g := ⟨_, rfl⟩
  rw [hg8e] at hg8
  have hg := great_pc A c ds
  have hNum := NumI_lc n
  have hNumR := NumR_lc n
  obtain ⟨nb, hnb⟩ : ∃ x, numOkB n = x := ⟨_, rfl⟩
  obtain ⟨ny, hny⟩ : ∃ x, numB n.toNat = x := ⟨_, rfl⟩
  rw [hnb, hny] at hNum hNumR
  have hTerm := TermA_lc t
  have hTermR := TermRB_lc t
  obtain ⟨tm, htm⟩ : ∃ m, t.tm = m := ⟨_, rfl⟩
  rw [htm] at hTerm hTermR
  obtain ⟨tb, htb⟩ : ∃ x, codeB tm = x := ⟨_, rfl⟩
  obtain ⟨ty, hty⟩ : ∃ x, putT tm = x := ⟨_, rfl⟩
  rw [htb, hty] at hTerm hTermR
  have hLib := Library_lc A c ds
  have hLibR := LibraryR_lc A c ds
  obtain ⟨lb, hlb⟩ : ∃ x, libB (ds.map DD.dm) = x := ⟨_, rfl⟩
  obtain ⟨ly, hly⟩ : ∃ x, libN (ds.map DD.dm) = x := ⟨_, rfl⟩
  rw [hlb, hly] at hLib hLibR
  clear hg8e hnb hny htm htb hty hlb hly
  obtain ⟨tk, tn, tnm, tla, tlc, tls, taa, tac, tus⟩ := t
  refine pcall_of tabOk 146 [.tmp 6] Tryz.func3 rfl rfl (by kernel_rfl) rfl _ (Nat.le_of_ble_eq_true rfl) (caPre.up _ _ _ _) (fun _ => Up.true) ?_
  refine svc_ok tabOk [3] _ _ _ ?_
  refine callVC_plain alive_pc (fun _ => rfl) (fun w h => h.1.1.1) ?_
  rintro r rfl
  refine svc_ok tabOk [5] _ _ _ ?_
  refine callVC_plain hg8 (fun _ => rfl) (fun w h => h.2.1.1.2) ?_
  rintro r rfl
  cases g8 with
  | true => exact ⟨_, rfl, Told.val rfl⟩
  | false =>
  refine callVC_plain hg (fun _ => rfl) (fun w h => h.2.2.1.2) ?_
  rintro r ⟨gb, rfl⟩
  cases gb with
  | true => exact ⟨_, rfl, Told.val rfl⟩
  | false =>
  refine Walks.ent (st' := { s := [(0, .one (.v (.int .i64 n))), (2, .one (.v (.slice A ds.length c))), (4, .one (.p 0 0))], m := [(0, .cells 25 ((TT.mk tk tn tnm tla tlc tls taa tac tus).cells.map SA.v))], k := 1, f := [caF (TT.mk tk tn tnm tla tlc tls taa tac tus) A c ds []] }) (ent_ren [(0, .blk 0)] rfl rfl rfl rfl (Nat.le_of_ble_eq_true rfl) ⟨⟨_, rfl, rfl⟩, ⟨_, rfl, rfl⟩, ⟨_, rfl, rfl⟩, trivial⟩ ⟨⟨_, rfl, rfl⟩, trivial⟩ ⟨⟨caF.up _ _ _ _ _, fun w h => ⟨h.2.2.2.1, fun x hx => by cases hx⟩⟩, trivial⟩) ?_
  refine Walks.seqX (X := Option Addr × Nat) (fun q => { s := [(7, .one (.v (.slice q.1 (ol nb ny).length q.2))), (8, .one (.v (.bool nb))), (0, .one (.v (.int .i64 n))), (2, .one (.v (.slice A ds.length c))), (4, .one (.p 0 0))], m := [(0, .cells 25 ((TT.mk tk tn tnm tla tlc tls taa tac tus).cells.map SA.v))], k := 1, f := [caF (TT.mk tk tn tnm tla tlc tls taa tac tus) A c ds [(q.1, q.2, ol nb ny)]] }) (fun H => ?_) (fun q => ?_)
  · cases nb with
    | false =>
      refine svc_ok tabOk [6] _ _ _ ?_
      refine callVC_lend [] hNum rfl trivial rfl rfl (fun w h => trivial) (fun _ _ => ⟨rfl, rfl⟩) (fun _ _ => ?_)
      refine Walks.ent ?_ (H (none, 0))
      exact ent_ren [(0, .blk 0)] rfl rfl rfl rfl (Nat.le_of_ble_eq_true rfl) ⟨⟨_, rfl, rfl⟩, ⟨_, rfl, rfl⟩, ⟨_, rfl, rfl⟩, ⟨_, rfl, rfl⟩, ⟨_, rfl, rfl⟩, trivial⟩ ⟨⟨_, rfl, rfl⟩, trivial⟩ ⟨⟨caF.up _ _ _ _ _, fun w h => h.2.1.put (bt_none w)⟩, trivial⟩
    | true =>
      refine svc_ok tabOk [6] _ _ _ ?_
      refine callVC_lend [] hNum rfl trivial rfl rfl (fun w h => trivial) (fun _ _ => ⟨rfl, rfl⟩) (fun _ _ => ?_)
      refine Walks.freeze 1 rfl (fun B cb g1 g2 g3 => ?_)
      refine Walks.ent ?_ (H (B, cb))
      exact ent_ren [(0, .blk 0)] rfl rfl rfl rfl (Nat.le_of_ble_eq_true rfl) ⟨⟨_, rfl, rfl⟩, ⟨_, rfl, rfl⟩, ⟨_, rfl, rfl⟩, ⟨_, rfl, rfl⟩, ⟨_, rfl, rfl⟩, trivial⟩ ⟨⟨_, rfl, rfl⟩, trivial⟩ ⟨⟨caF.up _ _ _ _ _, fun w h => h.2.2.1.put (bt_of (l := ny) h.1 g1 g2 g3)⟩, trivial⟩
  obtain ⟨A0, c0⟩ := q
  refine Walks.seqX (X := Option Addr × Nat) (fun q => { s := [(7, .one (.v (.slice A0 (ol nb ny).length c0))), (8, .one (.v (.bool nb))), (9, .one (.v (.slice q.1 (ol nb ny).length q.2))), (10, .one (.v (.bool nb))), (0, .one (.v (.int .i64 n))), (2, .one (.v (.slice A ds.length c))), (4, .one (.p 0 0))], m := [(0, .cells 25 ((TT.mk tk tn tnm tla tlc tls taa tac tus).cells.map SA.v))], k := 1, f := [caF (TT.mk tk tn tnm tla tlc tls taa tac tus) A c ds [(q.1, q.2, ol nb ny), (A0, c0, ol nb ny)]] }) (fun H => ?_) (fun q => ?_)
  · cases nb with
    | false =>
      refine svc_ok tabOk [7] _ _ _ ?_
      refine callVC_lend [] hNumR rfl trivial rfl rfl (fun w h => trivial) (fun _ _ => ⟨rfl, rfl⟩) (fun _ _ => ?_)
      refine Walks.ent ?_ (H (none, 0))
      exact ent_ren [(0, .blk 0)] rfl rfl rfl rfl (Nat.le_of_ble_eq_true rfl) ⟨⟨_, rfl, rfl⟩, ⟨_, rfl, rfl⟩, ⟨_, rfl, rfl⟩, ⟨_, rfl, rfl⟩, ⟨_, rfl, rfl⟩, ⟨_, rfl, rfl⟩, ⟨_, rfl, rfl⟩, trivial⟩ ⟨⟨_, rfl, rfl⟩, trivial⟩ ⟨⟨caF.up _ _ _ _ _, fun w h => h.2.1.put (bt_none w)⟩, trivial⟩
    | true =>
      refine svc_ok tabOk [7] _ _ _ ?_
      refine callVC_lend [] hNumR rfl trivial rfl rfl (fun w h => trivial) (fun _ _ => ⟨rfl, rfl⟩) (fun _ _ => ?_)
      refine Walks.freeze 1 rfl (fun B cb g1 g2 g3 => ?_)
      refine Walks.ent ?_ (H (B, cb))
      exact ent_ren [(0, .blk 0)] rfl rfl rfl rfl (Nat.le_of_ble_eq_true rfl) ⟨⟨_, rfl, rfl⟩, ⟨_, rfl, rfl⟩, ⟨_, rfl, rfl⟩, ⟨_, rfl, rfl⟩, ⟨_, rfl, rfl⟩, ⟨_, rfl, rfl⟩, ⟨_, rfl, rfl⟩, trivial⟩ ⟨⟨_, rfl, rfl⟩, trivial⟩ ⟨⟨caF.up _ _ _ _ _, fun w h => h.2.2.1.put (bt_of (l := ny) h.1 g1 g2 g3)⟩, trivial⟩
  obtain ⟨A1, c1⟩ := q
  refine Walks.seqX (X := Option Addr × Nat) (fun q => { s := [(7, .one (.v (.slice A0 (ol nb ny).length c0))), (8, .one (.v (.bool nb))), (9, .one (.v (.slice A1 (ol nb ny).length c1))), (10, .one (.v (.bool nb))), (11, .one (.v (.slice q.1 (ol tb ty).length q.2))), (12, .one (.v (.bool tb))), (0, .one (.v (.int .i64 n))), (2, .one (.v (.slice A ds.length c))), (4, .one (.p 0 0))], m := [(0, .cells 25 ((TT.mk tk tn tnm tla tlc tls taa tac tus).cells.map SA.v))], k := 1, f := [caF (TT.mk tk tn tnm tla tlc tls taa tac tus) A c ds [(q.1, q.2, ol tb ty), (A1, c1, ol nb ny), (A0, c0, ol nb ny)]] }) (fun H => ?_) (fun q => ?_)
  · cases tb with
    | false =>
      refine svc_ok tabOk [8] _ _ _ ?_
      refine callVC_lend [] hTerm rfl trivial rfl rfl (fun w h => ⟨h.1.1.1.1, h.1.1.1.2⟩) (fun _ _ => ⟨rfl, rfl⟩) (fun _ _ => ?_)
      refine Walks.ent ?_ (H (none, 0))
      exact ent_ren [(0, .blk 0)] rfl rfl rfl rfl (Nat.le_of_ble_eq_true rfl) ⟨⟨_, rfl, rfl⟩, ⟨_, rfl, rfl⟩, ⟨_, rfl, rfl⟩, ⟨_, rfl, rfl⟩, ⟨_, rfl, rfl⟩, ⟨_, rfl, rfl⟩, ⟨_, rfl, rfl⟩, ⟨_, rfl, rfl⟩, ⟨_, rfl, rfl⟩, trivial⟩ ⟨⟨_, rfl, rfl⟩, trivial⟩ ⟨⟨caF.up _ _ _ _ _, fun w h => h.2.1.put (bt_none w)⟩, trivial⟩
    | true =>
      refine svc_ok tabOk [8] _ _ _ ?_
      refine callVC_lend [] hTerm rfl trivial rfl rfl (fun w h => ⟨h.1.1.1.1, h.1.1.1.2⟩) (fun _ _ => ⟨rfl, rfl⟩) (fun _ _ => ?_)
      refine Walks.freeze 1 rfl (fun B cb g1 g2 g3 => ?_)
      refine Walks.ent ?_ (H (B, cb))
      exact ent_ren [(0, .blk 0)] rfl rfl rfl rfl (Nat.le_of_ble_eq_true rfl) ⟨⟨_, rfl, rfl⟩, ⟨_, rfl, rfl⟩, ⟨_, rfl, rfl⟩, ⟨_, rfl, rfl⟩, ⟨_, rfl, rfl⟩, ⟨_, rfl, rfl⟩, ⟨_, rfl, rfl⟩, ⟨_, rfl, rfl⟩, ⟨_, rfl, rfl⟩, trivial⟩ ⟨⟨_, rfl, rfl⟩, trivial⟩ ⟨⟨caF.up _ _ _ _ _, fun w h => h.2.2.1.put (bt_of (l := ty) h.1 g1 g2 g3)⟩, trivial⟩
  obtain ⟨A2, c2⟩ := q
  refine Walks.seqX (X := Option Addr × Nat) (fun q => { s := [(7, .one (.v (.slice A0 (ol nb ny).length c0))), (8, .one (.v (.bool nb))), (9, .one (.v (.slice A1 (ol nb ny).length c1))), (10, .one (.v (.bool nb))), (11, .one (.v (.slice A2 (ol tb ty).length c2))), (12, .one (.v (.bool tb))), (13, .one (.v (.slice q.1 (ol tb ty).length q.2))), (14, .one (.v (.bool tb))), (0, .one (.v (.int .i64 n))), (2, .one (.v (.slice A ds.length c))), (4, .one (.p 0 0))], m := [(0, .cells 25 ((TT.mk tk tn tnm tla tlc tls taa tac tus).cells.map SA.v))], k := 1, f := [caF (TT.mk tk tn tnm tla tlc tls taa tac tus) A c ds [(q.1, q.2, ol tb ty), (A2, c2, ol tb ty), (A1, c1, ol nb ny), (A0, c0, ol nb ny)]] }) (fun H => ?_) (fun q => ?_)
  · cases tb with
    | false =>
      refine svc_ok tabOk [9] _ _ _ ?_
      refine callVC_lend [] hTermR rfl trivial rfl rfl (fun w h => h.1.1.1.2) (fun _ _ => ⟨rfl, rfl⟩) (fun _ _ => ?_)
      refine Walks.ent ?_ (H (none, 0))
      exact ent_ren [(0, .blk 0)] rfl rfl rfl rfl (Nat.le_of_ble_eq_true rfl) ⟨⟨_, rfl, rfl⟩, ⟨_, rfl, rfl⟩, ⟨_, rfl, rfl⟩, ⟨_, rfl, rfl⟩, ⟨_, rfl, rfl⟩, ⟨_, rfl, rfl⟩, ⟨_, rfl, rfl⟩, ⟨_, rfl, rfl⟩, ⟨_, rfl, rfl⟩, ⟨_, rfl, rfl⟩, ⟨_, rfl, rfl⟩, trivial⟩ ⟨⟨_, rfl, rfl⟩, trivial⟩ ⟨⟨caF.up _ _ _ _ _, fun w h => h.2.1.put (bt_none w)⟩, trivial⟩
    | true =>
      refine svc_ok tabOk [9] _ _ _ ?_
      refine callVC_lend [] hTermR rfl trivial rfl rfl (fun w h => h.1.1.1.2) (fun _ _ => ⟨rfl, rfl⟩) (fun _ _ => ?_)
      refine Walks.freeze 1 rfl (fun B cb g1 g2 g3 => ?_)
      refine Walks.ent ?_ (H (B, cb))
      exact ent_ren [(0, .blk 0)] rfl rfl rfl rfl (Nat.le_of_ble_eq_true rfl) ⟨⟨_, rfl, rfl⟩, ⟨_, rfl, rfl⟩, ⟨_, rfl, rfl⟩, ⟨_, rfl, rfl⟩, ⟨_, rfl, rfl⟩, ⟨_, rfl, rfl⟩, ⟨_, rfl, rfl⟩, ⟨_, rfl, rfl⟩, ⟨_, rfl, rfl⟩, ⟨_, rfl, rfl⟩, ⟨_, rfl, rfl⟩, trivial⟩ ⟨⟨_, rfl, rfl⟩, trivial⟩ ⟨⟨caF.up _ _ _ _ _, fun w h => h.2.2.1.put (bt_of (l := ty) h.1 g1 g2 g3)⟩, trivial⟩
  obtain ⟨A3, c3⟩ := q
  refine Walks.seqX (X := Option Addr × Nat) (fun q => { s := [(7, .one (.v (.slice A0 (ol nb ny).length c0))), (8, .one (.v (.bool nb))), (9, .one (.v (.slice A1 (ol nb ny).length c1))), (10, .one (.v (.bool nb))), (11, .one (.v (.slice A2 (ol tb ty).length c2))), (12, .one (.v (.bool tb))), (13, .one (.v (.slice A3 (ol tb ty).length c3))), (14, .one (.v (.bool tb))), (15, .one (.v (.slice q.1 (ol lb ly).length q.2))), (16, .one (.v (.bool lb))), (0, .one (.v (.int .i64 n))), (2, .one (.v (.slice A ds.length c))), (4, .one (.p 0 0))], m := [(0, .cells 25 ((TT.mk tk tn tnm tla tlc tls taa tac tus).cells.map SA.v))], k := 1, f := [caF (TT.mk tk tn tnm tla tlc tls taa tac tus) A c ds [(q.1, q.2, ol lb ly), (A3, c3, ol tb ty), (A2, c2, ol tb ty), (A1, c1, ol nb ny), (A0, c0, ol nb ny)]] }) (fun H => ?_) (fun q => ?_)
  · cases lb with
    | false =>
      refine svc_ok tabOk [10] _ _ _ ?_
      refine callVC_lend [] hLib rfl trivial rfl rfl (fun w h => ⟨h.1.1.1.1, h.1.1.2⟩) (fun _ _ => ⟨rfl, rfl⟩) (fun _ _ => ?_)
      refine Walks.ent ?_ (H (none, 0))
      exact ent_ren [(0, .blk 0)] rfl rfl rfl rfl (Nat.le_of_ble_eq_true rfl) ⟨⟨_, rfl, rfl⟩, ⟨_, rfl, rfl⟩, ⟨_, rfl, rfl⟩, ⟨_, rfl, rfl⟩, ⟨_, rfl, rfl⟩, ⟨_, rfl, rfl⟩, ⟨_, rfl, rfl⟩, ⟨_, rfl, rfl⟩, ⟨_, rfl, rfl⟩, ⟨_, rfl, rfl⟩, ⟨_, rfl, rfl⟩, ⟨_, rfl, rfl⟩, ⟨_, rfl, rfl⟩, trivial⟩ ⟨⟨_, rfl, rfl⟩, trivial⟩ ⟨⟨caF.up _ _ _ _ _, fun w h => h.2.1.put (bt_none w)⟩, trivial⟩
    | true =>
      refine svc_ok tabOk [10] _ _ _ ?_
      refine callVC_lend [] hLib rfl trivial rfl rfl (fun w h => ⟨h.1.1.1.1, h.1.1.2⟩) (fun _ _ => ⟨rfl, rfl⟩) (fun _ _ => ?_)
      refine Walks.freeze 1 rfl (fun B cb g1 g2 g3 => ?_)
      refine Walks.ent ?_ (H (B, cb))
      exact ent_ren [(0, .blk 0)] rfl rfl rfl rfl (Nat.le_of_ble_eq_true rfl) ⟨⟨_, rfl, rfl⟩, ⟨_, rfl, rfl⟩, ⟨_, rfl, rfl⟩, ⟨_, rfl, rfl⟩, ⟨_, rfl, rfl⟩, ⟨_, rfl, rfl⟩, ⟨_, rfl, rfl⟩, ⟨_, rfl, rfl⟩, ⟨_, rfl, rfl⟩, ⟨_, rfl, rfl⟩, ⟨_, rfl, rfl⟩, ⟨_, rfl, rfl⟩, ⟨_, rfl, rfl⟩, trivial⟩ ⟨⟨_, rfl, rfl⟩, trivial⟩ ⟨⟨caF.up _ _ _ _ _, fun w h => h.2.2.1.put (bt_of (l := ly) h.1 g1 g2 g3)⟩, trivial⟩
  obtain ⟨A4, c4⟩ := q
  refine Walks.seqX (X := Option Addr × Nat) (fun q => { s := [(7, .one (.v (.slice A0 (ol nb ny).length c0))), (8, .one (.v (.bool nb))), (9, .one (.v (.slice A1 (ol nb ny).length c1))), (10, .one (.v (.bool nb))), (11, .one (.v (.slice A2 (ol tb ty).length c2))), (12, .one (.v (.bool tb))), (13, .one (.v (.slice A3 (ol tb ty).length c3))), (14, .one (.v (.bool tb))), (15, .one (.v (.slice A4 (ol lb ly).length c4))), (16, .one (.v (.bool lb))), (17, .one (.v (.slice q.1 (ol lb ly).length q.2))), (18, .one (.v (.bool lb))), (0, .one (.v (.int .i64 n))), (2, .one (.v (.slice A ds.length c))), (4, .one (.p 0 0))], m := [(0, .cells 25 ((TT.mk tk tn tnm tla tlc tls taa tac tus).cells.map SA.v))], k := 1, f := [caF (TT.mk tk tn tnm tla tlc tls taa tac tus) A c ds [(q.1, q.2, ol lb ly), (A4, c4, ol lb ly), (A3, c3, ol tb ty), (A2, c2, ol tb ty), (A1, c1, ol nb ny), (A0, c0, ol nb ny)]] }) (fun H => ?_) (fun q => ?_)
  · cases lb with
    | false =>
      refine svc_ok tabOk [11] _ _ _ ?_
      refine callVC_lend [] hLibR rfl trivial rfl rfl (fun w h => h.1.1.2) (fun _ _ => ⟨rfl, rfl⟩) (fun _ _ => ?_)
      refine Walks.ent ?_ (H (none, 0))
      exact ent_ren [(0, .blk 0)] rfl rfl rfl rfl (Nat.le_of_ble_eq_true rfl) ⟨⟨_, rfl, rfl⟩, ⟨_, rfl, rfl⟩, ⟨_, rfl, rfl⟩, ⟨_, rfl, rfl⟩, ⟨_, rfl, rfl⟩, ⟨_, rfl, rfl⟩, ⟨_, rfl, rfl⟩, ⟨_, rfl, rfl⟩, ⟨_, rfl, rfl⟩, ⟨_, rfl, rfl⟩, ⟨_, rfl, rfl⟩, ⟨_, rfl, rfl⟩, ⟨_, rfl, rfl⟩, ⟨_, rfl, rfl⟩, ⟨_, rfl, rfl⟩, trivial⟩ ⟨⟨_, rfl, rfl⟩, trivial⟩ ⟨⟨caF.up _ _ _ _ _, fun w h => h.2.1.put (bt_none w)⟩, trivial⟩
    | true =>
      refine svc_ok tabOk [11] _ _ _ ?_
      refine callVC_lend [] hLibR rfl trivial rfl rfl (fun w h => h.1.1.2) (fun _ _ => ⟨rfl, rfl⟩) (fun _ _ => ?_)
      refine Walks.freeze 1 rfl (fun B cb g1 g2 g3 => ?_)
      refine Walks.ent ?_ (H (B, cb))
      exact ent_ren [(0, .blk 0)] rfl rfl rfl rfl (Nat.le_of_ble_eq_true rfl) ⟨⟨_, rfl, rfl⟩, ⟨_, rfl, rfl⟩, ⟨_, rfl, rfl⟩, ⟨_, rfl, rfl⟩, ⟨_, rfl, rfl⟩, ⟨_, rfl, rfl⟩, ⟨_, rfl, rfl⟩, ⟨_, rfl, rfl⟩, ⟨_, rfl, rfl⟩, ⟨_, rfl, rfl⟩, ⟨_, rfl, rfl⟩, ⟨_, rfl, rfl⟩, ⟨_, rfl, rfl⟩, ⟨_, rfl, rfl⟩, ⟨_, rfl, rfl⟩, trivial⟩ ⟨⟨_, rfl, rfl⟩, trivial⟩ ⟨⟨caF.up _ _ _ _ _, fun w h => h.2.2.1.put (bt_of (l := ly) h.1 g1 g2 g3)⟩, trivial⟩
  obtain ⟨A5, c5⟩ := q
  refine Walks.told (p := (ol nb ny).length ≤ 9223372036854775807 ∧ (ol tb ty).length ≤ 9223372036854775807 ∧ (ol lb ly).length ≤ 9223372036854775807) (fun w h => ?_) (fun hlen => ?_)
  · exact ⟨(h.1.2 _ (List.mem_cons_of_mem _ (List.mem_cons_of_mem _ (List.mem_cons_of_mem _ (List.mem_cons_of_mem _ (mem0 _ _)))))).short, (h.1.2 _ (List.mem_cons_of_mem _ (List.mem_cons_of_mem _ (mem0 _ _)))).short, (h.1.2 _ (mem0 _ _)).short⟩
  obtain ⟨hl1, hl2, hl3⟩ := hlen
  refine Walks.cut ({ s := [(2, .one (.v (.slice A ds.length c)))], m := [], k := 0, f := [caD A c ds] }) ?_ ?_
  · cases nb <;> cases tb <;> cases lb
    · refine svc_ok tabOk [] _ _ _ ?_
      refine callVC_plain (same_true A0 A1 c0 c1 (ol false ny) hl1) (fun _ => rfl) (fun w h => ⟨h.1.2 _ (List.mem_cons_of_mem _ (List.mem_cons_of_mem _ (List.mem_cons_of_mem _ (List.mem_cons_of_mem _ (List.mem_cons_of_mem _ (mem0 _ _)))))), h.1.2 _ (List.mem_cons_of_mem _ (List.mem_cons_of_mem _ (List.mem_cons_of_mem _ (List.mem_cons_of_mem _ (mem0 _ _)))))⟩) ?_
      rintro r rfl
      refine callVC_plain (same_true A2 A3 c2 c3 (ol false ty) hl2) (fun _ => rfl) (fun w h => ⟨h.2.1.2 _ (List.mem_cons_of_mem _ (List.mem_cons_of_mem _ (List.mem_cons_of_mem _ (mem0 _ _)))), h.2.1.2 _ (List.mem_cons_of_mem _ (List.mem_cons_of_mem _ (mem0 _ _)))⟩) ?_
      rintro r rfl
      refine callVC_plain (same_true A4 A5 c4 c5 (ol false ly) hl3) (fun _ => rfl) (fun w h => ⟨h.2.2.1.2 _ (List.mem_cons_of_mem _ (mem0 _ _)), h.2.2.1.2 _ (mem0 _ _)⟩) ?_
      rintro r rfl
      exact ent_ren [] rfl rfl rfl rfl (Nat.le_of_ble_eq_true rfl) ⟨⟨_, rfl, rfl⟩, trivial⟩ trivial ⟨⟨caD.up _ _ _, fun w h => ⟨h.2.2.2.1.1.1.1, h.2.2.2.1.1.2⟩⟩, trivial⟩
    · refine svc_ok tabOk [] _ _ _ ?_
      refine callVC_plain (same_true A0 A1 c0 c1 (ol false ny) hl1) (fun _ => rfl) (fun w h => ⟨h.1.2 _ (List.mem_cons_of_mem _ (List.mem_cons_of_mem _ (List.mem_cons_of_mem _ (List.mem_cons_of_mem _ (List.mem_cons_of_mem _ (mem0 _ _)))))), h.1.2 _ (List.mem_cons_of_mem _ (List.mem_cons_of_mem _ (List.mem_cons_of_mem _ (List.mem_cons_of_mem _ (mem0 _ _)))))⟩) ?_
      rintro r rfl
      refine callVC_plain (same_true A2 A3 c2 c3 (ol false ty) hl2) (fun _ => rfl) (fun w h => ⟨h.2.1.2 _ (List.mem_cons_of_mem _ (List.mem_cons_of_mem _ (List.mem_cons_of_mem _ (mem0 _ _)))), h.2.1.2 _ (List.mem_cons_of_mem _ (List.mem_cons_of_mem _ (mem0 _ _)))⟩) ?_
      rintro r rfl
      refine callVC_plain (same_true A4 A5 c4 c5 (ol true ly) hl3) (fun _ => rfl) (fun w h => ⟨h.2.2.1.2 _ (List.mem_cons_of_mem _ (mem0 _ _)), h.2.2.1.2 _ (mem0 _ _)⟩) ?_
      rintro r rfl
      exact ent_ren [] rfl rfl rfl rfl (Nat.le_of_ble_eq_true rfl) ⟨⟨_, rfl, rfl⟩, trivial⟩ trivial ⟨⟨caD.up _ _ _, fun w h => ⟨h.2.2.2.1.1.1.1, h.2.2.2.1.1.2⟩⟩, trivial⟩
    · refine svc_ok tabOk [] _ _ _ ?_
      refine callVC_plain (same_true A0 A1 c0 c1 (ol false ny) hl1) (fun _ => rfl) (fun w h => ⟨h.1.2 _ (List.mem_cons_of_mem _ (List.mem_cons_of_mem _ (List.mem_cons_of_mem _ (List.mem_cons_of_mem _ (List.mem_cons_of_mem _ (mem0 _ _)))))), h.1.2 _ (List.mem_cons_of_mem _ (List.mem_cons_of_mem _ (List.mem_cons_of_mem _ (List.mem_cons_of_mem _ (mem0 _ _)))))⟩) ?_
      rintro r rfl
      refine callVC_plain (same_true A2 A3 c2 c3 (ol true ty) hl2) (fun _ => rfl) (fun w h => ⟨h.2.1.2 _ (List.mem_cons_of_mem _ (List.mem_cons_of_mem _ (List.mem_cons_of_mem _ (mem0 _ _)))), h.2.1.2 _ (List.mem_cons_of_mem _ (List.mem_cons_of_mem _ (mem0 _ _)))⟩) ?_
      rintro r rfl
      refine callVC_plain (same_true A4 A5 c4 c5 (ol false ly) hl3) (fun _ => rfl) (fun w h => ⟨h.2.2.1.2 _ (List.mem_cons_of_mem _ (mem0 _ _)), h.2.2.1.2 _ (mem0 _ _)⟩) ?_
      rintro r rfl
      exact ent_ren [] rfl rfl rfl rfl (Nat.le_of_ble_eq_true rfl) ⟨⟨_, rfl, rfl⟩, trivial⟩ trivial ⟨⟨caD.up _ _ _, fun w h => ⟨h.2.2.2.1.1.1.1, h.2.2.2.1.1.2⟩⟩, trivial⟩
    · refine svc_ok tabOk [] _ _ _ ?_
      refine callVC_plain (same_true A0 A1 c0 c1 (ol false ny) hl1) (fun _ => rfl) (fun w h => ⟨h.1.2 _ (List.mem_cons_of_mem _ (List.mem_cons_of_mem _ (List.mem_cons_of_mem _ (List.mem_cons_of_mem _ (List.mem_cons_of_mem _ (mem0 _ _)))))), h.1.2 _ (List.mem_cons_of_mem _ (List.mem_cons_of_mem _ (List.mem_cons_of_mem _ (List.mem_cons_of_mem _ (mem0 _ _)))))⟩) ?_
      rintro r rfl
      refine callVC_plain (same_true A2 A3 c2 c3 (ol true ty) hl2) (fun _ => rfl) (fun w h => ⟨h.2.1.2 _ (List.mem_cons_of_mem _ (List.mem_cons_of_mem _ (List.mem_cons_of_mem _ (mem0 _ _)))), h.2.1.2 _ (List.mem_cons_of_mem _ (List.mem_cons_of_mem _ (mem0 _ _)))⟩) ?_
      rintro r rfl
      refine callVC_plain (same_true A4 A5 c4 c5 (ol true ly) hl3) (fun _ => rfl) (fun w h => ⟨h.2.2.1.2 _ (List.mem_cons_of_mem _ (mem0 _ _)), h.2.2.1.2 _ (mem0 _ _)⟩) ?_
      rintro r rfl
      exact ent_ren [] rfl rfl rfl rfl (Nat.le_of_ble_eq_true rfl) ⟨⟨_, rfl, rfl⟩, trivial⟩ trivial ⟨⟨caD.up _ _ _, fun w h => ⟨h.2.2.2.1.1.1.1, h.2.2.2.1.1.2⟩⟩, trivial⟩
    · refine svc_ok tabOk [] _ _ _ ?_
      refine callVC_plain (same_true A0 A1 c0 c1 (ol true ny) hl1) (fun _ => rfl) (fun w h => ⟨h.1.2 _ (List.mem_cons_of_mem _ (List.mem_cons_of_mem _ (List.mem_cons_of_mem _ (List.mem_cons_of_mem _ (List.mem_cons_of_mem _ (mem0 _ _)))))), h.1.2 _ (List.mem_cons_of_mem _ (List.mem_cons_of_mem _ (List.mem_cons_of_mem _ (List.mem_cons_of_mem _ (mem0 _ _)))))⟩) ?_
      rintro r rfl
      refine callVC_plain (same_true A2 A3 c2 c3 (ol false ty) hl2) (fun _ => rfl) (fun w h => ⟨h.2.1.2 _ (List.mem_cons_of_mem _ (List.mem_cons_of_mem _ (List.mem_cons_of_mem _ (mem0 _ _)))), h.2.1.2 _ (List.mem_cons_of_mem _ (List.mem_cons_of_mem _ (mem0 _ _)))⟩) ?_
      rintro r rfl
      refine callVC_plain (same_true A4 A5 c4 c5 (ol false ly) hl3) (fun _ => rfl) (fun w h => ⟨h.2.2.1.2 _ (List.mem_cons_of_mem _ (mem0 _ _)), h.2.2.1.2 _ (mem0 _ _)⟩) ?_
      rintro r rfl
      exact ent_ren [] rfl rfl rfl rfl (Nat.le_of_ble_eq_true rfl) ⟨⟨_, rfl, rfl⟩, trivial⟩ trivial ⟨⟨caD.up _ _ _, fun w h => ⟨h.2.2.2.1.1.1.1, h.2.2.2.1.1.2⟩⟩, trivial⟩
    · refine svc_ok tabOk [] _ _ _ ?_
      refine callVC_plain (same_true A0 A1 c0 c1 (ol true ny) hl1) (fun _ => rfl) (fun w h => ⟨h.1.2 _ (List.mem_cons_of_mem _ (List.mem_cons_of_mem _ (List.mem_cons_of_mem _ (List.mem_cons_of_mem _ (List.mem_cons_of_mem _ (mem0 _ _)))))), h.1.2 _ (List.mem_cons_of_mem _ (List.mem_cons_of_mem _ (List.mem_cons_of_mem _ (List.mem_cons_of_mem _ (mem0 _ _)))))⟩) ?_
      rintro r rfl
      refine callVC_plain (same_true A2 A3 c2 c3 (ol false ty) hl2) (fun _ => rfl) (fun w h => ⟨h.2.1.2 _ (List.mem_cons_of_mem _ (List.mem_cons_of_mem _ (List.mem_cons_of_mem _ (mem0 _ _)))), h.2.1.2 _ (List.mem_cons_of_mem _ (List.mem_cons_of_mem _ (mem0 _ _)))⟩) ?_
      rintro r rfl
      refine callVC_plain (same_true A4 A5 c4 c5 (ol true ly) hl3) (fun _ => rfl) (fun w h => ⟨h.2.2.1.2 _ (List.mem_cons_of_mem _ (mem0 _ _)), h.2.2.1.2 _ (mem0 _ _)⟩) ?_
      rintro r rfl
      exact ent_ren [] rfl rfl rfl rfl (Nat.le_of_ble_eq_true rfl) ⟨⟨_, rfl, rfl⟩, trivial⟩ trivial ⟨⟨caD.up _ _ _, fun w h => ⟨h.2.2.2.1.1.1.1, h.2.2.2.1.1.2⟩⟩, trivial⟩
    · refine svc_ok tabOk [] _ _ _ ?_
      refine callVC_plain (same_true A0 A1 c0 c1 (ol true ny) hl1) (fun _ => rfl) (fun w h => ⟨h.1.2 _ (List.mem_cons_of_mem _ (List.mem_cons_of_mem _ (List.mem_cons_of_mem _ (List.mem_cons_of_mem _ (List.mem_cons_of_mem _ (mem0 _ _)))))), h.1.2 _ (List.mem_cons_of_mem _ (List.mem_cons_of_mem _ (List.mem_cons_of_mem _ (List.mem_cons_of_mem _ (mem0 _ _)))))⟩) ?_
      rintro r rfl
      refine callVC_plain (same_true A2 A3 c2 c3 (ol true ty) hl2) (fun _ => rfl) (fun w h => ⟨h.2.1.2 _ (List.mem_cons_of_mem _ (List.mem_cons_of_mem _ (List.mem_cons_of_mem _ (mem0 _ _)))), h.2.1.2 _ (List.mem_cons_of_mem _ (List.mem_cons_of_mem _ (mem0 _ _)))⟩) ?_
      rintro r rfl
      refine callVC_plain (same_true A4 A5 c4 c5 (ol false ly) hl3) (fun _ => rfl) (fun w h => ⟨h.2.2.1.2 _ (List.mem_cons_of_mem _ (mem0 _ _)), h.2.2.1.2 _ (mem0 _ _)⟩) ?_
      rintro r rfl
      exact ent_ren [] rfl rfl rfl rfl (Nat.le_of_ble_eq_true rfl) ⟨⟨_, rfl, rfl⟩, trivial⟩ trivial ⟨⟨caD.up _ _ _, fun w h => ⟨h.2.2.2.1.1.1.1, h.2.2.2.1.1.2⟩⟩, trivial⟩
    · refine svc_ok tabOk [] _ _ _ ?_
      refine callVC_plain (same_true A0 A1 c0 c1 (ol true ny) hl1) (fun _ => rfl) (fun w h => ⟨h.1.2 _ (List.mem_cons_of_mem _ (List.mem_cons_of_mem _ (List.mem_cons_of_mem _ (List.mem_cons_of_mem _ (List.mem_cons_of_mem _ (mem0 _ _)))))), h.1.2 _ (List.mem_cons_of_mem _ (List.mem_cons_of_mem _ (List.mem_cons_of_mem _ (List.mem_cons_of_mem _ (mem0 _ _)))))⟩) ?_
      rintro r rfl
      refine callVC_plain (same_true A2 A3 c2 c3 (ol true ty) hl2) (fun _ => rfl) (fun w h => ⟨h.2.1.2 _ (List.mem_cons_of_mem _ (List.mem_cons_of_mem _ (List.mem_cons_of_mem _ (mem0 _ _)))), h.2.1.2 _ (List.mem_cons_of_mem _ (List.mem_cons_of_mem _ (mem0 _ _)))⟩) ?_
      rintro r rfl
      refine callVC_plain (same_true A4 A5 c4 c5 (ol true ly) hl3) (fun _ => rfl) (fun w h => ⟨h.2.2.1.2 _ (List.mem_cons_of_mem _ (mem0 _ _)), h.2.2.1.2 _ (mem0 _ _)⟩) ?_
      rintro r rfl
      exact ent_ren [] rfl rfl rfl rfl (Nat.le_of_ble_eq_true rfl) ⟨⟨_, rfl, rfl⟩, trivial⟩ trivial ⟨⟨caD.up _ _ _, fun w h => ⟨h.2.2.2.1.1.1.1, h.2.2.2.1.1.2⟩⟩, trivial⟩
  refine Walks.told (p := ds.length ≤ 9223372036854775807) (fun w h => Nat.le_trans h.1.2.le (Nat.le_trans h.1.2.max (by decide))) (fun hdl => ?_)
  refine svc_ok tabOk [17] _ _ _ ?_
  refine ⟨⟨Nat, fun j => j ≤ ds.length, fun j => { s := [(2, .one (.v (.slice A ds.length c))), (19, .one (.v (.int .i64 (j : Int))))], m := [], k := 0, f := [caD A c ds] }, fun j => ds.length - j, ⟨0, Nat.zero_le _, ent_ren [] rfl rfl rfl rfl (Nat.le_of_ble_eq_true rfl) ⟨⟨_, rfl, rfl⟩, ⟨_, rfl, rfl⟩, trivial⟩ trivial ⟨⟨caD.up _ _ _, fun w h => h.1⟩, trivial⟩⟩, ?_⟩⟩
  rintro j hj
  refine bsplit_i (fun hlt => ?_) (fun hge => ?_)
  rotate_left
  · exact ⟨_, rfl, Told.val rfl⟩
  have hltj : j < ds.length := by
    have h : decide ((j : Int) < (ds.length : Int)) = true := hlt
    have := of_decide_eq_true h
    omega
  clear hlt
  obtain ⟨d, hd⟩ : ∃ d, ds[j]? = some d := ⟨_, List.getElem?_eq_getElem hltj⟩
  have hCopy := copyDecl_lc d (hB d (List.mem_of_getElem? hd))
  have hDeclR := DeclRA_lc d
  have hFormR := FormedR_pc d
  have hDecl := fun x : DD => DeclA_lc x
  have hForm := fun x : DD => Formed_pc x
  have hSame := fun x : DD => sameD_true x d
  obtain ⟨dm, hdm⟩ : ∃ m, d.dm = m := ⟨_, rfl⟩
  rw [hdm] at hCopy hDeclR hFormR hSame
  obtain ⟨dk, dp, dnm, ⟨dak, dan, danm, dala, dalc, dals, daaa, daac, daus⟩, ⟨dbk, dbn, dbnm, dbla, dblc, dbls, dbaa, dbac, dbus⟩, dfx, dca, dcc, dcts⟩ := d
  refine ⟨{ n := j }, ⟨rfl, hltj, fun w h => ?_⟩, ?_⟩
  · obtain ⟨⟨a, ha, _⟩, _⟩ := h.1.2.at' j _ hd
    rw [ha]; rfl
  refine ⟨{ cs := (DD.mk dk dp dnm (.mk dak dan danm dala dalc dals daaa daac daus) (.mk dbk dbn dbnm dbla dblc dbls dbaa dbac dbus) dfx dca dcc dcts).cells }, ⟨DD.cells_one (DD.mk dk dp dnm (.mk dak dan danm dala dalc dals daaa daac daus) (.mk dbk dbn dbnm dbla dblc dbls dbaa dbac dbus) dfx dca dcc dcts), rfl, fun w h => ?_⟩, ?_⟩
  · obtain ⟨⟨a, ha, h3⟩, _⟩ := h.1.2.at' j _ hd
    exact ⟨_, by rw [ha]; rfl, h3⟩
  refine callVC_lend [] hCopy rfl trivial rfl rfl (fun w h => (h.1.2.at' j _ hd).2) (fun x _ => ?_) (fun x hx => ?_)
  · obtain ⟨xk, xp, xnm, ⟨xak, xan, xanm, xala, xalc, xals, xaaa, xaac, xaus⟩, ⟨xbk, xbn, xbnm, xbla, xblc, xbls, xbaa, xbac, xbus⟩, xfx, xca, xcc, xcts⟩ := x
    exact ⟨rfl, rfl⟩
  have hDecl := hDecl x
  have hForm := hForm x
  have hSame := hSame x hx
  have hx : x.dm = dm := hx
  rw [hx] at hDecl hForm
  obtain ⟨db, hdb⟩ : ∃ b, formedB dm = b := ⟨_, rfl⟩
  obtain ⟨dy, hdy⟩ : ∃ b, declN dm = b := ⟨_, rfl⟩
  rw [hdb, hdy] at hDecl hDeclR
  rw [hdb] at hForm hFormR
  clear hdb hdy hdm hx
  obtain ⟨xk, xp, xnm, ⟨xak, xan, xanm, xala, xalc, xals, xaaa, xaac, xaus⟩, ⟨xbk, xbn, xbnm, xbla, xblc, xbls, xbaa, xbac, xbus⟩, xfx, xca, xcc, xcts⟩ := x
  refine Walks.ent (st' := { s := [(2, .one (.v (.slice A ds.length c))), (19, .one (.v (.int .i64 (j : Int)))), (20, .one (.p 0 0))], m := [(0, .cells 38 ((DD.mk xk xp xnm (.mk xak xan xanm xala xalc xals xaaa xaac xaus) (.mk xbk xbn xbnm xbla xblc xbls xbaa xbac xbus) xfx xca xcc xcts).cells.map SA.v))], k := 1, f := [caG A c ds (DD.mk xk xp xnm (.mk xak xan xanm xala xalc xals xaaa xaac xaus) (.mk xbk xbn xbnm xbla xblc xbls xbaa xbac xbus) xfx xca xcc xcts) []] }) (ent_ren [(0, .blk 0)] rfl rfl rfl rfl (Nat.le_of_ble_eq_true rfl) ⟨⟨_, rfl, rfl⟩, ⟨_, rfl, rfl⟩, ⟨_, rfl, rfl⟩, trivial⟩ ⟨⟨_, rfl, rfl⟩, trivial⟩ ⟨⟨caG.up _ _ _ _ _, fun w h => ⟨⟨h.2.1, h.1⟩, fun x hx => by cases hx⟩⟩, trivial⟩) ?_
  refine Walks.seqX (X := Option Addr × Nat) (fun q => { s := [(2, .one (.v (.slice A ds.length c))), (19, .one (.v (.int .i64 (j : Int)))), (20, .one (.p 0 0)), (21, .one (.v (.slice q.1 (ol db dy).length q.2))), (22, .one (.v (.bool db)))], m := [(0, .cells 38 ((DD.mk xk xp xnm (.mk xak xan xanm xala xalc xals xaaa xaac xaus) (.mk xbk xbn xbnm xbla xblc xbls xbaa xbac xbus) xfx xca xcc xcts).cells.map SA.v))], k := 1, f := [caG A c ds (DD.mk xk xp xnm (.mk xak xan xanm xala xalc xals xaaa xaac xaus) (.mk xbk xbn xbnm xbla xblc xbls xbaa xbac xbus) xfx xca xcc xcts) [(q.1, q.2, ol db dy)]] }) (fun H => ?_) (fun q => ?_)
  · cases db with
    | false =>
      refine svc_ok tabOk [18] _ _ _ ?_
      refine callVC_lend [] hDecl rfl trivial rfl rfl (fun w h => ⟨h.1.1.1.1, h.1.1.2⟩) (fun _ _ => ⟨rfl, rfl⟩) (fun _ _ => ?_)
      refine Walks.ent ?_ (H (none, 0))
      exact ent_ren [(0, .blk 0)] rfl rfl rfl rfl (Nat.le_of_ble_eq_true rfl) ⟨⟨_, rfl, rfl⟩, ⟨_, rfl, rfl⟩, ⟨_, rfl, rfl⟩, ⟨_, rfl, rfl⟩, ⟨_, rfl, rfl⟩, trivial⟩ ⟨⟨_, rfl, rfl⟩, trivial⟩ ⟨⟨caG.up _ _ _ _ _, fun w h => h.2.1.put (bt_none w)⟩, trivial⟩
    | true =>
      refine svc_ok tabOk [18] _ _ _ ?_
      refine callVC_lend [] hDecl rfl trivial rfl rfl (fun w h => ⟨h.1.1.1.1, h.1.1.2⟩) (fun _ _ => ⟨rfl, rfl⟩) (fun _ _ => ?_)
      refine Walks.freeze 1 rfl (fun B cb g1 g2 g3 => ?_)
      refine Walks.ent ?_ (H (B, cb))
      exact ent_ren [(0, .blk 0)] rfl rfl rfl rfl (Nat.le_of_ble_eq_true rfl) ⟨⟨_, rfl, rfl⟩, ⟨_, rfl, rfl⟩, ⟨_, rfl, rfl⟩, ⟨_, rfl, rfl⟩, ⟨_, rfl, rfl⟩, trivial⟩ ⟨⟨_, rfl, rfl⟩, trivial⟩ ⟨⟨caG.up _ _ _ _ _, fun w h => h.2.2.1.put (bt_of (l := dy) h.1 g1 g2 g3)⟩, trivial⟩
  obtain ⟨B0, e0⟩ := q
  refine Walks.seqX (X := Option Addr × Nat) (fun q => { s := [(2, .one (.v (.slice A ds.length c))), (19, .one (.v (.int .i64 (j : Int)))), (20, .one (.p 0 0)), (21, .one (.v (.slice B0 (ol db dy).length e0))), (22, .one (.v (.bool db))), (23, .one (.v (.slice q.1 (ol db dy).length q.2))), (24, .one (.v (.bool db)))], m := [(0, .cells 38 ((DD.mk xk xp xnm (.mk xak xan xanm xala xalc xals xaaa xaac xaus) (.mk xbk xbn xbnm xbla xblc xbls xbaa xbac xbus) xfx xca xcc xcts).cells.map SA.v))], k := 1, f := [caG A c ds (DD.mk xk xp xnm (.mk xak xan xanm xala xalc xals xaaa xaac xaus) (.mk xbk xbn xbnm xbla xblc xbls xbaa xbac xbus) xfx xca xcc xcts) [(q.1, q.2, ol db dy), (B0, e0, ol db dy)]] }) (fun H => ?_) (fun q => ?_)
  · cases db with
    | false =>
      refine svc_ok tabOk [19] _ _ _ ?_
      refine ⟨{ n := j }, ⟨rfl, hltj, fun w h => ?_⟩, ?_⟩
      · obtain ⟨⟨a, ha, _⟩, _⟩ := h.1.1.1.2.at' j _ hd
        rw [ha]; rfl
      refine ⟨{ cs := (DD.mk dk dp dnm (.mk dak dan danm dala dalc dals daaa daac daus) (.mk dbk dbn dbnm dbla dblc dbls dbaa dbac dbus) dfx dca dcc dcts).cells }, ⟨DD.cells_one (DD.mk dk dp dnm (.mk dak dan danm dala dalc dals daaa daac daus) (.mk dbk dbn dbnm dbla dblc dbls dbaa dbac dbus) dfx dca dcc dcts), rfl, fun w h => ?_⟩, ?_⟩
      · obtain ⟨⟨a, ha, h3⟩, _⟩ := h.1.1.1.2.at' j _ hd
        exact ⟨_, by rw [ha]; rfl, h3⟩
      refine callVC_lend [] hDeclR rfl trivial rfl rfl (fun w h => (h.1.1.1.2.at' j _ hd).2) (fun _ _ => ⟨rfl, rfl⟩) (fun _ _ => ?_)
      refine Walks.ent ?_ (H (none, 0))
      exact ent_ren [(0, .blk 0)] rfl rfl rfl rfl (Nat.le_of_ble_eq_true rfl) ⟨⟨_, rfl, rfl⟩, ⟨_, rfl, rfl⟩, ⟨_, rfl, rfl⟩, ⟨_, rfl, rfl⟩, ⟨_, rfl, rfl⟩, ⟨_, rfl, rfl⟩, ⟨_, rfl, rfl⟩, trivial⟩ ⟨⟨_, rfl, rfl⟩, trivial⟩ ⟨⟨caG.up _ _ _ _ _, fun w h => h.2.1.put (bt_none w)⟩, trivial⟩
    | true =>
      refine svc_ok tabOk [19] _ _ _ ?_
      refine ⟨{ n := j }, ⟨rfl, hltj, fun w h => ?_⟩, ?_⟩
      · obtain ⟨⟨a, ha, _⟩, _⟩ := h.1.1.1.2.at' j _ hd
        rw [ha]; rfl
      refine ⟨{ cs := (DD.mk dk dp dnm (.mk dak dan danm dala dalc dals daaa daac daus) (.mk dbk dbn dbnm dbla dblc dbls dbaa dbac dbus) dfx dca dcc dcts).cells }, ⟨DD.cells_one (DD.mk dk dp dnm (.mk dak dan danm dala dalc dals daaa daac daus) (.mk dbk dbn dbnm dbla dblc dbls dbaa dbac dbus) dfx dca dcc dcts), rfl, fun w h => ?_⟩, ?_⟩
      · obtain ⟨⟨a, ha, h3⟩, _⟩ := h.1.1.1.2.at' j _ hd
        exact ⟨_, by rw [ha]; rfl, h3⟩
      refine callVC_lend [] hDeclR rfl trivial rfl rfl (fun w h => (h.1.1.1.2.at' j _ hd).2) (fun _ _ => ⟨rfl, rfl⟩) (fun _ _ => ?_)
      refine Walks.freeze 1 rfl (fun B cb g1 g2 g3 => ?_)
      refine Walks.ent ?_ (H (B, cb))
      exact ent_ren [(0, .blk 0)] rfl rfl rfl rfl (Nat.le_of_ble_eq_true rfl) ⟨⟨_, rfl, rfl⟩, ⟨_, rfl, rfl⟩, ⟨_, rfl, rfl⟩, ⟨_, rfl, rfl⟩, ⟨_, rfl, rfl⟩, ⟨_, rfl, rfl⟩, ⟨_, rfl, rfl⟩, trivial⟩ ⟨⟨_, rfl, rfl⟩, trivial⟩ ⟨⟨caG.up _ _ _ _ _, fun w h => h.2.2.1.put (bt_of (l := dy) h.1 g1 g2 g3)⟩, trivial⟩
  obtain ⟨B1, e1⟩ := q
  refine Walks.told (p := (ol db dy).length ≤ 9223372036854775807 ∧ ∃ a, A = some a) (fun w h => ?_) ?_
  · obtain ⟨⟨a, ha, _⟩, _⟩ := h.1.1.1.2.at' j _ hd
    exact ⟨(h.1.2 _ (mem0 _ _)).short, a, ha⟩
  rintro ⟨hdy, a0, rfl⟩
  cases db with
  | false =>
    refine svc_ok tabOk [] _ _ _ ?_
    refine .inl ⟨28, [0, 0, 3, 7, 15, 15, 63, 127, 255, 511, 1023, 2047, 1023, 1023, 13311, 29695, 65535, 131071, 262143, 524287, 1048575, 1048575, 1048575, 7340031, 15728639, 33554431, 67108863, 134217727], fun vs i => match i with
      | 6 => { c := {}, pre := fun w => BtIn w B0 e0 (ol false dy) ∧ BtIn w B1 e1 (ol false dy), R := fun u => u = .bool true, nf := fun _ => .bool true }
      | 11 => { pre := dPre (DD.mk xk xp xnm (.mk xak xan xanm xala xalc xals xaaa xaac xaus) (.mk xbk xbn xbnm xbla xblc xbls xbaa xbac xbus) xfx xca xcc xcts), R := fun u => u = .bool false, nf := fun _ => .bool false }
      | 14 => { c := { n := j } }
      | 15 => { c := { cs := (DD.mk dk dp dnm (.mk dak dan danm dala dalc dals daaa daac daus) (.mk dbk dbn dbnm dbla dblc dbls dbaa dbac dbus) dfx dca dcc dcts).cells } }
      | 16 => { pre := fun w => DDIn w (DD.mk dk dp dnm (.mk dak dan danm dala dalc dals daaa daac daus) (.mk dbk dbn dbnm dbla dblc dbls dbaa dbac dbus) dfx dca dcc dcts), R := fun u => u = .bool false, nf := fun _ => .bool false }
      | 23 => { c := { n := j } }
      | 24 => { c := { cs := (DD.mk dk dp dnm (.mk dak dan danm dala dalc dals daaa daac daus) (.mk dbk dbn dbnm dbla dblc dbls dbaa dbac dbus) dfx dca dcc dcts).cells } }
      | 25 => { pre := sdPre (DD.mk xk xp xnm (.mk xak xan xanm xala xalc xals xaaa xaac xaus) (.mk xbk xbn xbnm xbla xblc xbls xbaa xbac xbus) xfx xca xcc xcts) (DD.mk dk dp dnm (.mk dak dan danm dala dalc dals daaa daac daus) (.mk dbk dbn dbnm dbla dblc dbls dbaa dbac dbus) dfx dca dcc dcts), R := fun u => u = .bool true, nf := fun _ => .bool true }
      | _ => {}, by kernel_rfl, rfl, by kernel_rfl, by kernel_rfl, by kernel_rfl, by decide, fun vals => ?_⟩
    refine ⟨fun _ => ⟨same_true B0 B1 e0 e1 (ol false dy) hdy, fun w h => ⟨h.1.2 _ (mem1 _ _ _), h.1.2 _ (mem0 _ _)⟩, fun _ h => h⟩, ?_⟩
    refine ⟨fun _ => ⟨hForm, fun w h => ⟨h.2.1.1.1.1, h.2.1.1.2⟩, fun _ h => h⟩, ?_⟩
    refine ⟨fun _ => ⟨rfl, hltj, fun w h => rfl⟩, ?_⟩
    refine ⟨fun _ => ⟨DD.cells_one (DD.mk dk dp dnm (.mk dak dan danm dala dalc dals daaa daac daus) (.mk dbk dbn dbnm dbla dblc dbls dbaa dbac dbus) dfx dca dcc dcts), rfl, fun w h => ?_⟩, ?_⟩
    · obtain ⟨⟨a, ha, h3⟩, _⟩ := h.2.1.1.1.2.at' j _ hd
      have ha : a0 = a := Option.some.inj ha
      subst ha
      exact ⟨_, rfl, h3⟩
    refine ⟨fun _ => ⟨hFormR, fun w h => (h.2.2.1.1.1.2.at' j _ hd).2, fun _ h => h⟩, ?_⟩
    refine ⟨fun _ => ⟨rfl, hltj, fun w h => rfl⟩, ?_⟩
    refine ⟨fun _ => ⟨DD.cells_one (DD.mk dk dp dnm (.mk dak dan danm dala dalc dals daaa daac daus) (.mk dbk dbn dbnm dbla dblc dbls dbaa dbac dbus) dfx dca dcc dcts), rfl, fun w h => ?_⟩, ?_⟩
    · obtain ⟨⟨a, ha, h3⟩, _⟩ := h.2.2.2.1.1.1.2.at' j _ hd
      have ha : a0 = a := Option.some.inj ha
      subst ha
      exact ⟨_, rfl, h3⟩
    refine ⟨fun _ => ⟨hSame, fun w h => ⟨h.2.2.2.1.1.2, (h.2.2.2.1.1.1.2.at' j _ hd).2⟩, fun _ h => h⟩, ?_⟩
    intro _
    refine ⟨j + 1, hltj, by simp only; omega, ?_⟩
    exact ent_ren [] rfl rfl rfl rfl (Nat.le_of_ble_eq_true rfl) ⟨⟨_, rfl, rfl⟩, ⟨_, rfl, oneI (wrapI (by omega) (by omega))⟩, trivial⟩ trivial ⟨⟨caD.up _ _ _, fun w h => h.2.2.2.2.1.1.1⟩, trivial⟩
  | true =>
    refine svc_ok tabOk [] _ _ _ ?_
    refine .inl ⟨28, [0, 0, 3, 7, 15, 15, 63, 127, 255, 511, 1023, 2047, 1023, 1023, 13311, 29695, 65535, 131071, 262143, 524287, 1048575, 1048575, 1048575, 7340031, 15728639, 33554431, 67108863, 134217727], fun vs i => match i with
      | 6 => { c := {}, pre := fun w => BtIn w B0 e0 (ol true dy) ∧ BtIn w B1 e1 (ol true dy), R := fun u => u = .bool true, nf := fun _ => .bool true }
      | 11 => { pre := dPre (DD.mk xk xp xnm (.mk xak xan xanm xala xalc xals xaaa xaac xaus) (.mk xbk xbn xbnm xbla xblc xbls xbaa xbac xbus) xfx xca xcc xcts), R := fun u => u = .bool true, nf := fun _ => .bool true }
      | 14 => { c := { n := j } }
      | 15 => { c := { cs := (DD.mk dk dp dnm (.mk dak dan danm dala dalc dals daaa daac daus) (.mk dbk dbn dbnm dbla dblc dbls dbaa dbac dbus) dfx dca dcc dcts).cells } }
      | 16 => { pre := fun w => DDIn w (DD.mk dk dp dnm (.mk dak dan danm dala dalc dals daaa daac daus) (.mk dbk dbn dbnm dbla dblc dbls dbaa dbac dbus) dfx dca dcc dcts), R := fun u => u = .bool true, nf := fun _ => .bool true }
      | 23 => { c := { n := j } }
      | 24 => { c := { cs := (DD.mk dk dp dnm (.mk dak dan danm dala dalc dals daaa daac daus) (.mk dbk dbn dbnm dbla dblc dbls dbaa dbac dbus) dfx dca dcc dcts).cells } }
      | 25 => { pre := sdPre (DD.mk xk xp xnm (.mk xak xan xanm xala xalc xals xaaa xaac xaus) (.mk xbk xbn xbnm xbla xblc xbls xbaa xbac xbus) xfx xca xcc xcts) (DD.mk dk dp dnm (.mk dak dan danm dala dalc dals daaa daac daus) (.mk dbk dbn dbnm dbla dblc dbls dbaa dbac dbus) dfx dca dcc dcts), R := fun u => u = .bool true, nf := fun _ => .bool true }
      | _ => {}, by kernel_rfl, rfl, by kernel_rfl, by kernel_rfl, by kernel_rfl, by decide, fun vals => ?_⟩
    refine ⟨fun _ => ⟨same_true B0 B1 e0 e1 (ol true dy) hdy, fun w h => ⟨h.1.2 _ (mem1 _ _ _), h.1.2 _ (mem0 _ _)⟩, fun _ h => h⟩, ?_⟩
    refine ⟨fun _ => ⟨hForm, fun w h => ⟨h.2.1.1.1.1, h.2.1.1.2⟩, fun _ h => h⟩, ?_⟩
    refine ⟨fun _ => ⟨rfl, hltj, fun w h => rfl⟩, ?_⟩
    refine ⟨fun _ => ⟨DD.cells_one (DD.mk dk dp dnm (.mk dak dan danm dala dalc dals daaa daac daus) (.mk dbk dbn dbnm dbla dblc dbls dbaa dbac dbus) dfx dca dcc dcts), rfl, fun w h => ?_⟩, ?_⟩
    · obtain ⟨⟨a, ha, h3⟩, _⟩ := h.2.1.1.1.2.at' j _ hd
      have ha : a0 = a := Option.some.inj ha
      subst ha
      exact ⟨_, rfl, h3⟩
    refine ⟨fun _ => ⟨hFormR, fun w h => (h.2.2.1.1.1.2.at' j _ hd).2, fun _ h => h⟩, ?_⟩
    refine ⟨fun _ => ⟨rfl, hltj, fun w h => rfl⟩, ?_⟩
    refine ⟨fun _ => ⟨DD.cells_one (DD.mk dk dp dnm (.mk dak dan danm dala dalc dals daaa daac daus) (.mk dbk dbn dbnm dbla dblc dbls dbaa dbac dbus) dfx dca dcc dcts), rfl, fun w h => ?_⟩, ?_⟩
    · obtain ⟨⟨a, ha, h3⟩, _⟩ := h.2.2.2.1.1.1.2.at' j _ hd
      have ha : a0 = a := Option.some.inj ha
      subst ha
      exact ⟨_, rfl, h3⟩
    refine ⟨fun _ => ⟨hSame, fun w h => ⟨h.2.2.2.1.1.2, (h.2.2.2.1.1.1.2.at' j _ hd).2⟩, fun _ h => h⟩, ?_⟩
    intro _
    refine ⟨j + 1, hltj, by simp only; omega, ?_⟩
    exact ent_ren [] rfl rfl rfl rfl (Nat.le_of_ble_eq_true rfl) ⟨⟨_, rfl, rfl⟩, ⟨_, rfl, oneI (wrapI (by omega) (by omega))⟩, trivial⟩ trivial ⟨⟨caD.up _ _ _, fun w h => h.2.2.2.2.1.1.1⟩, trivial⟩
theorem codeAnswers_true (n : Int) (t : TT) (A : Option Addr) (c : Nat) (ds : List DD) (hB : ∀ d ∈ ds, DDB d) (w : World) (hp : caPre t A c ds w) : Calls Tryz.prog 3 #[.int .i64 n, t.val, .slice A ds.length c] w fun e w' => e = .returned (.bool true) ∧ Below w.heap.size w w' :=
  ((codeAnswers_pc n t A c ds hB).run w (fun _ => False) (fun _ h => h.elim) (caPre.up _ _ _ _ _ _ (fun g o hg ho => by rw [hide_get, hg]; simp) hp)).mono fun en w' ⟨r, h1, h2, _, h4⟩ => ⟨by rw [h1, h2], h4⟩
end Go.Proofs.YtmkpiekbpakigaaGreatDoor
