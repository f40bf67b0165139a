/- What the claim needs of Rd6, Rd7, Rd8, Rd9, Tk1, Tk2, Tk3, in one text. -/
import Derived.Recover
import Derived.Tactics
import Derived.Tactics2
import Derived.Test.YtmkpiekbpakigaaGreatDoorDomg
section
set_option linter.unusedVariables false
set_option linter.unusedSimpArgs false
namespace Go.Proofs.YtmkpiekbpakigaaGreatDoor
open Go.RowKit Go.Proofs.Base Go.Proofs.Sym
structure TX where
  tt : TT
  ra : Option Addr
  rc : Nat
def TX.ok (o : Option (Tm × Int × List Nat)) (x : TX) : Prop := match o with
  | some (t, _, _) => x.tt.tm = t
  | none => True
def termRes (o : Option (Tm × Int × List Nat)) (x : TX) : LRes := match o with
  | some (_, left, r) => { v := ttA x.tt, m := [(0, rM x.ra x.rc r left)], k := 1, F := fun w => BtIn w x.ra x.rc r ∧ TTIn w x.tt }
  | none => tornR 1
theorem tornT {o : Option (Tm × Int × List Nat)} {st : St} (h : o = none) (he : EntR st (.one (.v undef)) (tornR 1)) : ∃ x, TX.ok o x ∧ (termRes o x).ch = some [{ v := tornV, recovered := false }] ∧ EntR st (.one (.v undef)) (termRes o x) := by
  subst h
  exact ⟨⟨zeroT, none, 0⟩, trivial, rfl, he⟩
def nodeCells (k : Int) (nd : ND) (q : LX) : List SA := [.v (.int .i64 k), .v (.int .i64 nd.n), .v (.string nd.s), .v (.slice q.la nd.ls.length q.lc), .v (.slice none 0 0)]
def zero5 : List SA := [.v (.int .i64 0), .v (.int .i64 0), .v (.string ⟨#[]⟩), .v (.slice none 0 0), .v (.slice none 0 0)]
def stA (k : Nat) (A : Option Addr) (c : Nat) (r : List Nat) (left : Int) : St :=
  { s := [(0, .one (.p 0 0)), (2, .one (.p 1 0)), (3, .one (.p 2 0)), (4, .one (.v (.int .i64 0)))], m := [(0, rM A c r left), (1, .cells 25 zero5), (2, .cells 25 [.v (.int .i64 (k : Int)), .v (.int .i64 0), .v (.string ⟨#[]⟩), .v (.slice none 0 0), .v (.slice none 0 0)])], k := 3, f := [mPre A c r], b := 1 }
def nPre (nd : ND) (q : LX) (r : List Nat) (w : World) : Prop := ML w ∧ BtIn w q.ra q.rc r ∧ LvRow w q.la nd.ls
theorem nPre.upS (nd : ND) (q : LX) (r : List Nat) : Up (nPre nd q r) := ML.up.and ((BtIn.up _ _ _).and (LvRow.up _ _))
def stN (k : Nat) (nd : ND) (left : Int) (r : List Nat) (q : LX) : St :=
  { s := [(0, .one (.p 0 0)), (2, .one (.p 1 0)), (3, .one (.p 2 0)), (4, .one (.v (.int .i64 (nd.a : Int))))], m := [(0, rM q.ra q.rc r left), (1, .cells 25 zero5), (2, .cells 25 (nodeCells k nd q))], k := 3, f := [nPre nd q r], b := 1 }
theorem lvRow_nil (w : World) (A : Option Addr) : LvRow w A [] := ⟨by simp, fun h => absurd h (by simp)⟩
theorem lx_nil (a : Option Addr) (c : Nat) : LX.ok 0 ⟨none, 0, a, c⟩ := ⟨fun _ => ⟨rfl, rfl⟩, Nat.le_refl _, Nat.zero_le _⟩
theorem nodeEq {a b c e : SA} {A : Option Addr} {n m cp : Nat} (h : n = m) : [a, b, c, SA.v (.slice A n cp), e] = [a, b, c, SA.v (.slice A m cp), e] := by rw [h]
theorem okT {o : Option (Tm × Int × List Nat)} {st : St} {v : SV} {t : Tm} {left : Int} {r : List Nat} (x : TX) (h : o = some (t, left, r)) (hx : x.tt.tm = t) (he : EntR st v (termRes (some (t, left, r)) x)) : ∃ x, TX.ok o x ∧ (termRes o x).ch = none ∧ EntR st v (termRes o x) := by
  subst h
  exact ⟨x, hx, rfl, he⟩
def ttsC (ts : List TT) : List Value := ts.flatMap TT.cells
theorem tts_of {w : World} {B : Option Addr} : ∀ (ts : List TT) (j : Nat), (∀ i u, (ttsC ts)[i]? = some u → ∃ a, B = some a ∧ w.cell? (a.add (j * 5 + i)) = some u) → (∀ t ∈ ts, TTIn w t) → TTs w B j ts
  | [], _, _, _ => by unfold TTs; trivial
  | t :: r, j, h, hT => by
    have e1 : ttsC (t :: r) = t.cells ++ ttsC r := rfl
    have h5 := t.cells_len
    unfold TTs
    obtain ⟨u0, hu0⟩ : ∃ u, t.cells[0]? = some u := ⟨_, List.getElem?_eq_getElem (by omega)⟩
    obtain ⟨a, ha, _⟩ := h 0 u0 (by rw [e1, List.getElem?_append_left (by omega)]; exact hu0)
    refine ⟨⟨a, ha, fun l u hl => ?_⟩, hT t List.mem_cons_self, tts_of r (j + 1) (fun i u hi => ?_) (fun t ht => hT t (List.mem_cons_of_mem _ ht))⟩
    · have hlt := (List.getElem?_eq_some_iff.1 hl).1
      obtain ⟨a2, ha2, hc⟩ := h l u (by rw [e1, List.getElem?_append_left hlt]; exact hl)
      rw [ha] at ha2
      cases ha2
      rw [Addr.add_add]
      exact hc
    · obtain ⟨a2, ha2, hc⟩ := h (5 + i) u (by rw [e1, List.getElem?_append_right (by omega), h5, Nat.add_sub_cancel_left]; exact hi)
      exact ⟨a2, ha2, by rw [← hc]; congr 2; omega⟩
structure AX where
  ts : List TT
  left : Int
  l : List Nat
  ra : Option Addr
  rc : Nat
def rCells (k : Int) (nd : ND) (q : LX) (i : Nat) : List SA := [.v (.int .i64 k), .v (.int .i64 nd.n), .v (.string nd.s), .v (.slice q.la nd.ls.length q.lc), .row i]
def aPre (nd : ND) (q : LX) (y : AX) (w : World) : Prop := (∀ t ∈ y.ts, TTIn w t) ∧ ML w ∧ BtIn w y.ra y.rc y.l ∧ LvRow w q.la nd.ls
theorem aPre.upS (nd : ND) (q : LX) (y : AX) : Up (aPre nd q y) :=
  Up.and (fun w w' h hh t ht => TTIn.up h _ (hh t ht)) (ML.up.and ((BtIn.up _ _ _).and (LvRow.up _ _)))
def stT (k : Nat) (nd : ND) (q : LX) (y : AX) : St :=
  { s := [(0, .one (.p 0 0)), (2, .one (.p 1 0)), (3, .one (.p 2 0)), (57, .one (.v (.int .i64 (nd.a : Int)))), (58, .one (.v (.int .i64 (y.ts.length : Int))))], m := [(0, rM y.ra y.rc y.l y.left), (1, .cells 25 zero5), (2, .cells 25 (rCells k nd q 3)), (3, .own 25 5 y.ts.length (ttsC y.ts))], k := 4, f := [aPre nd q y], b := 1 }
set_option maxHeartbeats 8000000 in
theorem term_lc (fuel : Nat) (A : Option Addr) (c : Nat) (l : List Nat) (left : Int) (hB : Bytes l) (hfu : left ≤ (fuel : Int)) (h1 : -4 ≤ left) (h2 : left ≤ 3000) :
    LCall Tryz.prog 110 [.one (.p 0 0)] [(0, rM A c l left)] 1 (mPre A c l) (TX.ok (rdTerm fuel left l)) (termRes (rdTerm fuel left l)) := by
  induction fuel using Nat.strongRecOn generalizing A c l left with
  | _ fuel ih =>
  have hwl : IntKind.i64.wrap (left - 1) = left - 1 := wrapI (by omega) (by omega)
  obtain ⟨o, ho⟩ : ∃ o, rdTerm fuel left l = o := ⟨_, rfl⟩
  rw [ho]
  obtain ⟨b0, e0⟩ : ∃ b, decide (0 ≤ left - 1) = b := ⟨_, rfl⟩
  have hN0 := needC (b := decide ((0 : Int) ≤ IntKind.i64.wrap (left - 1))) b0 (by rw [hwl, e0])
  have hby := byte_lc A c l (IntKind.i64.wrap (left - 1)) 9 hB
  refine lcall_of tabOk 69 [.cell 2 25] Tryz.func110 rfl rfl (by kernel_rfl) rfl _ (Nat.le_of_ble_eq_true rfl) (mPre.upS _ _ _) ?_
  refine svc_ok tabOk [5] _ _ _ ?_
  have hn0 : b0 = false → o = none := fun h => by
    rw [← ho]
    cases fuel with
    | zero => rfl
    | succ f => rw [rdTerm, e0, h]
  cases b0 with
  | false =>
    refine callVC_lend [] hN0 rfl trivial rfl rfl (fun _ _ => trivial) (fun _ _ => ⟨rfl, rfl⟩) (fun _ _ => ?_)
    exact tornT (hn0 rfl) (ent_ren [(0, .blk 0)] rfl rfl rfl rfl (Nat.le_refl _) ⟨⟨_, rfl, rfl⟩, trivial⟩ trivial ⟨⟨Up.true, fun _ _ => trivial⟩, trivial⟩)
  | true =>
  have hl0 : 0 ≤ left - 1 := of_decide_eq_true e0
  refine callVC_lend [] hN0 rfl trivial rfl rfl (fun _ _ => trivial) (fun _ _ => ⟨rfl, rfl⟩) (fun _ _ => ?_)
  obtain ⟨f, rfl⟩ : ∃ f, fuel = f + 1 := ⟨fuel - 1, by omega⟩
  rw [rdTerm, e0] at ho
  simp only at ho
  cases hrb : rdByte 9 l with
  | none =>
    rw [hrb] at hby ho
    refine callVC_lend [0] hby rfl ⟨rfl, trivial⟩ rfl rfl (fun w h => h.2.1.2) (fun _ _ => ⟨rfl, rfl⟩) (fun _ _ => ?_)
    exact tornT ho.symm (ent_ren [(0, .blk 0)] rfl rfl rfl rfl (Nat.le_refl _) ⟨⟨_, rfl, rfl⟩, trivial⟩ trivial ⟨⟨Up.true, fun _ _ => trivial⟩, trivial⟩)
  | some qb =>
  obtain ⟨k, r⟩ := qb
  rw [hrb] at hby ho
  simp only at ho
  obtain ⟨hs1, hk9⟩ := rdByte_sub hrb
  have hBr := hs1.bytes hB
  refine callVC_lend [0] hby rfl ⟨rfl, trivial⟩ rfl rfl (fun w h => h.2.1.2) (fun _ _ => ⟨rfl, rfl⟩) (fun x _ => ?_)
  refine Walks.ent (st' := stA k x.1 x.2 r (left - 1)) ?_ ?_
  · exact ent_ren [(2, .blk 2), (1, .blk 1), (0, .blk 0)] rfl rfl rfl rfl (Nat.le_of_ble_eq_true rfl) ⟨⟨_, rfl, rfl⟩, ⟨_, rfl, rfl⟩, ⟨_, rfl, rfl⟩, ⟨_, rfl, rfl⟩, trivial⟩ ⟨⟨_, rfl, by rw [hwl]; rfl⟩, ⟨_, rfl, rfl⟩, ⟨_, rfl, rfl⟩, trivial⟩ ⟨⟨mPre.upS _ _ _, fun w h => ⟨h.2.2.1.1, h.1⟩⟩, trivial⟩
  have hnn : rdNode k (left - 1) r = none → o = none := fun h => by
    rw [h] at ho
    exact ho.symm
  refine Walks.cutX (X := ND × Int × List Nat × LX) (fun y => rdNode k (left - 1) r = some (y.1, y.2.1, y.2.2.1) ∧ LX.ok y.1.ls.length y.2.2.2) (fun y => stN k y.1 y.2.1 y.2.2.1 y.2.2.2) ?_ ?_
  · have hkk : k = 0 ∨ k = 1 ∨ k = 2 ∨ k = 3 ∨ k = 4 ∨ k = 5 ∨ k = 6 ∨ k = 7 ∨ k = 8 ∨ k = 9 := by omega
    rcases hkk with rfl | rfl | rfl | rfl | rfl | rfl | rfl | rfl | rfl | rfl
    · refine svc_ok tabOk [] _ _ _ ?_
      refine ⟨(⟨0, noS, [], 0⟩, left - 1, r, ⟨none, 0, x.1, x.2⟩), ⟨rfl, lx_nil _ _⟩, ?_⟩
      exact ent_ren [(2, .blk 2), (1, .blk 1), (0, .blk 0)] rfl rfl rfl rfl (Nat.le_of_ble_eq_true rfl) ⟨⟨_, rfl, rfl⟩, ⟨_, rfl, rfl⟩, ⟨_, rfl, rfl⟩, ⟨_, rfl, rfl⟩, trivial⟩ ⟨⟨_, rfl, rfl⟩, ⟨_, rfl, rfl⟩, ⟨_, rfl, rfl⟩, trivial⟩ ⟨⟨nPre.upS _ _ _, fun w h => ⟨h.1.1, h.1.2, lvRow_nil _ _⟩⟩, trivial⟩
    · refine svc_ok tabOk [] _ _ _ ?_
      have hnum := num_lcR x.1 x.2 r (left - 1) 1099511627776 hBr
      cases hr : rdNum 1099511627776 r with
      | none =>
        rw [hr] at hnum
        refine callVC_lend [0] hnum rfl ⟨rfl, trivial⟩ rfl rfl (fun w h => h.1.2) (fun _ _ => ⟨rfl, rfl⟩) (fun _ _ => ?_)
        exact tornT (hnn (by simp only [rdNode, hr])) (ent_ren [(0, .blk 0)] rfl rfl rfl rfl (Nat.le_refl _) ⟨⟨_, rfl, rfl⟩, trivial⟩ trivial ⟨⟨Up.true, fun _ _ => trivial⟩, trivial⟩)
      | some q =>
        obtain ⟨n, r1⟩ := q
        rw [hr] at hnum
        refine callVC_lend [0] hnum rfl ⟨rfl, trivial⟩ rfl rfl (fun w h => h.1.2) (fun _ _ => ⟨rfl, rfl⟩) (fun y _ => ?_)
        refine ⟨(⟨n, noS, [], 0⟩, left - 1, r1, ⟨none, 0, y.1, y.2⟩), ⟨by simp only [rdNode, hr], lx_nil _ _⟩, ?_⟩
        exact ent_ren [(2, .blk 2), (1, .blk 1), (0, .blk 0)] rfl rfl rfl rfl (Nat.le_of_ble_eq_true rfl) ⟨⟨_, rfl, rfl⟩, ⟨_, rfl, rfl⟩, ⟨_, rfl, rfl⟩, ⟨_, rfl, rfl⟩, trivial⟩ ⟨⟨_, rfl, rfl⟩, ⟨_, rfl, rfl⟩, ⟨_, rfl, rfl⟩, trivial⟩ ⟨⟨nPre.upS _ _ _, fun w h => ⟨h.2.1.1, h.1, lvRow_nil _ _⟩⟩, trivial⟩
    · refine svc_ok tabOk [] _ _ _ ?_
      refine ⟨(⟨0, noS, [], 0⟩, left - 1, r, ⟨none, 0, x.1, x.2⟩), ⟨rfl, lx_nil _ _⟩, ?_⟩
      exact ent_ren [(2, .blk 2), (1, .blk 1), (0, .blk 0)] rfl rfl rfl rfl (Nat.le_of_ble_eq_true rfl) ⟨⟨_, rfl, rfl⟩, ⟨_, rfl, rfl⟩, ⟨_, rfl, rfl⟩, ⟨_, rfl, rfl⟩, trivial⟩ ⟨⟨_, rfl, rfl⟩, ⟨_, rfl, rfl⟩, ⟨_, rfl, rfl⟩, trivial⟩ ⟨⟨nPre.upS _ _ _, fun w h => ⟨h.1.1, h.1.2, lvRow_nil _ _⟩⟩, trivial⟩
    · refine svc_ok tabOk [] _ _ _ ?_
      have hlv := levels_lc x.1 x.2 r (left - 1) 1 hBr (by decide) (by omega) (by omega)
      cases hr : rdLevels 1 r with
      | none =>
        rw [hr] at hlv
        refine callVC_lend [0] hlv rfl ⟨rfl, trivial⟩ rfl rfl (fun w h => h.1.2) (fun _ _ => ⟨rfl, rfl⟩) (fun _ _ => ?_)
        exact tornT (hnn (by simp only [rdNode, hr])) (ent_ren [(0, .blk 0)] rfl rfl rfl rfl (Nat.le_refl _) ⟨⟨_, rfl, rfl⟩, trivial⟩ trivial ⟨⟨Up.true, fun _ _ => trivial⟩, trivial⟩)
      | some q =>
        obtain ⟨ls, r1⟩ := q
        rw [hr] at hlv
        obtain ⟨_, hll⟩ := rdLevels_some hr
        refine callVC_lend [0] hlv rfl ⟨rfl, trivial⟩ rfl rfl (fun w h => h.1.2) (fun _ _ => ⟨rfl, rfl⟩) (fun y hy => ?_)
        refine ⟨(⟨0, noS, ls, 0⟩, left - 1 - 1, r1, y), ⟨by simp only [rdNode, hr], by rw [hll]; exact hy⟩, ?_⟩
        exact ent_ren [(2, .blk 2), (1, .blk 1), (0, .blk 0)] rfl rfl rfl rfl (Nat.le_of_ble_eq_true rfl) ⟨⟨_, rfl, rfl⟩, ⟨_, rfl, rfl⟩, ⟨_, rfl, rfl⟩, ⟨_, rfl, rfl⟩, trivial⟩ ⟨⟨_, rfl, rfl⟩, ⟨_, rfl, rfl⟩, ⟨_, rfl, nodeEq hll.symm⟩, trivial⟩ ⟨⟨nPre.upS _ _ _, fun w h => ⟨h.2.1.1, h.1.1, h.1.2⟩⟩, trivial⟩
    · refine svc_ok tabOk [] _ _ _ ?_
      have hnm := name_lc x.1 x.2 r (left - 1) hBr
      cases hr : rdName r with
      | none =>
        rw [hr] at hnm
        refine callVC_lend [0] hnm rfl ⟨rfl, trivial⟩ rfl rfl (fun w h => h.1) (fun _ _ => ⟨rfl, rfl⟩) (fun _ _ => ?_)
        exact tornT (hnn (by simp only [rdNode, hr])) (ent_ren [(0, .blk 0)] rfl rfl rfl rfl (Nat.le_refl _) ⟨⟨_, rfl, rfl⟩, trivial⟩ trivial ⟨⟨Up.true, fun _ _ => trivial⟩, trivial⟩)
      | some q =>
        obtain ⟨nm, r1⟩ := q
        rw [hr] at hnm
        have hB1 := (rdName_some hr).1.bytes hBr
        refine callVC_lend [0] hnm rfl ⟨rfl, trivial⟩ rfl rfl (fun w h => h.1) (fun _ _ => ⟨rfl, rfl⟩) (fun y _ => ?_)
        have hb4 := byte_lc y.1 y.2 r1 (left - 1) 4 hB1
        cases hr2 : rdByte 4 r1 with
        | none =>
          rw [hr2] at hb4
          refine callVC_lend [0] hb4 rfl ⟨rfl, trivial⟩ rfl rfl (fun w h => h.1) (fun _ _ => ⟨rfl, rfl⟩) (fun _ _ => ?_)
          exact tornT (hnn (by simp only [rdNode, hr, hr2])) (ent_ren [(0, .blk 0)] rfl rfl rfl rfl (Nat.le_refl _) ⟨⟨_, rfl, rfl⟩, trivial⟩ trivial ⟨⟨Up.true, fun _ _ => trivial⟩, trivial⟩)
        | some q =>
          obtain ⟨m, r2⟩ := q
          rw [hr2] at hb4
          obtain ⟨hs2, hm4⟩ := rdByte_sub hr2
          have hB2 := hs2.bytes hB1
          refine callVC_lend [0] hb4 rfl ⟨rfl, trivial⟩ rfl rfl (fun w h => h.1) (fun _ _ => ⟨rfl, rfl⟩) (fun z _ => ?_)
          have hlv := levels_lc z.1 z.2 r2 (left - 1) m hB2 (by omega) (by omega) (by omega)
          cases hr3 : rdLevels m r2 with
          | none =>
            rw [hr3] at hlv
            refine callVC_lend [0] hlv rfl ⟨rfl, trivial⟩ rfl rfl (fun w h => h.1) (fun _ _ => ⟨rfl, rfl⟩) (fun _ _ => ?_)
            exact tornT (hnn (by simp only [rdNode, hr, hr2, hr3])) (ent_ren [(0, .blk 0)] rfl rfl rfl rfl (Nat.le_refl _) ⟨⟨_, rfl, rfl⟩, trivial⟩ trivial ⟨⟨Up.true, fun _ _ => trivial⟩, trivial⟩)
          | some q =>
            obtain ⟨ls, r3⟩ := q
            rw [hr3] at hlv
            obtain ⟨_, hll⟩ := rdLevels_some hr3
            refine callVC_lend [0] hlv rfl ⟨rfl, trivial⟩ rfl rfl (fun w h => h.1) (fun _ _ => ⟨rfl, rfl⟩) (fun u hu => ?_)
            refine ⟨(⟨0, nm, ls, 0⟩, left - 1 - m, r3, u), ⟨by simp only [rdNode, hr, hr2, hr3], by rw [hll]; exact hu⟩, ?_⟩
            exact ent_ren [(2, .blk 2), (1, .blk 1), (0, .blk 0)] rfl rfl rfl rfl (Nat.le_of_ble_eq_true rfl) ⟨⟨_, rfl, rfl⟩, ⟨_, rfl, rfl⟩, ⟨_, rfl, rfl⟩, ⟨_, rfl, rfl⟩, trivial⟩ ⟨⟨_, rfl, rfl⟩, ⟨_, rfl, rfl⟩, ⟨_, rfl, nodeEq hll.symm⟩, trivial⟩ ⟨⟨nPre.upS _ _ _, fun w h => ⟨h.2.2.2.1.1, h.1.1, h.1.2⟩⟩, trivial⟩
    · refine svc_ok tabOk [] _ _ _ ?_
      refine ⟨(⟨0, noS, [], 2⟩, left - 1, r, ⟨none, 0, x.1, x.2⟩), ⟨rfl, lx_nil _ _⟩, ?_⟩
      exact ent_ren [(2, .blk 2), (1, .blk 1), (0, .blk 0)] rfl rfl rfl rfl (Nat.le_of_ble_eq_true rfl) ⟨⟨_, rfl, rfl⟩, ⟨_, rfl, rfl⟩, ⟨_, rfl, rfl⟩, ⟨_, rfl, rfl⟩, trivial⟩ ⟨⟨_, rfl, rfl⟩, ⟨_, rfl, rfl⟩, ⟨_, rfl, rfl⟩, trivial⟩ ⟨⟨nPre.upS _ _ _, fun w h => ⟨h.1.1, h.1.2, lvRow_nil _ _⟩⟩, trivial⟩
    · refine svc_ok tabOk [] _ _ _ ?_
      refine ⟨(⟨0, noS, [], 2⟩, left - 1, r, ⟨none, 0, x.1, x.2⟩), ⟨rfl, lx_nil _ _⟩, ?_⟩
      exact ent_ren [(2, .blk 2), (1, .blk 1), (0, .blk 0)] rfl rfl rfl rfl (Nat.le_of_ble_eq_true rfl) ⟨⟨_, rfl, rfl⟩, ⟨_, rfl, rfl⟩, ⟨_, rfl, rfl⟩, ⟨_, rfl, rfl⟩, trivial⟩ ⟨⟨_, rfl, rfl⟩, ⟨_, rfl, rfl⟩, ⟨_, rfl, rfl⟩, trivial⟩ ⟨⟨nPre.upS _ _ _, fun w h => ⟨h.1.1, h.1.2, lvRow_nil _ _⟩⟩, trivial⟩
    · refine svc_ok tabOk [] _ _ _ ?_
      refine ⟨(⟨0, noS, [], 2⟩, left - 1, r, ⟨none, 0, x.1, x.2⟩), ⟨rfl, lx_nil _ _⟩, ?_⟩
      exact ent_ren [(2, .blk 2), (1, .blk 1), (0, .blk 0)] rfl rfl rfl rfl (Nat.le_of_ble_eq_true rfl) ⟨⟨_, rfl, rfl⟩, ⟨_, rfl, rfl⟩, ⟨_, rfl, rfl⟩, ⟨_, rfl, rfl⟩, trivial⟩ ⟨⟨_, rfl, rfl⟩, ⟨_, rfl, rfl⟩, ⟨_, rfl, rfl⟩, trivial⟩ ⟨⟨nPre.upS _ _ _, fun w h => ⟨h.1.1, h.1.2, lvRow_nil _ _⟩⟩, trivial⟩
    · refine svc_ok tabOk [] _ _ _ ?_
      refine ⟨(⟨0, noS, [], 3⟩, left - 1, r, ⟨none, 0, x.1, x.2⟩), ⟨rfl, lx_nil _ _⟩, ?_⟩
      exact ent_ren [(2, .blk 2), (1, .blk 1), (0, .blk 0)] rfl rfl rfl rfl (Nat.le_of_ble_eq_true rfl) ⟨⟨_, rfl, rfl⟩, ⟨_, rfl, rfl⟩, ⟨_, rfl, rfl⟩, ⟨_, rfl, rfl⟩, trivial⟩ ⟨⟨_, rfl, rfl⟩, ⟨_, rfl, rfl⟩, ⟨_, rfl, rfl⟩, trivial⟩ ⟨⟨nPre.upS _ _ _, fun w h => ⟨h.1.1, h.1.2, lvRow_nil _ _⟩⟩, trivial⟩
    · refine svc_ok tabOk [] _ _ _ ?_
      have hnum := num_lcR x.1 x.2 r (left - 1) 31 hBr
      cases hr : rdNum 31 r with
      | none =>
        rw [hr] at hnum
        refine callVC_lend [0] hnum rfl ⟨rfl, trivial⟩ rfl rfl (fun w h => h.1.2) (fun _ _ => ⟨rfl, rfl⟩) (fun _ _ => ?_)
        exact tornT (hnn (by simp only [rdNode, hr])) (ent_ren [(0, .blk 0)] rfl rfl rfl rfl (Nat.le_refl _) ⟨⟨_, rfl, rfl⟩, trivial⟩ trivial ⟨⟨Up.true, fun _ _ => trivial⟩, trivial⟩)
      | some q =>
        obtain ⟨n, r1⟩ := q
        rw [hr] at hnum
        have hB1 := (rdNum_sub2 hr).1.bytes hBr
        refine callVC_lend [0] hnum rfl ⟨rfl, trivial⟩ rfl rfl (fun w h => h.1.2) (fun _ _ => ⟨rfl, rfl⟩) (fun y _ => ?_)
        have hnm := name_lc y.1 y.2 r1 (left - 1) hB1
        cases hr2 : rdName r1 with
        | none =>
          rw [hr2] at hnm
          refine callVC_lend [0] hnm rfl ⟨rfl, trivial⟩ rfl rfl (fun w h => ⟨h.2.1.1, h.1⟩) (fun _ _ => ⟨rfl, rfl⟩) (fun _ _ => ?_)
          exact tornT (hnn (by simp only [rdNode, hr, hr2])) (ent_ren [(0, .blk 0)] rfl rfl rfl rfl (Nat.le_refl _) ⟨⟨_, rfl, rfl⟩, trivial⟩ trivial ⟨⟨Up.true, fun _ _ => trivial⟩, trivial⟩)
        | some q =>
          obtain ⟨nm, r2⟩ := q
          rw [hr2] at hnm
          refine callVC_lend [0] hnm rfl ⟨rfl, trivial⟩ rfl rfl (fun w h => ⟨h.2.1.1, h.1⟩) (fun _ _ => ⟨rfl, rfl⟩) (fun z _ => ?_)
          refine ⟨(⟨n, nm, [], 1⟩, left - 1, r2, ⟨none, 0, z.1, z.2⟩), ⟨by simp only [rdNode, hr, hr2], lx_nil _ _⟩, ?_⟩
          exact ent_ren [(2, .blk 2), (1, .blk 1), (0, .blk 0)] rfl rfl rfl rfl (Nat.le_of_ble_eq_true rfl) ⟨⟨_, rfl, rfl⟩, ⟨_, rfl, rfl⟩, ⟨_, rfl, rfl⟩, ⟨_, rfl, rfl⟩, trivial⟩ ⟨⟨_, rfl, rfl⟩, ⟨_, rfl, rfl⟩, ⟨_, rfl, rfl⟩, trivial⟩ ⟨⟨nPre.upS _ _ _, fun w h => ⟨h.2.2.1.1, h.1, lvRow_nil _ _⟩⟩, trivial⟩
  · rintro ⟨nd, left1, r1, q⟩ ⟨hnode, hq⟩
    simp only at hnode hq
    obtain ⟨hs2, hl1, hl2, ha3, hls4, hsz, hn0, hn1⟩ := rdNode_some hk9 hnode
    rw [hnode] at ho
    simp only at ho
    have hB1 := hs2.bytes hBr
    refine Walks.ent (ent_freshC 2 25 5 (rCells k nd q 3) rfl (fun e he => ?_) (fun h => ?_)) ?_
    · show _ :: _ :: _ :: _ :: [e.rv 3] = _
      rw [show e.rv 3 = Value.slice none 0 0 from he]
      rfl
    · intro c hc
      simp only [rCells, List.mem_cons, List.not_mem_nil, or_false] at hc
      rcases hc with rfl | rfl | rfl | rfl | rfl
      · rfl
      · rfl
      · rfl
      · rfl
      · exact Nat.lt_succ_self _
    refine svc_ok tabOk [25, 27] _ _ _ ?_
    refine ⟨⟨AX, fun y => y.ts.length ≤ nd.a ∧ Bytes y.l ∧ -4 ≤ y.left ∧ y.left ≤ (f : Int) ∧ y.left ≤ 3000 ∧ rdTerms (rdTerm f) nd.a left1 r1 = (match rdTerms (rdTerm f) (nd.a - y.ts.length) y.left y.l with | none => none | some (us, a, b) => some (y.ts.map TT.tm ++ us, a, b)),
      stT k nd q, fun y => nd.a - y.ts.length, ⟨⟨[], left1, r1, q.ra, q.rc⟩, ⟨Nat.zero_le _, hB1, by simp only; omega, by simp only; omega, by simp only; omega, ?_⟩, ?_⟩, ?_⟩⟩
    · simp only [List.length_nil, Nat.sub_zero, List.map_nil, List.nil_append]
      cases rdTerms (rdTerm f) nd.a left1 r1 <;> rfl
    · exact ent_ren [(3, .own 3), (2, .blk 2), (1, .blk 1), (0, .blk 0)] rfl rfl rfl rfl (Nat.le_of_ble_eq_true rfl) ⟨⟨_, rfl, rfl⟩, ⟨_, rfl, rfl⟩, ⟨_, rfl, rfl⟩, ⟨_, rfl, rfl⟩, ⟨_, rfl, rfl⟩, trivial⟩ ⟨⟨_, rfl, rfl⟩, ⟨_, rfl, rfl⟩, ⟨_, rfl, rfl⟩, ⟨_, _, rfl, rfl, rfl⟩, trivial⟩ ⟨⟨aPre.upS _ _ _, fun w h => ⟨fun t ht => (by cases ht), h.1.1, h.1.2.1, h.1.2.2⟩⟩, trivial⟩
    rintro ⟨ts, left2, l2, ra, rc⟩ ⟨hy1, hy2, hy3, hy4, hy5, hy6⟩
    simp only at hy1 hy2 hy3 hy4 hy5 hy6
    refine bsplit_i (fun hlt => ?_) (fun hge => ?_)
    rotate_left
    · have hge : nd.a = ts.length := by
        have h : decide ((ts.length : Int) < (nd.a : Int)) = false := hge
        have := of_decide_eq_false h
        omega
      rw [hge, Nat.sub_self, rdTerms] at hy6
      simp only [List.append_nil] at hy6
      rw [hge, hy6] at ho
      simp only at ho
      refine Walks.freeze 3 rfl (fun B cp g1 g2 g3 => ?_)
      refine svc_ok tabOk [] _ _ _ ?_
      refine ⟨_, rfl, okT ⟨TT.mk k nd.n nd.s q.la q.lc nd.ls B cp ts, ra, rc⟩ ho.symm (by rw [tt_tm]) ?_⟩
      exact ent_ren [(0, .blk 0)] rfl rfl rfl rfl (Nat.le_refl _) ⟨⟨_, rfl, rfl⟩, trivial⟩ ⟨⟨_, rfl, rfl⟩, trivial⟩ ⟨⟨(BtIn.up _ _ _).and (TTIn.upS _), fun w h => ⟨h.2.1.2.2.1, by
        unfold TTIn
        refine ⟨⟨⟨by omega, by omega⟩, ⟨by omega, by omega⟩, by simp only [maxLen]; omega, h.2.1.2.2.2, hq.1, hq.2.1, hq.2.2, g1, g2, g3⟩, tts_of ts 0 (fun i u hi => ?_) h.2.1.1⟩
        rw [Nat.zero_mul, Nat.zero_add]
        exact h.1 i u hi⟩⟩, trivial⟩
    have hlt : ts.length < nd.a := by
      have h : decide ((ts.length : Int) < (nd.a : Int)) = true := hlt
      have := of_decide_eq_true h
      omega
    obtain ⟨m, hm⟩ : ∃ m, nd.a - ts.length = m + 1 := ⟨nd.a - ts.length - 1, by omega⟩
    rw [hm, rdTerms] at hy6
    have hrec := ih f (Nat.lt_succ_self f) ra rc l2 left2 hy2 hy4 hy3 hy5
    obtain ⟨o2, ho2⟩ : ∃ o2, rdTerm f left2 l2 = o2 := ⟨_, rfl⟩
    rw [ho2] at hrec hy6
    refine Walks.ent (st' := stT k nd q ⟨ts, left2, l2, ra, rc⟩) ?_ ?_
    · exact ent_ren [(3, .own 3), (2, .blk 2), (1, .blk 1), (0, .blk 0)] rfl rfl rfl rfl (Nat.le_of_ble_eq_true rfl) ⟨⟨_, rfl, rfl⟩, ⟨_, rfl, rfl⟩, ⟨_, rfl, rfl⟩, ⟨_, rfl, rfl⟩, ⟨_, rfl, rfl⟩, trivial⟩ ⟨⟨_, rfl, rfl⟩, ⟨_, rfl, rfl⟩, ⟨_, rfl, rfl⟩, ⟨_, _, rfl, rfl, rfl⟩, trivial⟩ ⟨⟨aPre.upS _ _ _, fun w h => h.1⟩, trivial⟩
    refine svc_ok tabOk [] _ _ _ ?_
    refine .inr ⟨[0, 1, 0, 4, 12, 31, 63, 127], [3, 4, 5, 7], [(0, { dst := some 60, v := .one (.p 2 4), p := none, f := none }), (1, { dst := some 61, v := .one (.row 3), p := none, f := none }), (2, { dst := some 62, v := .one (.p 0 0), p := none, f := none }), (6, { dst := some 66, v := .one (.p 2 4), p := none, f := none })], by kernel_rfl, rfl, by kernel_rfl, by kernel_rfl, rfl, rfl, rfl, rfl, ?_⟩
    refine cgo_go (stT k nd q ⟨ts, left2, l2, ra, rc⟩) [3] rfl (by kernel_rfl) (by kernel_rfl) ⟨⟨rfl, rfl⟩, ⟨rfl, rfl⟩, ⟨rfl, rfl⟩, ⟨rfl, rfl⟩, trivial⟩ ⟨?_, trivial⟩
    refine ⟨_, rfl, rfl, _, rfl, ?_⟩
    cases o2 with
    | none =>
      refine callVC_lend [0] hrec rfl ⟨rfl, trivial⟩ rfl rfl (fun w h => ⟨h.1.2.1, h.1.2.2.1⟩) (fun _ _ => ⟨rfl, rfl⟩) (fun _ _ => ?_)
      exact tornT (by rw [← ho, hy6]) (ent_ren [(0, .blk 0)] rfl rfl rfl rfl (Nat.le_refl _) ⟨⟨_, rfl, rfl⟩, trivial⟩ trivial ⟨⟨Up.true, fun _ _ => trivial⟩, trivial⟩)
    | some qt =>
    obtain ⟨t, left3, l3⟩ := qt
    obtain ⟨hs3, hl3, hl4⟩ := rdTerm_some f left2 l2 t left3 l3 ho2
    refine callVC_lend [0] hrec rfl ⟨rfl, trivial⟩ rfl rfl (fun w h => ⟨h.1.2.1, h.1.2.2.1⟩) (fun x _ => ?_) (fun x hx => ?_)
    · obtain ⟨⟨tk, tn, tnm, tla, tlc, tls, taa, tac, tus⟩, ra3, rc3⟩ := x
      exact ⟨rfl, rfl⟩
    have hx : x.tt.tm = t := hx
    obtain ⟨⟨tk, tn, tnm, tla, tlc, tls, taa, tac, tus⟩, ra3, rc3⟩ := x
    refine cgo_go { s := (63, ttA (TT.mk tk tn tnm tla tlc tls taa tac tus)) :: [(0, .one (.p 0 0)), (2, .one (.p 1 0)), (3, .one (.p 2 0)), (57, .one (.v (.int .i64 (nd.a : Int)))), (58, .one (.v (.int .i64 (ts.length : Int))))], m := (0, rM ra3 rc3 l3 left3) :: (0, .dead) :: [(0, rM ra rc l2 left2), (1, .cells 25 zero5), (2, .cells 25 (rCells k nd q 3)), (3, .own 25 5 ts.length (ttsC ts))], k := 4, f := [fun w => BtIn w ra3 rc3 l3 ∧ TTIn w (TT.mk tk tn tnm tla tlc tls taa tac tus), aPre nd q ⟨ts, left2, l2, ra, rc⟩], b := 1 } [4] rfl (by kernel_rfl) (by kernel_rfl) ⟨⟨rfl, rfl⟩, ⟨rfl, rfl⟩, ⟨rfl, trivial⟩, ⟨rfl, rfl⟩, trivial⟩ ⟨?_, trivial⟩
    refine ⟨_, rfl, rfl, _, rfl, ?_⟩
    refine cgo_go { s := (64, .one (.sl 4 0 1 1)) :: (63, ttA (TT.mk tk tn tnm tla tlc tls taa tac tus)) :: [(0, .one (.p 0 0)), (2, .one (.p 1 0)), (3, .one (.p 2 0)), (57, .one (.v (.int .i64 (nd.a : Int)))), (58, .one (.v (.int .i64 (ts.length : Int))))], m := (4, .cells 25 ((TT.mk tk tn tnm tla tlc tls taa tac tus).cells.map SA.v)) :: (0, rM ra3 rc3 l3 left3) :: (0, .dead) :: [(0, rM ra rc l2 left2), (1, .cells 25 zero5), (2, .cells 25 (rCells k nd q 3)), (3, .own 25 5 ts.length (ttsC ts))], k := 5, f := [fun w => BtIn w ra3 rc3 l3 ∧ TTIn w (TT.mk tk tn tnm tla tlc tls taa tac tus), aPre nd q ⟨ts, left2, l2, ra, rc⟩], b := 1 } [5] rfl (by kernel_rfl) (by kernel_rfl) ⟨⟨rfl, rfl⟩, ⟨rfl, rfl⟩, ⟨rfl, trivial⟩, ⟨rfl, rfl⟩, trivial⟩ ⟨?_, trivial⟩
    refine ⟨_, rfl, rfl, _, rfl, ?_⟩
    refine ⟨{}, ⟨trivial, by decide, .inr rfl, ?_, ?_⟩, ?_⟩
    · show ts.length + 1 ≤ maxLen
      simp only [maxLen]; omega
    · show (ts.length + 1) * _ ≤ 140737488355328
      refine Nat.le_trans (Nat.mul_le_mul_right _ (show ts.length + 1 ≤ 256 by omega)) (by decide)
    refine cgo_go { s := (65, .one (.row 5)) :: (64, .one (.sl 4 0 1 1)) :: (63, ttA (TT.mk tk tn tnm tla tlc tls taa tac tus)) :: [(0, .one (.p 0 0)), (2, .one (.p 1 0)), (3, .one (.p 2 0)), (57, .one (.v (.int .i64 (nd.a : Int)))), (58, .one (.v (.int .i64 (ts.length : Int))))], m := (5, .own 25 5 (ts.length + 1) (ttsC ts ++ (TT.mk tk tn tnm tla tlc tls taa tac tus).cells)) :: (3, .dead) :: (4, .cells 25 ((TT.mk tk tn tnm tla tlc tls taa tac tus).cells.map SA.v)) :: (0, rM ra3 rc3 l3 left3) :: (0, .dead) :: [(0, rM ra rc l2 left2), (1, .cells 25 zero5), (2, .cells 25 (rCells k nd q 3)), (3, .own 25 5 ts.length (ttsC ts))], k := 6, f := [fun w => BtIn w ra3 rc3 l3 ∧ TTIn w (TT.mk tk tn tnm tla tlc tls taa tac tus), aPre nd q ⟨ts, left2, l2, ra, rc⟩], b := 1 } [7] rfl (by kernel_rfl) (by kernel_rfl) ⟨⟨rfl, trivial⟩, ⟨rfl, trivial⟩, ⟨rfl, trivial⟩, ⟨rfl, rfl⟩, trivial⟩ ⟨?_, trivial⟩
    refine ⟨_, rfl, rfl, _, rfl, ?_⟩
    refine cgo_end _ rfl (by kernel_rfl) ⟨⟨rfl, trivial⟩, ⟨rfl, trivial⟩, ⟨rfl, trivial⟩, ⟨rfl, trivial⟩, trivial⟩ ?_
    refine ⟨⟨ts ++ [TT.mk tk tn tnm tla tlc tls taa tac tus], left3, l3, ra3, rc3⟩, ⟨by simp only [List.length_append, List.length_singleton]; omega, hs3.bytes hy2, hl4, by simp only; omega, by simp only; omega, ?_⟩, by simp only [List.length_append, List.length_singleton]; omega, ?_⟩
    · simp only [List.length_append, List.length_singleton, List.map_append, List.map_cons, List.map_nil, List.append_assoc, List.cons_append, List.nil_append]
      have hx : (TT.mk tk tn tnm tla tlc tls taa tac tus).tm = t := hx
      rw [hy6, show nd.a - (ts.length + 1) = m by omega, hx]
      simp only
      cases rdTerms (rdTerm f) m left3 l3 with
      | none => rfl
      | some q => rfl
    · exact ent_ren [(3, .own 5), (2, .blk 2), (1, .blk 1), (0, .blk 0)] rfl rfl rfl rfl (Nat.le_of_ble_eq_true rfl) ⟨⟨_, rfl, rfl⟩, ⟨_, rfl, rfl⟩, ⟨_, rfl, rfl⟩, ⟨_, rfl, rfl⟩, ⟨_, rfl, by simp only [List.length_append, List.length_singleton]; exact oneI (wrapI (by omega) (by omega))⟩, trivial⟩ ⟨⟨_, rfl, rfl⟩, ⟨_, rfl, rfl⟩, ⟨_, rfl, rfl⟩, ⟨_, _, rfl, by simp, by simp [ttsC]⟩, trivial⟩ ⟨⟨aPre.upS _ _ _, fun w h => ⟨fun t ht => by
        rcases List.mem_append.1 ht with ht | ht
        · exact h.2.1.1 t ht
        · rw [List.mem_singleton.1 ht]
          exact h.1.2, h.2.1.2.1, h.1.1, h.2.1.2.2.2⟩⟩, trivial⟩
end Go.Proofs.YtmkpiekbpakigaaGreatDoor
end
section
set_option linter.unusedVariables false
set_option linter.unusedSimpArgs false
namespace Go.Proofs.YtmkpiekbpakigaaGreatDoor
open Go.RowKit Go.Proofs.Base Go.Proofs.Sym
def rdWhole (l : List Nat) : Option (Tm × Int × List Nat) := match rdTerm 3000 3000 l with
  | none => none
  | some (t, left, r) => match codeB t with
    | false => none
    | true => some (t, left, r)
theorem rdWhole_some {l r : List Nat} {t : Tm} {left : Int} (h : rdWhole l = some (t, left, r)) : Sub2 l r ∧ codeB t = true := by
  unfold rdWhole at h
  cases hr : rdTerm 3000 3000 l with
  | none => rw [hr] at h; cases h
  | some q =>
    obtain ⟨t1, l1, r1⟩ := q
    rw [hr] at h
    simp only at h
    split at h
    · cases h
    · rename_i hc
      cases h
      exact ⟨(rdTerm_some _ _ _ _ _ _ hr).1, hc⟩
theorem whole_lc (A : Option Addr) (c : Nat) (l : List Nat) (left : Int) (hB : Bytes l) :
    LCall Tryz.prog 66 [.one (.p 0 0)] [(0, rM A c l left)] 1 (mPre A c l) (TX.ok (rdWhole l)) (termRes (rdWhole l)) := by
  have ht := term_lc 3000 A c l 3000 hB (by decide) (by decide) (by decide)
  obtain ⟨o, ho⟩ : ∃ o, rdWhole l = o := ⟨_, rfl⟩
  rw [ho]
  unfold rdWhole at ho
  obtain ⟨o2, ho2⟩ : ∃ o, rdTerm 3000 3000 l = o := ⟨_, rfl⟩
  rw [ho2] at ht ho
  refine lcall_of tabOk 13 [.cell 2 25] Tryz.func66 rfl rfl (by kernel_rfl) rfl _ (Nat.le_of_ble_eq_true rfl) (mPre.upS _ _ _) ?_
  refine svc_ok tabOk [] _ _ _ ?_
  cases o2 with
  | none =>
    refine callVC_lend [0] ht rfl ⟨rfl, trivial⟩ rfl rfl (fun w h => h.1) (fun _ _ => ⟨rfl, rfl⟩) (fun _ _ => ?_)
    exact tornT ho.symm (ent_ren [(0, .blk 0)] rfl rfl rfl rfl (Nat.le_refl _) ⟨⟨_, rfl, rfl⟩, trivial⟩ trivial ⟨⟨Up.true, fun _ _ => trivial⟩, trivial⟩)
  | some q =>
    obtain ⟨t, left1, r⟩ := q
    simp only at ho
    refine callVC_lend [0] ht rfl ⟨rfl, trivial⟩ rfl rfl (fun w h => h.1) (fun x _ => ?_) (fun x hx => ?_)
    · obtain ⟨⟨tk, tn, tnm, tla, tlc, tls, taa, tac, tus⟩, ra3, rc3⟩ := x
      exact ⟨rfl, rfl⟩
    have hx : x.tt.tm = t := hx
    have hr := right68_pc x.tt
    rw [hx] at hr
    obtain ⟨b, hb⟩ : ∃ b, codeB t = b := ⟨_, rfl⟩
    rw [hb] at hr ho
    obtain ⟨⟨tk, tn, tnm, tla, tlc, tls, taa, tac, tus⟩, ra3, rc3⟩ := x
    refine callVC_plain hr (fun _ => rfl) (fun w h => ⟨h.2.1.1, h.1.2⟩) ?_
    rintro v rfl
    refine callVC_lend [] (needC (b := b) b rfl) rfl trivial rfl rfl (fun _ _ => trivial) (fun _ _ => by cases b <;> exact ⟨rfl, rfl⟩) (fun _ _ => ?_)
    cases b with
    | false => exact tornT ho.symm (ent_ren [(0, .blk 0)] rfl rfl rfl rfl (Nat.le_refl _) ⟨⟨_, rfl, rfl⟩, trivial⟩ trivial ⟨⟨Up.true, fun _ _ => trivial⟩, trivial⟩)
    | true =>
      refine ⟨_, rfl, okT ⟨TT.mk tk tn tnm tla tlc tls taa tac tus, ra3, rc3⟩ ho.symm hx ?_⟩
      exact ent_ren [(0, .blk 0)] rfl rfl rfl rfl (Nat.le_refl _) ⟨⟨_, rfl, rfl⟩, trivial⟩ ⟨⟨_, rfl, rfl⟩, trivial⟩ ⟨⟨(BtIn.up _ _ _).and (TTIn.upS _), fun w h => h.2.2.1⟩, trivial⟩
end Go.Proofs.YtmkpiekbpakigaaGreatDoor
end
section
set_option linter.unusedVariables false
set_option linter.unusedSimpArgs false
namespace Go.Proofs.YtmkpiekbpakigaaGreatDoor
open Go.RowKit Go.Proofs.Base Go.Proofs.Sym
def rdCts : Nat → Int → List Nat → Option (List (ByteArray × Tm) × Int × List Nat)
  | 0, left, l => some ([], left, l)
  | n + 1, left, l => match rdName l with
    | none => none
    | some (s, l) => match rdWhole l with
      | none => none
      | some (t, left, l) => match rdCts n left l with
        | none => none
        | some (cs, left, l) => some ((s, t) :: cs, left, l)
def zeroTm : Tm := .mk 0 0 noS [] []
theorem zeroT_tm : zeroT.tm = zeroTm := by
  unfold zeroT
  rw [tt_tm]
  rfl
structure RB where
  v : Tm
  fx : Int
  cs : List (ByteArray × Tm)
def rdRest (k : Nat) (left : Int) (l : List Nat) : Option (RB × Int × List Nat) := match valB (k : Int) with
  | true => match rdWhole l with
    | none => none
    | some (t, left, l) => some (⟨t, 0, []⟩, left, l)
  | false => match decide ((k : Int) = 4) with
    | true => match rdByte 16 l with
      | none => none
      | some (fx, l) => match rdByte 8 l with
        | none => none
        | some (m, l) => match rdCts m left l with
          | none => none
          | some (cs, left, l) => some (⟨zeroTm, fx, cs⟩, left, l)
    | false => some (⟨zeroTm, 0, []⟩, left, l)
def rdDecl (l : List Nat) : Option (DM × Int × List Nat) := match rdByte 4 l with
  | none => none
  | some (k, l) => match rdName l with
    | none => none
    | some (nm, l) => match rdByte 4 l with
      | none => none
      | some (p, l) => match rdWhole l with
        | none => none
        | some (ty, left, l) => match rdRest k left l with
          | none => none
          | some (b, left, l) => match formedB ⟨k, p, nm, ty, b.v, b.fx, b.cs⟩ with
            | false => none
            | true => some (⟨k, p, nm, ty, b.v, b.fx, b.cs⟩, left, l)
theorem rdCts_some : ∀ (n : Nat) (left : Int) (l : List Nat) (cs : List (ByteArray × Tm)) (left' : Int) (l' : List Nat), rdCts n left l = some (cs, left', l') → Sub2 l l' ∧ cs.length = n
  | 0, left, l, cs, left', l', h => by
    cases h
    exact ⟨Sub2.refl _, rfl⟩
  | n + 1, left, l, cs, left', l', h => by
    rw [rdCts] at h
    cases hr : rdName l with
    | none => rw [hr] at h; cases h
    | some q =>
      obtain ⟨s, l1⟩ := q
      rw [hr] at h
      simp only at h
      cases hr2 : rdWhole l1 with
      | none => rw [hr2] at h; cases h
      | some q =>
        obtain ⟨t, left1, l2⟩ := q
        rw [hr2] at h
        simp only at h
        cases hr3 : rdCts n left1 l2 with
        | none => rw [hr3] at h; cases h
        | some q =>
          obtain ⟨cs2, left2, l3⟩ := q
          rw [hr3] at h
          obtain ⟨g1, g2⟩ := rdCts_some n _ _ _ _ _ hr3
          cases h
          exact ⟨((rdName_some hr).1.trans (rdWhole_some hr2).1).trans g1, by simp [g2]⟩
theorem rdRest_some {k : Nat} {left left' : Int} {l l' : List Nat} {b : RB} (h : rdRest k left l = some (b, left', l')) : Sub2 l l' := by
  unfold rdRest at h
  split at h
  · cases hr : rdWhole l with
    | none => rw [hr] at h; cases h
    | some q =>
      obtain ⟨t, left1, l1⟩ := q
      rw [hr] at h
      cases h
      exact (rdWhole_some hr).1
  · split at h
    · cases hr : rdByte 16 l with
      | none => rw [hr] at h; cases h
      | some q =>
        obtain ⟨fx, l1⟩ := q
        rw [hr] at h
        simp only at h
        cases hr2 : rdByte 8 l1 with
        | none => rw [hr2] at h; cases h
        | some q =>
          obtain ⟨m, l2⟩ := q
          rw [hr2] at h
          simp only at h
          cases hr3 : rdCts m left l2 with
          | none => rw [hr3] at h; cases h
          | some q =>
            obtain ⟨cs, left1, l3⟩ := q
            rw [hr3] at h
            cases h
            exact ((rdByte_sub hr).1.trans (rdByte_sub hr2).1).trans (rdCts_some _ _ _ _ _ _ hr3).1
    · cases h
      exact Sub2.refl _
theorem rdDecl_some {l l' : List Nat} {d : DM} {left : Int} (h : rdDecl l = some (d, left, l')) : Sub2 l l' ∧ formedB d = true := by
  unfold rdDecl at h
  cases h1 : rdByte 4 l with
  | none => rw [h1] at h; cases h
  | some q =>
    obtain ⟨k, l1⟩ := q
    rw [h1] at h
    simp only at h
    cases h2 : rdName l1 with
    | none => rw [h2] at h; cases h
    | some q =>
      obtain ⟨nm, l2⟩ := q
      rw [h2] at h
      simp only at h
      cases h3 : rdByte 4 l2 with
      | none => rw [h3] at h; cases h
      | some q =>
        obtain ⟨p, l3⟩ := q
        rw [h3] at h
        simp only at h
        cases h4 : rdWhole l3 with
        | none => rw [h4] at h; cases h
        | some q =>
          obtain ⟨ty, left1, l4⟩ := q
          rw [h4] at h
          simp only at h
          cases h5 : rdRest k left1 l4 with
          | none => rw [h5] at h; cases h
          | some q =>
            obtain ⟨b, left2, l5⟩ := q
            rw [h5] at h
            simp only at h
            split at h
            · cases h
            · rename_i hf
              cases h
              exact ⟨((((rdByte_sub h1).1.trans (rdName_some h2).1).trans (rdByte_sub h3).1).trans (rdWhole_some h4).1).trans (rdRest_some h5), hf⟩
structure DX where
  dd : DD
  ra : Option Addr
  rc : Nat
def DX.ok (o : Option (DM × Int × List Nat)) (x : DX) : Prop := match o with
  | some (d, _, _) => x.dd.dm = d
  | none => True
def declRes (o : Option (DM × Int × List Nat)) (x : DX) : LRes := match o with
  | some (_, left, r) => { v := ddA x.dd, m := [(0, rM x.ra x.rc r left)], k := 1, F := fun w => BtIn w x.ra x.rc r ∧ DDIn w x.dd }
  | none => tornR 1
def zeroDD : DD := ⟨0, 0, noS, zeroT, zeroT, 0, none, 0, []⟩
theorem tornD {o : Option (DM × Int × List Nat)} {st : St} (h : o = none) (he : EntR st (.one (.v undef)) (tornR 1)) : ∃ x, DX.ok o x ∧ (declRes o x).ch = some [{ v := tornV, recovered := false }] ∧ EntR st (.one (.v undef)) (declRes o x) := by
  subst h
  exact ⟨⟨zeroDD, none, 0⟩, trivial, rfl, he⟩
theorem okD {o : Option (DM × Int × List Nat)} {st : St} {v : SV} {d : DM} {left : Int} {r : List Nat} (x : DX) (h : o = some (d, left, r)) (hx : x.dd.dm = d) (he : EntR st v (declRes (some (d, left, r)) x)) : ∃ x, DX.ok o x ∧ (declRes o x).ch = none ∧ EntR st v (declRes o x) := by
  subst h
  exact ⟨x, hx, rfl, he⟩
theorem zeroT_in (w : World) : TTIn w zeroT := by
  unfold zeroT TTIn
  refine ⟨⟨⟨by decide, by decide⟩, ⟨by decide, by decide⟩, Nat.zero_le _, lvRow_nil _ _, fun _ => ⟨rfl, rfl⟩, Nat.le_refl _, Nat.zero_le _, fun _ => ⟨rfl, rfl⟩, Nat.le_refl _, Nat.zero_le _⟩, ?_⟩
  unfold TTs
  trivial
def ctsC (cs : List (ByteArray × TT)) : List Value := cs.flatMap ctCells
theorem ctCells_len (c : ByteArray × TT) : (ctCells c).length = 6 := by
  unfold ctCells
  rw [List.length_cons, TT.cells_len]
theorem ctsC_get {cs : List (ByteArray × TT)} : ∀ {j : Nat} {c : ByteArray × TT}, cs[j]? = some c → ∀ q u, (ctCells c)[q]? = some u → (ctsC cs)[j * 6 + q]? = some u := by
  induction cs with
  | nil => intro j c h; simp at h
  | cons a r ih =>
    intro j c h q u hq
    have e1 : ctsC (a :: r) = ctCells a ++ ctsC r := rfl
    have e6 := ctCells_len a
    rw [e1]
    cases j with
    | zero =>
      simp only [List.getElem?_cons_zero, Option.some.injEq] at h
      subst h
      have hlt := (List.getElem?_eq_some_iff.1 hq).1
      rw [Nat.zero_mul, Nat.zero_add, List.getElem?_append_left hlt]
      exact hq
    | succ j =>
      simp only [List.getElem?_cons_succ] at h
      rw [List.getElem?_append_right (by rw [e6]; omega), e6, show (j + 1) * 6 + q - 6 = j * 6 + q by omega]
      exact ih h q u hq
theorem cts_of {w : World} {B : Option Addr} {cs : List (ByteArray × TT)} (h : SlAt w B (ctsC cs)) (hT : ∀ c ∈ cs, TTIn w c.2) (hN : ∀ c ∈ cs, c.1.size ≤ 32) : CtsIn w B cs := by
  intro j c hj
  have hm := List.mem_of_getElem? hj
  obtain ⟨u0, hu0⟩ : ∃ u, (ctCells c)[0]? = some u := ⟨_, rfl⟩
  obtain ⟨a, ha, _⟩ := h _ _ (ctsC_get hj 0 u0 hu0)
  refine ⟨⟨a, ha, fun l u hl => ?_⟩, hT c hm, ?_⟩
  · obtain ⟨a2, ha2, hc⟩ := h _ _ (ctsC_get hj l u hl)
    rw [ha] at ha2
    cases ha2
    rw [Addr.add_add]
    exact hc
  · have := hN c hm
    simp only [maxLen]
    omega
structure EX where
  ty : TT
  v : TT
  fx : Int
  cts : List (ByteArray × TT)
  left : Int
  l : List Nat
  ra : Option Addr
  rc : Nat
def zero15 : List SA := zeroDD.cells.map SA.v
def dRow (k p : Int) (nm : ByteArray) (t1 t2 : TT) (fx : Int) (x : SA) : List SA := .v (.int .i64 k) :: .v (.int .i64 p) :: .v (.string nm) :: (t1.cells.map SA.v ++ (t2.cells.map SA.v ++ [.v (.int .i64 fx), x]))
def ePre (y : EX) (w : World) : Prop := ML w ∧ BtIn w y.ra y.rc y.l ∧ TTIn w y.ty ∧ TTIn w y.v ∧ ∀ c ∈ y.cts, TTIn w c.2
theorem ePre.upS (y : EX) : Up (ePre y) :=
  ML.up.and ((BtIn.up _ _ _).and ((TTIn.upS _).and ((TTIn.upS _).and (fun w w' h hh c hc => TTIn.up h _ (hh c hc)))))
def stE (k p : Int) (nm : ByteArray) (y : EX) : St :=
  { s := [(0, .one (.p 0 0)), (2, .one (.p 1 0)), (3, .one (.p 2 0))], m := [(0, rM y.ra y.rc y.l y.left), (1, .cells 38 zero15), (2, .cells 38 (dRow k p nm y.ty y.v y.fx (.row 3))), (3, .own 75 6 y.cts.length (ctsC y.cts))], k := 4, f := [ePre y], b := 1 }
def stD0 (k p : Int) (nm : ByteArray) (y : EX) : St :=
  { s := [(0, .one (.p 0 0)), (2, .one (.p 1 0)), (3, .one (.p 2 0))], m := [(0, rM y.ra y.rc y.l y.left), (1, .cells 38 zero15), (2, .cells 38 (dRow k p nm y.ty y.v y.fx (.v (.slice none 0 0))))], k := 3, f := [ePre y], b := 1 }
theorem map_one {cs : List Value} (h : ∀ v ∈ cs, v.oneCell' = true) (k : Nat) : ∀ c ∈ cs.map SA.v, c.lt k := by
  intro c hc
  obtain ⟨v, hv, rfl⟩ := List.mem_map.1 hc
  exact h v hv
/-- No constructors: told as a row of none. -/
theorem ent_D0 {k p : Int} {nm : ByteArray} {y : EX} (h : y.cts = []) : Ent (stD0 k p nm y) (stE k p nm y) := by
  refine Ent.trans (ent_freshC 2 75 6 (dRow k p nm y.ty y.v y.fx (.row 3)) rfl (fun e he => ?_) (fun _ => ?_)) ?_
  · have h0 : (SA.row 3).real e = (SA.v (.slice none 0 0)).real e := he
    simp only [dRow, reals, List.map_cons, List.map_append, List.map_nil, h0]
  · intro c hc
    simp only [dRow, List.mem_cons, List.mem_append, List.not_mem_nil, or_false] at hc
    rcases hc with rfl | rfl | rfl | hc | hc | rfl | rfl
    · rfl
    · rfl
    · rfl
    · exact map_one (TT.cells_one _) _ c hc
    · exact map_one (TT.cells_one _) _ c hc
    · rfl
    · exact Nat.lt_succ_self _
  · obtain ⟨⟨ak, an, anm, ala, alc, als, aaa, aac, aus⟩, ⟨bk, bn, bnm, bla, blc, bls, baa, bac, bus⟩, fx, cts, left, l, ra, rc⟩ := y
    have h : cts = [] := h
    subst h
    exact ent_ren [(3, .own 3), (2, .blk 2), (1, .blk 1), (0, .blk 0)] rfl rfl rfl rfl (Nat.le_of_ble_eq_true rfl) ⟨⟨_, rfl, rfl⟩, ⟨_, rfl, rfl⟩, ⟨_, rfl, rfl⟩, trivial⟩ ⟨⟨_, rfl, rfl⟩, ⟨_, rfl, rfl⟩, ⟨_, rfl, rfl⟩, ⟨_, _, rfl, rfl, rfl⟩, trivial⟩ ⟨⟨ePre.upS _, fun w h => h.1⟩, trivial⟩
end Go.Proofs.YtmkpiekbpakigaaGreatDoor
end
section
set_option linter.unusedVariables false
set_option linter.unusedSimpArgs false
namespace Go.Proofs.YtmkpiekbpakigaaGreatDoor
open Go.RowKit Go.Proofs.Base Go.Proofs.Sym
structure CX where
  cts : List (ByteArray × TT)
  left : Int
  l : List Nat
  ra : Option Addr
  rc : Nat
def cPreD (ty : TT) (y : CX) (w : World) : Prop := ML w ∧ BtIn w y.ra y.rc y.l ∧ TTIn w ty ∧ ∀ c ∈ y.cts, TTIn w c.2
theorem cPreD.upS (ty : TT) (y : CX) : Up (cPreD ty y) :=
  ML.up.and ((BtIn.up _ _ _).and ((TTIn.upS _).and (fun w w' h hh c hc => TTIn.up h _ (hh c hc))))
def stC (k p : Int) (nm : ByteArray) (ty : TT) (fx : Int) (m : Nat) (y : CX) : St :=
  { s := [(0, .one (.p 0 0)), (2, .one (.p 1 0)), (3, .one (.p 2 0)), (32, .one (.v (.int .i64 (m : Int)))), (33, .one (.v (.int .i64 (y.cts.length : Int))))], m := [(0, rM y.ra y.rc y.l y.left), (1, .cells 38 zero15), (2, .cells 38 (dRow k p nm ty zeroT fx (.row 3))), (3, .own 75 6 y.cts.length (ctsC y.cts))], k := 4, f := [cPreD ty y], b := 1 }
def stC2 (k p : Int) (nm : ByteArray) (ty : TT) (fx : Int) (m : Nat) (y : CX) (s : ByteArray) : St :=
  { s := [(0, .one (.p 0 0)), (2, .one (.p 1 0)), (3, .one (.p 2 0)), (4, .one (.v (.string s))), (32, .one (.v (.int .i64 (m : Int)))), (33, .one (.v (.int .i64 (y.cts.length : Int))))], m := [(0, rM y.ra y.rc y.l y.left), (1, .cells 38 zero15), (2, .cells 38 (dRow k p nm ty zeroT fx (.row 3))), (3, .own 75 6 y.cts.length (ctsC y.cts))], k := 4, f := [cPreD ty y], b := 1 }
theorem i64_0 : I64 0 := ⟨by decide, by decide⟩
set_option maxHeartbeats 8000000 in
theorem decl_lc (A : Option Addr) (c : Nat) (l : List Nat) (left : Int) (hB : Bytes l) :
    LCall Tryz.prog 68 [.one (.p 0 0)] [(0, rM A c l left)] 1 (mPre A c l) (DX.ok (rdDecl l)) (declRes (rdDecl l)) := by
  obtain ⟨o, ho⟩ : ∃ o, rdDecl l = o := ⟨_, rfl⟩
  rw [ho]
  unfold rdDecl at ho
  have hb1 := byte_lc A c l left 4 hB
  refine lcall_of tabOk 51 [.cell 2 38] Tryz.func68 rfl rfl (by kernel_rfl) rfl _ (Nat.le_of_ble_eq_true rfl) (mPre.upS _ _ _) ?_
  refine svc_ok tabOk [5] _ _ _ ?_
  cases h1 : rdByte 4 l with
  | none =>
    rw [h1] at hb1 ho
    refine callVC_lend [0] hb1 rfl ⟨rfl, trivial⟩ rfl rfl (fun w h => h.1.2) (fun _ _ => ⟨rfl, rfl⟩) (fun _ _ => ?_)
    exact tornD ho.symm (ent_ren [(0, .blk 0)] rfl rfl rfl rfl (Nat.le_refl _) ⟨⟨_, rfl, rfl⟩, trivial⟩ trivial ⟨⟨Up.true, fun _ _ => trivial⟩, trivial⟩)
  | some q =>
  obtain ⟨k, l1⟩ := q
  rw [h1] at hb1 ho
  simp only at ho
  obtain ⟨hs1, hk4⟩ := rdByte_sub h1
  have hB1 := hs1.bytes hB
  refine callVC_lend [0] hb1 rfl ⟨rfl, trivial⟩ rfl rfl (fun w h => h.1.2) (fun _ _ => ⟨rfl, rfl⟩) (fun x1 _ => ?_)
  have hb2 := name_lc x1.1 x1.2 l1 left hB1
  cases h2 : rdName l1 with
  | none =>
    rw [h2] at hb2 ho
    refine callVC_lend [0] hb2 rfl ⟨rfl, trivial⟩ rfl rfl (fun w h => ⟨h.2.1.1, h.1⟩) (fun _ _ => ⟨rfl, rfl⟩) (fun _ _ => ?_)
    exact tornD ho.symm (ent_ren [(0, .blk 0)] rfl rfl rfl rfl (Nat.le_refl _) ⟨⟨_, rfl, rfl⟩, trivial⟩ trivial ⟨⟨Up.true, fun _ _ => trivial⟩, trivial⟩)
  | some q =>
  obtain ⟨nm, l2⟩ := q
  rw [h2] at hb2 ho
  simp only at ho
  obtain ⟨hs2, hnmw⟩ := rdName_some h2
  have hB2 := hs2.bytes hB1
  refine callVC_lend [0] hb2 rfl ⟨rfl, trivial⟩ rfl rfl (fun w h => ⟨h.2.1.1, h.1⟩) (fun _ _ => ⟨rfl, rfl⟩) (fun x2 _ => ?_)
  have hb3 := byte_lc x2.1 x2.2 l2 left 4 hB2
  cases h3 : rdByte 4 l2 with
  | none =>
    rw [h3] at hb3 ho
    refine callVC_lend [0] hb3 rfl ⟨rfl, trivial⟩ rfl rfl (fun w h => h.1) (fun _ _ => ⟨rfl, rfl⟩) (fun _ _ => ?_)
    exact tornD ho.symm (ent_ren [(0, .blk 0)] rfl rfl rfl rfl (Nat.le_refl _) ⟨⟨_, rfl, rfl⟩, trivial⟩ trivial ⟨⟨Up.true, fun _ _ => trivial⟩, trivial⟩)
  | some q =>
  obtain ⟨p, l3⟩ := q
  rw [h3] at hb3 ho
  simp only at ho
  obtain ⟨hs3, hp4⟩ := rdByte_sub h3
  have hB3 := hs3.bytes hB2
  refine callVC_lend [0] hb3 rfl ⟨rfl, trivial⟩ rfl rfl (fun w h => h.1) (fun _ _ => ⟨rfl, rfl⟩) (fun x3 _ => ?_)
  have hb4 := whole_lc x3.1 x3.2 l3 left hB3
  obtain ⟨o4, h4⟩ : ∃ o4, rdWhole l3 = o4 := ⟨_, rfl⟩
  rw [h4] at hb4 ho
  cases o4 with
  | none =>
    refine callVC_lend [0] hb4 rfl ⟨rfl, trivial⟩ rfl rfl (fun w h => ⟨h.2.2.2.1.1, h.1⟩) (fun _ _ => ⟨rfl, rfl⟩) (fun _ _ => ?_)
    exact tornD ho.symm (ent_ren [(0, .blk 0)] rfl rfl rfl rfl (Nat.le_refl _) ⟨⟨_, rfl, rfl⟩, trivial⟩ trivial ⟨⟨Up.true, fun _ _ => trivial⟩, trivial⟩)
  | some q =>
  obtain ⟨ty, left4, l4⟩ := q
  simp only at ho
  have hB4 := (rdWhole_some h4).1.bytes hB3
  refine callVC_lend [0] hb4 rfl ⟨rfl, trivial⟩ rfl rfl (fun w h => ⟨h.2.2.2.1.1, h.1⟩) (fun x _ => ?_) (fun x4 hx4 => ?_)
  · obtain ⟨⟨tk, tn, tnm, tla, tlc, tls, taa, tac, tus⟩, ra3, rc3⟩ := x
    exact ⟨rfl, rfl⟩
  have hx4 : x4.tt.tm = ty := hx4
  obtain ⟨⟨tk, tn, tnm, tla, tlc, tls, taa, tac, tus⟩, ra3, rc3⟩ := x4
  have hx4 : (TT.mk tk tn tnm tla tlc tls taa tac tus).tm = ty := hx4
  refine Walks.ent (st' := stD0 k p nm ⟨(TT.mk tk tn tnm tla tlc tls taa tac tus), zeroT, 0, [], left4, l4, ra3, rc3⟩) ?_ ?_
  · exact ent_ren [(2, .blk 2), (1, .blk 1), (0, .blk 0)] rfl rfl rfl rfl (Nat.le_of_ble_eq_true rfl) ⟨⟨_, rfl, rfl⟩, ⟨_, rfl, rfl⟩, ⟨_, rfl, rfl⟩, trivial⟩ ⟨⟨_, rfl, rfl⟩, ⟨_, rfl, rfl⟩, ⟨_, rfl, rfl⟩, trivial⟩ ⟨⟨ePre.upS _, fun w h => ⟨h.2.2.2.2.1.1, h.1.1, h.1.2, zeroT_in _, fun c hc => (by cases hc)⟩⟩, trivial⟩
  have hrn : rdRest k left4 l4 = none → o = none := fun h => by
    rw [h] at ho
    exact ho.symm
  refine Walks.cutX (X := EX) (fun y => rdRest k left4 l4 = some (⟨y.v.tm, y.fx, y.cts.map ctM⟩, y.left, y.l) ∧ y.ty = (TT.mk tk tn tnm tla tlc tls taa tac tus) ∧ (∀ c ∈ y.cts, c.1.size ≤ 32) ∧ y.cts.length ≤ 8 ∧ I64 y.fx) (stE k p nm) ?_ ?_
  rotate_left
  · rintro ⟨y1, y2, fx, cts, left5, l5, ra5, rc5⟩ ⟨hr, hy1, hcn, hcl, hfx⟩
    simp only at hr hy1 hcn hcl hfx
    subst hy1
    rw [hr] at ho
    simp only at ho
    refine Walks.freeze 3 rfl (fun B cp g1 g2 g3 => ?_)
    have hF := Formed_pc (DD.mk k p nm (TT.mk tk tn tnm tla tlc tls taa tac tus) y2 fx B cp cts)
    have hdm : (DD.mk k p nm (TT.mk tk tn tnm tla tlc tls taa tac tus) y2 fx B cp cts).dm = ⟨k, p, nm, ty, y2.tm, fx, cts.map ctM⟩ := by
      rw [← hx4]
      rfl
    rw [hdm] at hF
    obtain ⟨b, hb⟩ : ∃ b, formedB ⟨k, p, nm, ty, y2.tm, fx, cts.map ctM⟩ = b := ⟨_, rfl⟩
    rw [hb] at hF ho
    have hin : ∀ {w}, (SlAt w B (ctsC cts) ∧ ePre ⟨(TT.mk tk tn tnm tla tlc tls taa tac tus), y2, fx, cts, left5, l5, ra5, rc5⟩ w ∧ True) → DDIn w (DD.mk k p nm (TT.mk tk tn tnm tla tlc tls taa tac tus) y2 fx B cp cts) := fun {w} h => by
      have h6 := word_size hnmw
      exact ⟨⟨by show _ ≤ ((k : Nat) : Int); omega, by show ((k : Nat) : Int) ≤ _; omega⟩, ⟨by show _ ≤ ((p : Nat) : Int); omega, by show ((p : Nat) : Int) ≤ _; omega⟩, by show nm.size ≤ maxLen; simp only [maxLen]; omega, h.2.1.2.2.1, h.2.1.2.2.2.1, hfx, cts_of h.1 h.2.1.2.2.2.2 hcn, g1, g2, g3⟩
    obtain ⟨bk, bn, bnm, bla, blc, bls, baa, bac, bus⟩ := y2
    refine svc_ok tabOk [] _ _ _ ?_
    refine callVC_plain hF (fun _ => rfl) (fun w h => ⟨h.2.1.1, hin ⟨h.1, h.2.1, trivial⟩⟩) ?_
    rintro v rfl
    refine callVC_lend [] (needC (b := b) b rfl) rfl trivial rfl rfl (fun _ _ => trivial) (fun _ _ => by cases b <;> exact ⟨rfl, rfl⟩) (fun _ _ => ?_)
    cases b with
    | false => exact tornD ho.symm (ent_ren [(0, .blk 0)] rfl rfl rfl rfl (Nat.le_refl _) ⟨⟨_, rfl, rfl⟩, trivial⟩ trivial ⟨⟨Up.true, fun _ _ => trivial⟩, trivial⟩)
    | true =>
      refine ⟨_, rfl, okD ⟨DD.mk k p nm (TT.mk tk tn tnm tla tlc tls taa tac tus) (TT.mk bk bn bnm bla blc bls baa bac bus) fx B cp cts, ra5, rc5⟩ ho.symm hdm ?_⟩
      exact ent_ren [(0, .blk 0)] rfl rfl rfl rfl (Nat.le_refl _) ⟨⟨_, rfl, rfl⟩, trivial⟩ ⟨⟨_, rfl, rfl⟩, trivial⟩ ⟨⟨(BtIn.up _ _ _).and (DDIn.up _), fun w h => ⟨h.2.2.2.1.2.1, hin ⟨h.2.2.1, h.2.2.2.1, trivial⟩⟩⟩, trivial⟩
  · have hv := valued_pc (k : Int)
    obtain ⟨bv, hbv⟩ : ∃ b, valB (k : Int) = b := ⟨_, rfl⟩
    have hv : PCall Tryz.prog 52 [.int .i64 (k : Int)] (fun _ => True) (fun r => r = .bool bv) (fun _ _ => True) := by rw [← hbv]; exact hv
    have hw5 := whole_lc ra3 rc3 l4 left4 hB4
    have hby5 := byte_lc ra3 rc3 l4 left4 16 hB4
    obtain ⟨o5, h5⟩ : ∃ o5, rdWhole l4 = o5 := ⟨_, rfl⟩
    rw [h5] at hw5
    refine svc_ok tabOk [12] _ _ _ ?_
    refine callVC_plain hv (fun _ => rfl) (fun _ _ => trivial) ?_
    rintro v rfl
    cases bv with
    | true =>
      cases o5 with
      | none =>
        refine callVC_lend [0] hw5 rfl ⟨rfl, trivial⟩ rfl rfl (fun w h => ⟨h.2.1.1, h.2.1.2.1⟩) (fun _ _ => ⟨rfl, rfl⟩) (fun _ _ => ?_)
        exact tornD (hrn (by simp only [rdRest, hbv, h5])) (ent_ren [(0, .blk 0)] rfl rfl rfl rfl (Nat.le_refl _) ⟨⟨_, rfl, rfl⟩, trivial⟩ trivial ⟨⟨Up.true, fun _ _ => trivial⟩, trivial⟩)
      | some q =>
      obtain ⟨tv, left6, l6⟩ := q
      refine callVC_lend [0] hw5 rfl ⟨rfl, trivial⟩ rfl rfl (fun w h => ⟨h.2.1.1, h.2.1.2.1⟩) (fun x _ => ?_) (fun x5 hx5 => ?_)
      · obtain ⟨⟨tk, tn, tnm, tla, tlc, tls, taa, tac, tus⟩, ra3, rc3⟩ := x
        exact ⟨rfl, rfl⟩
      have hx5 : x5.tt.tm = tv := hx5
      obtain ⟨⟨uk, un, unm, ula, ulc, uls, uaa, uac, uus⟩, ra4, rc4⟩ := x5
      have hx5 : (TT.mk uk un unm ula ulc uls uaa uac uus).tm = tv := hx5
      refine ⟨⟨(TT.mk tk tn tnm tla tlc tls taa tac tus), (TT.mk uk un unm ula ulc uls uaa uac uus), 0, [], left6, l6, ra4, rc4⟩, ⟨by simp only [rdRest, hbv, h5, hx5, List.map_nil], rfl, fun c hc => (by cases hc), Nat.zero_le _, i64_0⟩, Ent.trans ?_ (ent_D0 rfl)⟩
      exact ent_ren [(2, .blk 2), (1, .blk 1), (0, .blk 0)] rfl rfl rfl rfl (Nat.le_of_ble_eq_true rfl) ⟨⟨_, rfl, rfl⟩, ⟨_, rfl, rfl⟩, ⟨_, rfl, rfl⟩, trivial⟩ ⟨⟨_, rfl, rfl⟩, ⟨_, rfl, rfl⟩, ⟨_, rfl, rfl⟩, trivial⟩ ⟨⟨ePre.upS _, fun w h => ⟨h.2.2.1.1, h.1.1, h.2.2.1.2.2.1, h.1.2, fun c hc => (by cases hc)⟩⟩, trivial⟩
    | false =>
    refine bsplit_i (fun g => ?_) (fun g => ?_)
    rotate_left
    · have g : decide ((k : Int) = 4) = false := g
      refine ⟨⟨(TT.mk tk tn tnm tla tlc tls taa tac tus), zeroT, 0, [], left4, l4, ra3, rc3⟩, ⟨by simp only [rdRest, hbv, g, zeroT_tm, List.map_nil], rfl, fun c hc => (by cases hc), Nat.zero_le _, i64_0⟩, Ent.trans ?_ (ent_D0 rfl)⟩
      exact ent_ren [(2, .blk 2), (1, .blk 1), (0, .blk 0)] rfl rfl rfl rfl (Nat.le_of_ble_eq_true rfl) ⟨⟨_, rfl, rfl⟩, ⟨_, rfl, rfl⟩, ⟨_, rfl, rfl⟩, trivial⟩ ⟨⟨_, rfl, rfl⟩, ⟨_, rfl, rfl⟩, ⟨_, rfl, rfl⟩, trivial⟩ ⟨⟨ePre.upS _, fun w h => ⟨h.2.1.1, h.2.1.2.1, h.2.1.2.2.1, zeroT_in _, fun c hc => (by cases hc)⟩⟩, trivial⟩
    have g : decide ((k : Int) = 4) = true := g
    cases h6 : rdByte 16 l4 with
    | none =>
      rw [h6] at hby5
      refine callVC_lend [0] hby5 rfl ⟨rfl, trivial⟩ rfl rfl (fun w h => h.2.1.2.1) (fun _ _ => ⟨rfl, rfl⟩) (fun _ _ => ?_)
      exact tornD (hrn (by simp only [rdRest, hbv, g, h6])) (ent_ren [(0, .blk 0)] rfl rfl rfl rfl (Nat.le_refl _) ⟨⟨_, rfl, rfl⟩, trivial⟩ trivial ⟨⟨Up.true, fun _ _ => trivial⟩, trivial⟩)
    | some q =>
    obtain ⟨fx, l6⟩ := q
    rw [h6] at hby5
    obtain ⟨hs6, hfx⟩ := rdByte_sub h6
    have hB6 := hs6.bytes hB4
    refine callVC_lend [0] hby5 rfl ⟨rfl, trivial⟩ rfl rfl (fun w h => h.2.1.2.1) (fun _ _ => ⟨rfl, rfl⟩) (fun x6 _ => ?_)
    have hby7 := byte_lc x6.1 x6.2 l6 left4 8 hB6
    cases h7 : rdByte 8 l6 with
    | none =>
      rw [h7] at hby7
      refine callVC_lend [0] hby7 rfl ⟨rfl, trivial⟩ rfl rfl (fun w h => h.1) (fun _ _ => ⟨rfl, rfl⟩) (fun _ _ => ?_)
      exact tornD (hrn (by simp only [rdRest, hbv, g, h6, h7])) (ent_ren [(0, .blk 0)] rfl rfl rfl rfl (Nat.le_refl _) ⟨⟨_, rfl, rfl⟩, trivial⟩ trivial ⟨⟨Up.true, fun _ _ => trivial⟩, trivial⟩)
    | some q =>
    obtain ⟨m, l7⟩ := q
    rw [h7] at hby7
    obtain ⟨hs7, hm8⟩ := rdByte_sub h7
    have hB7 := hs7.bytes hB6
    refine callVC_lend [0] hby7 rfl ⟨rfl, trivial⟩ rfl rfl (fun w h => h.1) (fun _ _ => ⟨rfl, rfl⟩) (fun x7 _ => ?_)
    have hrest : rdRest k left4 l4 = (match rdCts m left4 l7 with | none => none | some (cs, left, l) => some (⟨zeroTm, fx, cs⟩, left, l)) := by
      simp only [rdRest, hbv, g, h6, h7]
      all_goals (cases rdCts m left4 l7 <;> rfl)
    refine ⟨⟨CX, fun y => y.cts.length ≤ m ∧ Bytes y.l ∧ (∀ c ∈ y.cts, c.1.size ≤ 32) ∧ rdCts m left4 l7 = (match rdCts (m - y.cts.length) y.left y.l with | none => none | some (us, a, b) => some (y.cts.map ctM ++ us, a, b)),
      stC k p nm (TT.mk tk tn tnm tla tlc tls taa tac tus) fx m, fun y => m - y.cts.length, ⟨⟨[], left4, l7, x7.1, x7.2⟩, ⟨Nat.zero_le _, hB7, fun c hc => (by cases hc), ?_⟩, ?_⟩, ?_⟩⟩
    · simp only [List.length_nil, Nat.sub_zero, List.map_nil, List.nil_append]
      cases rdCts m left4 l7 <;> rfl
    · refine Ent.trans (ent_freshC 2 75 6 (dRow k p nm (TT.mk tk tn tnm tla tlc tls taa tac tus) zeroT fx (.row 3)) rfl (fun e he => ?_) (fun _ => ?_)) ?_
      · have h0 : (SA.row 3).real e = (SA.v (.slice none 0 0)).real e := he
        simp only [dRow, reals, List.map_cons, List.map_append, List.map_nil, h0]
        rfl
      · intro c hc
        simp only [dRow, List.mem_cons, List.mem_append, List.not_mem_nil, or_false] at hc
        rcases hc with rfl | rfl | rfl | hc | hc | rfl | rfl
        · rfl
        · rfl
        · rfl
        · exact map_one (TT.cells_one _) _ c hc
        · exact map_one (TT.cells_one _) _ c hc
        · rfl
        · exact Nat.lt_succ_self _
      exact ent_ren [(3, .own 3), (2, .blk 2), (1, .blk 1), (0, .blk 0)] rfl rfl rfl rfl (Nat.le_of_ble_eq_true rfl) ⟨⟨_, rfl, rfl⟩, ⟨_, rfl, rfl⟩, ⟨_, rfl, rfl⟩, ⟨_, rfl, rfl⟩, ⟨_, rfl, rfl⟩, trivial⟩ ⟨⟨_, rfl, rfl⟩, ⟨_, rfl, rfl⟩, ⟨_, rfl, rfl⟩, ⟨_, _, rfl, rfl, rfl⟩, trivial⟩ ⟨⟨cPreD.upS _ _, fun w h => ⟨h.2.2.2.1.1, h.1, h.2.2.2.1.2.2.1, fun c hc => (by cases hc)⟩⟩, trivial⟩
    rintro ⟨cts, left8, l8, ra8, rc8⟩ ⟨hy1, hy2, hy3, hy4⟩
    simp only at hy1 hy2 hy3 hy4
    refine bsplit_i (fun hlt => ?_) (fun hge => ?_)
    rotate_left
    · have hge : m = cts.length := by
        have h : decide ((cts.length : Int) < (m : Int)) = false := hge
        have := of_decide_eq_false h
        omega
      rw [← hge, Nat.sub_self, rdCts] at hy4
      simp only [List.append_nil] at hy4
      rw [hy4] at hrest
      refine ⟨⟨(TT.mk tk tn tnm tla tlc tls taa tac tus), zeroT, fx, cts, left8, l8, ra8, rc8⟩, ⟨by rw [hrest, zeroT_tm], rfl, hy3, by simp only; omega, ⟨by show _ ≤ ((fx : Nat) : Int); omega, by show ((fx : Nat) : Int) ≤ _; omega⟩⟩, ?_⟩
      exact ent_ren [(3, .own 3), (2, .blk 2), (1, .blk 1), (0, .blk 0)] rfl rfl rfl rfl (Nat.le_of_ble_eq_true rfl) ⟨⟨_, rfl, rfl⟩, ⟨_, rfl, rfl⟩, ⟨_, rfl, rfl⟩, trivial⟩ ⟨⟨_, rfl, rfl⟩, ⟨_, rfl, rfl⟩, ⟨_, rfl, rfl⟩, ⟨_, _, rfl, rfl, rfl⟩, trivial⟩ ⟨⟨ePre.upS _, fun w h => ⟨h.1.1, h.1.2.1, h.1.2.2.1, zeroT_in _, h.1.2.2.2⟩⟩, trivial⟩
    have hlt : cts.length < m := by
      have h : decide ((cts.length : Int) < (m : Int)) = true := hlt
      have := of_decide_eq_true h
      omega
    obtain ⟨m', hm'⟩ : ∃ m', m - cts.length = m' + 1 := ⟨m - cts.length - 1, by omega⟩
    rw [hm', rdCts] at hy4
    have hnm := name_lc ra8 rc8 l8 left8 hy2
    cases h8 : rdName l8 with
    | none =>
      rw [h8] at hnm hy4
      refine callVC_lend [0] hnm rfl ⟨rfl, trivial⟩ rfl rfl (fun w h => ⟨h.1.1, h.1.2.1⟩) (fun _ _ => ⟨rfl, rfl⟩) (fun _ _ => ?_)
      exact tornD (hrn (by rw [hrest, hy4])) (ent_ren [(0, .blk 0)] rfl rfl rfl rfl (Nat.le_refl _) ⟨⟨_, rfl, rfl⟩, trivial⟩ trivial ⟨⟨Up.true, fun _ _ => trivial⟩, trivial⟩)
    | some q =>
    obtain ⟨sn, l9⟩ := q
    rw [h8] at hnm hy4
    simp only at hy4
    obtain ⟨hs8, hsn⟩ := rdName_some h8
    have hB9 := hs8.bytes hy2
    refine callVC_lend [0] hnm rfl ⟨rfl, trivial⟩ rfl rfl (fun w h => ⟨h.1.1, h.1.2.1⟩) (fun _ _ => ⟨rfl, rfl⟩) (fun x9 _ => ?_)
    refine Walks.ent (st' := stC2 k p nm (TT.mk tk tn tnm tla tlc tls taa tac tus) fx m ⟨cts, left8, l9, x9.1, x9.2⟩ sn) ?_ ?_
    · exact ent_ren [(3, .own 3), (2, .blk 2), (1, .blk 1), (0, .blk 0)] rfl rfl rfl rfl (Nat.le_of_ble_eq_true rfl) ⟨⟨_, rfl, rfl⟩, ⟨_, rfl, rfl⟩, ⟨_, rfl, rfl⟩, ⟨_, rfl, rfl⟩, ⟨_, rfl, rfl⟩, ⟨_, rfl, rfl⟩, trivial⟩ ⟨⟨_, rfl, rfl⟩, ⟨_, rfl, rfl⟩, ⟨_, rfl, rfl⟩, ⟨_, _, rfl, rfl, rfl⟩, trivial⟩ ⟨⟨cPreD.upS _ _, fun w h => ⟨h.2.1.1, h.1, h.2.1.2.2.1, h.2.1.2.2.2⟩⟩, trivial⟩
    have hw9 := whole_lc x9.1 x9.2 l9 left8 hB9
    obtain ⟨o9, h9⟩ : ∃ o9, rdWhole l9 = o9 := ⟨_, rfl⟩
    rw [h9] at hw9 hy4
    refine svc_ok tabOk [] _ _ _ ?_
    refine .inr ⟨[0, 1, 0, 0, 8, 28, 60, 127, 255, 511], [4, 5, 6, 7, 9], [(0, { dst := some 37, v := .one (.p 2 14), p := none, f := none }), (1, { dst := some 38, v := .one (.row 3), p := none, f := none }), (2, { dst := some 39, v := .one (.v (.string sn)), p := none, f := none }), (3, { dst := some 40, v := .one (.p 0 0), p := none, f := none }), (8, { dst := some 45, v := .one (.p 2 14), p := none, f := none })], by kernel_rfl, rfl, by kernel_rfl, by kernel_rfl, rfl, rfl, rfl, rfl, ?_⟩
    refine cgo_go (stC2 k p nm (TT.mk tk tn tnm tla tlc tls taa tac tus) fx m ⟨cts, left8, l9, x9.1, x9.2⟩ sn) [4] rfl (by kernel_rfl) (by kernel_rfl) ⟨⟨rfl, rfl⟩, ⟨rfl, rfl⟩, ⟨rfl, rfl⟩, ⟨rfl, rfl⟩, ⟨rfl, rfl⟩, trivial⟩ ⟨?_, trivial⟩
    refine ⟨_, rfl, rfl, _, rfl, ?_⟩
    cases o9 with
    | none =>
      refine callVC_lend [0] hw9 rfl ⟨rfl, trivial⟩ rfl rfl (fun w h => ⟨h.1.1, h.1.2.1⟩) (fun _ _ => ⟨rfl, rfl⟩) (fun _ _ => ?_)
      exact tornD (hrn (by rw [hrest, hy4])) (ent_ren [(0, .blk 0)] rfl rfl rfl rfl (Nat.le_refl _) ⟨⟨_, rfl, rfl⟩, trivial⟩ trivial ⟨⟨Up.true, fun _ _ => trivial⟩, trivial⟩)
    | some q =>
    obtain ⟨tc, left10, l10⟩ := q
    simp only at hy4
    have hB10 := (rdWhole_some h9).1.bytes hB9
    refine callVC_lend [0] hw9 rfl ⟨rfl, trivial⟩ rfl rfl (fun w h => ⟨h.1.1, h.1.2.1⟩) (fun x _ => ?_) (fun x10 hx10 => ?_)
    · obtain ⟨⟨tk, tn, tnm, tla, tlc, tls, taa, tac, tus⟩, ra3, rc3⟩ := x
      exact ⟨rfl, rfl⟩
    have hx10 : x10.tt.tm = tc := hx10
    obtain ⟨⟨uk, un, unm, ula, ulc, uls, uaa, uac, uus⟩, ra4, rc4⟩ := x10
    have hx10 : (TT.mk uk un unm ula ulc uls uaa uac uus).tm = tc := hx10
    refine cgo_go { s := (41, ttA (TT.mk uk un unm ula ulc uls uaa uac uus)) :: [(0, .one (.p 0 0)), (2, .one (.p 1 0)), (3, .one (.p 2 0)), (4, .one (.v (.string sn))), (32, .one (.v (.int .i64 (m : Int)))), (33, .one (.v (.int .i64 (cts.length : Int))))], m := (0, rM ra4 rc4 l10 left10) :: (0, .dead) :: [(0, rM x9.1 x9.2 l9 left8), (1, .cells 38 zero15), (2, .cells 38 (dRow k p nm (TT.mk tk tn tnm tla tlc tls taa tac tus) zeroT fx (.row 3))), (3, .own 75 6 cts.length (ctsC cts))], k := 4, f := [fun w => BtIn w ra4 rc4 l10 ∧ TTIn w (TT.mk uk un unm ula ulc uls uaa uac uus), cPreD (TT.mk tk tn tnm tla tlc tls taa tac tus) ⟨cts, left8, l9, x9.1, x9.2⟩], b := 1 } [5] rfl (by kernel_rfl) (by kernel_rfl) ⟨⟨rfl, rfl⟩, ⟨rfl, rfl⟩, ⟨rfl, rfl⟩, ⟨rfl, trivial⟩, ⟨rfl, rfl⟩, trivial⟩ ⟨?_, trivial⟩
    refine ⟨_, rfl, rfl, _, rfl, ?_⟩
    refine cgo_go { s := (42, .agg ((ctCells (sn, (TT.mk uk un unm ula ulc uls uaa uac uus))).map SA.v)) :: (41, ttA (TT.mk uk un unm ula ulc uls uaa uac uus)) :: [(0, .one (.p 0 0)), (2, .one (.p 1 0)), (3, .one (.p 2 0)), (4, .one (.v (.string sn))), (32, .one (.v (.int .i64 (m : Int)))), (33, .one (.v (.int .i64 (cts.length : Int))))], m := (0, rM ra4 rc4 l10 left10) :: (0, .dead) :: [(0, rM x9.1 x9.2 l9 left8), (1, .cells 38 zero15), (2, .cells 38 (dRow k p nm (TT.mk tk tn tnm tla tlc tls taa tac tus) zeroT fx (.row 3))), (3, .own 75 6 cts.length (ctsC cts))], k := 4, f := [fun w => BtIn w ra4 rc4 l10 ∧ TTIn w (TT.mk uk un unm ula ulc uls uaa uac uus), cPreD (TT.mk tk tn tnm tla tlc tls taa tac tus) ⟨cts, left8, l9, x9.1, x9.2⟩], b := 1 } [6] rfl (by kernel_rfl) (by kernel_rfl) ⟨⟨rfl, rfl⟩, ⟨rfl, rfl⟩, ⟨rfl, trivial⟩, ⟨rfl, trivial⟩, ⟨rfl, rfl⟩, trivial⟩ ⟨?_, trivial⟩
    refine ⟨_, rfl, rfl, _, rfl, ?_⟩
    refine cgo_go { s := (43, .one (.sl 4 0 1 1)) :: (42, .agg ((ctCells (sn, (TT.mk uk un unm ula ulc uls uaa uac uus))).map SA.v)) :: (41, ttA (TT.mk uk un unm ula ulc uls uaa uac uus)) :: [(0, .one (.p 0 0)), (2, .one (.p 1 0)), (3, .one (.p 2 0)), (4, .one (.v (.string sn))), (32, .one (.v (.int .i64 (m : Int)))), (33, .one (.v (.int .i64 (cts.length : Int))))], m := (4, .cells 75 ((ctCells (sn, (TT.mk uk un unm ula ulc uls uaa uac uus))).map SA.v)) :: (0, rM ra4 rc4 l10 left10) :: (0, .dead) :: [(0, rM x9.1 x9.2 l9 left8), (1, .cells 38 zero15), (2, .cells 38 (dRow k p nm (TT.mk tk tn tnm tla tlc tls taa tac tus) zeroT fx (.row 3))), (3, .own 75 6 cts.length (ctsC cts))], k := 5, f := [fun w => BtIn w ra4 rc4 l10 ∧ TTIn w (TT.mk uk un unm ula ulc uls uaa uac uus), cPreD (TT.mk tk tn tnm tla tlc tls taa tac tus) ⟨cts, left8, l9, x9.1, x9.2⟩], b := 1 } [7] rfl (by kernel_rfl) (by kernel_rfl) ⟨⟨rfl, rfl⟩, ⟨rfl, rfl⟩, ⟨rfl, trivial⟩, ⟨rfl, trivial⟩, ⟨rfl, rfl⟩, trivial⟩ ⟨?_, trivial⟩
    refine ⟨_, rfl, rfl, _, rfl, ?_⟩
    refine ⟨{}, ⟨trivial, by decide, .inr rfl, ?_, ?_⟩, ?_⟩
    · show cts.length + 1 ≤ maxLen
      simp only [maxLen]; omega
    · show (cts.length + 1) * _ ≤ 140737488355328
      refine Nat.le_trans (Nat.mul_le_mul_right _ (show cts.length + 1 ≤ 256 by omega)) (by decide)
    refine cgo_go { s := (44, .one (.row 5)) :: (43, .one (.sl 4 0 1 1)) :: (42, .agg ((ctCells (sn, (TT.mk uk un unm ula ulc uls uaa uac uus))).map SA.v)) :: (41, ttA (TT.mk uk un unm ula ulc uls uaa uac uus)) :: [(0, .one (.p 0 0)), (2, .one (.p 1 0)), (3, .one (.p 2 0)), (4, .one (.v (.string sn))), (32, .one (.v (.int .i64 (m : Int)))), (33, .one (.v (.int .i64 (cts.length : Int))))], m := (5, .own 75 6 (cts.length + 1) (ctsC cts ++ ctCells (sn, (TT.mk uk un unm ula ulc uls uaa uac uus)))) :: (3, .dead) :: (4, .cells 75 ((ctCells (sn, (TT.mk uk un unm ula ulc uls uaa uac uus))).map SA.v)) :: (0, rM ra4 rc4 l10 left10) :: (0, .dead) :: [(0, rM x9.1 x9.2 l9 left8), (1, .cells 38 zero15), (2, .cells 38 (dRow k p nm (TT.mk tk tn tnm tla tlc tls taa tac tus) zeroT fx (.row 3))), (3, .own 75 6 cts.length (ctsC cts))], k := 6, f := [fun w => BtIn w ra4 rc4 l10 ∧ TTIn w (TT.mk uk un unm ula ulc uls uaa uac uus), cPreD (TT.mk tk tn tnm tla tlc tls taa tac tus) ⟨cts, left8, l9, x9.1, x9.2⟩], b := 1 } [9] rfl (by kernel_rfl) (by kernel_rfl) ⟨⟨rfl, trivial⟩, ⟨rfl, trivial⟩, ⟨rfl, trivial⟩, ⟨rfl, trivial⟩, ⟨rfl, rfl⟩, trivial⟩ ⟨?_, trivial⟩
    refine ⟨_, rfl, rfl, _, rfl, ?_⟩
    refine cgo_end _ rfl (by kernel_rfl) ⟨⟨rfl, trivial⟩, ⟨rfl, trivial⟩, ⟨rfl, trivial⟩, ⟨rfl, trivial⟩, ⟨rfl, trivial⟩, trivial⟩ ?_
    refine ⟨⟨cts ++ [(sn, (TT.mk uk un unm ula ulc uls uaa uac uus))], left10, l10, ra4, rc4⟩, ⟨by simp only [List.length_append, List.length_singleton]; omega, hB10, fun c hc => ?_, ?_⟩, by simp only [List.length_append, List.length_singleton]; omega, ?_⟩
    · rcases List.mem_append.1 hc with hc | hc
      · exact hy3 c hc
      · rw [List.mem_singleton.1 hc]
        exact word_size hsn
    · simp only [List.length_append, List.length_singleton, List.map_append, List.map_cons, List.map_nil, List.append_assoc, List.cons_append, List.nil_append, ctM, hx10]
      rw [hy4, show m - (cts.length + 1) = m' by omega]
      cases rdCts m' left10 l10 with
      | none => rfl
      | some q => rfl
    · exact ent_ren [(3, .own 5), (2, .blk 2), (1, .blk 1), (0, .blk 0)] rfl rfl rfl rfl (Nat.le_of_ble_eq_true rfl) ⟨⟨_, rfl, rfl⟩, ⟨_, rfl, rfl⟩, ⟨_, rfl, rfl⟩, ⟨_, rfl, rfl⟩, ⟨_, rfl, by simp only [List.length_append, List.length_singleton]; exact oneI (wrapI (by omega) (by omega))⟩, trivial⟩ ⟨⟨_, rfl, rfl⟩, ⟨_, rfl, rfl⟩, ⟨_, rfl, rfl⟩, ⟨_, _, rfl, by simp, by simp [ctsC, ctCells]⟩, trivial⟩ ⟨⟨cPreD.upS _ _, fun w h => ⟨h.2.1.1, h.1.1, h.2.1.2.2.1, fun c hc => by
        rcases List.mem_append.1 hc with hc | hc
        · exact h.2.1.2.2.2 c hc
        · rw [List.mem_singleton.1 hc]
          exact h.1.2⟩⟩, trivial⟩
end Go.Proofs.YtmkpiekbpakigaaGreatDoor
end
section
set_option linter.unusedVariables false
set_option linter.unusedSimpArgs false
namespace Go.Proofs.YtmkpiekbpakigaaGreatDoor
open Go.RowKit Go.Proofs.Base Go.Proofs.Sym
def boxRes (b : Bool) : LRes := { v := .tup [], m := [(0, .cells 4 [.v (.bool b)])], k := 1 }
theorem caught_nil (b : Bool) : LCall Tryz.prog 106 [.one (.v .nilIface), .one (.p 0 0)] [(0, .cells 4 [.v (.bool b)])] 1 (fun _ => True) (fun _ : Unit => True) (fun _ => boxRes b) := by
  refine lcall_of tabOk 18 [] Tryz.func106 rfl rfl (by kernel_rfl) rfl _ (Nat.le_of_ble_eq_true rfl) Up.true ?_
  refine svc_ok tabOk [] _ _ _ ?_
  refine ⟨_, rfl, (), trivial, rfl, ?_⟩
  exact ent_ren [(0, .blk 0)] rfl rfl rfl rfl (Nat.le_refl _) ⟨⟨_, rfl, rfl⟩, trivial⟩ ⟨⟨_, rfl, rfl⟩, trivial⟩ ⟨⟨Up.true, fun _ _ => trivial⟩, trivial⟩
/-- The table with the type of torn. -/
def tab2 : Sym.Tab := { tab with u := (133, .struct #[]) :: tab.u }
theorem tab2Ok : tab2.Ok Tryz.prog := ⟨tabOk.mixed, tabOk.ty, fun p hp => by
    rcases List.mem_cons.1 hp with rfl | hp
    · kernel_rfl
    · exact tabOk.u p hp, tabOk.fld, tabOk.eqs⟩
theorem caught_torn (b : Bool) : LCall Tryz.prog 106 [.one (.v tornV), .one (.p 0 0)] [(0, .cells 4 [.v (.bool b)])] 1 (fun _ => True) (fun _ : Unit => True) (fun _ => boxRes false) := by
  refine lcall_of tab2Ok 18 [] Tryz.func106 rfl rfl (by kernel_rfl) rfl _ (Nat.le_of_ble_eq_true rfl) Up.true ?_
  refine svc_ok tab2Ok [] _ _ _ ?_
  refine ⟨_, rfl, (), trivial, rfl, ?_⟩
  exact ent_ren [(0, .blk 0)] rfl rfl rfl rfl (Nat.le_refl _) ⟨⟨_, rfl, rfl⟩, trivial⟩ ⟨⟨_, rfl, rfl⟩, trivial⟩ ⟨⟨Up.true, fun _ _ => trivial⟩, trivial⟩
def cloneR (l : List Nat) (r : Value) : Prop := ∃ A c, r = .slice A l.length c
def cloneP (l : List Nat) (r : Value) (w : World) : Prop := ∀ A c, r = .slice A l.length c → BtIn w A c l
theorem cloneP.upS (l : List Nat) (r : Value) : Up (cloneP l r) := Up.all fun A => Up.all fun c => Up.imp (BtIn.up A c l)
theorem clone_pc (A : Option Addr) (c : Nat) (l : List Nat) (hl : l.length ≤ 140737488355328) : PCall Tryz.prog 107 [.slice A l.length c] (fun w => BtIn w A c l) (cloneR l) (cloneP l) := by
  by_cases hn : A.isNone = true ∧ l.length ≠ 0
  · refine ⟨enters Tryz.func107 (by kernel_rfl) (by kernel_rfl), cloneP.upS l, fun w H hH hp => ?_⟩
    have hp : BtIn (hide H w) A c l := hp
    cases A with
    | none => exact absurd (hp.nil rfl).1 hn.2
    | some a => cases hn.1
  refine pcall_of tabOk 8 [.tmp 2] Tryz.func107 rfl rfl (by kernel_rfl) rfl _ (Nat.le_of_ble_eq_true rfl) (BtIn.up _ _ _) (cloneP.upS l) ?_
  refine svc_ok tabOk [] _ _ _ ?_
  refine bsplit_i (fun h => ?_) (fun h => ?_)
  · have h : A.isNone = true := h
    have h0 : l.length = 0 := Classical.byContradiction fun hne => hn ⟨h, hne⟩
    refine ⟨_, rfl, ⟨fun cx e w hG hm => ⟨⟨none, 0, by rw [h0]; rfl⟩, fun B d hB => ?_⟩⟩⟩
    have hl0 : l = [] := List.eq_nil_of_length_eq_zero h0
    subst hl0
    cases hB
    exact ⟨SlAt.nil _ _, fun _ => ⟨rfl, rfl⟩, Nat.le_refl _, Nat.zero_le _⟩
  · refine ⟨{ cs := bc l }, ⟨⟨by rw [bc_len]; exact (Nat.mul_one _).symm, ?_, ?_, fun w h => h.1.cells⟩, Nat.one_pos, .inr rfl, ?_, ?_⟩, ?_⟩
    · intro u hu
      obtain ⟨q, _, rfl⟩ := List.mem_map.1 hu
      rfl
    · intro hA
      have h : A.isNone = false := h
      rw [hA] at h
      cases h
    · show 0 + l.length ≤ maxLen
      simp only [maxLen]; omega
    · show (0 + l.length) * 1 ≤ _
      omega
    refine ⟨_, rfl, ⟨fun cx e w hG hm => ?_⟩⟩
    obtain ⟨B, d, hv, g1, g2, g3, g4⟩ := hm.told_row hG (i := 1) rfl
    have hv : e.rv 1 = .slice B (0 + l.length) d := hv
    have g1 : B = none → 0 + l.length = 0 ∧ d = 0 := g1
    have g2 : 0 + l.length ≤ d := g2
    rw [Nat.zero_add] at hv g1 g2
    refine ⟨⟨B, d, hv⟩, fun B' d' hB => ?_⟩
    have hB : e.rv 1 = .slice B' l.length d' := hB
    rw [hv] at hB
    cases hB
    exact ⟨by simpa using g4, g1, g2, g3⟩
end Go.Proofs.YtmkpiekbpakigaaGreatDoor
end
section
set_option linter.unusedVariables false
set_option linter.unusedSimpArgs false
namespace Go.Proofs.YtmkpiekbpakigaaGreatDoor
open Go.RowKit Go.Proofs.Base Go.Proofs.Sym
theorem enters107 (args : Array Value) (w : World) : (callFunc 106 args).run Tryz.prog w = .ok (.enter 106 args) w := enters_of Tryz.func106 (by kernel_rfl) rfl args w
theorem enters106 (args : Array Value) (w : World) : (callFunc 105 args).run Tryz.prog w = .ok (.enter 105 args) w := enters_of Tryz.func105 (by kernel_rfl) rfl args w
theorem taken1_idle (ptr : Value) (w : World) (R : World → Prop) (h : Calls Tryz.prog 106 #[.nilIface, ptr] w fun en w' => (∃ v, en = .returned v) ∧ R w') :
    CallsD Tryz.prog 105 #[ptr] .returning w fun e u' w' => (∃ v, e = .returned v) ∧ u' = .returning ∧ R w' := by
  refine callsD_of_wpS Tryz.func105 rfl fun c₀ cs hu => ?_
  apply wpS_region
  simp [wpOpsS, go_sem, recoverD, hu, Tryz.ntmps105, enters107, Oper.upon]
  refine h.mono ?_
  rintro en w' ⟨⟨v, rfl⟩, hR⟩
  cases c₀
  simp_all [bodyPostS, results, Tryz.results105, wpOpsS]
theorem taken1_torn (ptr : Value) (w : World) (R : World → Prop) (h : Calls Tryz.prog 106 #[tornV, ptr] w fun en w' => (∃ v, en = .returned v) ∧ R w') :
    CallsD Tryz.prog 105 #[ptr] (.panicking [{ v := tornV, recovered := false }]) w fun e u' w' => (∃ v, e = .returned v) ∧ u' = .panicking [{ v := tornV, recovered := true }] ∧ R w' := by
  refine callsD_of_wpS Tryz.func105 rfl fun c₀ cs hu => ?_
  apply wpS_region
  unfold tornV at hu h ⊢
  simp [wpOpsS, go_sem, recoverD, hu, Tryz.ntmps105, enters107, Oper.upon]
  refine h.mono ?_
  rintro en w' ⟨⟨v, rfl⟩, hR⟩
  simp_all [bodyPostS, results, Tryz.results105, wpOpsS]
/-- The end of such a function, the deferred call done. -/
def tEnd {X : Type} (ok : X → Prop) (ret : X → LRes) (st : St) : Prop := ∃ v, resOf tab st [.tmp 4, .cell 5 4] = some v ∧ ∃ x, ok x ∧ (ret x).ch = none ∧ EntR st v (ret x)
def tK {X : Type} (ok : X → Prop) (ret : X → LRes) : Exit → St → Prop
  | .ret, st => CallVC Tryz.prog 106 [.one (.v .nilIface), .one (.p 1 0)] st (fun _ st' => tEnd ok ret st') (fun _ _ => False)
  | .panic ch, st => ch = [{ v := tornV, recovered := false }] ∧ CallVC Tryz.prog 106 [.one (.v tornV), .one (.p 1 0)] st (fun _ st' => tEnd ok ret st') (fun _ _ => False)
  | _, _ => False
theorem tEnd_run {X : Type} {ok : X → Prop} {ret : X → LRes} {cx : Cx} {e : Env} {st : St} {a : Act} {w : World} (hn : cx.n = 19) {b : Nat} (h : tEnd ok ret st) (hS : Sat cx e st a w) (cx0 : Cx) (h0 : cx0.w0 = cx.w0) (hG : cx0.G = cx.G) (hH : cx0.H = cx.H) (hn0 : cx0.n0 ≤ cx.n0) (hids : ∀ i, i < cx0.n0 → cx.e0.blk i = cx0.e0.blk i) :
    ∃ v, (results Tryz.f62 a.tmps).run Tryz.prog w = .ok v w ∧ ∃ e' x, ok x ∧ Ending.returned v = (ret x).en e' ∧ (ret x).v.lt (ret x).k ∧ Mem cx0 e' (ret x).m (ret x).k [(ret x).F] w := by
  obtain ⟨v, hv, x, hx, hch, hE⟩ := h
  have hr := resOf_ok (fn := Tryz.f62) tabOk hS (v := v) hv
  have hlt := resOf_lt hS hv
  obtain ⟨e', g1, g2, g3⟩ := entR_run hE hS.mem hS.base hlt
  refine ⟨_, hr, e', x, hx, by unfold LRes.en; rw [hch, g1], g2, ?_⟩
  obtain ⟨w0, G, H, hHw, hGH, e0, n0, n, d⟩ := cx0
  obtain ⟨w0', G', H', hHw', hGH', e0', n0', n', d'⟩ := cx
  simp only at h0 hG hH hn0 hids
  subst h0 hG hH
  exact ⟨g3.fr, fun i hi => (g3.ids i (Nat.lt_of_lt_of_le hi hn0)).trans (hids i hi), Nat.le_trans hn0 g3.low, g3.cells, g3.own, g3.sc, g3.free, g3.apart, g3.up, g3.facts⟩
/-- code.taken (59), of its walk behind the deferral. -/
theorem taken_of {t : TypeId} {cs : List SA} {pre : World → Prop} {X : Type} {ok : X → Prop} {ret : X → LRes} (hpre : Up pre) (A : SV) (Bv : SV)
    (h2 : ∀ c2, Tryz.f62.body.map (fun c => match c with | .seq _ (.seq _ c2) => c2 | _ => .skip) = some c2 → Walks Tryz.prog 19 c2 (tK ok ret) { s := [(7, .one (.fn 105 [] [.p 1])), (5, .one (.p 1 0)), (4, .one (.v (.slice none 0 0))), (0, A), (1, Bv)], m := [(1, .cells 4 [.v (.bool false)]), (0, .cells t cs)], k := 2, f := [pre], b := 2 }) :
    LCall Tryz.prog 62 [A, Bv] [(0, .cells t cs)] 1 pre ok ret := by
  refine ⟨hpre, fun cx e w hw0 hn0 he0 hm hlt => ⟨⟨_, Tryz.func62, by kernel_rfl, rfl⟩, calls_of_wp_defers Tryz.func62 rfl ?_⟩⟩
  have hc2 := h2 _ rfl
  have hm1 : Mem { cx with n := 19, d := [] } e [(0, .cells t cs)] 1 [pre] w := ⟨hm.fr, hm.ids, hm.low, hm.cells, hm.own, hm.sc, hm.free, hm.apart, hm.up, hm.facts⟩
  have hS0 : Sat { cx with n := 19, d := [] } e { s := [(0, A), (1, Bv)], m := [(0, .cells t cs)], k := 1, f := [pre], b := 1 } { tmps := ([A, Bv].map (SV.real e)).toArray ++ Array.replicate (19 - ([A, Bv].map (SV.real e)).toArray.size) undef, defers := [] } w := by
    refine ⟨hn0, by simp, rfl, fun i v hi => ?_, hm1⟩
    rcases get_cons hi with ⟨rfl, rfl⟩ | ⟨hne, hi⟩
    · exact ⟨hlt _ (by simp), by simp⟩
    · rcases get_cons hi with ⟨rfl, rfl⟩ | ⟨_, hi⟩
      · exact ⟨hlt _ (by simp), by simp⟩
      · cases hi
  refine wp_seq (wp_mono ((svc_ok tabOk [] _ (fun ex st' => match ex with | .normal => Ent st' { s := [(5, .one (.p 1 0)), (4, .one (.v (.slice none 0 0))), (0, A), (1, Bv)], m := [(1, .cells 4 [.v (.bool false)]), (0, .cells t cs)], k := 2, f := [pre], b := 1 } | _ => False) _ ?_).run _ e _ w rfl hS0) ?_)
  · exact ⟨fun cx e a w hS => ⟨e, hS⟩⟩
  rintro ex a1 w1 ⟨e1, st1, hK, hS1⟩
  cases ex with
  | normal =>
    obtain ⟨e1, hS1⟩ := hK.run _ _ _ _ hS1
    -- the closure, and its deferral
    refine wp_seq (wp_region_list (wpList_step fun next hnext => ?_))
    rw [if_pos (wanted_none rfl _)]
    have hsig := sig_ok (o := { dst := some 7, op := .makeFunc (.func 105) #[] #[.tmp 5], type := 1, pos := "code.go:274", after := #[], guard := none }) tabOk hS1
    have hsig : _ ∧ _ := hsig
    obtain ⟨hl1, hx1⟩ := hsig
    have hS2 := sat_put hS1 (Env.eqTo.refl _ _) (Nat.le_refl _) rfl rfl hl1 hS1.mem (some 7)
    unfold Oper.wp
    rw [hx1]
    refine hnext _ _ (wpList_step fun next2 hnext2 => ?_)
    rw [if_pos (wanted_none rfl _)]
    have h7 : (a1.put (some 7) (SV.real e1 (SV.one (SA.fn 105 [] [Cap.p 1])))).eval (.tmp 7) = .func (.func 105) #[] #[.pointer (some ⟨e1.blk 1, 0, none⟩)] := (hS2.ev (x := .tmp 7) (v := .one (.fn 105 [] [.p 1])) rfl).2
    generalize hga : a1.put (some 7) (SV.real e1 (SV.one (SA.fn 105 [] [Cap.p 1]))) = a2 at h7 hS2
    have hd : (execOp a2.eval { dst := none, op := .defer { callee := .value (.tmp 7), args := #[], argTypes := #[] }, type := 0, pos := "code.go:274", after := #[{ on := 0, ground := .data }], guard := none }).run Tryz.prog w1 = .ok (.defer { target := .fn (.func 105) #[.pointer (some ⟨e1.blk 1, 0, none⟩)], args := #[] }) w1 := by
      simp [execOp, resolve, Deferred.ofValue, h7]
    unfold Oper.wp
    rw [hd]
    refine hnext2 _ _ (wpList_nil ?_)
    obtain ⟨cx2, hcx2⟩ : ∃ cx2 : Cx, cx2 = { w0 := cx.w0, G := cx.G, H := cx.H, hH := cx.hH, hG := cx.hG, e0 := e1, n0 := 2, n := 19, d := [{ target := .fn (.func 105) #[.pointer (some ⟨e1.blk 1, 0, none⟩)], args := #[] }] } := ⟨_, rfl⟩
    have hS3 : Sat cx2 e1 { s := [(7, .one (.fn 105 [] [.p 1])), (5, .one (.p 1 0)), (4, .one (.v (.slice none 0 0))), (0, A), (1, Bv)], m := [(1, .cells 4 [.v (.bool false)]), (0, .cells t cs)], k := 2, f := [pre], b := 2 } { tmps := a2.tmps, defers := { target := .fn (.func 105) #[.pointer (some ⟨e1.blk 1, 0, none⟩)], args := #[] } :: a2.defers } w1 := by
      subst hcx2
      refine ⟨rfl, hS2.size, ?_, hS2.slots, ⟨hS2.mem.fr, fun i _ => rfl, Nat.le_refl _, hS2.mem.cells, hS2.mem.own, hS2.mem.sc, hS2.mem.free, hS2.mem.apart, hS2.mem.up, hS2.mem.facts⟩⟩
      show _ :: a2.defers = _
      rw [hS2.defers]
    refine wp_mono (hc2.run cx2 e1 _ w1 (by rw [hcx2]) hS3) ?_
    have hdf : cx2.d = [{ target := .fn (.func 105) #[.pointer (some ⟨e1.blk 1, 0, none⟩)], args := #[] }] := by rw [hcx2]
    have hinv : ∀ w', (invoke (.fn (.func 105) #[.pointer (some ⟨e1.blk 1, 0, none⟩)]) #[]).run Tryz.prog w' = .ok (.enter 105 #[.pointer (some ⟨e1.blk 1, 0, none⟩)]) w' := fun w' => by
      simp [invoke, enters106]
    have hids1 : ∀ i, i < cx.n0 → cx2.e0.blk i = cx.e0.blk i := fun i hi => by
      have := hS1.mem.ids i hi
      rw [hcx2]
      exact this
    have hfinal : ∀ {e2 : Env} {st2 : St} {a3 : Act} {w3 : World} {x : Value} {u : FrameMode}, Sat cx2 e2 st2 a3 w3 → CallVC Tryz.prog 106 [.one (.v x), .one (.p 1 0)] st2 (fun _ st' => tEnd ok ret st') (fun _ _ => False) → 2 ≤ st2.k →
        Calls Tryz.prog 106 #[x, .pointer (some ⟨e1.blk 1, 0, none⟩)] w3 fun en w4 => (∃ v, en = .returned v) ∧ ∃ v, (results Tryz.f62 a3.tmps).run Tryz.prog w4 = .ok v w4 ∧ ∃ e' y, ok y ∧ Ending.returned v = (ret y).en e' ∧ (ret y).v.lt (ret y).k ∧ Mem cx e' (ret y).m (ret y).k [(ret y).F] w4 := by
      intro e2 st2 a3 w3 x u hS hC hk
      have he1 : e2.blk 1 = e1.blk 1 := by
        have := hS.mem.ids 1 (by rw [hcx2]; show 1 < 2; decide)
        rw [this, hcx2]
      obtain ⟨_, hrun⟩ := hC.run cx2 e2 w3 hS.mem (fun y hy => by
        rcases List.mem_cons.1 hy with rfl | hy
        · trivial
        · rw [List.mem_singleton.1 hy]
          show 1 < st2.k
          omega)
      have hargs : ([SV.one (.v x), SV.one (.p 1 0)].map (SV.real e2)).toArray = #[x, .pointer (some ⟨e1.blk 1, 0, none⟩)] := by
        simp [SV.real, SA.real, he1]
      rw [hargs] at hrun
      refine hrun.mono ?_
      rintro en w4 ⟨e4, st4, h1, h2, h3, h4, h5, ⟨v, rfl, hv, hE⟩ | ⟨ch, rfl, hX⟩⟩
      · refine ⟨⟨_, rfl⟩, ?_⟩
        have hS4 := sat_put2 (v := .one (.v undef)) hS h3 h4 trivial h5 none
        exact tEnd_run (by rw [hcx2]) (b := 2) hE hS4 cx (by rw [hcx2]) (by rw [hcx2]) (by rw [hcx2]) (by rw [hcx2]; show cx.n0 ≤ 2; omega) hids1
      · exact hX.elim
    rintro ex a3 w3 ⟨e3, st3, hK3, hS3'⟩
    have hdef3 := hS3'.defers
    rw [hdf] at hdef3
    cases ex with
    | ret =>
      show Leaves _ _ _ _ a3.defers .returning w3
      rw [hdef3]
      refine leaves_cons (by simp) (hinv w3) ?_
      refine (taken1_idle _ w3 _ (hfinal (u := .returning) hS3' hK3 ?_)).mono ?_
      · have := hS3'.mem.low
        rw [hcx2] at this
        exact this
      rintro e u' w' ⟨⟨v, rfl⟩, rfl, v2, hr, e', y, hy, hen, hlt, hM⟩
      exact ⟨v2, hr, e', y, hy, hen, hlt, hM⟩
    | panic ch =>
      obtain ⟨rfl, hK3⟩ := hK3
      show Leaves _ _ _ _ a3.defers (.panicking _) w3
      rw [hdef3]
      refine leaves_cons (by simp) (hinv w3) ?_
      refine (taken1_torn _ w3 _ (hfinal (u := .returning) hS3' hK3 ?_)).mono ?_
      · have := hS3'.mem.low
        rw [hcx2] at this
        exact this
      rintro e u' w' ⟨⟨v, rfl⟩, rfl, v2, hr, e', y, hy, hen, hlt, hM⟩
      exact ⟨v2, hr, e', y, hy, hen, hlt, hM⟩
    | _ => exact hK3.elim
  | _ => exact hK.elim
end Go.Proofs.YtmkpiekbpakigaaGreatDoor
end
section
set_option linter.unusedVariables false
set_option linter.unusedSimpArgs false
namespace Go.Proofs.YtmkpiekbpakigaaGreatDoor
open Go.RowKit Go.Proofs.Base Go.Proofs.Sym
def tornB (T : TypeId) (cs : List SA) : LRes := { m := [(0, .cells T cs)], k := 2, ch := some [{ v := tornV, recovered := false }] }
/-- What taken answers of torn bytes, and of others. -/
def tkBad (T : TypeId) (cs : List SA) : LRes := { v := .tup [.one (.v (.slice none 0 0)), .one (.v (.bool false))], m := [(0, .cells T cs)], k := 2 }
def tkGood (T : TypeId) (cs : List SA) (r : List Nat) (B : Option Addr) (d : Nat) (F : World → Prop) : LRes := { v := .tup [.one (.v (.slice B r.length d)), .one (.v (.bool true))], m := [(0, .cells T cs)], k := 2, F := fun w => BtIn w B d r ∧ F w }
def num1Res (o : Option (Nat × List Nat)) (x : Option Addr × Nat) : LRes := match o with
  | some (n, r) => { v := .tup [], m := [(0, .cells 3 [.v (.int .i64 (n : Int))]), (1, rM x.1 x.2 r 0)], k := 2, F := fun w => BtIn w x.1 x.2 r }
  | none => tornB 3 [.v (.int .i64 0)]
theorem num1_lc (A : Option Addr) (c : Nat) (l : List Nat) (hB : Bytes l) : LCall Tryz.prog 63 [.one (.p 1 0), .one (.p 0 0)] [(0, .cells 3 [.v (.int .i64 0)]), (1, rM A c l 0)] 2 (mPre A c l) (fun _ : Option Addr × Nat => True) (num1Res (rdNum 1099511627776 l)) := by
  have hn := num_lcR A c l 0 1099511627776 hB
  obtain ⟨o, ho⟩ : ∃ o, rdNum 1099511627776 l = o := ⟨_, rfl⟩
  rw [ho] at hn ⊢
  refine lcall_of tabOk 5 [] Tryz.func63 rfl rfl (by kernel_rfl) rfl _ (Nat.le_of_ble_eq_true rfl) (mPre.upS _ _ _) ?_
  refine svc_ok tabOk [] _ _ _ ?_
  cases o with
  | none =>
    refine callVC_lend [1] hn rfl ⟨rfl, trivial⟩ rfl rfl (fun w h => h.1.2) (fun _ _ => ⟨rfl, rfl⟩) (fun _ _ => ?_)
    exact ⟨(none, 0), trivial, rfl, ent_ren [(1, .blk 1), (0, .blk 0)] rfl rfl rfl rfl (Nat.le_refl _) ⟨⟨_, rfl, rfl⟩, trivial⟩ ⟨⟨_, rfl, rfl⟩, trivial⟩ ⟨⟨Up.true, fun _ _ => trivial⟩, trivial⟩⟩
  | some q =>
    obtain ⟨n, r⟩ := q
    refine callVC_lend [1] hn rfl ⟨rfl, trivial⟩ rfl rfl (fun w h => h.1.2) (fun _ _ => ⟨rfl, rfl⟩) (fun x _ => ?_)
    refine ⟨_, rfl, x, trivial, rfl, ?_⟩
    exact ent_ren [(1, .blk 1), (0, .blk 0)] rfl rfl rfl rfl (Nat.le_refl _) ⟨⟨_, rfl, rfl⟩, trivial⟩ ⟨⟨_, rfl, rfl⟩, ⟨_, rfl, rfl⟩, trivial⟩ ⟨⟨BtIn.up _ _ _, fun w h => h.1⟩, trivial⟩
def numTk (o : Option (Nat × List Nat)) (y : Option Addr × Nat) : LRes := match o with
  | some (n, r) => tkGood 3 [.v (.int .i64 (n : Int))] r y.1 y.2 (fun _ => True)
  | none => tkBad 3 [.v (.int .i64 0)]
theorem takenNum_lc (A : Option Addr) (c : Nat) (l : List Nat) (hB : Bytes l) (hl : l.length ≤ 1000000000) : LCall Tryz.prog 62 [.one (.v (.slice A l.length c)), .one (.fn 63 [] [.p 0])] [(0, .cells 3 [.v (.int .i64 0)])] 1 (mPre A c l) (fun _ : Option Addr × Nat => True) (numTk (rdNum 1099511627776 l)) := by
  have hg := num1_lc A c l hB
  obtain ⟨o, ho⟩ : ∃ o, rdNum 1099511627776 l = o := ⟨_, rfl⟩
  rw [ho] at hg ⊢
  refine taken_of (mPre.upS _ _ _) _ _ fun c2 hc2 => ?_
  cases hc2
  refine svc_ok tabOk [] _ _ _ ?_
  cases o with
  | none =>
    refine callVC_lend [0, 2] hg rfl ⟨rfl, rfl, trivial⟩ rfl rfl (fun w h => h.1) (fun _ _ => ⟨rfl, rfl⟩) (fun _ _ => ?_)
    refine ⟨rfl, callVC_lend [1] (caught_torn false) rfl ⟨rfl, trivial⟩ rfl rfl (fun _ _ => trivial) (fun _ _ => ⟨rfl, rfl⟩) (fun _ _ => ?_)⟩
    exact ⟨_, rfl, (none, 0), trivial, rfl, ent_ren [(1, .blk 1), (0, .blk 0)] rfl rfl rfl rfl (Nat.le_refl _) ⟨⟨_, rfl, rfl⟩, trivial⟩ ⟨⟨_, rfl, rfl⟩, trivial⟩ ⟨⟨Up.true, fun _ _ => trivial⟩, trivial⟩⟩
  | some q =>
    obtain ⟨n, r⟩ := q
    have hrl : r.length ≤ 140737488355328 := by
      obtain ⟨k, hk⟩ := (rdNum_sub2 ho).1
      rw [hk, List.length_drop]
      omega
    refine callVC_lend [0, 2] hg rfl ⟨rfl, rfl, trivial⟩ rfl rfl (fun w h => h.1) (fun _ _ => ⟨rfl, rfl⟩) (fun x _ => ?_)
    refine callVC_plain (clone_pc x.1 x.2 r hrl) (fun _ => rfl) (fun w h => h.1) ?_
    rintro v ⟨B, d, rfl⟩
    refine callVC_lend [1] (caught_nil true) rfl ⟨rfl, trivial⟩ rfl rfl (fun _ _ => trivial) (fun _ _ => ⟨rfl, rfl⟩) (fun _ _ => ?_)
    exact ⟨_, rfl, (B, d), trivial, rfl, ent_ren [(1, .blk 1), (0, .blk 0)] rfl rfl rfl rfl (Nat.le_refl _) ⟨⟨_, rfl, rfl⟩, trivial⟩ ⟨⟨_, rfl, rfl⟩, trivial⟩ ⟨⟨(BtIn.up _ _ _).and Up.true, fun w h => ⟨h.2.1 _ _ rfl, trivial⟩⟩, trivial⟩⟩
def numRet (o : Option (Nat × List Nat)) (y : Option Addr × Nat) : LRes := match o with
  | some (n, r) => { v := .tup [.one (.v (.int .i64 (n : Int))), .one (.v (.slice y.1 r.length y.2)), .one (.v (.bool true))], m := [], k := 0, F := fun w => BtIn w y.1 y.2 r }
  | none => { v := .tup [.one (.v (.int .i64 0)), .one (.v (.slice none 0 0)), .one (.v (.bool false))], m := [], k := 0 }
theorem TakeNum_lc (A : Option Addr) (c : Nat) (l : List Nat) (hB : Bytes l) (hl : l.length ≤ 1000000000) : LCall Tryz.prog 23 [.one (.v (.slice A l.length c))] [] 0 (mPre A c l) (fun _ : Option Addr × Nat => True) (numRet (rdNum 1099511627776 l)) := by
  have hg := takenNum_lc A c l hB hl
  obtain ⟨o, ho⟩ : ∃ o, rdNum 1099511627776 l = o := ⟨_, rfl⟩
  rw [ho] at hg ⊢
  refine lcall_of tabOk 17 [.tmp 2, .tmp 3, .tmp 4] Tryz.func23 rfl rfl (by kernel_rfl) rfl _ (Nat.le_of_ble_eq_true rfl) (mPre.upS _ _ _) ?_
  refine svc_ok tabOk [] _ _ _ ?_
  cases o with
  | none =>
    refine callVC_lend [0] hg rfl ⟨rfl, trivial⟩ rfl rfl (fun w h => h.1) (fun _ _ => ⟨rfl, rfl⟩) (fun _ _ => ?_)
    exact ⟨_, rfl, (none, 0), trivial, rfl, ent_ren [] rfl rfl rfl rfl (Nat.zero_le _) ⟨⟨_, rfl, rfl⟩, trivial⟩ trivial ⟨⟨Up.true, fun _ _ => trivial⟩, trivial⟩⟩
  | some q =>
    obtain ⟨n, r⟩ := q
    refine callVC_lend [0] hg rfl ⟨rfl, trivial⟩ rfl rfl (fun w h => h.1) (fun _ _ => ⟨rfl, rfl⟩) (fun y _ => ?_)
    exact ⟨_, rfl, y, trivial, rfl, ent_ren [] rfl rfl rfl rfl (Nat.zero_le _) ⟨⟨_, rfl, rfl⟩, trivial⟩ trivial ⟨⟨BtIn.up _ _ _, fun w h => h.1.1⟩, trivial⟩⟩
def term1Res (o : Option (Tm × Int × List Nat)) (x : TX) : LRes := match o with
  | some (_, left, r) => { v := .tup [], m := [(0, .cells 25 (x.tt.cells.map SA.v)), (1, rM x.ra x.rc r left)], k := 2, F := fun w => BtIn w x.ra x.rc r ∧ TTIn w x.tt }
  | none => tornB 25 zero5
theorem term1_lc (A : Option Addr) (c : Nat) (l : List Nat) (hB : Bytes l) : LCall Tryz.prog 65 [.one (.p 1 0), .one (.p 0 0)] [(0, .cells 25 zero5), (1, rM A c l 0)] 2 (mPre A c l) (TX.ok (rdWhole l)) (term1Res (rdWhole l)) := by
  have hn := whole_lc A c l 0 hB
  obtain ⟨o, ho⟩ : ∃ o, rdWhole l = o := ⟨_, rfl⟩
  rw [ho] at hn ⊢
  refine lcall_of tabOk 5 [] Tryz.func65 rfl rfl (by kernel_rfl) rfl _ (Nat.le_of_ble_eq_true rfl) (mPre.upS _ _ _) ?_
  refine svc_ok tabOk [] _ _ _ ?_
  cases o with
  | none =>
    refine callVC_lend [1] hn rfl ⟨rfl, trivial⟩ rfl rfl (fun w h => h.1) (fun _ _ => ⟨rfl, rfl⟩) (fun _ _ => ?_)
    exact ⟨⟨zeroT, none, 0⟩, trivial, rfl, ent_ren [(1, .blk 1), (0, .blk 0)] rfl rfl rfl rfl (Nat.le_refl _) ⟨⟨_, rfl, rfl⟩, trivial⟩ ⟨⟨_, rfl, rfl⟩, trivial⟩ ⟨⟨Up.true, fun _ _ => trivial⟩, trivial⟩⟩
  | some q =>
    obtain ⟨t, left, r⟩ := q
    refine callVC_lend [1] hn rfl ⟨rfl, trivial⟩ rfl rfl (fun w h => h.1) (fun x _ => ?_) (fun x hx => ?_)
    · obtain ⟨⟨tk, tn, tnm, tla, tlc, tls, taa, tac, tus⟩, ra3, rc3⟩ := x
      exact ⟨rfl, rfl⟩
    obtain ⟨⟨tk, tn, tnm, tla, tlc, tls, taa, tac, tus⟩, ra3, rc3⟩ := x
    refine ⟨_, rfl, ⟨⟨tk, tn, tnm, tla, tlc, tls, taa, tac, tus⟩, ra3, rc3⟩, hx, rfl, ?_⟩
    exact ent_ren [(1, .blk 1), (0, .blk 0)] rfl rfl rfl rfl (Nat.le_refl _) ⟨⟨_, rfl, rfl⟩, trivial⟩ ⟨⟨_, rfl, rfl⟩, ⟨_, rfl, rfl⟩, trivial⟩ ⟨⟨(BtIn.up _ _ _).and (TTIn.upS _), fun w h => h.1⟩, trivial⟩
def termTk (o : Option (Tm × Int × List Nat)) (y : TX × (Option Addr × Nat)) : LRes := match o with
  | some (_, _, r) => tkGood 25 (y.1.tt.cells.map SA.v) r y.2.1 y.2.2 (fun w => TTIn w y.1.tt)
  | none => tkBad 25 zero5
theorem takenterm_lc (A : Option Addr) (c : Nat) (l : List Nat) (hB : Bytes l) (hl : l.length ≤ 1000000000) : LCall Tryz.prog 62 [.one (.v (.slice A l.length c)), .one (.fn 65 [] [.p 0])] [(0, .cells 25 zero5)] 1 (mPre A c l) (fun y : TX × (Option Addr × Nat) => TX.ok (rdWhole l) y.1) (termTk (rdWhole l)) := by
  have hg := term1_lc A c l hB
  obtain ⟨o, ho⟩ : ∃ o, rdWhole l = o := ⟨_, rfl⟩
  rw [ho] at hg ⊢
  refine taken_of (mPre.upS _ _ _) _ _ fun c2 hc2 => ?_
  cases hc2
  refine svc_ok tabOk [] _ _ _ ?_
  cases o with
  | none =>
    refine callVC_lend [0, 2] hg rfl ⟨rfl, rfl, trivial⟩ rfl rfl (fun w h => h.1) (fun _ _ => ⟨rfl, rfl⟩) (fun _ _ => ?_)
    refine ⟨rfl, callVC_lend [1] (caught_torn false) rfl ⟨rfl, trivial⟩ rfl rfl (fun _ _ => trivial) (fun _ _ => ⟨rfl, rfl⟩) (fun _ _ => ?_)⟩
    exact ⟨_, rfl, (⟨zeroT, none, 0⟩, (none, 0)), trivial, rfl, ent_ren [(1, .blk 1), (0, .blk 0)] rfl rfl rfl rfl (Nat.le_refl _) ⟨⟨_, rfl, rfl⟩, trivial⟩ ⟨⟨_, rfl, rfl⟩, trivial⟩ ⟨⟨Up.true, fun _ _ => trivial⟩, trivial⟩⟩
  | some q =>
    obtain ⟨t, left, r⟩ := q
    have hrl : r.length ≤ 140737488355328 := by
      obtain ⟨k, hk⟩ := (rdWhole_some ho).1
      rw [hk, List.length_drop]
      omega
    refine callVC_lend [0, 2] hg rfl ⟨rfl, rfl, trivial⟩ rfl rfl (fun w h => h.1) (fun x _ => ?_) (fun x hx => ?_)
    · obtain ⟨⟨tk, tn, tnm, tla, tlc, tls, taa, tac, tus⟩, ra3, rc3⟩ := x
      exact ⟨rfl, rfl⟩
    obtain ⟨⟨tk, tn, tnm, tla, tlc, tls, taa, tac, tus⟩, ra3, rc3⟩ := x
    refine callVC_plain (clone_pc ra3 rc3 r hrl) (fun _ => rfl) (fun w h => h.1.1) ?_
    rintro v ⟨B, d, rfl⟩
    refine callVC_lend [1] (caught_nil true) rfl ⟨rfl, trivial⟩ rfl rfl (fun _ _ => trivial) (fun _ _ => ⟨rfl, rfl⟩) (fun _ _ => ?_)
    exact ⟨_, rfl, (⟨⟨tk, tn, tnm, tla, tlc, tls, taa, tac, tus⟩, ra3, rc3⟩, (B, d)), hx, rfl, ent_ren [(1, .blk 1), (0, .blk 0)] rfl rfl rfl rfl (Nat.le_refl _) ⟨⟨_, rfl, rfl⟩, trivial⟩ ⟨⟨_, rfl, rfl⟩, trivial⟩ ⟨⟨(BtIn.up _ _ _).and (TTIn.upS _), fun w h => ⟨h.2.1 _ _ rfl, h.2.2.1.2⟩⟩, trivial⟩⟩
def termRet (o : Option (Tm × Int × List Nat)) (y : TX × (Option Addr × Nat)) : LRes := match o with
  | some (_, _, r) => { v := .tup [.agg (y.1.tt.cells.map SA.v), .one (.v (.slice y.2.1 r.length y.2.2)), .one (.v (.bool true))], m := [], k := 0, F := fun w => BtIn w y.2.1 y.2.2 r ∧ TTIn w y.1.tt }
  | none => { v := .tup [.agg zero5, .one (.v (.slice none 0 0)), .one (.v (.bool false))], m := [], k := 0 }
theorem TakeTerm_lc (A : Option Addr) (c : Nat) (l : List Nat) (hB : Bytes l) (hl : l.length ≤ 1000000000) : LCall Tryz.prog 24 [.one (.v (.slice A l.length c))] [] 0 (mPre A c l) (fun y : TX × (Option Addr × Nat) => TX.ok (rdWhole l) y.1) (termRet (rdWhole l)) := by
  have hg := takenterm_lc A c l hB hl
  obtain ⟨o, ho⟩ : ∃ o, rdWhole l = o := ⟨_, rfl⟩
  rw [ho] at hg ⊢
  refine lcall_of tabOk 17 [.cell 2 25, .tmp 3, .tmp 4] Tryz.func24 rfl rfl (by kernel_rfl) rfl _ (Nat.le_of_ble_eq_true rfl) (mPre.upS _ _ _) ?_
  refine svc_ok tabOk [] _ _ _ ?_
  cases o with
  | none =>
    refine callVC_lend [1] hg rfl ⟨rfl, trivial⟩ rfl rfl (fun w h => h.1) (fun _ _ => ⟨rfl, rfl⟩) (fun _ _ => ?_)
    exact ⟨_, rfl, (⟨zeroT, none, 0⟩, (none, 0)), trivial, rfl, ent_ren [] rfl rfl rfl rfl (Nat.zero_le _) ⟨⟨_, rfl, rfl⟩, trivial⟩ trivial ⟨⟨Up.true, fun _ _ => trivial⟩, trivial⟩⟩
  | some q =>
    obtain ⟨t, left, r⟩ := q
    refine callVC_lend [1] hg rfl ⟨rfl, trivial⟩ rfl rfl (fun w h => h.1) (fun x _ => ?_) (fun x hx => ?_)
    · obtain ⟨⟨⟨tk, tn, tnm, tla, tlc, tls, taa, tac, tus⟩, ra3, rc3⟩, q⟩ := x
      exact ⟨rfl, rfl⟩
    obtain ⟨⟨⟨tk, tn, tnm, tla, tlc, tls, taa, tac, tus⟩, ra3, rc3⟩, q⟩ := x
    exact ⟨_, rfl, (⟨⟨tk, tn, tnm, tla, tlc, tls, taa, tac, tus⟩, ra3, rc3⟩, q), hx, rfl, ent_ren [] rfl rfl rfl rfl (Nat.zero_le _) ⟨⟨_, rfl, rfl⟩, trivial⟩ trivial ⟨⟨(BtIn.up _ _ _).and (TTIn.upS _), fun w h => h.1⟩, trivial⟩⟩
def decl1Res (o : Option (DM × Int × List Nat)) (x : DX) : LRes := match o with
  | some (_, left, r) => { v := .tup [], m := [(0, .cells 38 (x.dd.cells.map SA.v)), (1, rM x.ra x.rc r left)], k := 2, F := fun w => BtIn w x.ra x.rc r ∧ DDIn w x.dd }
  | none => tornB 38 zero15
theorem decl1_lc (A : Option Addr) (c : Nat) (l : List Nat) (hB : Bytes l) : LCall Tryz.prog 67 [.one (.p 1 0), .one (.p 0 0)] [(0, .cells 38 zero15), (1, rM A c l 0)] 2 (mPre A c l) (DX.ok (rdDecl l)) (decl1Res (rdDecl l)) := by
  have hn := decl_lc A c l 0 hB
  obtain ⟨o, ho⟩ : ∃ o, rdDecl l = o := ⟨_, rfl⟩
  rw [ho] at hn ⊢
  refine lcall_of tabOk 5 [] Tryz.func67 rfl rfl (by kernel_rfl) rfl _ (Nat.le_of_ble_eq_true rfl) (mPre.upS _ _ _) ?_
  refine svc_ok tabOk [] _ _ _ ?_
  cases o with
  | none =>
    refine callVC_lend [1] hn rfl ⟨rfl, trivial⟩ rfl rfl (fun w h => h.1) (fun _ _ => ⟨rfl, rfl⟩) (fun _ _ => ?_)
    exact ⟨⟨zeroDD, none, 0⟩, trivial, rfl, ent_ren [(1, .blk 1), (0, .blk 0)] rfl rfl rfl rfl (Nat.le_refl _) ⟨⟨_, rfl, rfl⟩, trivial⟩ ⟨⟨_, rfl, rfl⟩, trivial⟩ ⟨⟨Up.true, fun _ _ => trivial⟩, trivial⟩⟩
  | some q =>
    obtain ⟨t, left, r⟩ := q
    refine callVC_lend [1] hn rfl ⟨rfl, trivial⟩ rfl rfl (fun w h => h.1) (fun x _ => ?_) (fun x hx => ?_)
    · obtain ⟨⟨dk, dp, dnm, ⟨ak, an, anm, ala, alc, als, aaa, aac, aus⟩, ⟨bk, bn, bnm, bla, blc, bls, baa, bac, bus⟩, dfx, dca, dcc, dcts⟩, ra3, rc3⟩ := x
      exact ⟨rfl, rfl⟩
    obtain ⟨⟨dk, dp, dnm, ⟨ak, an, anm, ala, alc, als, aaa, aac, aus⟩, ⟨bk, bn, bnm, bla, blc, bls, baa, bac, bus⟩, dfx, dca, dcc, dcts⟩, ra3, rc3⟩ := x
    refine ⟨_, rfl, ⟨⟨dk, dp, dnm, ⟨ak, an, anm, ala, alc, als, aaa, aac, aus⟩, ⟨bk, bn, bnm, bla, blc, bls, baa, bac, bus⟩, dfx, dca, dcc, dcts⟩, ra3, rc3⟩, hx, rfl, ?_⟩
    exact ent_ren [(1, .blk 1), (0, .blk 0)] rfl rfl rfl rfl (Nat.le_refl _) ⟨⟨_, rfl, rfl⟩, trivial⟩ ⟨⟨_, rfl, rfl⟩, ⟨_, rfl, rfl⟩, trivial⟩ ⟨⟨(BtIn.up _ _ _).and (DDIn.up _), fun w h => h.1⟩, trivial⟩
def declTk (o : Option (DM × Int × List Nat)) (y : DX × (Option Addr × Nat)) : LRes := match o with
  | some (_, _, r) => tkGood 38 (y.1.dd.cells.map SA.v) r y.2.1 y.2.2 (fun w => DDIn w y.1.dd)
  | none => tkBad 38 zero15
theorem takendecl_lc (A : Option Addr) (c : Nat) (l : List Nat) (hB : Bytes l) (hl : l.length ≤ 1000000000) : LCall Tryz.prog 62 [.one (.v (.slice A l.length c)), .one (.fn 67 [] [.p 0])] [(0, .cells 38 zero15)] 1 (mPre A c l) (fun y : DX × (Option Addr × Nat) => DX.ok (rdDecl l) y.1) (declTk (rdDecl l)) := by
  have hg := decl1_lc A c l hB
  obtain ⟨o, ho⟩ : ∃ o, rdDecl l = o := ⟨_, rfl⟩
  rw [ho] at hg ⊢
  refine taken_of (mPre.upS _ _ _) _ _ fun c2 hc2 => ?_
  cases hc2
  refine svc_ok tabOk [] _ _ _ ?_
  cases o with
  | none =>
    refine callVC_lend [0, 2] hg rfl ⟨rfl, rfl, trivial⟩ rfl rfl (fun w h => h.1) (fun _ _ => ⟨rfl, rfl⟩) (fun _ _ => ?_)
    refine ⟨rfl, callVC_lend [1] (caught_torn false) rfl ⟨rfl, trivial⟩ rfl rfl (fun _ _ => trivial) (fun _ _ => ⟨rfl, rfl⟩) (fun _ _ => ?_)⟩
    exact ⟨_, rfl, (⟨zeroDD, none, 0⟩, (none, 0)), trivial, rfl, ent_ren [(1, .blk 1), (0, .blk 0)] rfl rfl rfl rfl (Nat.le_refl _) ⟨⟨_, rfl, rfl⟩, trivial⟩ ⟨⟨_, rfl, rfl⟩, trivial⟩ ⟨⟨Up.true, fun _ _ => trivial⟩, trivial⟩⟩
  | some q =>
    obtain ⟨t, left, r⟩ := q
    have hrl : r.length ≤ 140737488355328 := by
      obtain ⟨k, hk⟩ := (rdDecl_some ho).1
      rw [hk, List.length_drop]
      omega
    refine callVC_lend [0, 2] hg rfl ⟨rfl, rfl, trivial⟩ rfl rfl (fun w h => h.1) (fun x _ => ?_) (fun x hx => ?_)
    · obtain ⟨⟨dk, dp, dnm, ⟨ak, an, anm, ala, alc, als, aaa, aac, aus⟩, ⟨bk, bn, bnm, bla, blc, bls, baa, bac, bus⟩, dfx, dca, dcc, dcts⟩, ra3, rc3⟩ := x
      exact ⟨rfl, rfl⟩
    obtain ⟨⟨dk, dp, dnm, ⟨ak, an, anm, ala, alc, als, aaa, aac, aus⟩, ⟨bk, bn, bnm, bla, blc, bls, baa, bac, bus⟩, dfx, dca, dcc, dcts⟩, ra3, rc3⟩ := x
    refine callVC_plain (clone_pc ra3 rc3 r hrl) (fun _ => rfl) (fun w h => h.1.1) ?_
    rintro v ⟨B, d, rfl⟩
    refine callVC_lend [1] (caught_nil true) rfl ⟨rfl, trivial⟩ rfl rfl (fun _ _ => trivial) (fun _ _ => ⟨rfl, rfl⟩) (fun _ _ => ?_)
    exact ⟨_, rfl, (⟨⟨dk, dp, dnm, ⟨ak, an, anm, ala, alc, als, aaa, aac, aus⟩, ⟨bk, bn, bnm, bla, blc, bls, baa, bac, bus⟩, dfx, dca, dcc, dcts⟩, ra3, rc3⟩, (B, d)), hx, rfl, ent_ren [(1, .blk 1), (0, .blk 0)] rfl rfl rfl rfl (Nat.le_refl _) ⟨⟨_, rfl, rfl⟩, trivial⟩ ⟨⟨_, rfl, rfl⟩, trivial⟩ ⟨⟨(BtIn.up _ _ _).and (DDIn.up _), fun w h => ⟨h.2.1 _ _ rfl, h.2.2.1.2⟩⟩, trivial⟩⟩
def declRet (o : Option (DM × Int × List Nat)) (y : DX × (Option Addr × Nat)) : LRes := match o with
  | some (_, _, r) => { v := .tup [.agg (y.1.dd.cells.map SA.v), .one (.v (.slice y.2.1 r.length y.2.2)), .one (.v (.bool true))], m := [], k := 0, F := fun w => BtIn w y.2.1 y.2.2 r ∧ DDIn w y.1.dd }
  | none => { v := .tup [.agg zero15, .one (.v (.slice none 0 0)), .one (.v (.bool false))], m := [], k := 0 }
theorem TakeDecl_lc (A : Option Addr) (c : Nat) (l : List Nat) (hB : Bytes l) (hl : l.length ≤ 1000000000) : LCall Tryz.prog 25 [.one (.v (.slice A l.length c))] [] 0 (mPre A c l) (fun y : DX × (Option Addr × Nat) => DX.ok (rdDecl l) y.1) (declRet (rdDecl l)) := by
  have hg := takendecl_lc A c l hB hl
  obtain ⟨o, ho⟩ : ∃ o, rdDecl l = o := ⟨_, rfl⟩
  rw [ho] at hg ⊢
  refine lcall_of tabOk 17 [.cell 2 38, .tmp 3, .tmp 4] Tryz.func25 rfl rfl (by kernel_rfl) rfl _ (Nat.le_of_ble_eq_true rfl) (mPre.upS _ _ _) ?_
  refine svc_ok tabOk [] _ _ _ ?_
  cases o with
  | none =>
    refine callVC_lend [1] hg rfl ⟨rfl, trivial⟩ rfl rfl (fun w h => h.1) (fun _ _ => ⟨rfl, rfl⟩) (fun _ _ => ?_)
    exact ⟨_, rfl, (⟨zeroDD, none, 0⟩, (none, 0)), trivial, rfl, ent_ren [] rfl rfl rfl rfl (Nat.zero_le _) ⟨⟨_, rfl, rfl⟩, trivial⟩ trivial ⟨⟨Up.true, fun _ _ => trivial⟩, trivial⟩⟩
  | some q =>
    obtain ⟨t, left, r⟩ := q
    refine callVC_lend [1] hg rfl ⟨rfl, trivial⟩ rfl rfl (fun w h => h.1) (fun x _ => ?_) (fun x hx => ?_)
    · obtain ⟨⟨⟨dk, dp, dnm, ⟨ak, an, anm, ala, alc, als, aaa, aac, aus⟩, ⟨bk, bn, bnm, bla, blc, bls, baa, bac, bus⟩, dfx, dca, dcc, dcts⟩, ra3, rc3⟩, q⟩ := x
      exact ⟨rfl, rfl⟩
    obtain ⟨⟨⟨dk, dp, dnm, ⟨ak, an, anm, ala, alc, als, aaa, aac, aus⟩, ⟨bk, bn, bnm, bla, blc, bls, baa, bac, bus⟩, dfx, dca, dcc, dcts⟩, ra3, rc3⟩, q⟩ := x
    exact ⟨_, rfl, (⟨⟨dk, dp, dnm, ⟨ak, an, anm, ala, alc, als, aaa, aac, aus⟩, ⟨bk, bn, bnm, bla, blc, bls, baa, bac, bus⟩, dfx, dca, dcc, dcts⟩, ra3, rc3⟩, q), hx, rfl, ent_ren [] rfl rfl rfl rfl (Nat.zero_le _) ⟨⟨_, rfl, rfl⟩, trivial⟩ trivial ⟨⟨(BtIn.up _ _ _).and (DDIn.up _), fun w h => h.1⟩, trivial⟩⟩
end Go.Proofs.YtmkpiekbpakigaaGreatDoor
end
