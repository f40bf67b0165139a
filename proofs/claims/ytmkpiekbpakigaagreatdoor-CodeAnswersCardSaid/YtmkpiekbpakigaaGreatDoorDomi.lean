/- What the claim needs of Tk4, Tk5, SymS, Gr1, Gr2, Pl2, Al1, Pl3, Pl4, Ct1, in one text. -/
import Derived.Test.YtmkpiekbpakigaaGreatDoorDomg
import Derived.Test.YtmkpiekbpakigaaGreatDoorDomh
section
set_option linter.unusedVariables false
set_option linter.unusedSimpArgs false
namespace Go.Proofs.YtmkpiekbpakigaaGreatDoor
open Go.RowKit Go.Proofs.Base Go.Proofs.Sym
def rdDecls : Nat → Int → List Nat → Option (List DM × Int × List Nat)
  | 0, left, l => some ([], left, l)
  | n + 1, left, l => match rdDecl l with
    | none => none
    | some (d, left, l) => match rdDecls n left l with
      | none => none
      | some (ds, left, l) => some (d :: ds, left, l)
def rdLib (l : List Nat) : Option (List DM) := match rdNum 64 l with
  | none => none
  | some (n, r) => match rdDecls n 0 r with
    | none => none
    | some (ds, _, r) => match decide ((r.length : Int) = 0) with
      | false => none
      | true => some ds
structure LB' where
  ds : List DD
  A : Option Addr
  c : Nat
def LB'.ok (o : Option (List DM)) (x : LB') : Prop := match o with
  | some ds => x.ds.map DD.dm = ds
  | none => True
def dsC (ds : List DD) : List Value := ds.flatMap DD.cells
theorem dd_len (d : DD) : d.cells.length = 15 := by
  unfold DD.cells
  simp [TT.cells_len]
theorem dsC_get {ds : List DD} : ∀ {j : Nat} {d : DD}, ds[j]? = some d → ∀ q u, d.cells[q]? = some u → (dsC ds)[j * 15 + q]? = some u := by
  induction ds with
  | nil => intro j d h; simp at h
  | cons a r ih =>
    intro j d h q u hq
    have e1 : dsC (a :: r) = a.cells ++ dsC r := rfl
    have e15 := dd_len a
    rw [e1]
    cases j with
    | zero =>
      simp only [List.getElem?_cons_zero, Option.some.injEq] at h
      subst h
      have hlt := (List.getElem?_eq_some_iff.1 hq).1
      rw [Nat.zero_mul, Nat.zero_add, List.getElem?_append_left hlt]
      exact hq
    | succ j =>
      simp only [List.getElem?_cons_succ] at h
      rw [List.getElem?_append_right (by rw [e15]; omega), e15, show (j + 1) * 15 + q - 15 = j * 15 + q by omega]
      exact ih h q u hq
theorem ds_of {w : World} {B : Option Addr} {c : Nat} {ds : List DD} (h : SlAt w B (dsC ds)) (hT : ∀ d ∈ ds, DDIn w d) (g1 : B = none → ds.length = 0 ∧ c = 0) (g2 : ds.length ≤ c) (g3 : c ≤ maxLen) : DsIn w B c ds := by
  refine ⟨fun j d hj => ?_, g1, g2, g3⟩
  have hm := List.mem_of_getElem? hj
  obtain ⟨u0, hu0⟩ : ∃ u, d.cells[0]? = some u := ⟨_, rfl⟩
  obtain ⟨a, ha, _⟩ := h _ _ (dsC_get hj 0 u0 hu0)
  refine ⟨⟨a, ha, fun l u hl => ?_⟩, hT d hm⟩
  obtain ⟨a2, ha2, hc⟩ := h _ _ (dsC_get hj l u hl)
  rw [ha] at ha2
  cases ha2
  rw [Addr.add_add]
  exact hc
structure LX2 where
  ds : List DD
  left : Int
  l : List Nat
  ra : Option Addr
  rc : Nat
def l2Pre (y : LX2) (w : World) : Prop := ML w ∧ BtIn w y.ra y.rc y.l ∧ ∀ d ∈ y.ds, DDIn w d
theorem l2Pre.upS (y : LX2) : Up (l2Pre y) := ML.up.and ((BtIn.up _ _ _).and (fun w w' h hh d hd => DDIn.up _ _ _ h (hh d hd)))
def stL (n : Nat) (y : LX2) : St :=
  { s := [(0, .one (.p 1 0)), (1, .one (.p 0 0)), (3, .one (.row 2)), (5, .one (.v (.int .i64 (n : Int)))), (6, .one (.v (.int .i64 (y.ds.length : Int))))], m := [(0, .cells 26 [.v (.slice none 0 0)]), (1, rM y.ra y.rc y.l y.left), (2, .own 38 15 y.ds.length (dsC y.ds))], k := 3, f := [l2Pre y], b := 2 }
structure L1X where
  x : LB'
  left : Int
  r : List Nat
  ra : Option Addr
  rc : Nat
def L1X.ok (o : Option (List DM)) (x : L1X) : Prop := x.x.ok o ∧ x.r.length ≤ 1000000000
def lib1Res (o : Option (List DM)) (x : L1X) : LRes := match o with
  | some _ => { v := .tup [], m := [(0, .cells 26 [.v (.slice x.x.A x.x.ds.length x.x.c)]), (1, rM x.ra x.rc x.r x.left)], k := 2, F := fun w => BtIn w x.ra x.rc x.r ∧ DsIn w x.x.A x.x.c x.x.ds }
  | none => tornB 26 [.v (.slice none 0 0)]
theorem tornL {o : Option (List DM)} {st : St} (h : o = none) (he : EntR st (.one (.v undef)) (tornB 26 [.v (.slice none 0 0)])) : ∃ x, L1X.ok o x ∧ (lib1Res o x).ch = some [{ v := tornV, recovered := false }] ∧ EntR st (.one (.v undef)) (lib1Res o x) := by
  subst h
  exact ⟨⟨⟨[], none, 0⟩, 0, [], none, 0⟩, ⟨trivial, Nat.zero_le _⟩, rfl, he⟩
theorem okL {o : Option (List DM)} {st : St} {v : SV} {ds : List DM} (x : L1X) (h : o = some ds) (hx : L1X.ok (some ds) x) (he : EntR st v (lib1Res (some ds) x)) : ∃ x, L1X.ok o x ∧ (lib1Res o x).ch = none ∧ EntR st v (lib1Res o x) := by
  subst h
  exact ⟨x, hx, rfl, he⟩
set_option maxHeartbeats 4000000 in
theorem lib1_lc (A : Option Addr) (c : Nat) (l : List Nat) (hB : Bytes l) (hll : l.length ≤ 1000000000) : LCall Tryz.prog 69 [.one (.p 1 0), .one (.p 0 0)] [(0, .cells 26 [.v (.slice none 0 0)]), (1, rM A c l 0)] 2 (mPre A c l) (L1X.ok (rdLib l)) (lib1Res (rdLib l)) := by
  have hn := num_lcR A c l 0 64 hB
  obtain ⟨o, ho⟩ : ∃ o, rdLib l = o := ⟨_, rfl⟩
  rw [ho]
  unfold rdLib at ho
  refine lcall_of tabOk 22 [] Tryz.func69 rfl rfl (by kernel_rfl) rfl _ (Nat.le_of_ble_eq_true rfl) (mPre.upS _ _ _) ?_
  refine svc_ok tabOk [5] _ _ _ ?_
  cases h1 : rdNum 64 l with
  | none =>
    rw [h1] at hn ho
    refine callVC_lend [1] hn rfl ⟨rfl, trivial⟩ rfl rfl (fun w h => h.1.2) (fun _ _ => ⟨rfl, rfl⟩) (fun _ _ => ?_)
    exact tornL ho.symm (ent_ren [(1, .blk 1), (0, .blk 0)] rfl rfl rfl rfl (Nat.le_refl _) ⟨⟨_, rfl, rfl⟩, trivial⟩ ⟨⟨_, rfl, rfl⟩, trivial⟩ ⟨⟨Up.true, fun _ _ => trivial⟩, trivial⟩)
  | some q =>
  obtain ⟨n, r⟩ := q
  rw [h1] at hn ho
  simp only at ho
  obtain ⟨hs1, hn64⟩ := rdNum_sub2 h1
  have hB1 := hs1.bytes hB
  refine callVC_lend [1] hn rfl ⟨rfl, trivial⟩ rfl rfl (fun w h => h.1.2) (fun _ _ => ⟨rfl, rfl⟩) (fun x1 _ => ?_)
  have hnone : rdDecls n 0 r = none → o = none := fun h => by
    rw [h] at ho
    exact ho.symm
  refine ⟨⟨LX2, fun y => y.ds.length ≤ n ∧ Sub2 r y.l ∧ rdDecls n 0 r = (match rdDecls (n - y.ds.length) y.left y.l with | none => none | some (us, a, b) => some (y.ds.map DD.dm ++ us, a, b)),
    stL n, fun y => n - y.ds.length, ⟨⟨[], 0, r, x1.1, x1.2⟩, ⟨Nat.zero_le _, Sub2.refl _, ?_⟩, ?_⟩, ?_⟩⟩
  · simp only [List.length_nil, Nat.sub_zero, List.map_nil, List.nil_append]
    cases rdDecls n 0 r <;> rfl
  · refine Ent.trans (ent_fresh 3 38 15 rfl) ?_
    exact ent_ren [(2, .own 2), (1, .blk 1), (0, .blk 0)] rfl rfl rfl rfl (Nat.le_of_ble_eq_true rfl) ⟨⟨_, rfl, rfl⟩, ⟨_, rfl, rfl⟩, ⟨_, rfl, rfl⟩, ⟨_, rfl, rfl⟩, ⟨_, rfl, rfl⟩, trivial⟩ ⟨⟨_, rfl, rfl⟩, ⟨_, rfl, rfl⟩, ⟨_, _, rfl, rfl, rfl⟩, trivial⟩ ⟨⟨l2Pre.upS _, fun w h => ⟨h.2.1.1, h.1, fun d hd => (by cases hd)⟩⟩, trivial⟩
  rintro ⟨ds, left2, l2, ra, rc⟩ ⟨hy1, hy2, hy3⟩
  simp only at hy1 hy2 hy3
  have hB2 := hy2.bytes hB1
  refine bsplit_i (fun hlt => ?_) (fun hge => ?_)
  rotate_left
  · have hge : n = ds.length := by
      have h : decide ((ds.length : Int) < (n : Int)) = false := hge
      have := of_decide_eq_false h
      omega
    rw [← hge, Nat.sub_self, rdDecls] at hy3
    simp only [List.append_nil] at hy3
    rw [hy3] at ho
    simp only at ho
    refine Walks.freeze 2 rfl (fun B cp g1 g2 g3 => ?_)
    obtain ⟨b, hb⟩ : ∃ b, decide ((l2.length : Int) = 0) = b := ⟨_, rfl⟩
    rw [hb] at ho
    have hll2 : l2.length ≤ 1000000000 := by
      obtain ⟨k, hk⟩ := hs1.trans hy2
      rw [hk, List.length_drop]
      omega
    refine svc_ok tabOk [] _ _ _ ?_
    refine callVC_lend [] (needC (b := decide ((l2.length : Int) = 0)) b hb) rfl trivial rfl rfl (fun _ _ => trivial) (fun _ _ => by cases b <;> exact ⟨rfl, rfl⟩) (fun _ _ => ?_)
    cases b with
    | false => exact tornL ho.symm (ent_ren [(1, .blk 1), (0, .blk 0)] rfl rfl rfl rfl (Nat.le_refl _) ⟨⟨_, rfl, rfl⟩, trivial⟩ ⟨⟨_, rfl, rfl⟩, trivial⟩ ⟨⟨Up.true, fun _ _ => trivial⟩, trivial⟩)
    | true =>
      refine ⟨_, rfl, okL ⟨⟨ds, B, cp⟩, left2, l2, ra, rc⟩ ho.symm ⟨rfl, hll2⟩ ?_⟩
      exact ent_ren [(1, .blk 1), (0, .blk 0)] rfl rfl rfl rfl (Nat.le_refl _) ⟨⟨_, rfl, rfl⟩, trivial⟩ ⟨⟨_, rfl, rfl⟩, ⟨_, rfl, rfl⟩, trivial⟩ ⟨⟨(BtIn.up _ _ _).and (DsIn.up _ _ _), fun w h => ⟨h.2.2.1.2.1, ds_of h.2.1 h.2.2.1.2.2 g1 g2 g3⟩⟩, trivial⟩
  have hlt : ds.length < n := by
    have h : decide ((ds.length : Int) < (n : Int)) = true := hlt
    have := of_decide_eq_true h
    omega
  obtain ⟨m, hm⟩ : ∃ m, n - ds.length = m + 1 := ⟨n - ds.length - 1, by omega⟩
  rw [hm, rdDecls] at hy3
  have hd := decl_lc ra rc l2 left2 hB2
  obtain ⟨o2, ho2⟩ : ∃ o2, rdDecl l2 = o2 := ⟨_, rfl⟩
  rw [ho2] at hd hy3
  cases o2 with
  | none =>
    refine callVC_lend [1] hd rfl ⟨rfl, trivial⟩ rfl rfl (fun w h => ⟨h.1.1, h.1.2.1⟩) (fun _ _ => ⟨rfl, rfl⟩) (fun _ _ => ?_)
    exact tornL (hnone (by rw [hy3])) (ent_ren [(1, .blk 1), (0, .blk 0)] rfl rfl rfl rfl (Nat.le_refl _) ⟨⟨_, rfl, rfl⟩, trivial⟩ ⟨⟨_, rfl, rfl⟩, trivial⟩ ⟨⟨Up.true, fun _ _ => trivial⟩, trivial⟩)
  | some q =>
  obtain ⟨d, left3, l3⟩ := q
  simp only at hy3
  have hs3 := (rdDecl_some ho2).1
  refine callVC_lend [1] hd rfl ⟨rfl, trivial⟩ rfl rfl (fun w h => ⟨h.1.1, h.1.2.1⟩) (fun x _ => ?_) (fun x hx => ?_)
  · obtain ⟨⟨dk, dp, dnm, ⟨ak, an, anm, ala, alc, als, aaa, aac, aus⟩, ⟨bk, bn, bnm, bla, blc, bls, baa, bac, bus⟩, dfx, dca, dcc, dcts⟩, ra3, rc3⟩ := x
    exact ⟨rfl, rfl⟩
  have hx : x.dd.dm = d := hx
  obtain ⟨⟨dk, dp, dnm, ⟨ak, an, anm, ala, alc, als, aaa, aac, aus⟩, ⟨bk, bn, bnm, bla, blc, bls, baa, bac, bus⟩, dfx, dca, dcc, dcts⟩, ra3, rc3⟩ := x
  refine ⟨{}, ⟨trivial, by decide, .inr rfl, ?_, ?_⟩, ?_⟩
  · show ds.length + 1 ≤ maxLen
    simp only [maxLen]; omega
  · show (ds.length + 1) * _ ≤ 140737488355328
    refine Nat.le_trans (Nat.mul_le_mul_right _ (show ds.length + 1 ≤ 256 by omega)) (by decide)
  refine ⟨⟨ds ++ [DD.mk dk dp dnm (.mk ak an anm ala alc als aaa aac aus) (.mk bk bn bnm bla blc bls baa bac bus) dfx dca dcc dcts], left3, l3, ra3, rc3⟩, ⟨by simp only [List.length_append, List.length_singleton]; omega, hy2.trans hs3, ?_⟩, by simp only [List.length_append, List.length_singleton]; omega, ?_⟩
  · simp only [List.length_append, List.length_singleton, List.map_append, List.map_cons, List.map_nil, List.append_assoc, List.cons_append, List.nil_append]
    rw [hy3, show n - (ds.length + 1) = m by omega]
    rw [show (DD.mk dk dp dnm (.mk ak an anm ala alc als aaa aac aus) (.mk bk bn bnm bla blc bls baa bac bus) dfx dca dcc dcts).dm = d from hx]
    cases rdDecls m left3 l3 with
    | none => rfl
    | some q => rfl
  · exact ent_ren [(2, .own 4), (1, .blk 1), (0, .blk 0)] rfl rfl rfl rfl (Nat.le_of_ble_eq_true rfl) ⟨⟨_, rfl, rfl⟩, ⟨_, rfl, rfl⟩, ⟨_, rfl, rfl⟩, ⟨_, rfl, rfl⟩, ⟨_, rfl, by simp only [List.length_append, List.length_singleton]; exact oneI (wrapI (by omega) (by omega))⟩, trivial⟩ ⟨⟨_, rfl, rfl⟩, ⟨_, rfl, rfl⟩, ⟨_, _, rfl, by simp, by simp [dsC]; rfl⟩, trivial⟩ ⟨⟨l2Pre.upS _, fun w h => ⟨h.2.1.1, h.1.1, fun d hd => by
      rcases List.mem_append.1 hd with hd | hd
      · exact h.2.1.2.2 d hd
      · rw [List.mem_singleton.1 hd]
        exact h.1.2⟩⟩, trivial⟩
end Go.Proofs.YtmkpiekbpakigaaGreatDoor
end
section
set_option linter.unusedVariables false
set_option linter.unusedSimpArgs false
namespace Go.Proofs.YtmkpiekbpakigaaGreatDoor
open Go.RowKit Go.Proofs.Base Go.Proofs.Sym
def libTk (o : Option (List DM)) (y : L1X × (Option Addr × Nat)) : LRes := match o with
  | some _ => tkGood 26 [.v (.slice y.1.x.A y.1.x.ds.length y.1.x.c)] y.1.r y.2.1 y.2.2 (fun w => DsIn w y.1.x.A y.1.x.c y.1.x.ds)
  | none => tkBad 26 [.v (.slice none 0 0)]
theorem takenlib_lc (A : Option Addr) (c : Nat) (l : List Nat) (hB : Bytes l) (hl : l.length ≤ 1000000000) : LCall Tryz.prog 62 [.one (.v (.slice A l.length c)), .one (.fn 69 [] [.p 0])] [(0, .cells 26 [.v (.slice none 0 0)])] 1 (mPre A c l) (fun y : L1X × (Option Addr × Nat) => L1X.ok (rdLib l) y.1) (libTk (rdLib l)) := by
  have hg := lib1_lc A c l hB hl
  obtain ⟨o, ho⟩ : ∃ o, rdLib l = o := ⟨_, rfl⟩
  rw [ho] at hg ⊢
  refine taken_of (mPre.upS _ _ _) _ _ fun c2 hc2 => ?_
  cases hc2
  refine svc_ok tabOk [] _ _ _ ?_
  cases o with
  | none =>
    refine callVC_lend [0, 2] hg rfl ⟨rfl, rfl, trivial⟩ rfl rfl (fun w h => h.1) (fun _ _ => ⟨rfl, rfl⟩) (fun _ _ => ?_)
    refine ⟨rfl, callVC_lend [1] (caught_torn false) rfl ⟨rfl, trivial⟩ rfl rfl (fun _ _ => trivial) (fun _ _ => ⟨rfl, rfl⟩) (fun _ _ => ?_)⟩
    exact ⟨_, rfl, (⟨⟨[], none, 0⟩, 0, [], none, 0⟩, (none, 0)), ⟨trivial, Nat.zero_le _⟩, rfl, ent_ren [(1, .blk 1), (0, .blk 0)] rfl rfl rfl rfl (Nat.le_refl _) ⟨⟨_, rfl, rfl⟩, trivial⟩ ⟨⟨_, rfl, rfl⟩, trivial⟩ ⟨⟨Up.true, fun _ _ => trivial⟩, trivial⟩⟩
  | some q =>
    refine callVC_lend [0, 2] hg rfl ⟨rfl, rfl, trivial⟩ rfl rfl (fun w h => h.1) (fun x _ => ⟨rfl, rfl⟩) (fun x hx => ?_)
    have hrl : x.r.length ≤ 140737488355328 := by
      have := hx.2
      omega
    refine callVC_plain (clone_pc x.ra x.rc x.r hrl) (fun _ => rfl) (fun w h => h.1.1) ?_
    rintro v ⟨B, d, rfl⟩
    refine callVC_lend [1] (caught_nil true) rfl ⟨rfl, trivial⟩ rfl rfl (fun _ _ => trivial) (fun _ _ => ⟨rfl, rfl⟩) (fun _ _ => ?_)
    exact ⟨_, rfl, (x, (B, d)), hx, rfl, ent_ren [(1, .blk 1), (0, .blk 0)] rfl rfl rfl rfl (Nat.le_refl _) ⟨⟨_, rfl, rfl⟩, trivial⟩ ⟨⟨_, rfl, rfl⟩, trivial⟩ ⟨⟨(BtIn.up _ _ _).and (DsIn.up _ _ _), fun w h => ⟨h.2.1 _ _ rfl, h.2.2.1.2⟩⟩, trivial⟩⟩
def libRet (o : Option (List DM)) (y : LB') : LRes := match o with
  | some _ => { v := .tup [.one (.v (.slice y.A y.ds.length y.c)), .one (.v (.bool true))], m := [], k := 0, F := fun w => DsIn w y.A y.c y.ds }
  | none => { v := .tup [.one (.v (.slice none 0 0)), .one (.v (.bool false))], m := [], k := 0 }
theorem TakeLibrary_lc (A : Option Addr) (c : Nat) (l : List Nat) (hB : Bytes l) (hl : l.length ≤ 1000000000) : LCall Tryz.prog 26 [.one (.v (.slice A l.length c))] [] 0 (mPre A c l) (fun y : LB' => LB'.ok (rdLib l) y) (libRet (rdLib l)) := by
  have hg := takenlib_lc A c l hB hl
  obtain ⟨o, ho⟩ : ∃ o, rdLib l = o := ⟨_, rfl⟩
  rw [ho] at hg ⊢
  refine lcall_of tabOk 15 [.tmp 2, .tmp 3] Tryz.func26 rfl rfl (by kernel_rfl) rfl _ (Nat.le_of_ble_eq_true rfl) (mPre.upS _ _ _) ?_
  refine svc_ok tabOk [] _ _ _ ?_
  cases o with
  | none =>
    refine callVC_lend [0] hg rfl ⟨rfl, trivial⟩ rfl rfl (fun w h => h.1) (fun _ _ => ⟨rfl, rfl⟩) (fun _ _ => ?_)
    exact ⟨_, rfl, ⟨[], none, 0⟩, trivial, rfl, ent_ren [] rfl rfl rfl rfl (Nat.zero_le _) ⟨⟨_, rfl, rfl⟩, trivial⟩ trivial ⟨⟨Up.true, fun _ _ => trivial⟩, trivial⟩⟩
  | some q =>
    refine callVC_lend [0] hg rfl ⟨rfl, trivial⟩ rfl rfl (fun w h => h.1) (fun y _ => ⟨rfl, rfl⟩) (fun y hy => ?_)
    exact ⟨_, rfl, y.1.x, hy.1, rfl, ent_ren [] rfl rfl rfl rfl (Nat.zero_le _) ⟨⟨_, rfl, rfl⟩, trivial⟩ trivial ⟨⟨DsIn.up _ _ _, fun w h => h.1.2⟩, trivial⟩⟩
end Go.Proofs.YtmkpiekbpakigaaGreatDoor
end
section
set_option linter.unusedVariables false
set_option linter.unusedSimpArgs false
namespace Go.Proofs.Sym
open Go.RowKit Go.Proofs.Base Go.Proofs.Mono
/-- What follows from the facts may be used. -/
theorem Walks.told {P : Program} {N : Nat} {c : Code} {K : Exit → St → Prop} {st : St} {p : Prop} (hp : ∀ w, AllF st.f w → p) (h : p → Walks P N c K st) : Walks P N c K st :=
  ⟨fun cx e a w hn hS => (h (hp w hS.mem.fact)).run cx e a w hn hS⟩
/-- The rest of a region does what it is to. -/
structure SWalks (P : Program) (N : Nat) (ops : Array Oper) (K : Exit → St → Prop) (rest : List Oper) (st : St) : Prop where
  run : ∀ (cx : Cx) (e : Env) (a : Act) (w : World), cx.n = N → Sat cx e st a w → wpList P ops (Post cx K) rest a w
section
variable {P : Program} {T : Tab} {N : Nat} {ops : Array Oper} {K : Exit → St → Prop}
theorem SWalks.ent {rest : List Oper} {st st' : St} (he : Ent st st') (h : SWalks P N ops K rest st') : SWalks P N ops K rest st :=
  ⟨fun cx e a w hn hS => let ⟨e', hS'⟩ := he.run cx e a w hS; h.run cx e' a w hn hS'⟩
theorem SWalks.done {st : St} (h : K .normal st) : SWalks P N ops K [] st := ⟨fun cx e a w hn hS => ⟨e, st, h, hS⟩⟩
theorem SWalks.told {rest : List Oper} {st : St} {p : Prop} (hp : ∀ w, AllF st.f w → p) (h : p → SWalks P N ops K rest st) : SWalks P N ops K rest st :=
  ⟨fun cx e a w hn hS => (h (hp w hS.mem.fact)).run cx e a w hn hS⟩
theorem sops_part {cx : Cx} (hT : T.Ok P) (rest : List Oper) (K0 : St → Prop) (hK0 : ∀ st, K0 st → SWalks P cx.n ops K rest st) : ∀ (l : List Oper) (e : Env) (st : St) (a : Act) (w : World), Sat cx e st a w →
    sops P T cx.n ops K0 (fun ch st => K (.panic ch) st) l st → wpList P ops (Post cx K) (l ++ rest) a w
  | [], e, st, a, w, hS, h => (hK0 _ h).run cx e a w rfl hS
  | o :: l, e, st, a, w, hS, h => by
    have hrec : ∀ e' st' a' w', sops P T cx.n ops K0 (fun ch st => K (.panic ch) st) l st' → Sat cx e' st' a' w' → wpList P ops (Post cx K) (l ++ rest) a' w' := fun e' st' a' w' h' hS' => sops_part hT rest K0 hK0 l e' st' a' w' hS' h'
    refine wpList_step fun next hnext => ?_
    unfold sops at h
    split at h
    · rename_i hg
      rw [if_pos (wanted_none hg _)]
      exact sigK_ok (K := K) hT hS (fun _ _ _ h => h) (fun e' st' a' w' h1 h2 => hnext _ _ (hrec e' st' a' w' h1 h2)) h
    · rename_i g want hg
      split at h
      · exact h.elim
      · rename_i t ht
        split at h
        · rename_i b hb
          have hy := yielded_slot ht hS hb
          have hsame : ∀ b', b = b' → Sat cx e { st with s := (t, .one (.v (.bool b'))) :: st.s } a w := fun b' hbb => sat_same hS hb (by rw [hbb]) trivial
          have hskip : ∀ b', b = b' → sops P T cx.n ops K0 (fun ch st => K (.panic ch) st) l (({ st with s := (t, .one (.v (.bool b'))) :: st.s } : St).put cx.n o.dst (.one (.v undef))) → next (a.put o.dst undef) w := by
            intro b' hbb h'
            exact hnext _ _ (hrec _ _ _ _ h' (sat_put (v := .one (.v undef)) (hsame b' hbb) (Env.eqTo.refl _ _) (Nat.le_refl _) rfl rfl trivial hS.mem o.dst))
          cases want <;> cases b
          · rw [if_pos (by simp [Region.wanted, hg, hy])]
            exact sigK_ok (K := K) hT (hsame _ rfl) (fun _ _ _ h => h) (fun e' st' a' w' h1 h2 => hnext _ _ (hrec e' st' a' w' h1 h2)) h
          · rw [if_neg (by simp [Region.wanted, hg, hy])]
            exact hskip _ rfl h
          · rw [if_neg (by simp [Region.wanted, hg, hy])]
            exact hskip _ rfl h
          · rw [if_pos (by simp [Region.wanted, hg, hy])]
            exact sigK_ok (K := K) hT (hsame _ rfl) (fun _ _ _ h => h) (fun e' st' a' w' h1 h2 => hnext _ _ (hrec e' st' a' w' h1 h2)) h
        · rename_i vs hb
          have hy : yielded ops a.tmps g = none := by
            unfold yielded
            rw [ht]
            simp only [Option.bind_some]
            rw [(hS.slots _ _ hb).2]
            rfl
          rw [if_neg (by simp [Region.wanted, hg, hy])]
          exact hnext _ _ (hrec _ _ _ _ h (sat_put (v := .one (.v undef)) hS (Env.eqTo.refl _ _) (Nat.le_refl _) rfl rfl trivial hS.mem o.dst))
        · exact h.elim
/-- The next n operations, and the others behind them. -/
theorem SWalks.part (hT : T.Ok P) (n : Nat) {rest : List Oper} {st : St} (h : sops P T N ops (fun st' => SWalks P N ops K (rest.drop n) st') (fun ch st => K (.panic ch) st) (rest.take n) st) : SWalks P N ops K rest st := by
  refine ⟨fun cx e a w hn hS => ?_⟩
  subst hn
  have := sops_part hT (rest.drop n) _ (fun _ h => h) (rest.take n) e st a w hS h
  rwa [List.take_append_drop] at this
/-- The next n operations, which come to one of some states, and the others behind them. -/
theorem SWalks.step (hT : T.Ok P) (n : Nat) {X : Type} (Ok : X → Prop) (s : X → St) {rest : List Oper} {st : St} (h : sops P T N ops (fun st' => ∃ x, Ok x ∧ Ent st' (s x)) (fun ch st => K (.panic ch) st) (rest.take n) st) (hk : ∀ x, Ok x → SWalks P N ops K (rest.drop n) (s x)) : SWalks P N ops K rest st := by
  refine ⟨fun cx e a w hn hS => ?_⟩
  subst hn
  have := sops_part hT (rest.drop n) _ (fun st' (h : ∃ x, Ok x ∧ Ent st' (s x)) => let ⟨x, hx, he⟩ := h; SWalks.ent he (hk x hx)) (rest.take n) e st a w hS h
  rwa [List.take_append_drop] at this
theorem Walks.parts {id : Nat} {st : St} (h : SWalks P N ops K ops.toList st) : Walks P N (.region id ops false) K st :=
  ⟨fun cx e a w hn hS => wp_region_list (h.run cx e a w hn hS)⟩
end
end Go.Proofs.Sym
end
section
set_option linter.unusedVariables false
set_option linter.unusedSimpArgs false
namespace Go.Proofs.YtmkpiekbpakigaaGreatDoor
open Go.RowKit Go.Proofs.Base Go.Proofs.Sym
set_option maxHeartbeats 4000000 in
theorem declNodes_pc (most : Int) (hm0 : 0 ≤ most) (hm1 : most ≤ 1099511627776) (d : DD) : PCall Tryz.prog 43 [d.dv, .int .i64 most] (fun w => DDIn w d) (fun r => ∃ n, r = .int .i64 n) (fun _ _ => True) := by
  obtain ⟨k, p, nm, t1, t2, fx, ca, cc, cts⟩ := d
  have hn := nodes_pc most hm0 hm1
  have hn1 := hn t1
  have hn2 := hn t2
  obtain ⟨n1, hn1e⟩ : ∃ n, nodesR most t1 = n := ⟨_, rfl⟩
  obtain ⟨n2, hn2e⟩ : ∃ n, nodesR most t2 = n := ⟨_, rfl⟩
  rw [hn1e] at hn1
  rw [hn2e] at hn2
  obtain ⟨ak, an, anm, ala, alc, als, aaa, aac, aus⟩ := t1
  obtain ⟨bk, bn, bnm, bla, blc, bls, baa, bac, bus⟩ := t2
  by_cases hal : cts.length ≤ 9223372036854775807
  rotate_left
  · refine ⟨enters Tryz.func43 (by kernel_rfl) (by kernel_rfl), fun _ => Up.true, fun w H hH hp => ?_⟩
    have h1 := hp.hcc
    have h2 := hp.hcm
    simp only [maxLen] at h1 h2
    omega
  refine pcall_of tabOk 55 [.tmp 4] Tryz.func43 rfl rfl (by kernel_rfl) rfl _ (Nat.le_of_ble_eq_true rfl) (DDIn.up _) (fun _ => Up.true) ?_
  refine svc_ok tabOk [2, 5] _ _ _ ?_
  refine .inl ⟨14, [0, 1, 0, 7, 0, 16, 0, 127, 255, 0, 512, 1536, 4095, 8191], fun vs i => match i with
    | 3 => { pre := fun w => TTIn w (.mk ak an anm ala alc als aaa aac aus), R := fun u => u = .int .i64 n1, nf := fun _ => .int .i64 n1 }
    | 7 => { pre := fun w => TTIn w (.mk bk bn bnm bla blc bls baa bac bus), R := fun u => u = .int .i64 n2, nf := fun _ => .int .i64 n2 }
    | _ => {}, by kernel_rfl, rfl, by kernel_rfl, by kernel_rfl, by kernel_rfl, by decide, fun vals => ?_⟩
  refine ⟨fun _ => ⟨hn1, fun w h => h.1.hty, fun _ h => h⟩, ?_⟩
  refine ⟨fun _ => ⟨hn2, fun w h => h.2.1.hval, fun _ h => h⟩, ?_⟩
  intro _
  refine Walks.ent (st' := { s := [(1, .one (.v (.int .i64 most))), (2, .one (.p 0 0)), (5, .one (.v (.int .i64 (IntKind.i64.wrap (IntKind.i64.wrap (n1 + n2) + nm.size)))))], m := [(0, .cells 38 (dA k p nm (.mk ak an anm ala alc als aaa aac aus) (.mk bk bn bnm bla blc bls baa bac bus) fx ca cc cts))], k := 1, f := [fun w => DDIn w (DD.mk k p nm (.mk ak an anm ala alc als aaa aac aus) (.mk bk bn bnm bla blc bls baa bac bus) fx ca cc cts)] }) ?_ ?_
  · exact ent_ren [(0, .blk 0)] rfl rfl rfl rfl (Nat.zero_le _) ⟨⟨_, rfl, rfl⟩, ⟨_, rfl, rfl⟩, ⟨_, rfl, rfl⟩, trivial⟩ ⟨⟨_, rfl, rfl⟩, trivial⟩ ⟨⟨DDIn.up _, fun w h => h.2.2.1⟩, trivial⟩
  obtain ⟨n0, hn0⟩ : ∃ n, IntKind.i64.wrap (IntKind.i64.wrap (n1 + n2) + nm.size) = n := ⟨_, rfl⟩
  rw [hn0]
  refine svc_ok tabOk [5] _ _ _ ?_
  refine ⟨⟨Nat × Int, fun x => x.1 ≤ cts.length,
    fun x => { s := [(1, .one (.v (.int .i64 most))), (2, .one (.p 0 0)), (5, .one (.v (.int .i64 x.2))), (6, .one (.v (.int .i64 (x.1 : Int))))], m := [(0, .cells 38 (dA k p nm (.mk ak an anm ala alc als aaa aac aus) (.mk bk bn bnm bla blc bls baa bac bus) fx ca cc cts))], k := 1, f := [fun w => DDIn w (DD.mk k p nm (.mk ak an anm ala alc als aaa aac aus) (.mk bk bn bnm bla blc bls baa bac bus) fx ca cc cts)] },
    fun x => cts.length - x.1, ⟨(0, n0), Nat.zero_le _, ?_⟩, ?_⟩⟩
  · exact ent_ren [(0, .blk 0)] rfl rfl rfl rfl (Nat.zero_le _) ⟨⟨_, rfl, rfl⟩, ⟨_, rfl, rfl⟩, ⟨_, rfl, rfl⟩, ⟨_, rfl, rfl⟩, trivial⟩ ⟨⟨_, rfl, rfl⟩, trivial⟩ ⟨⟨DDIn.up _, fun w h => h.1⟩, trivial⟩
  rintro ⟨j, acc⟩ hj
  simp only at hj
  refine bsplit_i (fun hlt => ?_) (fun hge => ?_)
  rotate_left
  · refine ⟨_, rfl, Told.val ⟨_, rfl⟩⟩
  have hjc : j < cts.length := by
    have h : decide ((j : Int) < (cts.length : Int)) = true := hlt
    have := of_decide_eq_true h
    omega
  refine bsplit_i (fun hle => ?_) (fun hgt => ?_)
  rotate_left
  · refine ⟨_, rfl, Told.val ⟨_, rfl⟩⟩
  obtain ⟨c, hc⟩ : ∃ c, cts[j]? = some c := ⟨_, List.getElem?_eq_getElem hjc⟩
  have hnc := hn c.2
  obtain ⟨nc, hnce⟩ : ∃ n, nodesR most c.2 = n := ⟨_, rfl⟩
  rw [hnce] at hnc
  obtain ⟨cn, ⟨tk, tn, tnm, tla, tlc, tls, taa, tac, tus⟩⟩ := c
  refine Walks.told (p := ∃ a, ca = some a) (fun w h => ?_) ?_
  · obtain ⟨⟨a, ha, _⟩, _⟩ := h.1.hcts j _ hc
    exact ⟨a, ha⟩
  rintro ⟨a0, rfl⟩
  refine svc_ok tabOk [] _ _ _ ?_
  refine .inl ⟨20, [0, 0, 2, 0, 14, 30, 62, 126, 254, 0, 512, 0, 3584, 7680, 15872, 0, 65024, 131070, 262143, 524287], fun vs i => match i with
    | 4 => { c := { n := j } }
    | 6 => { c := { v := .string cn } }
    | 12 => { c := { n := j } }
    | 14 => { c := { cs := (TT.mk tk tn tnm tla tlc tls taa tac tus).cells } }
    | 16 => { pre := fun w => TTIn w (.mk tk tn tnm tla tlc tls taa tac tus), R := fun u => u = .int .i64 nc, nf := fun _ => .int .i64 nc }
    | _ => {}, by kernel_rfl, rfl, by kernel_rfl, by kernel_rfl, by kernel_rfl, by decide, fun vals => ?_⟩
  refine ⟨fun _ => ⟨rfl, hjc, fun w h => rfl⟩, ?_⟩
  refine ⟨fun _ => fun w h => ?_, ?_⟩
  · obtain ⟨⟨a, ha, h3⟩, _⟩ := h.1.hcts j _ hc
    have ha : a0 = a := Option.some.inj ha
    subst ha
    exact ⟨_, rfl, h3 0 _ rfl⟩
  refine ⟨fun _ => ⟨rfl, hjc, fun w h => rfl⟩, ?_⟩
  refine ⟨fun _ => ⟨TT.cells_one (.mk tk tn tnm tla tlc tls taa tac tus), rfl, fun w h => ?_⟩, ?_⟩
  · obtain ⟨⟨a, ha, h3⟩, _⟩ := h.1.hcts j _ hc
    have ha : a0 = a := Option.some.inj ha
    subst ha
    refine ⟨_, rfl, fun l u hl => ?_⟩
    have h4 := h3 (l + 1) u hl
    rw [Addr.add_add] at h4
    show w.cell? (((a0.add (j * 6)).add 1).add l) = some u
    rw [Addr.add_add, Addr.add_add, show j * 6 + (1 + l) = j * 6 + (l + 1) by omega]
    exact h4
  refine ⟨fun _ => ⟨hnc, fun w h => (h.1.hcts j _ hc).2.1, fun _ h => h⟩, ?_⟩
  intro _
  refine ⟨(j + 1, IntKind.i64.wrap (acc + IntKind.i64.wrap (IntKind.i64.wrap (1 + (cn.size : Int)) + nc))), hjc, by simp only; omega, ?_⟩
  exact ent_ren [(0, .blk 0)] rfl rfl rfl rfl (Nat.zero_le _) ⟨⟨_, rfl, rfl⟩, ⟨_, rfl, rfl⟩, ⟨_, rfl, rfl⟩, ⟨_, rfl, oneI (wrapI (by omega) (by omega))⟩, trivial⟩ ⟨⟨_, rfl, rfl⟩, trivial⟩ ⟨⟨DDIn.up _, fun w h => h.2.1⟩, trivial⟩
set_option maxHeartbeats 4000000 in
theorem great_pc (A : Option Addr) (c : Nat) (ds : List DD) : PCall Tryz.prog 8 [.slice A ds.length c] (fun w => DsIn w A c ds) (fun r => ∃ b, r = .bool b) (fun _ _ => True) := by
  have hn := declNodes_pc 8000 (by omega) (by omega)
  refine pcall_of tabOk 30 [.tmp 2] Tryz.func8 rfl rfl (by kernel_rfl) rfl _ (Nat.le_of_ble_eq_true rfl) (DsIn.up _ _ _) (fun _ => Up.true) ?_
  refine svc_ok tabOk [7] _ _ _ ?_
  refine bsplit_i (fun h70 => ?_) (fun h70 => ?_)
  · exact ⟨_, rfl, Told.val ⟨_, rfl⟩⟩
  have h70' : ds.length ≤ 70 := by
    have h : decide ((70 : Int) < (ds.length : Int)) = false := h70
    have := of_decide_eq_false h
    omega
  refine ⟨⟨Nat × Int, fun x => x.1 ≤ ds.length,
    fun x => { s := [(0, .one (.v (.slice A ds.length c))), (3, .one (.v (.int .i64 x.2))), (4, .one (.v (.int .i64 (x.1 : Int))))], m := [], k := 0, f := [fun w => DsIn w A c ds] },
    fun x => ds.length - x.1, ⟨(0, 0), Nat.zero_le _, ?_⟩, ?_⟩⟩
  · exact ent_ren [] rfl rfl rfl rfl (Nat.zero_le _) ⟨⟨_, rfl, rfl⟩, ⟨_, rfl, rfl⟩, ⟨_, rfl, rfl⟩, trivial⟩ trivial ⟨⟨DsIn.up _ _ _, fun w h => h.1⟩, trivial⟩
  rintro ⟨j, acc⟩ hj
  simp only at hj
  refine bsplit_i (fun hlt => ?_) (fun hge => ?_)
  rotate_left
  · exact ⟨_, rfl, Told.val ⟨_, rfl⟩⟩
  have hjc : j < ds.length := by
    have h : decide ((j : Int) < (ds.length : Int)) = true := hlt
    have := of_decide_eq_true h
    omega
  obtain ⟨d, hd⟩ : ∃ d, ds[j]? = some d := ⟨_, List.getElem?_eq_getElem hjc⟩
  have hn := hn d
  have hcs : ∀ w, DsIn w A c ds → (∃ a, A = some a ∧ ∀ l u, d.cells[l]? = some u → w.cell? ((a.add (j * 15)).add l) = some u) ∧ DDIn w d := fun w h => h.1 j d hd
  obtain ⟨k, p, nm, ⟨ak, an, anm, ala, alc, als, aaa, aac, aus⟩, ⟨bk, bn, bnm, bla, blc, bls, baa, bac, bus⟩, fx, ca, cc, cts⟩ := d
  refine Walks.told (p := ∃ a, A = some a) (fun w h => ?_) ?_
  · obtain ⟨⟨a, ha, _⟩, _⟩ := hcs w h.1
    exact ⟨a, ha⟩
  rintro ⟨a0, rfl⟩
  refine svc_ok tabOk [] _ _ _ ?_
  refine ⟨{ n := j }, ⟨rfl, hjc, fun w h => rfl⟩, ?_⟩
  refine ⟨{ v := .slice ca cts.length cc }, fun w h => ?_, ?_⟩
  · obtain ⟨⟨a, ha, h3⟩, _⟩ := hcs w h.1
    have ha : a0 = a := Option.some.inj ha
    subst ha
    refine ⟨_, rfl, ?_⟩
    exact h3 14 _ rfl
  refine bsplit_i (fun h20 => ?_) (fun h20 => ?_)
  · exact ⟨_, rfl, Told.val ⟨_, rfl⟩⟩
  refine ⟨{ n := j }, ⟨rfl, hjc, fun w h => rfl⟩, ?_⟩
  refine ⟨{ cs := (DD.mk k p nm (.mk ak an anm ala alc als aaa aac aus) (.mk bk bn bnm bla blc bls baa bac bus) fx ca cc cts).cells }, ⟨DD.cells_one (.mk k p nm (.mk ak an anm ala alc als aaa aac aus) (.mk bk bn bnm bla blc bls baa bac bus) fx ca cc cts), rfl, fun w h => ?_⟩, ?_⟩
  · obtain ⟨⟨a, ha, h3⟩, _⟩ := hcs w h.1
    have ha : a0 = a := Option.some.inj ha
    subst ha
    exact ⟨_, rfl, h3⟩
  refine callVC_plain hn (fun e => by show [Value.agg (reals e ((DD.mk k p nm (.mk ak an anm ala alc als aaa aac aus) (.mk bk bn bnm bla blc bls baa bac bus) fx ca cc cts).cells.map SA.v)).toArray, _] = _; rw [map_plain]; rfl) (fun w h => (hcs w h.1).2) ?_
  rintro r ⟨nn, rfl⟩
  refine bsplit_i (fun h8 => ?_) (fun h8 => ?_)
  · exact ⟨_, rfl, Told.val ⟨_, rfl⟩⟩
  refine ⟨(j + 1, IntKind.i64.wrap (acc + nn)), hjc, by simp only; omega, ?_⟩
  exact ent_ren [] rfl rfl rfl rfl (Nat.zero_le _) ⟨⟨_, rfl, rfl⟩, ⟨_, rfl, rfl⟩, ⟨_, rfl, oneI (wrapI (by omega) (by omega))⟩, trivial⟩ trivial ⟨⟨DsIn.up _ _ _, fun w h => h.2.1⟩, trivial⟩
end Go.Proofs.YtmkpiekbpakigaaGreatDoor
end
section
set_option linter.unusedVariables false
set_option linter.unusedSimpArgs false
namespace Go.Proofs.YtmkpiekbpakigaaGreatDoor
open Go.RowKit Go.Proofs.Base Go.Proofs.Sym
def sameCs : List (ByteArray × TT) → List (ByteArray × TT) → Bool
  | [], [] => true
  | a :: r, b :: r' => decide (a.1 = b.1) && sameT a.2 b.2 && sameCs r r'
  | _, _ => false
def sameD (a b : DD) : Bool := decide (a.kind = b.kind) && (decide (a.params = b.params) && (decide (a.name = b.name) && (decide (a.fixed = b.fixed) && (decide (a.cts.length = b.cts.length) && (sameT a.ty b.ty && (sameT a.val b.val && sameCs a.cts b.cts))))))
theorem or7 {a b c d e f g : Bool} (r : Bool) : (true = ((((((!a || !b) || !c) || !d) || !e) || !f) || !g)) → false = (a && (b && (c && (d && (e && (f && (g && r))))))) := by
  cases a <;> cases b <;> cases c <;> cases d <;> cases e <;> cases f <;> cases g <;> simp
theorem nor7 {a b c d e f g : Bool} : (false = ((((((!a || !b) || !c) || !d) || !e) || !f) || !g)) → a = true ∧ b = true ∧ c = true ∧ d = true ∧ e = true ∧ f = true ∧ g = true := by
  cases a <;> cases b <;> cases c <;> cases d <;> cases e <;> cases f <;> cases g <;> simp
def sdPre (a b : DD) (w : World) : Prop := DDIn w a ∧ DDIn w b
theorem sdPre.up (a b : DD) : Up (sdPre a b) := (DDIn.up a).and (DDIn.up b)
set_option maxHeartbeats 8000000 in
theorem sameDecl_pc (d d' : DD) : PCall Tryz.prog 21 [d.dv, d'.dv] (sdPre d d') (fun r => r = .bool (sameD d d')) (fun _ _ => True) := by
  by_cases hal : d.cts.length ≤ 9223372036854775807
  rotate_left
  · refine ⟨enters Tryz.func21 (by kernel_rfl) (by kernel_rfl), fun _ => Up.true, fun w H hH hp => ?_⟩
    have h1 := hp.1.hcc
    have h2 := hp.1.hcm
    simp only [maxLen] at h1 h2
    omega
  obtain ⟨k, p, nm, t1, t2, fx, ca, cc, cts⟩ := d
  obtain ⟨k', p', nm', t1', t2', fx', ca', cc', cts'⟩ := d'
  have hs1 := same_pc t1 t1'
  have hs2 := same_pc t2 t2'
  simp only at hal
  have hspec : sameD ⟨k, p, nm, t1, t2, fx, ca, cc, cts⟩ ⟨k', p', nm', t1', t2', fx', ca', cc', cts'⟩ = (decide (k = k') && (decide (p = p') && (decide (nm = nm') && (decide (fx = fx') && (decide (cts.length = cts'.length) && (sameT t1 t1' && (sameT t2 t2' && sameCs cts cts'))))))) := rfl
  rw [hspec]
  obtain ⟨e1, he1⟩ : ∃ e, sameT t1 t1' = e := ⟨_, rfl⟩
  obtain ⟨e2, he2⟩ : ∃ e, sameT t2 t2' = e := ⟨_, rfl⟩
  rw [he1] at hs1 ⊢
  rw [he2] at hs2 ⊢
  clear hspec
  obtain ⟨ak, an, anm, ala, alc, als, aaa, aac, aus⟩ := t1
  obtain ⟨bk, bn, bnm, bla, blc, bls, baa, bac, bus⟩ := t2
  obtain ⟨ak', an', anm', ala', alc', als', aaa', aac', aus'⟩ := t1'
  obtain ⟨bk', bn', bnm', bla', blc', bls', baa', bac', bus'⟩ := t2'
  refine pcall_of tabOk 93 [.tmp 4] Tryz.func21 rfl rfl (by kernel_rfl) rfl _ (Nat.le_of_ble_eq_true rfl) (sdPre.up _ _) (fun _ => Up.true) ?_
  refine svc_ok tabOk [1] _ _ _ ?_
  refine Walks.ent (st' := { s := [(2, .one (.p 0 0)), (3, .one (.p 1 0)), (4, .one (.v (.bool false)))], m := [(0, .cells 38 [.v (.int .i64 k), .v (.int .i64 p), .v (.string nm), .v (.int .i64 ak), .v (.int .i64 an), .v (.string anm), .v (.slice ala als.length alc), .v (.slice aaa aus.length aac), .v (.int .i64 bk), .v (.int .i64 bn), .v (.string bnm), .v (.slice bla bls.length blc), .v (.slice baa bus.length bac), .v (.int .i64 fx), .v (.slice ca cts.length cc)]), (1, .cells 38 [.v (.int .i64 k'), .v (.int .i64 p'), .v (.string nm'), .v (.int .i64 ak'), .v (.int .i64 an'), .v (.string anm'), .v (.slice ala' als'.length alc'), .v (.slice aaa' aus'.length aac'), .v (.int .i64 bk'), .v (.int .i64 bn'), .v (.string bnm'), .v (.slice bla' bls'.length blc'), .v (.slice baa' bus'.length bac'), .v (.int .i64 fx'), .v (.slice ca' cts'.length cc')])], k := 2, f := [sdPre (DD.mk k p nm (.mk ak an anm ala alc als aaa aac aus) (.mk bk bn bnm bla blc bls baa bac bus) fx ca cc cts) (DD.mk k' p' nm' (.mk ak' an' anm' ala' alc' als' aaa' aac' aus') (.mk bk' bn' bnm' bla' blc' bls' baa' bac' bus') fx' ca' cc' cts')] }) ?_ ?_
  · exact ent_ren [(0, .blk 0), (1, .blk 1)] rfl rfl rfl rfl (Nat.zero_le _) ⟨⟨_, rfl, rfl⟩, ⟨_, rfl, rfl⟩, ⟨_, rfl, rfl⟩, trivial⟩ ⟨⟨_, rfl, rfl⟩, ⟨_, rfl, rfl⟩, trivial⟩ ⟨⟨sdPre.up _ _, fun w h => h.1⟩, trivial⟩
  have hlen : decide ((cts.length : Int) = (cts'.length : Int)) = decide (cts.length = cts'.length) := decide_eq_decide.2 (by omega)
  refine Walks.seq (Walks.seq (Walks.parts ?_))
  refine SWalks.step tabOk 6 (X := Bool) (fun b => b = (!decide (k = k'))) (fun b => { s := [(11, .one (.v (.bool b))), (2, .one (.p 0 0)), (3, .one (.p 1 0))], m := [(0, .cells 38 [.v (.int .i64 k), .v (.int .i64 p), .v (.string nm), .v (.int .i64 ak), .v (.int .i64 an), .v (.string anm), .v (.slice ala als.length alc), .v (.slice aaa aus.length aac), .v (.int .i64 bk), .v (.int .i64 bn), .v (.string bnm), .v (.slice bla bls.length blc), .v (.slice baa bus.length bac), .v (.int .i64 fx), .v (.slice ca cts.length cc)]), (1, .cells 38 [.v (.int .i64 k'), .v (.int .i64 p'), .v (.string nm'), .v (.int .i64 ak'), .v (.int .i64 an'), .v (.string anm'), .v (.slice ala' als'.length alc'), .v (.slice aaa' aus'.length aac'), .v (.int .i64 bk'), .v (.int .i64 bn'), .v (.string bnm'), .v (.slice bla' bls'.length blc'), .v (.slice baa' bus'.length bac'), .v (.int .i64 fx'), .v (.slice ca' cts'.length cc')])], k := 2, f := [sdPre (DD.mk k p nm (.mk ak an anm ala alc als aaa aac aus) (.mk bk bn bnm bla blc bls baa bac bus) fx ca cc cts) (DD.mk k' p' nm' (.mk ak' an' anm' ala' alc' als' aaa' aac' aus') (.mk bk' bn' bnm' bla' blc' bls' baa' bac' bus') fx' ca' cc' cts')] }) ?_ (fun b0 hb0 => ?_)
  · exact ⟨_, rfl, ent_ren [(0, .blk 0), (1, .blk 1)] rfl rfl rfl rfl (Nat.zero_le _) ⟨⟨_, rfl, rfl⟩, ⟨_, rfl, rfl⟩, ⟨_, rfl, rfl⟩, trivial⟩ ⟨⟨_, rfl, rfl⟩, ⟨_, rfl, rfl⟩, trivial⟩ ⟨⟨sdPre.up _ _, fun w h => h.1⟩, trivial⟩⟩
  refine SWalks.step tabOk 7 (X := Bool) (fun b => b = ((!decide (k = k')) || !decide (p = p'))) (fun b => { s := [(18, .one (.v (.bool b))), (2, .one (.p 0 0)), (3, .one (.p 1 0))], m := [(0, .cells 38 [.v (.int .i64 k), .v (.int .i64 p), .v (.string nm), .v (.int .i64 ak), .v (.int .i64 an), .v (.string anm), .v (.slice ala als.length alc), .v (.slice aaa aus.length aac), .v (.int .i64 bk), .v (.int .i64 bn), .v (.string bnm), .v (.slice bla bls.length blc), .v (.slice baa bus.length bac), .v (.int .i64 fx), .v (.slice ca cts.length cc)]), (1, .cells 38 [.v (.int .i64 k'), .v (.int .i64 p'), .v (.string nm'), .v (.int .i64 ak'), .v (.int .i64 an'), .v (.string anm'), .v (.slice ala' als'.length alc'), .v (.slice aaa' aus'.length aac'), .v (.int .i64 bk'), .v (.int .i64 bn'), .v (.string bnm'), .v (.slice bla' bls'.length blc'), .v (.slice baa' bus'.length bac'), .v (.int .i64 fx'), .v (.slice ca' cts'.length cc')])], k := 2, f := [sdPre (DD.mk k p nm (.mk ak an anm ala alc als aaa aac aus) (.mk bk bn bnm bla blc bls baa bac bus) fx ca cc cts) (DD.mk k' p' nm' (.mk ak' an' anm' ala' alc' als' aaa' aac' aus') (.mk bk' bn' bnm' bla' blc' bls' baa' bac' bus') fx' ca' cc' cts')] }) ?_ (fun b1 hb1 => ?_)
  · refine bsplit_i (fun h => ?_) (fun h => ?_)
    · exact ⟨true, by rw [← hb0, h]; rfl, ent_ren [(0, .blk 0), (1, .blk 1)] rfl rfl rfl rfl (Nat.zero_le _) ⟨⟨_, rfl, rfl⟩, ⟨_, rfl, rfl⟩, ⟨_, rfl, rfl⟩, trivial⟩ ⟨⟨_, rfl, rfl⟩, ⟨_, rfl, rfl⟩, trivial⟩ ⟨⟨sdPre.up _ _, fun w h => h.1⟩, trivial⟩⟩
    · exact ⟨!decide (p = p'), by rw [← hb0, h]; rfl, ent_ren [(0, .blk 0), (1, .blk 1)] rfl rfl rfl rfl (Nat.zero_le _) ⟨⟨_, rfl, rfl⟩, ⟨_, rfl, rfl⟩, ⟨_, rfl, rfl⟩, trivial⟩ ⟨⟨_, rfl, rfl⟩, ⟨_, rfl, rfl⟩, trivial⟩ ⟨⟨sdPre.up _ _, fun w h => h.1⟩, trivial⟩⟩
  refine SWalks.step tabOk 7 (X := Bool) (fun b => b = (((!decide (k = k')) || !decide (p = p')) || !decide (nm = nm'))) (fun b => { s := [(25, .one (.v (.bool b))), (2, .one (.p 0 0)), (3, .one (.p 1 0))], m := [(0, .cells 38 [.v (.int .i64 k), .v (.int .i64 p), .v (.string nm), .v (.int .i64 ak), .v (.int .i64 an), .v (.string anm), .v (.slice ala als.length alc), .v (.slice aaa aus.length aac), .v (.int .i64 bk), .v (.int .i64 bn), .v (.string bnm), .v (.slice bla bls.length blc), .v (.slice baa bus.length bac), .v (.int .i64 fx), .v (.slice ca cts.length cc)]), (1, .cells 38 [.v (.int .i64 k'), .v (.int .i64 p'), .v (.string nm'), .v (.int .i64 ak'), .v (.int .i64 an'), .v (.string anm'), .v (.slice ala' als'.length alc'), .v (.slice aaa' aus'.length aac'), .v (.int .i64 bk'), .v (.int .i64 bn'), .v (.string bnm'), .v (.slice bla' bls'.length blc'), .v (.slice baa' bus'.length bac'), .v (.int .i64 fx'), .v (.slice ca' cts'.length cc')])], k := 2, f := [sdPre (DD.mk k p nm (.mk ak an anm ala alc als aaa aac aus) (.mk bk bn bnm bla blc bls baa bac bus) fx ca cc cts) (DD.mk k' p' nm' (.mk ak' an' anm' ala' alc' als' aaa' aac' aus') (.mk bk' bn' bnm' bla' blc' bls' baa' bac' bus') fx' ca' cc' cts')] }) ?_ (fun b2 hb2 => ?_)
  · refine bsplit_i (fun h => ?_) (fun h => ?_)
    · exact ⟨true, by rw [← hb1, h]; rfl, ent_ren [(0, .blk 0), (1, .blk 1)] rfl rfl rfl rfl (Nat.zero_le _) ⟨⟨_, rfl, rfl⟩, ⟨_, rfl, rfl⟩, ⟨_, rfl, rfl⟩, trivial⟩ ⟨⟨_, rfl, rfl⟩, ⟨_, rfl, rfl⟩, trivial⟩ ⟨⟨sdPre.up _ _, fun w h => h.1⟩, trivial⟩⟩
    · exact ⟨!decide (nm = nm'), by rw [← hb1, h]; rfl, ent_ren [(0, .blk 0), (1, .blk 1)] rfl rfl rfl rfl (Nat.zero_le _) ⟨⟨_, rfl, rfl⟩, ⟨_, rfl, rfl⟩, ⟨_, rfl, rfl⟩, trivial⟩ ⟨⟨_, rfl, rfl⟩, ⟨_, rfl, rfl⟩, trivial⟩ ⟨⟨sdPre.up _ _, fun w h => h.1⟩, trivial⟩⟩
  refine SWalks.step tabOk 7 (X := Bool) (fun b => b = ((((!decide (k = k')) || !decide (p = p')) || !decide (nm = nm')) || !decide (fx = fx'))) (fun b => { s := [(32, .one (.v (.bool b))), (2, .one (.p 0 0)), (3, .one (.p 1 0))], m := [(0, .cells 38 [.v (.int .i64 k), .v (.int .i64 p), .v (.string nm), .v (.int .i64 ak), .v (.int .i64 an), .v (.string anm), .v (.slice ala als.length alc), .v (.slice aaa aus.length aac), .v (.int .i64 bk), .v (.int .i64 bn), .v (.string bnm), .v (.slice bla bls.length blc), .v (.slice baa bus.length bac), .v (.int .i64 fx), .v (.slice ca cts.length cc)]), (1, .cells 38 [.v (.int .i64 k'), .v (.int .i64 p'), .v (.string nm'), .v (.int .i64 ak'), .v (.int .i64 an'), .v (.string anm'), .v (.slice ala' als'.length alc'), .v (.slice aaa' aus'.length aac'), .v (.int .i64 bk'), .v (.int .i64 bn'), .v (.string bnm'), .v (.slice bla' bls'.length blc'), .v (.slice baa' bus'.length bac'), .v (.int .i64 fx'), .v (.slice ca' cts'.length cc')])], k := 2, f := [sdPre (DD.mk k p nm (.mk ak an anm ala alc als aaa aac aus) (.mk bk bn bnm bla blc bls baa bac bus) fx ca cc cts) (DD.mk k' p' nm' (.mk ak' an' anm' ala' alc' als' aaa' aac' aus') (.mk bk' bn' bnm' bla' blc' bls' baa' bac' bus') fx' ca' cc' cts')] }) ?_ (fun b3 hb3 => ?_)
  · refine bsplit_i (fun h => ?_) (fun h => ?_)
    · exact ⟨true, by rw [← hb2, h]; rfl, ent_ren [(0, .blk 0), (1, .blk 1)] rfl rfl rfl rfl (Nat.zero_le _) ⟨⟨_, rfl, rfl⟩, ⟨_, rfl, rfl⟩, ⟨_, rfl, rfl⟩, trivial⟩ ⟨⟨_, rfl, rfl⟩, ⟨_, rfl, rfl⟩, trivial⟩ ⟨⟨sdPre.up _ _, fun w h => h.1⟩, trivial⟩⟩
    · exact ⟨!decide (fx = fx'), by rw [← hb2, h]; rfl, ent_ren [(0, .blk 0), (1, .blk 1)] rfl rfl rfl rfl (Nat.zero_le _) ⟨⟨_, rfl, rfl⟩, ⟨_, rfl, rfl⟩, ⟨_, rfl, rfl⟩, trivial⟩ ⟨⟨_, rfl, rfl⟩, ⟨_, rfl, rfl⟩, trivial⟩ ⟨⟨sdPre.up _ _, fun w h => h.1⟩, trivial⟩⟩
  refine SWalks.step tabOk 9 (X := Bool) (fun b => b = (((((!decide (k = k')) || !decide (p = p')) || !decide (nm = nm')) || !decide (fx = fx')) || !decide ((cts.length : Int) = (cts'.length : Int)))) (fun b => { s := [(41, .one (.v (.bool b))), (2, .one (.p 0 0)), (3, .one (.p 1 0))], m := [(0, .cells 38 [.v (.int .i64 k), .v (.int .i64 p), .v (.string nm), .v (.int .i64 ak), .v (.int .i64 an), .v (.string anm), .v (.slice ala als.length alc), .v (.slice aaa aus.length aac), .v (.int .i64 bk), .v (.int .i64 bn), .v (.string bnm), .v (.slice bla bls.length blc), .v (.slice baa bus.length bac), .v (.int .i64 fx), .v (.slice ca cts.length cc)]), (1, .cells 38 [.v (.int .i64 k'), .v (.int .i64 p'), .v (.string nm'), .v (.int .i64 ak'), .v (.int .i64 an'), .v (.string anm'), .v (.slice ala' als'.length alc'), .v (.slice aaa' aus'.length aac'), .v (.int .i64 bk'), .v (.int .i64 bn'), .v (.string bnm'), .v (.slice bla' bls'.length blc'), .v (.slice baa' bus'.length bac'), .v (.int .i64 fx'), .v (.slice ca' cts'.length cc')])], k := 2, f := [sdPre (DD.mk k p nm (.mk ak an anm ala alc als aaa aac aus) (.mk bk bn bnm bla blc bls baa bac bus) fx ca cc cts) (DD.mk k' p' nm' (.mk ak' an' anm' ala' alc' als' aaa' aac' aus') (.mk bk' bn' bnm' bla' blc' bls' baa' bac' bus') fx' ca' cc' cts')] }) ?_ (fun b4 hb4 => ?_)
  · refine bsplit_i (fun h => ?_) (fun h => ?_)
    · exact ⟨true, by rw [← hb3, h]; rfl, ent_ren [(0, .blk 0), (1, .blk 1)] rfl rfl rfl rfl (Nat.zero_le _) ⟨⟨_, rfl, rfl⟩, ⟨_, rfl, rfl⟩, ⟨_, rfl, rfl⟩, trivial⟩ ⟨⟨_, rfl, rfl⟩, ⟨_, rfl, rfl⟩, trivial⟩ ⟨⟨sdPre.up _ _, fun w h => h.1⟩, trivial⟩⟩
    · exact ⟨!decide ((cts.length : Int) = (cts'.length : Int)), by rw [← hb3, h]; rfl, ent_ren [(0, .blk 0), (1, .blk 1)] rfl rfl rfl rfl (Nat.zero_le _) ⟨⟨_, rfl, rfl⟩, ⟨_, rfl, rfl⟩, ⟨_, rfl, rfl⟩, trivial⟩ ⟨⟨_, rfl, rfl⟩, ⟨_, rfl, rfl⟩, trivial⟩ ⟨⟨sdPre.up _ _, fun w h => h.1⟩, trivial⟩⟩
  refine SWalks.step tabOk 8 (X := Bool) (fun b => b = ((((((!decide (k = k')) || !decide (p = p')) || !decide (nm = nm')) || !decide (fx = fx')) || !decide ((cts.length : Int) = (cts'.length : Int))) || !e1)) (fun b => { s := [(49, .one (.v (.bool b))), (2, .one (.p 0 0)), (3, .one (.p 1 0))], m := [(0, .cells 38 [.v (.int .i64 k), .v (.int .i64 p), .v (.string nm), .v (.int .i64 ak), .v (.int .i64 an), .v (.string anm), .v (.slice ala als.length alc), .v (.slice aaa aus.length aac), .v (.int .i64 bk), .v (.int .i64 bn), .v (.string bnm), .v (.slice bla bls.length blc), .v (.slice baa bus.length bac), .v (.int .i64 fx), .v (.slice ca cts.length cc)]), (1, .cells 38 [.v (.int .i64 k'), .v (.int .i64 p'), .v (.string nm'), .v (.int .i64 ak'), .v (.int .i64 an'), .v (.string anm'), .v (.slice ala' als'.length alc'), .v (.slice aaa' aus'.length aac'), .v (.int .i64 bk'), .v (.int .i64 bn'), .v (.string bnm'), .v (.slice bla' bls'.length blc'), .v (.slice baa' bus'.length bac'), .v (.int .i64 fx'), .v (.slice ca' cts'.length cc')])], k := 2, f := [sdPre (DD.mk k p nm (.mk ak an anm ala alc als aaa aac aus) (.mk bk bn bnm bla blc bls baa bac bus) fx ca cc cts) (DD.mk k' p' nm' (.mk ak' an' anm' ala' alc' als' aaa' aac' aus') (.mk bk' bn' bnm' bla' blc' bls' baa' bac' bus') fx' ca' cc' cts')] }) ?_ (fun b5 hb5 => ?_)
  · refine bsplit_i (fun h => ?_) (fun h => ?_)
    · exact ⟨true, by rw [← hb4, h]; rfl, ent_ren [(0, .blk 0), (1, .blk 1)] rfl rfl rfl rfl (Nat.zero_le _) ⟨⟨_, rfl, rfl⟩, ⟨_, rfl, rfl⟩, ⟨_, rfl, rfl⟩, trivial⟩ ⟨⟨_, rfl, rfl⟩, ⟨_, rfl, rfl⟩, trivial⟩ ⟨⟨sdPre.up _ _, fun w h => h.1⟩, trivial⟩⟩
    · refine callVC_plain hs1 (fun _ => rfl) (fun w h => ⟨h.1.1.hty, h.1.2.hty⟩) ?_
      rintro r rfl
      exact ⟨!e1, by rw [← hb4, h]; rfl, ent_ren [(0, .blk 0), (1, .blk 1)] rfl rfl rfl rfl (Nat.zero_le _) ⟨⟨_, rfl, rfl⟩, ⟨_, rfl, rfl⟩, ⟨_, rfl, rfl⟩, trivial⟩ ⟨⟨_, rfl, rfl⟩, ⟨_, rfl, rfl⟩, trivial⟩ ⟨⟨sdPre.up _ _, fun w h => h.2.1⟩, trivial⟩⟩
  refine SWalks.step tabOk 7 (X := Bool) (fun b => b = (((((((!decide (k = k')) || !decide (p = p')) || !decide (nm = nm')) || !decide (fx = fx')) || !decide ((cts.length : Int) = (cts'.length : Int))) || !e1) || !e2)) (fun b => { s := [(56, .one (.v (.bool b))), (2, .one (.p 0 0)), (3, .one (.p 1 0))], m := [(0, .cells 38 [.v (.int .i64 k), .v (.int .i64 p), .v (.string nm), .v (.int .i64 ak), .v (.int .i64 an), .v (.string anm), .v (.slice ala als.length alc), .v (.slice aaa aus.length aac), .v (.int .i64 bk), .v (.int .i64 bn), .v (.string bnm), .v (.slice bla bls.length blc), .v (.slice baa bus.length bac), .v (.int .i64 fx), .v (.slice ca cts.length cc)]), (1, .cells 38 [.v (.int .i64 k'), .v (.int .i64 p'), .v (.string nm'), .v (.int .i64 ak'), .v (.int .i64 an'), .v (.string anm'), .v (.slice ala' als'.length alc'), .v (.slice aaa' aus'.length aac'), .v (.int .i64 bk'), .v (.int .i64 bn'), .v (.string bnm'), .v (.slice bla' bls'.length blc'), .v (.slice baa' bus'.length bac'), .v (.int .i64 fx'), .v (.slice ca' cts'.length cc')])], k := 2, f := [sdPre (DD.mk k p nm (.mk ak an anm ala alc als aaa aac aus) (.mk bk bn bnm bla blc bls baa bac bus) fx ca cc cts) (DD.mk k' p' nm' (.mk ak' an' anm' ala' alc' als' aaa' aac' aus') (.mk bk' bn' bnm' bla' blc' bls' baa' bac' bus') fx' ca' cc' cts')] }) ?_ (fun b6 hb6 => ?_)
  · refine bsplit_i (fun h => ?_) (fun h => ?_)
    · exact ⟨true, by rw [← hb5, h]; rfl, ent_ren [(0, .blk 0), (1, .blk 1)] rfl rfl rfl rfl (Nat.zero_le _) ⟨⟨_, rfl, rfl⟩, ⟨_, rfl, rfl⟩, ⟨_, rfl, rfl⟩, trivial⟩ ⟨⟨_, rfl, rfl⟩, ⟨_, rfl, rfl⟩, trivial⟩ ⟨⟨sdPre.up _ _, fun w h => h.1⟩, trivial⟩⟩
    · refine callVC_plain hs2 (fun _ => rfl) (fun w h => ⟨h.1.1.hval, h.1.2.hval⟩) ?_
      rintro r rfl
      exact ⟨!e2, by rw [← hb5, h]; rfl, ent_ren [(0, .blk 0), (1, .blk 1)] rfl rfl rfl rfl (Nat.zero_le _) ⟨⟨_, rfl, rfl⟩, ⟨_, rfl, rfl⟩, ⟨_, rfl, rfl⟩, trivial⟩ ⟨⟨_, rfl, rfl⟩, ⟨_, rfl, rfl⟩, trivial⟩ ⟨⟨sdPre.up _ _, fun w h => h.2.1⟩, trivial⟩⟩
  rw [hlen] at hb6
  refine SWalks.done ?_
  refine svc_ok tabOk [] _ _ _ ?_
  refine bsplit_i (fun h => ?_) (fun h => ?_)
  · exact ⟨_, rfl, Told.val (congrArg Value.bool (or7 _ (h.symm.trans hb6)))⟩
  obtain ⟨h1, h2, h3, h4, h5, h6, h7⟩ := nor7 (h.symm.trans hb6)
  have h1 := of_decide_eq_true h1
  have h2 := of_decide_eq_true h2
  have h3 := of_decide_eq_true h3
  have h4 := of_decide_eq_true h4
  have h5 := of_decide_eq_true h5
  subst h6 h7
  refine Walks.ent (st' := { s := [(2, .one (.p 0 0)), (3, .one (.p 1 0))], m := [(0, .cells 38 (dA k p nm (.mk ak an anm ala alc als aaa aac aus) (.mk bk bn bnm bla blc bls baa bac bus) fx ca cc cts)), (1, .cells 38 (dA k' p' nm' (.mk ak' an' anm' ala' alc' als' aaa' aac' aus') (.mk bk' bn' bnm' bla' blc' bls' baa' bac' bus') fx' ca' cc' cts'))], k := 2, f := [sdPre (DD.mk k p nm (.mk ak an anm ala alc als aaa aac aus) (.mk bk bn bnm bla blc bls baa bac bus) fx ca cc cts) (DD.mk k' p' nm' (.mk ak' an' anm' ala' alc' als' aaa' aac' aus') (.mk bk' bn' bnm' bla' blc' bls' baa' bac' bus') fx' ca' cc' cts')] }) ?_ ?_
  · exact ent_ren [(0, .blk 0), (1, .blk 1)] rfl rfl rfl rfl (Nat.zero_le _) ⟨⟨_, rfl, rfl⟩, ⟨_, rfl, rfl⟩, trivial⟩ ⟨⟨_, rfl, rfl⟩, ⟨_, rfl, rfl⟩, trivial⟩ ⟨⟨sdPre.up _ _, fun w h => h.1⟩, trivial⟩
  refine svc_ok tabOk [6] _ _ _ ?_
  refine ⟨⟨Nat, fun j => j ≤ cts.length ∧ sameCs (cts.drop j) (cts'.drop j) = sameCs cts cts',
    fun j => { s := [(2, .one (.p 0 0)), (3, .one (.p 1 0)), (5, .one (.v (.int .i64 (j : Int))))], m := [(0, .cells 38 (dA k p nm (.mk ak an anm ala alc als aaa aac aus) (.mk bk bn bnm bla blc bls baa bac bus) fx ca cc cts)), (1, .cells 38 (dA k' p' nm' (.mk ak' an' anm' ala' alc' als' aaa' aac' aus') (.mk bk' bn' bnm' bla' blc' bls' baa' bac' bus') fx' ca' cc' cts'))], k := 2, f := [sdPre (DD.mk k p nm (.mk ak an anm ala alc als aaa aac aus) (.mk bk bn bnm bla blc bls baa bac bus) fx ca cc cts) (DD.mk k' p' nm' (.mk ak' an' anm' ala' alc' als' aaa' aac' aus') (.mk bk' bn' bnm' bla' blc' bls' baa' bac' bus') fx' ca' cc' cts')] },
    fun j => cts.length - j, ⟨0, ⟨Nat.zero_le _, rfl⟩, ?_⟩, ?_⟩⟩
  · exact ent_ren [(0, .blk 0), (1, .blk 1)] rfl rfl rfl rfl (Nat.zero_le _) ⟨⟨_, rfl, rfl⟩, ⟨_, rfl, rfl⟩, ⟨_, rfl, rfl⟩, trivial⟩ ⟨⟨_, rfl, rfl⟩, ⟨_, rfl, rfl⟩, trivial⟩ ⟨⟨sdPre.up _ _, fun w h => h.1⟩, trivial⟩
  rintro j ⟨hj, hpre⟩
  refine bsplit_i (fun hlt => ?_) (fun hge => ?_)
  rotate_left
  · have hge : cts.length ≤ j := by
      have h : decide ((j : Int) < (cts.length : Int)) = false := hge
      have := of_decide_eq_false h
      omega
    have hend : sameCs cts cts' = true := by
      rw [← hpre, List.drop_eq_nil_of_le hge, List.drop_eq_nil_of_le (by omega)]
      rfl
    exact ⟨_, rfl, Told.val (by rw [hend]; simp [h1, h2, h3, h4, h5])⟩
  have hjc : j < cts.length := by
    have h : decide ((j : Int) < (cts.length : Int)) = true := hlt
    have := of_decide_eq_true h
    omega
  obtain ⟨x, hx⟩ : ∃ x, cts[j]? = some x := ⟨_, List.getElem?_eq_getElem hjc⟩
  obtain ⟨y, hy⟩ : ∃ y, cts'[j]? = some y := ⟨_, List.getElem?_eq_getElem (by omega)⟩
  have hstep : sameCs cts cts' = (decide (x.1 = y.1) && sameT x.2 y.2 && sameCs (cts.drop (j + 1)) (cts'.drop (j + 1))) := by
    rw [← hpre, List.drop_eq_getElem_cons hjc, List.drop_eq_getElem_cons (by omega : j < cts'.length), (List.getElem?_eq_some_iff.1 hx).2, (List.getElem?_eq_some_iff.1 hy).2]
    rfl
  have hrec := same_pc x.2 y.2
  obtain ⟨r, hr⟩ : ∃ r, sameT x.2 y.2 = r := ⟨_, rfl⟩
  rw [hr] at hrec hstep
  obtain ⟨xn, ⟨xk, xm, xs, xla, xlc, xls, xaa, xac, xas⟩⟩ := x
  obtain ⟨yn, ⟨yk, ym, ys, yla, ylc, yls, yaa, yac, yas⟩⟩ := y
  simp only at hstep
  have hcx : ∀ w, sdPre (DD.mk k p nm (.mk ak an anm ala alc als aaa aac aus) (.mk bk bn bnm bla blc bls baa bac bus) fx ca cc cts) (DD.mk k' p' nm' (.mk ak' an' anm' ala' alc' als' aaa' aac' aus') (.mk bk' bn' bnm' bla' blc' bls' baa' bac' bus') fx' ca' cc' cts') w → (∃ a, ca = some a ∧ ∀ l u, (ctCells (xn, TT.mk xk xm xs xla xlc xls xaa xac xas))[l]? = some u → w.cell? ((a.add (j * 6)).add l) = some u) ∧ TTIn w (.mk xk xm xs xla xlc xls xaa xac xas) := fun w h => ⟨(h.1.hcts j _ hx).1, (h.1.hcts j _ hx).2.1⟩
  have hcy : ∀ w, sdPre (DD.mk k p nm (.mk ak an anm ala alc als aaa aac aus) (.mk bk bn bnm bla blc bls baa bac bus) fx ca cc cts) (DD.mk k' p' nm' (.mk ak' an' anm' ala' alc' als' aaa' aac' aus') (.mk bk' bn' bnm' bla' blc' bls' baa' bac' bus') fx' ca' cc' cts') w → (∃ a, ca' = some a ∧ ∀ l u, (ctCells (yn, TT.mk yk ym ys yla ylc yls yaa yac yas))[l]? = some u → w.cell? ((a.add (j * 6)).add l) = some u) ∧ TTIn w (.mk yk ym ys yla ylc yls yaa yac yas) := fun w h => ⟨(h.2.hcts j _ hy).1, (h.2.hcts j _ hy).2.1⟩
  refine Walks.told (p := (∃ a, ca = some a) ∧ ∃ a, ca' = some a) (fun w h => ?_) ?_
  · obtain ⟨⟨a, ha, _⟩, _⟩ := hcx w h.1
    obtain ⟨⟨b, hb, _⟩, _⟩ := hcy w h.1
    exact ⟨⟨a, ha⟩, ⟨b, hb⟩⟩
  rintro ⟨⟨a0, rfl⟩, ⟨b0, rfl⟩⟩
  have hjc' : j < cts'.length := by omega
  obtain ⟨q, hq⟩ : ∃ q, decide (xn = yn) = q := ⟨_, rfl⟩
  rw [hq] at hstep
  refine svc_ok tabOk [] _ _ _ ?_
  cases q with
  | false =>
    refine .inl ⟨29, [0, 1, 0, 7, 15, 31, 0, 64, 0, 448, 960, 1984, 4095, 8191, 16383, 32767, 16383, 131071, 262143, 524287, 16383, 1064959, 16383, 7356415, 15745023, 32522239, 67108863, 134217727, 268435455], fun vs i => match i with
      | 3 => { c := { n := j } }
      | 5 => { c := { v := .string xn } }
      | 9 => { c := { n := j } }
      | 11 => { c := { v := .string yn } }
      | 12 => { b := some true }
      | _ => {}, by kernel_rfl, rfl, by kernel_rfl, by kernel_rfl, by kernel_rfl, by decide, fun vals => ?_⟩
    refine ⟨fun _ => ⟨rfl, hjc, fun w h => rfl⟩, ?_⟩
    refine ⟨fun _ => fun w h => ?_, ?_⟩
    · obtain ⟨⟨a, ha, h3⟩, _⟩ := hcx w h.1
      have ha : a0 = a := Option.some.inj ha
      subst ha
      exact ⟨_, rfl, h3 0 _ rfl⟩
    refine ⟨fun _ => ⟨rfl, hjc', fun w h => rfl⟩, ?_⟩
    refine ⟨fun _ => fun w h => ?_, ?_⟩
    · obtain ⟨⟨a, ha, h3⟩, _⟩ := hcy w h.1
      have ha : b0 = a := Option.some.inj ha
      subst ha
      exact ⟨_, rfl, h3 0 _ rfl⟩
    refine ⟨fun _ => (by show (!decide (xn = yn)) = true; rw [hq]; rfl), ?_⟩
    intro _
    exact ⟨_, rfl, Told.val (by rw [hstep]; simp)⟩
  | true =>
    refine .inl ⟨29, [0, 1, 0, 7, 15, 31, 0, 64, 0, 448, 960, 1984, 4095, 8191, 16383, 32767, 16383, 131071, 262143, 524287, 16383, 1064959, 16383, 7356415, 15745023, 32522239, 67108863, 134217727, 268435455], fun vs i => match i with
      | 3 => { c := { n := j } }
      | 5 => { c := { v := .string xn } }
      | 9 => { c := { n := j } }
      | 11 => { c := { v := .string yn } }
      | 12 => { b := some false }
      | 17 => { c := { n := j } }
      | 19 => { c := { cs := (TT.mk xk xm xs xla xlc xls xaa xac xas).cells } }
      | 23 => { c := { n := j } }
      | 25 => { c := { cs := (TT.mk yk ym ys yla ylc yls yaa yac yas).cells } }
      | 26 => { pre := samePre (.mk xk xm xs xla xlc xls xaa xac xas) (.mk yk ym ys yla ylc yls yaa yac yas), R := fun u => u = .bool r, nf := fun _ => .bool r }
      | _ => {}, by kernel_rfl, rfl, by kernel_rfl, by kernel_rfl, by kernel_rfl, by decide, fun vals => ?_⟩
    refine ⟨fun _ => ⟨rfl, hjc, fun w h => rfl⟩, ?_⟩
    refine ⟨fun _ => fun w h => ?_, ?_⟩
    · obtain ⟨⟨a, ha, h3⟩, _⟩ := hcx w h.1
      have ha : a0 = a := Option.some.inj ha
      subst ha
      exact ⟨_, rfl, h3 0 _ rfl⟩
    refine ⟨fun _ => ⟨rfl, hjc', fun w h => rfl⟩, ?_⟩
    refine ⟨fun _ => fun w h => ?_, ?_⟩
    · obtain ⟨⟨a, ha, h3⟩, _⟩ := hcy w h.1
      have ha : b0 = a := Option.some.inj ha
      subst ha
      exact ⟨_, rfl, h3 0 _ rfl⟩
    refine ⟨fun _ => (by show (!decide (xn = yn)) = false; rw [hq]; rfl), ?_⟩
    refine ⟨fun _ => ⟨rfl, hjc, fun w h => rfl⟩, ?_⟩
    refine ⟨fun _ => ⟨TT.cells_one (.mk xk xm xs xla xlc xls xaa xac xas), rfl, fun w h => ?_⟩, ?_⟩
    · obtain ⟨⟨a, ha, h3⟩, _⟩ := hcx w h.1
      have ha : a0 = a := Option.some.inj ha
      subst ha
      refine ⟨_, rfl, fun l u hl => ?_⟩
      have h4 := h3 (l + 1) u hl
      rw [Addr.add_add] at h4
      show w.cell? (((a0.add (j * 6)).add 1).add l) = some u
      rw [Addr.add_add, Addr.add_add, show j * 6 + (1 + l) = j * 6 + (l + 1) by omega]
      exact h4
    refine ⟨fun _ => ⟨rfl, hjc', fun w h => rfl⟩, ?_⟩
    refine ⟨fun _ => ⟨TT.cells_one (.mk yk ym ys yla ylc yls yaa yac yas), rfl, fun w h => ?_⟩, ?_⟩
    · obtain ⟨⟨a, ha, h3⟩, _⟩ := hcy w h.1
      have ha : b0 = a := Option.some.inj ha
      subst ha
      refine ⟨_, rfl, fun l u hl => ?_⟩
      have h4 := h3 (l + 1) u hl
      rw [Addr.add_add] at h4
      show w.cell? (((b0.add (j * 6)).add 1).add l) = some u
      rw [Addr.add_add, Addr.add_add, show j * 6 + (1 + l) = j * 6 + (l + 1) by omega]
      exact h4
    refine ⟨fun _ => ⟨hrec, fun w h => ⟨(hcx w h.1).2, (hcy w h.1).2⟩, fun _ h => h⟩, ?_⟩
    intro _
    cases r with
    | false => exact ⟨_, rfl, Told.val (by rw [hstep]; simp)⟩
    | true =>
      rw [Bool.true_and, Bool.true_and] at hstep
      refine ⟨j + 1, ⟨hjc, hstep.symm⟩, by simp only; omega, ?_⟩
      exact ent_ren [(0, .blk 0), (1, .blk 1)] rfl rfl rfl rfl (Nat.zero_le _) ⟨⟨_, rfl, rfl⟩, ⟨_, rfl, rfl⟩, ⟨_, rfl, oneI (wrapI (by omega) (by omega))⟩, trivial⟩ ⟨⟨_, rfl, rfl⟩, ⟨_, rfl, rfl⟩, trivial⟩ ⟨⟨sdPre.up _ _, fun w h => h.2.1⟩, trivial⟩
end Go.Proofs.YtmkpiekbpakigaaGreatDoor
end
section
set_option linter.unusedVariables false
set_option linter.unusedSimpArgs false
namespace Go.Proofs.YtmkpiekbpakigaaGreatDoor
open Go.RowKit Go.Proofs.Base Go.Proofs.Sym
def alS : ByteArray := ⟨#[112]⟩
def alT : TT := .mk 2 0 ⟨#[]⟩ none 0 [] none 0 []
def alU : TT := .mk 1 0 ⟨#[]⟩ none 0 [] none 0 []
def alD : DD := ⟨1, 0, alS, alT, zeroT, 0, none, 0, []⟩
def alUm : Tm := .mk 1 0 ⟨#[]⟩ [] []
def alM : DM := ⟨1, 0, alS, .mk 2 0 ⟨#[]⟩ [] [], .mk 0 0 ⟨#[]⟩ [] [], 0, []⟩
theorem alU_tm : alU.tm = alUm := by simp [alU, alUm, TT.tm]
theorem alD_dm : alD.dm = alM := by simp [alD, alT, zeroT, alM, DD.dm, TT.tm]
theorem al_num : numB 300 = [2, 1, 44] := by kernel_rfl
theorem al_tnum : rdNum 1099511627776 [1, 7, 9] = some (7, [9]) := by kernel_rfl
theorem al_code : codeB alUm = true := by kernel_rfl
theorem al_put : putT alUm = [1, 0] := by kernel_rfl
theorem al_formed : formedB alM = true := by kernel_rfl
theorem al_decl : declN alM = [1, 1, 1, 112, 0, 2] := by kernel_rfl
theorem al_lib : libN [alM] = [1, 1, 1, 1, 1, 112, 0, 2] := by kernel_rfl
theorem al_libB : libB [alM] = true := by kernel_rfl
theorem al_rd : rdLib [1, 1, 1, 1, 1, 112, 0, 2] = some [alM] := by kernel_rfl
theorem leaf_in {w : World} {k n : Int} {s : ByteArray} (h1 : I64 k) (h2 : I64 n) (h3 : s.size ≤ maxLen) : TTIn w (.mk k n s none 0 [] none 0 []) := by
  unfold TTIn
  refine ⟨⟨h1, h2, h3, ⟨by simp, fun h => by simp at h⟩, fun _ => ⟨rfl, rfl⟩, Nat.le_refl _, Nat.zero_le _, fun _ => ⟨rfl, rfl⟩, Nat.le_refl _, Nat.zero_le _⟩, ?_⟩
  unfold TTs
  trivial
theorem alT_in (w : World) : TTIn w alT := leaf_in ⟨by decide, by decide⟩ ⟨by decide, by decide⟩ (by decide)
theorem alU_in (w : World) : TTIn w alU := leaf_in ⟨by decide, by decide⟩ ⟨by decide, by decide⟩ (by decide)
theorem alD_in (w : World) : DDIn w alD := ⟨⟨by decide, by decide⟩, ⟨by decide, by decide⟩, by decide, alT_in w, zeroT_in w, ⟨by decide, by decide⟩, fun j c h => by simp [alD] at h, fun _ => ⟨rfl, rfl⟩, Nat.le_refl _, Nat.zero_le _⟩
mutual
theorem sameT_of : ∀ (a b : TT), a.tm = b.tm → sameT a b = true
  | .mk k n s la lc ls aa ac us, .mk k' n' s' la' lc' ls' aa' ac' us', h => by
    simp only [TT.tm, Tm.mk.injEq] at h
    obtain ⟨rfl, rfl, rfl, rfl, h⟩ := h
    rw [sameT, sameTs_of us us' h]
    simp
theorem sameTs_of : ∀ (us bs : List TT), us.map TT.tm = bs.map TT.tm → sameTs us bs = true
  | [], [], _ => by unfold sameTs; rfl
  | [], _ :: _, h => by simp at h
  | _ :: _, [], h => by simp at h
  | a :: r, b :: r', h => by
    simp only [List.map_cons, List.cons.injEq] at h
    unfold sameTs
    rw [sameT_of a b h.1, sameTs_of r r' h.2]
    rfl
end
theorem sameCs_of : ∀ (us bs : List (ByteArray × TT)), us.map ctM = bs.map ctM → sameCs us bs = true
  | [], [], _ => by unfold sameCs; rfl
  | [], _ :: _, h => by simp at h
  | _ :: _, [], h => by simp at h
  | a :: r, b :: r', h => by
    simp only [List.map_cons, List.cons.injEq, ctM, Prod.mk.injEq] at h
    unfold sameCs
    rw [sameT_of _ _ h.1.2, sameCs_of r r' h.2, h.1.1]
    simp
theorem sameD_of {a b : DD} (h : a.dm = b.dm) : sameD a b = true := by
  obtain ⟨k, p, nm, t1, t2, fx, ca, cc, cts⟩ := a
  obtain ⟨k', p', nm', t1', t2', fx', ca', cc', cts'⟩ := b
  simp only [DD.dm, DM.mk.injEq] at h
  obtain ⟨rfl, rfl, rfl, h1, h2, rfl, h3⟩ := h
  have hl : cts.length = cts'.length := by
    have := congrArg List.length h3
    simpa using this
  unfold sameD
  simp [sameT_of _ _ h1, sameT_of _ _ h2, sameCs_of _ _ h3, hl]
end Go.Proofs.YtmkpiekbpakigaaGreatDoor
end
section
set_option linter.unusedVariables false
set_option linter.unusedSimpArgs false
namespace Go.Proofs.YtmkpiekbpakigaaGreatDoor
open Go.RowKit Go.Proofs.Base Go.Proofs.Sym
theorem bt_of {w : World} {A : Option Addr} {c : Nat} {l : List Nat} (h : SlAt w A (bc l)) (g1 : A = none → l.length = 0 ∧ c = 0) (g2 : l.length ≤ c) (g3 : c ≤ maxLen) : BtIn w A c l := ⟨h, g1, g2, g3⟩
def alC : List SA := [.v (.int .i64 1), .v (.int .i64 0), .v (.string alS), .v (.int .i64 2), .v (.int .i64 0), .v (.string ⟨#[]⟩), .v (.slice none 0 0), .v (.slice none 0 0), .v (.int .i64 0), .v (.int .i64 0), .v (.string ⟨#[]⟩), .v (.slice none 0 0), .v (.slice none 0 0), .v (.int .i64 0), .v (.slice none 0 0)]
def alF4 (A3 : Option Addr) (c3 : Nat) (w : World) : Prop := ML w ∧ BtIn w A3 c3 [2, 1, 44]
def alF5 (A3 : Option Addr) (c3 : Nat) (A6 : Option Addr) (c6 : Nat) (w : World) : Prop := alF4 A3 c3 w ∧ BtIn w A6 c6 [9]
def alF6 (A3 : Option Addr) (c3 : Nat) (A6 : Option Addr) (c6 : Nat) (A8 : Option Addr) (c8 : Nat) (w : World) : Prop := alF5 A3 c3 A6 c6 w ∧ BtIn w A8 c8 [1, 0]
def alF7 (A3 : Option Addr) (c3 : Nat) (A6 : Option Addr) (c6 : Nat) (A8 : Option Addr) (c8 : Nat) (A10 : Option Addr) (c10 : Nat) (w : World) : Prop := alF6 A3 c3 A6 c6 A8 c8 w ∧ BtIn w A10 c10 [1, 1, 1, 112, 0, 2]
def alF8 (A3 : Option Addr) (c3 : Nat) (A6 : Option Addr) (c6 : Nat) (A8 : Option Addr) (c8 : Nat) (A10 : Option Addr) (c10 : Nat) (A12 : Option Addr) (c12 : Nat) (w : World) : Prop := alF7 A3 c3 A6 c6 A8 c8 A10 c10 w ∧ BtIn w A12 c12 [1, 1, 1, 1, 1, 112, 0, 2]
def alF9 (A3 : Option Addr) (c3 : Nat) (A6 : Option Addr) (c6 : Nat) (A8 : Option Addr) (c8 : Nat) (A10 : Option Addr) (c10 : Nat) (A14 : Option Addr) (c14 : Nat) (d : DD) (w : World) : Prop := alF7 A3 c3 A6 c6 A8 c8 A10 c10 w ∧ DsIn w A14 c14 [d]
theorem alF4.up {A3 c3} : Up (alF4 A3 c3) := ML.up.and (BtIn.up _ _ _)
theorem alF5.up {A3 c3 A6 c6} : Up (alF5 A3 c3 A6 c6) := alF4.up.and (BtIn.up _ _ _)
theorem alF6.up {A3 c3 A6 c6 A8 c8} : Up (alF6 A3 c3 A6 c6 A8 c8) := alF5.up.and (BtIn.up _ _ _)
theorem alF7.up {A3 c3 A6 c6 A8 c8 A10 c10} : Up (alF7 A3 c3 A6 c6 A8 c8 A10 c10) := alF6.up.and (BtIn.up _ _ _)
theorem alF8.up {A3 c3 A6 c6 A8 c8 A10 c10 A12 c12} : Up (alF8 A3 c3 A6 c6 A8 c8 A10 c10 A12 c12) := alF7.up.and (BtIn.up _ _ _)
theorem alF9.up {A3 c3 A6 c6 A8 c8 A10 c10 A14 c14 d} : Up (alF9 A3 c3 A6 c6 A8 c8 A10 c10 A14 c14 d) := alF7.up.and (DsIn.up _ _ _)
def alR (ys : List Nat) : LRes := { v := .tup [.one (.row 0), .one (.v (.bool true))], m := [(0, .own 5 1 ys.length (bc ys))], k := 1 }
theorem al_Num : LCall Tryz.prog 9 [.one (.v (.int .i64 300))] [] 0 (fun _ => True) (fun _ : Unit => True) (fun _ => alR [2, 1, 44]) := by
  have h := Num_lc 300 (by omega)
  rw [show numOk 300 = alR [2, 1, 44] by rw [numOk, al_num]; rfl] at h
  exact h
theorem al_TakeNum (A : Option Addr) (c : Nat) : LCall Tryz.prog 23 [.one (.v (.slice A 3 c))] [] 0 (mPre A c [1, 7, 9]) (fun _ : Option Addr × Nat => True) (numRet (some (7, [9]))) := by
  have h := TakeNum_lc A c [1, 7, 9] (by intro x hx; simp at hx; omega) (by simp)
  rw [al_tnum] at h
  exact h
theorem al_Term : LCall Tryz.prog 11 [.agg (alU.cells.map SA.v)] [] 0 (fun w => ML w ∧ TTIn w alU) (fun _ : Unit => True) (fun _ => alR [1, 0]) := by
  have h := Term_lc alU
  rw [alU_tm, al_code, al_put] at h
  refine LCall.arg h (fun e => ?_) (fun x hx => ?_)
  · show [Value.agg (reals e (alU.cells.map SA.v)).toArray] = _
    rw [map_plain]
    rfl
  · rw [List.mem_singleton.1 hx]
    trivial
theorem al_Decl : LCall Tryz.prog 17 [.agg alC] [] 0 (dPre alD) (fun _ : Unit => True) (fun _ => alR [1, 1, 1, 112, 0, 2]) := by
  have h := Decl_lc alD
  rw [alD_dm, al_formed, al_decl] at h
  refine LCall.arg h (fun e => ?_) (fun x hx => ?_)
  · show [Value.agg (reals e (alD.cells.map SA.v)).toArray] = _
    rw [map_plain]
    rfl
  · rw [List.mem_singleton.1 hx]
    trivial
theorem al_Library (A : Option Addr) : LCall Tryz.prog 13 [.one (.v (.slice A 1 1))] [] 0 (lPre A 1 [alD]) (fun _ : Unit => True) (fun _ => alR [1, 1, 1, 1, 1, 112, 0, 2]) := by
  have h := Library_lc A 1 [alD]
  rw [show ([alD].map DD.dm) = [alM] by rw [List.map_cons, alD_dm]; rfl, al_libB, al_lib] at h
  exact h
theorem al_TakeLib (A : Option Addr) (c : Nat) : LCall Tryz.prog 26 [.one (.v (.slice A 8 c))] [] 0 (mPre A c [1, 1, 1, 1, 1, 112, 0, 2]) (fun y : LB' => LB'.ok (some [alM]) y) (libRet (some [alM])) := by
  have h := TakeLibrary_lc A c [1, 1, 1, 1, 1, 112, 0, 2] (by intro x hx; simp at hx; omega) (by simp)
  rw [al_rd] at h
  exact h
theorem al_same (A : Option Addr) (c n : Nat) (l : List Nat) (B : Option Addr) (hn : l.length = n) (h2 : n ≤ 10) : PCall Tryz.prog 15 [.slice A n c, .slice B n n] (fun w => BtIn w A c l ∧ BtIn w B n l) (fun u => u = .bool true) (fun _ _ => True) := by
  have h := sameBytes_pc A B c n l l (by omega)
  rw [hn] at h
  simpa using h
theorem al_Formed : PCall Tryz.prog 19 [.agg #[.int .i64 1, .int .i64 0, .string alS, .int .i64 2, .int .i64 0, .string ⟨#[]⟩, .slice none 0 0, .slice none 0 0, .int .i64 0, .int .i64 0, .string ⟨#[]⟩, .slice none 0 0, .slice none 0 0, .int .i64 0, .slice none 0 0]] (dPre alD) (fun r => r = .bool true) (fun _ _ => True) := by
  have h := Formed_pc alD
  rw [alD_dm, al_formed] at h
  exact h
theorem al_SameDecl (d : DD) (hd : d.dm = alM) : PCall Tryz.prog 21 [d.dv, .agg #[.int .i64 1, .int .i64 0, .string alS, .int .i64 2, .int .i64 0, .string ⟨#[]⟩, .slice none 0 0, .slice none 0 0, .int .i64 0, .int .i64 0, .string ⟨#[]⟩, .slice none 0 0, .slice none 0 0, .int .i64 0, .slice none 0 0]] (sdPre d alD) (fun r => r = .bool true) (fun _ _ => True) := by
  have h := sameDecl_pc d alD
  rw [sameD_of (a := d) (b := alD) (by rw [hd, alD_dm])] at h
  exact h
theorem row_bt {w : World} {A : Option Addr} {l : List Nat} {n : Nat} (h : RowFact A (bc l) w) (hn : l.length = n) (h2 : n ≤ 10) : BtIn w A n l := by
  obtain ⟨a, rfl, hc⟩ := h
  refine ⟨fun j u hj => ⟨a, rfl, ?_⟩, fun h => (by cases h), (by omega), (by simp only [maxLen]; omega)⟩
  exact hc j u hj
set_option maxHeartbeats 4000000 in
theorem alive_pc : PCall Tryz.prog 6 [] ML (fun r => r = .bool true) (fun _ _ => True) := by
  refine pcall_of tabOk 106 [.tmp 0] Tryz.func6 rfl rfl (by kernel_rfl) rfl _ (Nat.le_of_ble_eq_true rfl) ML.up (fun _ => Up.true) ?_
  refine svc_ok tabOk [3] _ _ _ ?_
  refine Walks.ent (st' := { s := [(2, .one (.p 0 0))], m := [(0, .cells 38 alC)], k := 1, f := [ML] }) (ent_ren [(0, .blk 1)] rfl rfl rfl rfl (Nat.le_of_ble_eq_true rfl) ⟨⟨_, rfl, rfl⟩, trivial⟩ ⟨⟨_, rfl, rfl⟩, trivial⟩ ⟨⟨ML.up, fun w h => h.1⟩, trivial⟩) ?_
  refine svc_ok tabOk [4] _ _ _ ?_
  refine callVC_lend [] al_Num rfl trivial rfl rfl (fun _ _ => trivial) (fun _ _ => ⟨rfl, rfl⟩) (fun _ _ => ?_)
  refine Walks.freeze 1 rfl (fun A3 c3 g1 g2 g3 => ?_)
  refine Walks.ent (st' := { s := [(2, .one (.p 0 0)), (3, .one (.v (.slice A3 3 c3))), (4, .one (.v (.bool true)))], m := [(0, .cells 38 alC)], k := 1, f := [alF4 A3 c3] }) (ent_ren [(0, .blk 0)] rfl rfl rfl rfl (Nat.le_of_ble_eq_true rfl) ⟨⟨_, rfl, rfl⟩, ⟨_, rfl, rfl⟩, ⟨_, rfl, rfl⟩, trivial⟩ ⟨⟨_, rfl, rfl⟩, trivial⟩ ⟨⟨alF4.up, fun w h => ⟨h.2.2.1, bt_of (l := [2, 1, 44]) h.1 g1 g2 g3⟩⟩, trivial⟩) ?_
  clear g1 g2 g3
  refine svc_ok tabOk [5] _ _ _ ?_
  refine callVC_blk 1 rfl rfl (fun g => ?_)
  refine callVC_lend [] (al_TakeNum (some ⟨g, 0, none⟩) 3) rfl trivial rfl rfl (fun w h => ⟨h.2.1.1, bt_of (l := [1, 7, 9]) h.1 (fun h => by cases h) (by decide) (by decide)⟩) (fun _ _ => ⟨rfl, rfl⟩) (fun x _ => ?_)
  obtain ⟨A6, c6⟩ := x
  refine Walks.ent (st' := { s := [(2, .one (.p 0 0)), (3, .one (.v (.slice A3 3 c3))), (4, .one (.v (.bool true))), (5, .one (.v (.int .i64 7))), (6, .one (.v (.slice A6 1 c6))), (7, .one (.v (.bool true)))], m := [(0, .cells 38 alC)], k := 1, f := [alF5 A3 c3 A6 c6] }) (ent_ren [(0, .blk 0)] rfl rfl rfl rfl (Nat.le_of_ble_eq_true rfl) ⟨⟨_, rfl, rfl⟩, ⟨_, rfl, rfl⟩, ⟨_, rfl, rfl⟩, ⟨_, rfl, rfl⟩, ⟨_, rfl, rfl⟩, ⟨_, rfl, rfl⟩, trivial⟩ ⟨⟨_, rfl, rfl⟩, trivial⟩ ⟨⟨alF5.up, fun w h => ⟨h.2.2.1, h.1⟩⟩, trivial⟩) ?_
  refine svc_ok tabOk [6] _ _ _ ?_
  refine callVC_lend [] al_Term rfl trivial rfl rfl (fun w h => ⟨h.1.1.1, alU_in w⟩) (fun _ _ => ⟨rfl, rfl⟩) (fun _ _ => ?_)
  refine Walks.freeze 1 rfl (fun A8 c8 g1 g2 g3 => ?_)
  refine Walks.ent (st' := { s := [(2, .one (.p 0 0)), (3, .one (.v (.slice A3 3 c3))), (4, .one (.v (.bool true))), (5, .one (.v (.int .i64 7))), (6, .one (.v (.slice A6 1 c6))), (7, .one (.v (.bool true))), (8, .one (.v (.slice A8 2 c8))), (9, .one (.v (.bool true)))], m := [(0, .cells 38 alC)], k := 1, f := [alF6 A3 c3 A6 c6 A8 c8] }) (ent_ren [(0, .blk 0)] rfl rfl rfl rfl (Nat.le_of_ble_eq_true rfl) ⟨⟨_, rfl, rfl⟩, ⟨_, rfl, rfl⟩, ⟨_, rfl, rfl⟩, ⟨_, rfl, rfl⟩, ⟨_, rfl, rfl⟩, ⟨_, rfl, rfl⟩, ⟨_, rfl, rfl⟩, ⟨_, rfl, rfl⟩, trivial⟩ ⟨⟨_, rfl, rfl⟩, trivial⟩ ⟨⟨alF6.up, fun w h => ⟨h.2.2.1, bt_of (l := [1, 0]) h.1 g1 g2 g3⟩⟩, trivial⟩) ?_
  clear g1 g2 g3
  refine svc_ok tabOk [7] _ _ _ ?_
  refine callVC_lend [] al_Decl rfl trivial rfl rfl (fun w h => ⟨h.1.1.1.1, alD_in w⟩) (fun _ _ => ⟨rfl, rfl⟩) (fun _ _ => ?_)
  refine Walks.freeze 1 rfl (fun A10 c10 g1 g2 g3 => ?_)
  refine Walks.ent (st' := { s := [(2, .one (.p 0 0)), (3, .one (.v (.slice A3 3 c3))), (4, .one (.v (.bool true))), (5, .one (.v (.int .i64 7))), (6, .one (.v (.slice A6 1 c6))), (7, .one (.v (.bool true))), (8, .one (.v (.slice A8 2 c8))), (9, .one (.v (.bool true))), (10, .one (.v (.slice A10 6 c10))), (11, .one (.v (.bool true)))], m := [(0, .cells 38 alC)], k := 1, f := [alF7 A3 c3 A6 c6 A8 c8 A10 c10] }) (ent_ren [(0, .blk 0)] rfl rfl rfl rfl (Nat.le_of_ble_eq_true rfl) ⟨⟨_, rfl, rfl⟩, ⟨_, rfl, rfl⟩, ⟨_, rfl, rfl⟩, ⟨_, rfl, rfl⟩, ⟨_, rfl, rfl⟩, ⟨_, rfl, rfl⟩, ⟨_, rfl, rfl⟩, ⟨_, rfl, rfl⟩, ⟨_, rfl, rfl⟩, ⟨_, rfl, rfl⟩, trivial⟩ ⟨⟨_, rfl, rfl⟩, trivial⟩ ⟨⟨alF7.up, fun w h => ⟨h.2.2.1, bt_of (l := [1, 1, 1, 112, 0, 2]) h.1 g1 g2 g3⟩⟩, trivial⟩) ?_
  clear g1 g2 g3
  refine svc_ok tabOk [8] _ _ _ ?_
  refine callVC_blk 1 rfl rfl (fun g => ?_)
  refine callVC_lend [] (al_Library (some ⟨g, 0, none⟩)) rfl trivial rfl rfl (fun w h => ⟨h.2.1.1.1.1.1, ds_of (ds := [alD]) h.1 (fun d hd => by rw [List.mem_singleton.1 hd]; exact alD_in w) (fun h => by cases h) (by decide) (by decide)⟩) (fun _ _ => ⟨rfl, rfl⟩) (fun _ _ => ?_)
  refine Walks.freeze 2 rfl (fun A12 c12 g1 g2 g3 => ?_)
  refine Walks.ent (st' := { s := [(2, .one (.p 0 0)), (3, .one (.v (.slice A3 3 c3))), (4, .one (.v (.bool true))), (5, .one (.v (.int .i64 7))), (6, .one (.v (.slice A6 1 c6))), (7, .one (.v (.bool true))), (8, .one (.v (.slice A8 2 c8))), (9, .one (.v (.bool true))), (10, .one (.v (.slice A10 6 c10))), (11, .one (.v (.bool true))), (12, .one (.v (.slice A12 8 c12))), (13, .one (.v (.bool true)))], m := [(0, .cells 38 alC)], k := 1, f := [alF8 A3 c3 A6 c6 A8 c8 A10 c10 A12 c12] }) (ent_ren [(0, .blk 0)] rfl rfl rfl rfl (Nat.le_of_ble_eq_true rfl) ⟨⟨_, rfl, rfl⟩, ⟨_, rfl, rfl⟩, ⟨_, rfl, rfl⟩, ⟨_, rfl, rfl⟩, ⟨_, rfl, rfl⟩, ⟨_, rfl, rfl⟩, ⟨_, rfl, rfl⟩, ⟨_, rfl, rfl⟩, ⟨_, rfl, rfl⟩, ⟨_, rfl, rfl⟩, ⟨_, rfl, rfl⟩, ⟨_, rfl, rfl⟩, trivial⟩ ⟨⟨_, rfl, rfl⟩, trivial⟩ ⟨⟨alF8.up, fun w h => ⟨h.2.2.2.1, bt_of (l := [1, 1, 1, 1, 1, 112, 0, 2]) h.1 g1 g2 g3⟩⟩, trivial⟩) ?_
  clear g1 g2 g3
  refine svc_ok tabOk [9] _ _ _ ?_
  refine callVC_lend [] (al_TakeLib A12 c12) rfl trivial rfl rfl (fun w h => ⟨h.1.1.1.1.1.1, h.1.2⟩) (fun _ _ => ⟨rfl, rfl⟩) (fun y hy => ?_)
  obtain ⟨ds, A14, c14⟩ := y
  obtain ⟨d, hd1, hd2⟩ : ∃ d, ds = [d] ∧ d.dm = alM := by
    have hy : ds.map DD.dm = [alM] := hy
    match ds, hy with
    | [], hy => exact (by simp at hy)
    | [d], hy => exact ⟨d, rfl, by simpa using hy⟩
    | _ :: _ :: _, hy => exact (by simp at hy)
  subst hd1
  have hsd := al_SameDecl d hd2
  clear hd2 hy
  refine Walks.ent (st' := { s := [(2, .one (.p 0 0)), (3, .one (.v (.slice A3 3 c3))), (4, .one (.v (.bool true))), (5, .one (.v (.int .i64 7))), (6, .one (.v (.slice A6 1 c6))), (7, .one (.v (.bool true))), (8, .one (.v (.slice A8 2 c8))), (9, .one (.v (.bool true))), (10, .one (.v (.slice A10 6 c10))), (11, .one (.v (.bool true))), (13, .one (.v (.bool true))), (14, .one (.v (.slice A14 1 c14))), (15, .one (.v (.bool true)))], m := [(0, .cells 38 alC)], k := 1, f := [alF9 A3 c3 A6 c6 A8 c8 A10 c10 A14 c14 d] }) (ent_ren [(0, .blk 0)] rfl rfl rfl rfl (Nat.le_of_ble_eq_true rfl) ⟨⟨_, rfl, rfl⟩, ⟨_, rfl, rfl⟩, ⟨_, rfl, rfl⟩, ⟨_, rfl, rfl⟩, ⟨_, rfl, rfl⟩, ⟨_, rfl, rfl⟩, ⟨_, rfl, rfl⟩, ⟨_, rfl, rfl⟩, ⟨_, rfl, rfl⟩, ⟨_, rfl, rfl⟩, ⟨_, rfl, rfl⟩, ⟨_, rfl, rfl⟩, ⟨_, rfl, rfl⟩, trivial⟩ ⟨⟨_, rfl, rfl⟩, trivial⟩ ⟨⟨alF9.up, fun w h => ⟨h.2.1.1, h.1⟩⟩, trivial⟩) ?_
  obtain ⟨k, p, nm, ⟨ak, an, anm, ala, alc, als, aaa, aac, aus⟩, ⟨bk, bn, bnm, bla, blc, bls, baa, bac, bus⟩, fx, ca, cc, cts⟩ := d
  refine svc_ok tabOk [] _ _ _ ?_
  refine .inl ⟨57, [0, 1, 3, 7, 15, 31, 63, 127, 255, 511, 1023, 2047, 4095, 8191, 16383, 32767, 65535, 131071, 131071, 524287, 1048575, 2097151, 4194303, 8388607, 16777215, 33554431, 67108863, 67108863, 268435455, 536870911, 1073741823, 2147483647, 2147483647, 8589934591, 17179869183, 34359738367, 68719476735, 68719476735, 274877906943, 549755813887, 1099511627775, 2199023255551, 4398046511103, 8796093022207, 17592186044415, 35184372088831, 70368744177663, 140737488355327, 281474976710655, 70368744177663, 1125899906842623, 2251799813685247, 4503599627370495, 9007199254740991, 18014398509481983, 36028797018963967, 72057594037927935], fun vs i => match i with
    | 19 => { pre := fun w => BtIn w A3 c3 [2, 1, 44] ∧ BtIn w (sAddr (vs 18)) 3 [2, 1, 44], R := fun u => u = .bool true, nf := fun _ => .bool true }
    | 23 => { b := some true }
    | 28 => { pre := fun w => BtIn w A6 c6 [9] ∧ BtIn w (sAddr (vs 27)) 1 [9], R := fun u => u = .bool true, nf := fun _ => .bool true }
    | 33 => { pre := fun w => BtIn w A8 c8 [1, 0] ∧ BtIn w (sAddr (vs 32)) 2 [1, 0], R := fun u => u = .bool true, nf := fun _ => .bool true }
    | 38 => { pre := fun w => BtIn w A10 c10 [1, 1, 1, 112, 0, 2] ∧ BtIn w (sAddr (vs 37)) 6 [1, 1, 1, 112, 0, 2], R := fun u => u = .bool true, nf := fun _ => .bool true }
    | 43 => { b := some true }
    | 47 => { c := { n := 0 } }
    | 48 => { c := { cs := (DD.mk k p nm (.mk ak an anm ala alc als aaa aac aus) (.mk bk bn bnm bla blc bls baa bac bus) fx ca cc cts).cells } }
    | 50 => { pre := sdPre (DD.mk k p nm (.mk ak an anm ala alc als aaa aac aus) (.mk bk bn bnm bla blc bls baa bac bus) fx ca cc cts) alD, R := fun u => u = .bool true, nf := fun _ => .bool true }
    | 54 => { pre := dPre alD, R := fun u => u = .bool true, nf := fun _ => .bool true }
    | _ => {}, by kernel_rfl, rfl, by kernel_rfl, by kernel_rfl, by kernel_rfl, by decide, fun vals => ?_⟩
  refine ⟨fun _ => ⟨al_same A3 c3 3 [2, 1, 44] _ rfl (by decide), fun w h => ⟨h.2.1.1.1.1.1.2, row_bt (l := [2, 1, 44]) h.1 rfl (by decide)⟩, fun _ h => h⟩, ?_⟩
  refine ⟨fun _ => rfl, ?_⟩
  refine ⟨fun _ => ⟨al_same A6 c6 1 [9] _ rfl (by decide), fun w h => ⟨h.2.2.2.1.1.1.1.2, row_bt (l := [9]) h.1 rfl (by decide)⟩, fun _ h => h⟩, ?_⟩
  refine ⟨fun _ => ⟨al_same A8 c8 2 [1, 0] _ rfl (by decide), fun w h => ⟨h.2.2.2.2.2.1.1.1.2, row_bt (l := [1, 0]) h.1 rfl (by decide)⟩, fun _ h => h⟩, ?_⟩
  refine ⟨fun _ => ⟨al_same A10 c10 6 [1, 1, 1, 112, 0, 2] _ rfl (by decide), fun w h => ⟨h.2.2.2.2.2.2.2.1.1.2, row_bt (l := [1, 1, 1, 112, 0, 2]) h.1 rfl (by decide)⟩, fun _ h => h⟩, ?_⟩
  refine ⟨fun _ => rfl, ?_⟩
  refine ⟨fun _ => ⟨rfl, Nat.one_pos, fun w h => ?_⟩, ?_⟩
  · obtain ⟨⟨a, ha, _⟩, _⟩ := h.2.2.2.2.2.2.2.2.1.2.at' 0 _ rfl
    rw [ha]; rfl
  refine ⟨fun _ => ⟨DD.cells_one (DD.mk k p nm (.mk ak an anm ala alc als aaa aac aus) (.mk bk bn bnm bla blc bls baa bac bus) fx ca cc cts), rfl, fun w h => ?_⟩, ?_⟩
  · obtain ⟨⟨a, ha, h3⟩, _⟩ := h.2.2.2.2.2.2.2.2.1.2.at' 0 _ rfl
    have ha : A14 = some a := ha
    exact ⟨_, by rw [ha]; rfl, h3⟩
  refine ⟨fun _ => ⟨hsd, fun w h => ⟨(h.2.2.2.2.2.2.2.2.1.2.at' 0 _ rfl).2, alD_in w⟩, fun _ h => h⟩, ?_⟩
  refine ⟨fun _ => ⟨al_Formed, fun w h => ⟨h.2.2.2.2.2.2.2.2.2.1.1.1.1.1.1, alD_in w⟩, fun _ h => h⟩, ?_⟩
  intro _
  exact ⟨_, rfl, Told.val rfl⟩
end Go.Proofs.YtmkpiekbpakigaaGreatDoor
end
section
set_option linter.unusedVariables false
set_option linter.unusedSimpArgs false
namespace Go.Proofs.YtmkpiekbpakigaaGreatDoor
open Go.RowKit Go.Proofs.Base Go.Proofs.Sym
theorem digs_val {n : Nat} (hn : n < 256 ^ 6) : ∀ c, c ≤ 6 → valN (digs n c) = n / 256 ^ (6 - c)
  | 0, _ => by
    rw [digs, Nat.div_eq_of_lt hn]
    rfl
  | c + 1, hc => by
    have ih := digs_val hn c (by omega)
    have e : 6 - c = (5 - c) + 1 := by omega
    have e2 : 6 - (c + 1) = 5 - c := by omega
    rw [e, Nat.pow_succ, ← Nat.div_div_eq_div_mul] at ih
    rw [digs, e2]
    split
    · rw [valN_snoc, ih]
      omega
    · rw [List.append_nil, ih]
      omega
theorem digs_head {n : Nat} (hn : n < 256 ^ 6) : ∀ c, c ≤ 6 → digs n c ≠ [] → (digs n c).headD 0 ≠ 0
  | 0, _, h => absurd rfl h
  | c + 1, hc, h => by
    have ih := digs_head hn c (by omega)
    have hv := digs_val hn c (by omega)
    have e : 6 - c = (5 - c) + 1 := by omega
    rw [e, Nat.pow_succ, ← Nat.div_div_eq_div_mul] at hv
    rw [digs] at h ⊢
    cases hd : digs n c with
    | cons a r =>
      have := ih (by rw [hd]; simp)
      rw [hd] at this
      simpa using this
    | nil =>
      rw [hd] at hv h
      split
      · rename_i hq
        simp only [List.nil_append, List.headD_cons]
        have : valN [] = 0 := rfl
        omega
      · rename_i hq
        rw [if_neg hq] at h
        exact absurd rfl h
theorem rdByte_at {most b : Nat} {r : List Nat} (h : b ≤ most) : rdByte most (b :: r) = some (b, r) := by
  rw [rdByte, if_pos h]
theorem rdNum_back {most n : Nat} (hm : n ≤ most) (hn : n < 256 ^ 6) (r : List Nat) : rdNum most (numB n ++ r) = some (n, r) := by
  have hl := digs_len n 6
  have hv := digs_val hn 6 (Nat.le_refl _)
  have hh := digs_head hn 6 (Nat.le_refl _)
  rw [Nat.sub_self, Nat.pow_zero, Nat.div_one] at hv
  unfold rdNum numB
  rw [List.cons_append, rdByte_at hl]
  simp only
  have h1 : decide ((digs n 6).length ≤ (digs n 6 ++ r).length) = true := decide_eq_true (by simp)
  rw [h1]
  simp only [List.take_left, List.drop_left]
  have h2 : (decide ((digs n 6).length = 0) || !decide ((digs n 6 ++ r).headD 0 = 0)) = true := by
    cases hd : digs n 6 with
    | nil => simp
    | cons a t =>
      have := hh (by rw [hd]; simp)
      rw [hd] at this
      simp at this
      simp [this]
  rw [h2]
  simp only
  rw [hv, decide_eq_true hm]
theorem strN_back (s : ByteArray) : strN (s.data.toList.map UInt8.toNat) = s := by
  unfold strN
  rw [List.map_map]
  have : (UInt8.ofNat ∘ UInt8.toNat) = id := by
    funext b
    simp
  rw [this, List.map_id]
theorem rdName_back {s : ByteArray} (h : wordB s = true) (r : List Nat) : rdName (textN s ++ r) = some (s, r) := by
  have hs := word_size h
  unfold rdName textN
  rw [List.append_assoc, rdNum_back hs (by omega)]
  simp only
  have hl : (s.data.toList.map UInt8.toNat).length = s.size := by rw [List.length_map, ← size_list]
  have h1 : decide (s.size ≤ (s.data.toList.map UInt8.toNat ++ r).length) = true := decide_eq_true (by rw [List.length_append, hl]; omega)
  rw [h1]
  simp only
  rw [← hl, List.take_left, List.drop_left, strN_back, h]
theorem byteI_eq {x : Int} (h0 : 0 ≤ x) (h1 : x ≤ 255) : (byteI x : Int) = x := by
  rw [← byteI_ok]
  have : IntKind.u8.wrap x = x % 256 := by simp [IntKind.wrap, IntKind.signed, IntKind.bits]
  rw [this]
  omega
theorem byteI_nat {n : Nat} (h1 : n ≤ 255) : byteI (n : Int) = n := by
  have := byteI_eq (x := (n : Int)) (by omega) (by omega)
  omega
theorem byteP_eq {x : Int} (h0 : -1 ≤ x) (h1 : x ≤ 254) : (byteP x : Int) = x + 1 := by
  unfold byteP
  rw [wrapI (by omega) (by omega)]
  exact byteI_eq (by omega) (by omega)
theorem right_parts {p : Int} {l : Lv} (h : lvWrong p l = false) : (-1 ≤ l.p0 ∧ l.p0 ≤ l.b) ∧ (-1 ≤ l.p1 ∧ l.p1 ≤ l.b) ∧ (-1 ≤ l.p2 ∧ l.p2 ≤ l.b) ∧ (-1 ≤ l.p3 ∧ l.p3 ≤ l.b) ∧ 0 ≤ l.b ∧ l.b ≤ 100 := by
  unfold lvWrong at h
  rw [Bool.or_eq_false_iff] at h
  have := h.1
  simp only [Bool.not_eq_false'] at this
  exact of_decide_eq_true this
theorem lvOf_back {p : Int} {l : Lv} (h : lvWrong p l = false) (r : List Nat) : lvOf (lvN l ++ r) = l := by
  obtain ⟨h0, h1, h2, h3, h4, h5⟩ := right_parts h
  obtain ⟨b, p0, p1, p2, p3⟩ := l
  simp only at *
  show Lv.mk _ _ _ _ _ = _
  rw [byteI_eq h4 (by omega), byteP_eq (x := p0) (by omega) (by omega), byteP_eq (x := p1) (by omega) (by omega), byteP_eq (x := p2) (by omega) (by omega), byteP_eq (x := p3) (by omega) (by omega)]
  simp
theorem lvsAt_back {p : Int} : ∀ {ls : List Lv}, ls.any (lvWrong p) = false → ∀ r, lvsAt ls.length (lvsN ls ++ r) = ls
  | [], _, r => rfl
  | l :: ls, h, r => by
    simp only [List.any_cons, Bool.or_eq_false_iff] at h
    have e : lvsN (l :: ls) ++ r = lvN l ++ (lvsN ls ++ r) := by
      show (lvN l ++ lvsN ls) ++ r = _
      rw [List.append_assoc]
    rw [List.length_cons, lvsAt, e, lvOf_back h.1]
    have : (lvN l ++ (lvsN ls ++ r)).drop 5 = lvsN ls ++ r := rfl
    rw [this, lvsAt_back h.2]
theorem rdLevels_back {p : Int} {ls : List Lv} (h : ls.any (lvWrong p) = false) {n : Nat} (hn : ls.length = n) (r : List Nat) : rdLevels n (lvsN ls ++ r) = some (ls, r) := by
  subst hn
  unfold rdLevels
  have hl := lvsN_len ls
  rw [decide_eq_true (by rw [List.length_append, hl]; omega)]
  simp only
  rw [lvsAt_back h, ← hl, List.drop_left]
theorem rdNode_back {k n : Int} {s : ByteArray} {ls : List Lv} {len : Nat} {p v d : Int} (h : nodeB k n s ls len p v d = true) (hok : NodeOk k n s ls len) (left : Int) (r : List Nat) :
    rdNode k.toNat left (kindN k n s ls ++ (lvsN ls ++ r)) = some (⟨n, s, ls, len⟩, left - ls.length, r) := by
  obtain ⟨h1, h9, _, ha, hnum, hlv⟩ := nodeB_parts h
  obtain ⟨hl, hl3, hany⟩ := leveled_parts hlv
  obtain ⟨g1, g4, g9, g0⟩ := numbered_parts hnum
  have hno : k ≠ 3 → k ≠ 4 → ls = [] := fun a b => by
    unfold levOf at hl
    rw [if_neg a, if_neg b] at hl
    exact List.eq_nil_of_length_eq_zero (by omega)
  have hk : k = 1 ∨ k = 2 ∨ k = 3 ∨ k = 4 ∨ k = 5 ∨ k = 6 ∨ k = 7 ∨ k = 8 ∨ k = 9 := by omega
  have hnil : (lvsN [] ++ r) = r := rfl
  rcases hk with rfl | rfl | rfl | rfl | rfl | rfl | rfl | rfl | rfl
  · obtain ⟨e0, _, rfl⟩ := g1 rfl
    have := hno (by decide) (by decide)
    subst this
    have hlen : len = 0 := by simp [argOf] at ha; omega
    have hnn := (hok.num (.inl rfl)).2
    have e1 : ((n.toNat : Nat) : Int) = n := Int.toNat_of_nonneg e0
    show (match rdNum 1099511627776 (numB n.toNat ++ (lvsN [] ++ r)) with | none => none | some (n, r) => some ((⟨n, noS, [], 0⟩ : ND), left, r)) = _
    rw [hnil, rdNum_back (by omega) (by omega)]
    simp only
    rw [e1, hlen]
    simp [noS]
  · obtain ⟨rfl, rfl⟩ := g0 (by decide) (by decide) (by decide)
    have := hno (by decide) (by decide)
    subst this
    have hlen : len = 0 := by simp [argOf] at ha; omega
    rw [hlen]
    show some ((⟨0, noS, [], 0⟩ : ND), left, r) = _
    simp [noS]
  · obtain ⟨rfl, rfl⟩ := g0 (by decide) (by decide) (by decide)
    have hlen : len = 0 := by simp [argOf] at ha; omega
    have h3 := hl3 rfl
    have h31 : ls.length = 1 := by
      simp [levOf] at hl
      omega
    rw [hlen]
    show (match rdLevels 1 (lvsN ls ++ r) with | none => none | some (ls, r) => some ((⟨0, noS, ls, 0⟩ : ND), left - 1, r)) = _
    rw [rdLevels_back hany h31]
    simp [noS, h31]
  · obtain ⟨rfl, hw⟩ := g4 rfl
    have hlen : len = 0 := by simp [argOf] at ha; omega
    have h4 : ls.length ≤ 4 := by
      simp [levOf] at hl
      omega
    rw [hlen]
    show (match rdName ((textN s ++ [byteI ls.length]) ++ (lvsN ls ++ r)) with
      | none => none
      | some (s, r) => match rdByte 4 r with
        | none => none
        | some (m, r) => match rdLevels m r with
          | none => none
          | some (ls, r) => some ((⟨0, s, ls, 0⟩ : ND), left - m, r)) = _
    rw [List.append_assoc, rdName_back hw]
    simp only [List.cons_append, List.nil_append]
    rw [byteI_nat (by omega), rdByte_at h4]
    simp only
    rw [rdLevels_back hany rfl]
  · obtain ⟨rfl, rfl⟩ := g0 (by decide) (by decide) (by decide)
    have := hno (by decide) (by decide)
    subst this
    have hlen : len = 2 := by simp [argOf] at ha; omega
    rw [hlen]
    show some ((⟨0, noS, [], 2⟩ : ND), left, r) = _
    simp [noS]
  · obtain ⟨rfl, rfl⟩ := g0 (by decide) (by decide) (by decide)
    have := hno (by decide) (by decide)
    subst this
    have hlen : len = 2 := by simp [argOf] at ha; omega
    rw [hlen]
    show some ((⟨0, noS, [], 2⟩ : ND), left, r) = _
    simp [noS]
  · obtain ⟨rfl, rfl⟩ := g0 (by decide) (by decide) (by decide)
    have := hno (by decide) (by decide)
    subst this
    have hlen : len = 2 := by simp [argOf] at ha; omega
    rw [hlen]
    show some ((⟨0, noS, [], 2⟩ : ND), left, r) = _
    simp [noS]
  · obtain ⟨rfl, rfl⟩ := g0 (by decide) (by decide) (by decide)
    have := hno (by decide) (by decide)
    subst this
    have hlen : len = 3 := by simp [argOf] at ha; omega
    rw [hlen]
    show some ((⟨0, noS, [], 3⟩ : ND), left, r) = _
    simp [noS]
  · obtain ⟨e0, e31, hw⟩ := g9 rfl
    have := hno (by decide) (by decide)
    subst this
    have hlen : len = 1 := by simp [argOf] at ha; omega
    have e1 : ((n.toNat : Nat) : Int) = n := Int.toNat_of_nonneg e0
    rw [hlen]
    show (match rdNum 31 ((numB n.toNat ++ textN s) ++ (lvsN [] ++ r)) with
      | none => none
      | some (n, r) => match rdName r with
        | none => none
        | some (s, r) => some ((⟨n, s, [], 1⟩ : ND), left, r)) = _
    rw [hnil, List.append_assoc, rdNum_back (by omega) (by omega)]
    simp only
    rw [rdName_back hw, e1]
    simp
mutual
theorem rdTerm_back (p v d : Int) : ∀ (t : Tm) (fuel : Nat) (left : Int) (r : List Nat), allT p v d t = true → PutOk t → cntT t ≤ fuel → cntT t ≤ left → rdTerm fuel left (putT t ++ r) = some (t, left - cntT t, r)
  | .mk k n s ls args, fuel, left, r, h, hok, hf, hl => by
    unfold allT at h
    rw [Bool.and_eq_true] at h
    unfold PutOk at hok
    obtain ⟨h1, h9, _, ha, hnum, hlv⟩ := nodeB_parts h.1
    have hcp := cntTs_pos args
    have hfl : cntT (.mk k n s ls args) = 1 + ls.length + cntTs args := by rw [cntT]
    rw [hfl] at hf hl ⊢
    match fuel, hf with
    | 0, hf => exact absurd hf (by omega)
    | f + 1, hf =>
    rw [rdTerm, decide_eq_true (by omega)]
    simp only
    have e : putT (.mk k n s ls args) ++ r = byteI k :: (kindN k n s ls ++ (lvsN ls ++ (putTs args ++ r))) := by
      rw [putT]
      simp
    have ek : byteI k = k.toNat := by
      have := byteI_eq (x := k) (by omega) (by omega)
      omega
    rw [e, ek, rdByte_at (by omega)]
    simp only
    rw [rdNode_back h.1 hok.1]
    simp only
    rw [rdTerms_back k p v d args 0 f _ r h.2 hok.2 (by omega) (by omega)]
    simp only [Option.some.injEq, Prod.mk.injEq, Tm.mk.injEq, and_true]
    exact ⟨by omega, by omega⟩
theorem rdTerms_back (k p v d : Int) : ∀ (ts : List Tm) (i : Nat) (fuel : Nat) (left : Int) (r : List Nat), allTs k p v d i ts = true → PutOks ts → cntTs ts ≤ fuel → cntTs ts ≤ left → rdTerms (rdTerm fuel) ts.length left (putTs ts ++ r) = some (ts, left - cntTs ts, r)
  | [], i, fuel, left, r, h, hok, hf, hl => by
    rw [List.length_nil, rdTerms, putTs, cntTs]
    simp
  | t :: ts, i, fuel, left, r, h, hok, hf, hl => by
    unfold allTs at h
    rw [Bool.and_eq_true] at h
    unfold PutOks at hok
    have h1 := cntT_pos t
    have h2 := cntTs_pos ts
    have hc : cntTs (t :: ts) = cntT t + cntTs ts := by rw [cntTs]
    rw [hc] at hf hl ⊢
    rw [List.length_cons, rdTerms, putTs, List.append_assoc, rdTerm_back p _ _ t fuel left _ h.1 hok.1 (by omega) (by omega)]
    simp only
    rw [rdTerms_back k p v d ts (i + 1) fuel _ r h.2 hok.2 (by omega) (by omega)]
    simp only [Option.some.injEq, Prod.mk.injEq, and_true, true_and]
    omega
end
theorem rdWhole_back {t : Tm} (h : codeB t = true) (r : List Nat) : ∃ left, rdWhole (putT t ++ r) = some (t, left, r) := by
  obtain ⟨h1, _, h3⟩ := code_ok h
  have h' := h
  unfold codeB at h'
  rw [Bool.and_eq_true] at h'
  have hall := (right_cnt h'.1).1
  refine ⟨3000 - cntT t, ?_⟩
  rw [rdWhole, rdTerm_back _ _ _ t 3000 3000 r hall h1 (by omega) h3]
  simp only
  rw [h]
theorem rdCts_back {p : Int} : ∀ (cs : List (ByteArray × Tm)) (left : Int) (r : List Nat), (∀ c ∈ cs, wordB c.1 = true ∧ rightB p 0 c.2 = true) → ∃ left', rdCts cs.length left (ctsN cs ++ r) = some (cs, left', r)
  | [], left, r, _ => ⟨left, rfl⟩
  | c :: cs, left, r, h => by
    obtain ⟨h1, h2⟩ := h c List.mem_cons_self
    obtain ⟨l1, e1⟩ := rdWhole_back (code_of_right h2) (ctsN cs ++ r)
    obtain ⟨l2, e2⟩ := rdCts_back cs l1 r (fun c hc => h c (List.mem_cons_of_mem _ hc))
    refine ⟨l2, ?_⟩
    have e : ctsN (c :: cs) ++ r = textN c.1 ++ (putT c.2 ++ (ctsN cs ++ r)) := by
      show ((textN c.1 ++ putT c.2) ++ ctsN cs) ++ r = _
      simp
    rw [List.length_cons, rdCts, e, rdName_back h1]
    simp only
    rw [e1]
    simp only
    rw [e2]
theorem empty_eq {t : Tm} (h : emptyT t = true) : t = zeroTm := by
  obtain ⟨k, n, s, ls, us⟩ := t
  unfold emptyT at h
  simp only [Bool.and_eq_true, decide_eq_true_eq] at h
  obtain ⟨rfl, rfl, h3, h4, h5⟩ := h
  rw [noText_eq h3, List.eq_nil_of_length_eq_zero (l := ls) (by omega), List.eq_nil_of_length_eq_zero (l := us) (by omega)]
  rfl
theorem rdDecl_back {d : DM} (h : formedB d = true) (r : List Nat) : ∃ left, rdDecl (declN d ++ r) = some (d, left, r) := by
  have hf := formed_parts h
  obtain ⟨k, p, nm, ty, val, fx, cts⟩ := d
  have k1 := hf.k1
  have k4 := hf.k4
  have hp := params_le hf.ty
  simp only at k1 k4 hp
  have ek : byteI k = k.toNat := by
    have := byteI_eq (x := k) (by omega) (by omega)
    omega
  have ep : byteI p = p.toNat := by
    have := byteI_eq (x := p) (by omega) (by omega)
    omega
  have ek2 : ((k.toNat : Nat) : Int) = k := by omega
  have ep2 : ((p.toNat : Nat) : Int) = p := by omega
  have e : declN ⟨k, p, nm, ty, val, fx, cts⟩ ++ r = k.toNat :: (textN nm ++ (p.toNat :: (putT ty ++ (bodyN ⟨k, p, nm, ty, val, fx, cts⟩ ++ r)))) := by
    rw [declN, headN, ek, ep]
    simp
  obtain ⟨l1, e1⟩ := rdWhole_back (code_of_right hf.ty) (bodyN ⟨k, p, nm, ty, val, fx, cts⟩ ++ r)
  have hrest : ∃ left, rdRest k.toNat l1 (bodyN ⟨k, p, nm, ty, val, fx, cts⟩ ++ r) = some (⟨val, fx, cts⟩, left, r) := by
    unfold rdRest bodyN
    rw [ek2]
    simp only
    cases hv : valB k with
    | true =>
      simp only
      rw [if_pos trivial]
      obtain ⟨l2, e2⟩ := rdWhole_back (code_of_right (hf.val hv)) r
      have hk4 : k ≠ 4 := by
        intro hk
        rw [hk] at hv
        exact absurd hv (by decide)
      obtain ⟨n1, n2⟩ := hf.nofam hk4
      simp only at n1 n2 e2
      refine ⟨l2, ?_⟩
      rw [e2, n1, n2]
    | false =>
      simp only
      rw [if_neg (by simp)]
      have hz := empty_eq (hf.noval hv)
      simp only at hz
      by_cases hk4 : k = 4
      · obtain ⟨f1, f2, f3, f4⟩ := hf.fam hk4
        simp only at f1 f2 f3 f4
        rw [if_pos hk4, decide_eq_true hk4]
        simp only
        have ef : byteI fx = fx.toNat := by
          have := byteI_eq (x := fx) (by omega) (by omega)
          omega
        obtain ⟨l2, e2⟩ := rdCts_back cts l1 r f4
        rw [ef, byteI_nat (by omega), List.cons_append, List.cons_append, rdByte_at (by omega)]
        simp only
        rw [rdByte_at f3]
        simp only
        rw [e2]
        simp only
        refine ⟨l2, ?_⟩
        rw [hz, show ((fx.toNat : Nat) : Int) = fx by omega]
      · obtain ⟨n1, n2⟩ := hf.nofam hk4
        simp only at n1 n2
        rw [if_neg hk4, decide_eq_false hk4]
        simp only [List.nil_append]
        exact ⟨l1, by rw [hz, n1, n2]⟩
  obtain ⟨l2, e2⟩ := hrest
  refine ⟨l2, ?_⟩
  rw [e, rdDecl, rdByte_at (by omega)]
  simp only
  rw [rdName_back hf.name]
  simp only
  rw [rdByte_at (by omega)]
  simp only
  rw [e1]
  simp only
  rw [e2]
  simp only
  rw [ek2, ep2, h]
theorem rdDecls_back : ∀ (ds : List DM) (left : Int) (r : List Nat), (∀ d ∈ ds, formedB d = true) → ∃ left', rdDecls ds.length left (declsN ds ++ r) = some (ds, left', r)
  | [], left, r, _ => ⟨left, rfl⟩
  | d :: ds, left, r, h => by
    obtain ⟨l1, e1⟩ := rdDecl_back (h d List.mem_cons_self) (declsN ds ++ r)
    obtain ⟨l2, e2⟩ := rdDecls_back ds l1 r (fun d hd => h d (List.mem_cons_of_mem _ hd))
    refine ⟨l2, ?_⟩
    have e : declsN (d :: ds) ++ r = declN d ++ (declsN ds ++ r) := by
      show (declN d ++ declsN ds) ++ r = _
      rw [List.append_assoc]
    rw [List.length_cons, rdDecls, e, e1]
    simp only
    rw [e2]
theorem rdLib_back {ds : List DM} (h : libB ds = true) : rdLib (libN ds) = some ds := by
  unfold libB at h
  rw [Bool.and_eq_true, decide_eq_true_eq, List.all_eq_true] at h
  obtain ⟨l, e⟩ := rdDecls_back ds 0 [] h.2
  unfold rdLib libN
  rw [rdNum_back h.1 (by omega)]
  simp only
  rw [List.append_nil] at e
  rw [e]
  rfl
end Go.Proofs.YtmkpiekbpakigaaGreatDoor
end
section
set_option linter.unusedVariables false
set_option linter.unusedSimpArgs false
namespace Go.Proofs.YtmkpiekbpakigaaGreatDoor
open Go.RowKit Go.Proofs.Base Go.Proofs.Sym
theorem rdByte_more {most b : Nat} {l r : List Nat} (h : rdByte most l = some (b, r)) (x : List Nat) : rdByte most (l ++ x) = some (b, r ++ x) := by
  obtain ⟨rfl, h2⟩ := rdByte_some h
  rw [List.cons_append, rdByte_at h2]
theorem rdNum_more {most n : Nat} {l r : List Nat} (h : rdNum most l = some (n, r)) (x : List Nat) : rdNum most (l ++ x) = some (n, r ++ x) := by
  unfold rdNum at h ⊢
  cases h1 : rdByte 6 l with
  | none => rw [h1] at h; cases h
  | some q =>
  obtain ⟨c, l1⟩ := q
  rw [h1] at h
  rw [rdByte_more h1]
  simp only at h ⊢
  by_cases hc : c ≤ l1.length
  rotate_left
  · rw [decide_eq_false hc] at h
    cases h
  rw [decide_eq_true hc] at h
  rw [decide_eq_true (by rw [List.length_append]; omega)]
  simp only at h ⊢
  have hh : (decide (c = 0) || !decide ((l1 ++ x).headD 0 = 0)) = (decide (c = 0) || !decide (l1.headD 0 = 0)) := by
    cases l1 with
    | nil =>
      have : c = 0 := by simpa using hc
      simp [this]
    | cons a t => rfl
  rw [hh, List.take_append_of_le_length hc, List.drop_append_of_le_length hc]
  generalize (decide (c = 0) || !decide (l1.headD 0 = 0)) = b at h ⊢
  cases b with
  | false => cases h
  | true =>
    simp only at h ⊢
    generalize decide (valN (l1.take c) ≤ most) = b at h ⊢
    cases b with
    | false => cases h
    | true =>
      simp only [Option.some.injEq, Prod.mk.injEq] at h ⊢
      exact ⟨h.1, by rw [h.2]⟩
theorem rdName_more {s : ByteArray} {l r : List Nat} (h : rdName l = some (s, r)) (x : List Nat) : rdName (l ++ x) = some (s, r ++ x) := by
  unfold rdName at h ⊢
  cases h1 : rdNum 32 l with
  | none => rw [h1] at h; cases h
  | some q =>
  obtain ⟨c, l1⟩ := q
  rw [h1] at h
  rw [rdNum_more h1]
  simp only at h ⊢
  by_cases hc : c ≤ l1.length
  rotate_left
  · rw [decide_eq_false hc] at h
    cases h
  rw [decide_eq_true hc] at h
  rw [decide_eq_true (by rw [List.length_append]; omega)]
  simp only at h ⊢
  rw [List.take_append_of_le_length hc, List.drop_append_of_le_length hc]
  generalize wordB (strN (l1.take c)) = b at h ⊢
  cases b with
  | false => cases h
  | true =>
    simp only [Option.some.injEq, Prod.mk.injEq] at h ⊢
    exact ⟨h.1, by rw [h.2]⟩
theorem lvOf_more : ∀ {l : List Nat} (x : List Nat), 5 ≤ l.length → lvOf (l ++ x) = lvOf l
  | a :: b :: c :: d :: e :: r, x, _ => rfl
  | [], _, h => absurd h (by simp)
  | [_], _, h => absurd h (by simp)
  | [_, _], _, h => absurd h (by simp)
  | [_, _, _], _, h => absurd h (by simp)
  | [_, _, _, _], _, h => absurd h (by simp)
theorem lvsAt_more : ∀ (n : Nat) (l x : List Nat), 5 * n ≤ l.length → lvsAt n (l ++ x) = lvsAt n l
  | 0, _, _, _ => rfl
  | n + 1, l, x, h => by
    rw [lvsAt, lvsAt, lvOf_more x (by omega), List.drop_append_of_le_length (by omega), lvsAt_more n _ x (by rw [List.length_drop]; omega)]
theorem rdLevels_more {n : Nat} {l r : List Nat} {ls : List Lv} (h : rdLevels n l = some (ls, r)) (x : List Nat) : rdLevels n (l ++ x) = some (ls, r ++ x) := by
  unfold rdLevels at h ⊢
  by_cases hc : 5 * n ≤ l.length
  · rw [decide_eq_true hc] at h
    rw [decide_eq_true (by rw [List.length_append]; omega)]
    simp only [Option.some.injEq, Prod.mk.injEq] at h ⊢
    rw [lvsAt_more n l x hc, List.drop_append_of_le_length hc]
    exact ⟨h.1, by rw [h.2]⟩
  · rw [decide_eq_false hc] at h
    cases h
theorem rdNode_more {k : Nat} {left left' : Int} {l r : List Nat} {nd : ND} (h : rdNode k left l = some (nd, left', r)) (x : List Nat) : rdNode k left (l ++ x) = some (nd, left', r ++ x) := by
  unfold rdNode at h ⊢
  split at h
  · cases h1 : rdNum 1099511627776 l with
    | none => rw [h1] at h; cases h
    | some q =>
      rw [h1] at h
      simp only [rdNum_more h1]
      cases h
      rfl
  · cases h1 : rdLevels 1 l with
    | none => rw [h1] at h; cases h
    | some q =>
      rw [h1] at h
      simp only [rdLevels_more h1]
      cases h
      rfl
  · cases h1 : rdName l with
    | none => rw [h1] at h; cases h
    | some q =>
      obtain ⟨s, l1⟩ := q
      rw [h1] at h
      simp only [rdName_more h1] at h ⊢
      cases h2 : rdByte 4 l1 with
      | none => rw [h2] at h; cases h
      | some q =>
        obtain ⟨m, l2⟩ := q
        rw [h2] at h
        simp only [rdByte_more h2] at h ⊢
        cases h3 : rdLevels m l2 with
        | none => rw [h3] at h; cases h
        | some q =>
          rw [h3] at h
          simp only [rdLevels_more h3]
          cases h
          rfl
  · cases h; rfl
  · cases h; rfl
  · cases h; rfl
  · cases h; rfl
  · cases h1 : rdNum 31 l with
    | none => rw [h1] at h; cases h
    | some q =>
      obtain ⟨n, l1⟩ := q
      rw [h1] at h
      simp only [rdNum_more h1] at h ⊢
      cases h2 : rdName l1 with
      | none => rw [h2] at h; cases h
      | some q =>
        rw [h2] at h
        simp only [rdName_more h2]
        cases h
        rfl
  · cases h; rfl
theorem rdTerms_more {f : Int → List Nat → Option (Tm × Int × List Nat)} (hf : ∀ left l t left' r, f left l = some (t, left', r) → ∀ x, f left (l ++ x) = some (t, left', r ++ x)) : ∀ (n : Nat) (left : Int) (l : List Nat) (ts : List Tm) (left' : Int) (r : List Nat), rdTerms f n left l = some (ts, left', r) → ∀ x, rdTerms f n left (l ++ x) = some (ts, left', r ++ x)
  | 0, left, l, ts, left', r, h, x => by
    cases h
    rfl
  | n + 1, left, l, ts, left', r, h, x => by
    rw [rdTerms] at h ⊢
    cases h1 : f left l with
    | none => rw [h1] at h; cases h
    | some q =>
      obtain ⟨t, l1, r1⟩ := q
      rw [h1] at h
      rw [hf _ _ _ _ _ h1 x]
      simp only at h ⊢
      cases h2 : rdTerms f n l1 r1 with
      | none => rw [h2] at h; cases h
      | some q =>
        obtain ⟨us, l2, r2⟩ := q
        rw [h2] at h
        rw [rdTerms_more hf n _ _ _ _ _ h2 x]
        cases h
        rfl
theorem rdTerm_more : ∀ (fuel : Nat) (left : Int) (l : List Nat) (t : Tm) (left' : Int) (r : List Nat), rdTerm fuel left l = some (t, left', r) → ∀ x, rdTerm fuel left (l ++ x) = some (t, left', r ++ x)
  | 0, _, _, _, _, _, h, _ => by cases h
  | fuel + 1, left, l, t, left', r, h, x => by
    rw [rdTerm] at h ⊢
    generalize decide (0 ≤ left - 1) = b at h ⊢
    cases b with
    | false => cases h
    | true =>
    simp only at h ⊢
    cases h1 : rdByte 9 l with
    | none => rw [h1] at h; cases h
    | some q =>
      obtain ⟨k, l1⟩ := q
      rw [h1] at h
      rw [rdByte_more h1]
      simp only at h ⊢
      cases h2 : rdNode k (left - 1) l1 with
      | none => rw [h2] at h; cases h
      | some q =>
        obtain ⟨nd, le2, l2⟩ := q
        rw [h2] at h
        rw [rdNode_more h2]
        simp only at h ⊢
        cases h3 : rdTerms (rdTerm fuel) nd.a le2 l2 with
        | none => rw [h3] at h; cases h
        | some q =>
          obtain ⟨ts, le3, l3⟩ := q
          rw [h3] at h
          rw [rdTerms_more (fun left l t left' r h x => rdTerm_more fuel left l t left' r h x) _ _ _ _ _ _ h3 x]
          cases h
          rfl
theorem rdWhole_more {l r : List Nat} {t : Tm} {left : Int} (h : rdWhole l = some (t, left, r)) (x : List Nat) : rdWhole (l ++ x) = some (t, left, r ++ x) := by
  unfold rdWhole at h ⊢
  cases h1 : rdTerm 3000 3000 l with
  | none => rw [h1] at h; cases h
  | some q =>
    obtain ⟨t1, le1, l1⟩ := q
    rw [h1] at h
    rw [rdTerm_more _ _ _ _ _ _ h1 x]
    simp only at h ⊢
    generalize codeB t1 = b at h ⊢
    cases b with
    | false => cases h
    | true =>
      cases h
      rfl
theorem rdCts_more : ∀ (n : Nat) (left : Int) (l : List Nat) (cs : List (ByteArray × Tm)) (left' : Int) (r : List Nat), rdCts n left l = some (cs, left', r) → ∀ x, rdCts n left (l ++ x) = some (cs, left', r ++ x)
  | 0, left, l, cs, left', r, h, x => by
    cases h
    rfl
  | n + 1, left, l, cs, left', r, h, x => by
    rw [rdCts] at h ⊢
    cases h1 : rdName l with
    | none => rw [h1] at h; cases h
    | some q =>
      obtain ⟨s, l1⟩ := q
      rw [h1] at h
      rw [rdName_more h1]
      simp only at h ⊢
      cases h2 : rdWhole l1 with
      | none => rw [h2] at h; cases h
      | some q =>
        obtain ⟨t, le2, l2⟩ := q
        rw [h2] at h
        rw [rdWhole_more h2]
        simp only at h ⊢
        cases h3 : rdCts n le2 l2 with
        | none => rw [h3] at h; cases h
        | some q =>
          obtain ⟨us, le3, l3⟩ := q
          rw [h3] at h
          rw [rdCts_more n _ _ _ _ _ h3 x]
          cases h
          rfl
theorem rdRest_more {k : Nat} {left left' : Int} {l r : List Nat} {b : RB} (h : rdRest k left l = some (b, left', r)) (x : List Nat) : rdRest k left (l ++ x) = some (b, left', r ++ x) := by
  unfold rdRest at h ⊢
  generalize valB (k : Int) = v at h ⊢
  cases v with
  | true =>
    simp only at h ⊢
    cases h1 : rdWhole l with
    | none => rw [h1] at h; cases h
    | some q =>
      obtain ⟨t, le1, l1⟩ := q
      rw [h1] at h
      rw [rdWhole_more h1]
      cases h
      rfl
  | false =>
    simp only at h ⊢
    generalize decide ((k : Int) = 4) = v at h ⊢
    cases v with
    | false =>
      cases h
      rfl
    | true =>
      simp only at h ⊢
      cases h1 : rdByte 16 l with
      | none => rw [h1] at h; cases h
      | some q =>
        obtain ⟨fx, l1⟩ := q
        rw [h1] at h
        rw [rdByte_more h1]
        simp only at h ⊢
        cases h2 : rdByte 8 l1 with
        | none => rw [h2] at h; cases h
        | some q =>
          obtain ⟨m, l2⟩ := q
          rw [h2] at h
          rw [rdByte_more h2]
          simp only at h ⊢
          cases h3 : rdCts m left l2 with
          | none => rw [h3] at h; cases h
          | some q =>
            obtain ⟨us, le3, l3⟩ := q
            rw [h3] at h
            rw [rdCts_more m _ _ _ _ _ h3 x]
            cases h
            rfl
theorem rdDecl_more {l r : List Nat} {d : DM} {left : Int} (h : rdDecl l = some (d, left, r)) (x : List Nat) : rdDecl (l ++ x) = some (d, left, r ++ x) := by
  unfold rdDecl at h ⊢
  cases h1 : rdByte 4 l with
  | none => rw [h1] at h; cases h
  | some q =>
  obtain ⟨k, l1⟩ := q
  rw [h1] at h
  rw [rdByte_more h1]
  simp only at h ⊢
  cases h2 : rdName l1 with
  | none => rw [h2] at h; cases h
  | some q =>
  obtain ⟨s, l2⟩ := q
  rw [h2] at h
  rw [rdName_more h2]
  simp only at h ⊢
  cases h3 : rdByte 4 l2 with
  | none => rw [h3] at h; cases h
  | some q =>
  obtain ⟨p, l3⟩ := q
  rw [h3] at h
  rw [rdByte_more h3]
  simp only at h ⊢
  cases h4 : rdWhole l3 with
  | none => rw [h4] at h; cases h
  | some q =>
  obtain ⟨t, le4, l4⟩ := q
  rw [h4] at h
  rw [rdWhole_more h4]
  simp only at h ⊢
  cases h5 : rdRest k le4 l4 with
  | none => rw [h5] at h; cases h
  | some q =>
  obtain ⟨b, le5, l5⟩ := q
  rw [h5] at h
  rw [rdRest_more h5]
  simp only at h ⊢
  generalize formedB ⟨k, p, s, t, b.v, b.fx, b.cs⟩ = v at h ⊢
  cases v with
  | false => cases h
  | true =>
    cases h
    rfl
theorem byteI_lt (x : Int) : byteI x < 256 := by
  have := byteI_ok x
  have h2 : IntKind.u8.wrap x = x % 256 := by simp [IntKind.wrap, IntKind.signed, IntKind.bits]
  omega
theorem Bytes.app {a b : List Nat} (ha : Bytes a) (hb : Bytes b) : Bytes (a ++ b) := fun x hx => (List.mem_append.1 hx).elim (ha x) (hb x)
theorem Bytes.cons {x : Nat} {b : List Nat} (ha : x < 256) (hb : Bytes b) : Bytes (x :: b) := fun y hy => (List.mem_cons.1 hy).elim (fun e => e ▸ ha) (hb y)
theorem Bytes.nil : Bytes [] := fun x hx => by cases hx
theorem digs_bytes (n : Nat) : ∀ c, Bytes (digs n c)
  | 0 => Bytes.nil
  | c + 1 => by
    rw [digs]
    refine (digs_bytes n c).app ?_
    split
    · exact Bytes.cons (Nat.mod_lt _ (by omega)) Bytes.nil
    · exact Bytes.nil
theorem numB_bytes (n : Nat) : Bytes (numB n) := Bytes.cons (by have := digs_len n 6; omega) (digs_bytes n 6)
theorem textN_bytes (s : ByteArray) : Bytes (textN s) := (numB_bytes _).app (fun x hx => by
  obtain ⟨b, _, rfl⟩ := List.mem_map.1 hx
  exact b.toNat_lt)
theorem kindN_bytes (k n : Int) (s : ByteArray) (ls : List Lv) : Bytes (kindN k n s ls) := by
  unfold kindN
  split
  · exact numB_bytes _
  · split
    · exact (numB_bytes _).app (textN_bytes _)
    · split
      · exact (textN_bytes _).app (Bytes.cons (byteI_lt _) Bytes.nil)
      · exact Bytes.nil
theorem lvN_bytes (l : Lv) : Bytes (lvN l) := Bytes.cons (byteI_lt _) (Bytes.cons (byteI_lt _) (Bytes.cons (byteI_lt _) (Bytes.cons (byteI_lt _) (Bytes.cons (byteI_lt _) Bytes.nil))))
theorem flat_bytes {α : Type _} {f : α → List Nat} (l : List α) (h : ∀ a ∈ l, Bytes (f a)) : Bytes (l.flatMap f) := fun x hx => by
  obtain ⟨a, ha, hx⟩ := List.mem_flatMap.1 hx
  exact h a ha x hx
mutual
theorem putT_bytes : ∀ (t : Tm), Bytes (putT t)
  | .mk k n s ls args => by
    rw [putT]
    exact Bytes.cons (byteI_lt _) ((kindN_bytes _ _ _ _).app ((flat_bytes _ fun l _ => lvN_bytes l).app (putTs_bytes args)))
theorem putTs_bytes : ∀ (ts : List Tm), Bytes (putTs ts)
  | [] => by rw [putTs]; exact Bytes.nil
  | t :: r => by rw [putTs]; exact (putT_bytes t).app (putTs_bytes r)
end
theorem declN_bytes (d : DM) : Bytes (declN d) := by
  refine Bytes.app (Bytes.cons (byteI_lt _) ((textN_bytes _).app (Bytes.cons (byteI_lt _) (putT_bytes _)))) ?_
  unfold bodyN
  split
  · exact putT_bytes _
  · split
    · exact Bytes.cons (byteI_lt _) (Bytes.cons (byteI_lt _) (flat_bytes _ fun c _ => (textN_bytes _).app (putT_bytes _)))
    · exact Bytes.nil
theorem libN_bytes (ds : List DM) : Bytes (libN ds) := (numB_bytes _).app (flat_bytes _ fun d _ => declN_bytes d)
end Go.Proofs.YtmkpiekbpakigaaGreatDoor
end
section
set_option linter.unusedVariables false
set_option linter.unusedSimpArgs false
namespace Go.Proofs.YtmkpiekbpakigaaGreatDoor
open Go.RowKit Go.Proofs.Base Go.Proofs.Sym
def ctF (d : DD) (A : Option Addr) (c : Nat) (ys : List Nat) (w : World) : Prop := dPre d w ∧ BtIn w A c ys
theorem ctF.up (d : DD) (A : Option Addr) (c : Nat) (ys : List Nat) : Up (ctF d A c ys) := (dPre.upS d).and (BtIn.up _ _ _)
theorem DeclA_lc (d : DD) : LCall Tryz.prog 17 [ddA d] [] 0 (dPre d) (fun _ : Unit => True) (fun _ => optRes (formedB d.dm) (declN d.dm)) :=
  LCall.arg (Decl_lc d) (fun e => by show [(ddA d).real e] = _; rw [ddA_real]; rfl) (fun x hx => by rw [List.mem_singleton.1 hx]; trivial)
end Go.Proofs.YtmkpiekbpakigaaGreatDoor
end
